/- The walks of the references: Combine of layer 09, List and Encode of layer 12. -/
import Derived.Test.YtakmnncmeefceaaGreatC4
import Derived.Test.YtakmnncmeefceaaGreatC7
import Derived.Test.YtakmnncmeefceaaGreatF2
import Derived.Test.YtakmnncmeefceaaGreatF3
namespace Go.Proofs.YtakmnncmeefceaaGreat
set_option linter.unusedVariables false
set_option linter.unusedSimpArgs false
set_option linter.unusedSectionVars false

/- The walks of the references: Same of layers 04 and 12, at equal codes. -/
section
open Go.RowKit

set_option maxRecDepth 100000 in
set_option maxHeartbeats 1600000 in
theorem rSame04_any (P M : Int) (am : Option Addr) (mn cm : Nat) (mod : List Int) (am' : Option Addr) (mn' cm' : Nat) (w : World) (h : Ints w am mn mod) (h' : Ints w am' mn' mod) :
    Calls Tryz.prog 66 #[.agg #[.int .i64 P, .int .i64 M, .slice am mn cm], .agg #[.int .i64 P, .int .i64 M, .slice am' mn' cm']] w fun e w' => e = .returned (.bool true) ∧ Below w.heap.size w w' := by
  obtain rfl : mn = mn' := by have := h.len; have := h'.len; omega
  have hpl := h.pl
  have hpl' := h'.pl
  have hmax := h.max
  unfold maxLen at hmax
  go_enter Tryz.func66, Tryz.ntmps66
  go_wp2_with fail
  obtain ⟨W, hW⟩ : ∃ W : World, W = (w.alloc (.cells #[.int .i64 P, .int .i64 M, .slice am mn cm] 24)).alloc (.cells #[.int .i64 P, .int .i64 M, .slice am' mn cm'] 24) := ⟨_, rfl⟩
  rw [← hW]
  have hbW : Below w.heap.size w W := by rw [hW]; exact below2 _ _ _
  have x0 : Box W w.heap.size [.int .i64 P, .int .i64 M, .slice am mn cm] := by rw [hW]; exact (Box.new _ _ _ rfl).alloc _
  have y0 : Box W (w.heap.size + 1) [.int .i64 P, .int .i64 M, .slice am' mn cm'] := by rw [hW]; exact Box.new _ _ _ (by simp)
  have hS : ∀ V, Below W.heap.size W V → V.cell? ⟨w.heap.size, 0, none⟩ = some (.int .i64 P) ∧ V.cell? ⟨w.heap.size, 1, none⟩ = some (.int .i64 M) ∧ V.cell? ⟨w.heap.size, 2, none⟩ = some (.slice am mn cm) ∧
      V.cell? ⟨w.heap.size + 1, 0, none⟩ = some (.int .i64 P) ∧ V.cell? ⟨w.heap.size + 1, 1, none⟩ = some (.int .i64 M) ∧ V.cell? ⟨w.heap.size + 1, 2, none⟩ = some (.slice am' mn cm') ∧ Below W.heap.size W V := fun V hV => by
    have x1 := x0.keep hV
    have y1 := y0.keep hV
    exact ⟨x1.cell 0 rfl, x1.cell 1 rfl, x1.cell 2 rfl, y1.cell 0 rfl, y1.cell 1 rfl, y1.cell 2 rfl, hV⟩
  have HS := Lib.hid hS
  have hh := h.keep hbW
  have hh' := h'.keep hbW
  clear hW x0 y0 hS
  obtain ⟨c0, c1, c2, d0, d1, d2, _⟩ := HS.out W (Below.refl _ _)
  have hPP : (P != P) = false := by simp
  have hMM : (M != M) = false := by simp
  have hnn : ((mn : Int) != mn) = false := by simp
  go_wp2_with fail
  clear hPP hMM hnn c0 c1 c2 d0 d1 d2
  go_loopw [5] (fun iv wr => ∃ k : Nat, k ≤ mn ∧ iv = .int .i64 k ∧ Drawn W wr) (fun iv _ => mn - (intOf iv).toNat)
  case atStart => exact ⟨0, Nat.zero_le _, rfl, Drawn.refl _⟩
  case round =>
    obtain ⟨k, hk, rfl, hd⟩ := hrel
    obtain ⟨c0, c1, c2, d0, d1, d2, _⟩ := HS.out wr hd.below
    by_cases hlt : k < mn
    · have cc := (hh.drawn hd).cell k hlt
      have dd := (hh'.drawn hd).cell k hlt
      have hne : (nth mod k != nth mod k) = false := by simp
      go_wp2_with fail
      go_quiet (fail)
      go_wp2_with fail
      go_roundw
      case rel => exact ⟨k + 1, by omega, by go_num, hd.drewN _⟩
      case measure => simp [intOf] <;> omega
    · obtain rfl : k = mn := by omega
      have hF := Below.next hbW hd.below
      go_wp2_with fail
      go_ret
      exact ⟨rfl, hF⟩

set_option maxRecDepth 100000 in
set_option maxHeartbeats 1600000 in
theorem rSame12_any (P M : Int) (am : Option Addr) (mn cm : Nat) (mod : List Int) (am' : Option Addr) (mn' cm' : Nat) (N : Int) (a : Option Addr) (n c : Nat) (L : List (List Int)) (a' : Option Addr) (n' c' : Nat) (w : World) (h : Ints w am mn mod) (h' : Ints w am' mn' mod) (hL : Mat w a n L) (hL' : Mat w a' n' L) :
    Calls Tryz.prog 20 #[.agg #[.int .i64 P, .int .i64 M, .slice am mn cm, .int .i64 N, .slice a n c], .agg #[.int .i64 P, .int .i64 M, .slice am' mn' cm', .int .i64 N, .slice a' n' c']] w fun e w' => e = .returned (.bool true) ∧ Below w.heap.size w w' := by
  go_enter Tryz.func20, Tryz.ntmps20
  go_wp2_with fail
  obtain ⟨W, hW⟩ : ∃ W : World, W = (w.alloc (.cells #[.int .i64 P, .int .i64 M, .slice am mn cm, .int .i64 N, .slice a n c] 27)).alloc (.cells #[.int .i64 P, .int .i64 M, .slice am' mn' cm', .int .i64 N, .slice a' n' c'] 27) := ⟨_, rfl⟩
  rw [← hW]
  have hbW : Below w.heap.size w W := by rw [hW]; exact below2 _ _ _
  have x0 : Box W w.heap.size [.int .i64 P, .int .i64 M, .slice am mn cm, .int .i64 N, .slice a n c] := by rw [hW]; exact (Box.new _ _ _ rfl).alloc _
  have y0 : Box W (w.heap.size + 1) [.int .i64 P, .int .i64 M, .slice am' mn' cm', .int .i64 N, .slice a' n' c'] := by rw [hW]; exact Box.new _ _ _ (by simp)
  have hS : ∀ V, Below W.heap.size W V → V.cell? ⟨w.heap.size, 0, none⟩ = some (.int .i64 P) ∧ V.cell? ⟨w.heap.size, 1, none⟩ = some (.int .i64 M) ∧ V.cell? ⟨w.heap.size, 2, none⟩ = some (.slice am mn cm) ∧ V.cell? ⟨w.heap.size, 3, none⟩ = some (.int .i64 N) ∧ V.cell? ⟨w.heap.size, 4, none⟩ = some (.slice a n c) ∧
      V.cell? ⟨w.heap.size + 1, 0, none⟩ = some (.int .i64 P) ∧ V.cell? ⟨w.heap.size + 1, 1, none⟩ = some (.int .i64 M) ∧ V.cell? ⟨w.heap.size + 1, 2, none⟩ = some (.slice am' mn' cm') ∧ V.cell? ⟨w.heap.size + 1, 3, none⟩ = some (.int .i64 N) ∧ V.cell? ⟨w.heap.size + 1, 4, none⟩ = some (.slice a' n' c') := fun V hV => by
    have x1 := x0.keep hV
    have y1 := y0.keep hV
    exact ⟨x1.cell 0 rfl, x1.cell 1 rfl, x1.cell 2 rfl, x1.cell 3 rfl, x1.cell 4 rfl, y1.cell 0 rfl, y1.cell 1 rfl, y1.cell 2 rfl, y1.cell 3 rfl, y1.cell 4 rfl⟩
  have HS := Lib.hid hS
  have hNN : (N == N) = true := by simp
  clear hW x0 y0 hS
  obtain ⟨c0, c1, c2, c3, c4, d0, d1, d2, d3, d4⟩ := HS.out W (Below.refl _ _)
  go_wp2_with fail
  refine (rSame04_any P M am mn cm mod am' mn' cm' W (h.keep hbW) (h'.keep hbW)).mono ?_
  rintro e w1 ⟨rfl, hb1⟩
  clear c0 c1 c2 c3 c4 d0 d1 d2 d3 d4
  obtain ⟨c0, c1, c2, c3, c4, d0, d1, d2, d3, d4⟩ := HS.out w1 hb1
  have hbw1 := Below.next hbW hb1
  have hr := rSameRows_any a n c L a' n' c' L (hL.keep hbw1) (hL'.keep hbw1)
  rw [decide_eq_true (rfl : L = L)] at hr
  have Hr := Lib.hid hr
  clear hr
  go_wp2_with fail
  refine Hr.out.mono ?_
  rintro e w2 ⟨rfl, hd⟩
  have hF := Below.next hbw1 hd.below
  go_wp2_with fail
  go_ret
  exact ⟨rfl, hF⟩
end

/- The walks of the references: Field and Make of layer 12. -/
section
open Go.RowKit

def FieldPost (P M : Int) (mod : List Int) (w : World) (e : Ending) (w' : World) : Prop :=
  ∃ a1 c1, e = .returned (.agg #[.int .i64 P, .int .i64 M, .slice a1 mod.length c1]) ∧ IntsN w.heap.size w' a1 mod.length mod ∧ Below w.heap.size w w'

set_option maxRecDepth 100000 in
set_option maxHeartbeats 4000000 in
theorem rField12_any (P M : Int) (am : Option Addr) (mn cm : Nat) (mod : List Int) (w : World) (hmod : Ints w am mn mod) (hmn : mn ≤ 1000000) :
    Calls Tryz.prog 112 #[.agg #[.int .i64 P, .int .i64 M, .slice am mn cm]] w (FieldPost P M mod w) := by
  obtain rfl : mod.length = mn := hmod.len
  go_enter Tryz.func112, Tryz.ntmps112
  go_wp2_with fail
  obtain ⟨W, hW⟩ : ∃ W : World, W = (w.alloc (.cells #[.int .i64 P, .int .i64 M, .slice am mod.length cm] 24)).alloc (.cells #[.int .i64 0, .int .i64 0, .slice none 0 0] 24) := ⟨_, rfl⟩
  rw [← hW]
  have hbW : Below w.heap.size w W := by rw [hW]; exact below2 _ _ _
  have hsW : W.heap.size = w.heap.size + 2 := by rw [hW]; simp
  have x0 : Box W w.heap.size [.int .i64 P, .int .i64 M, .slice am mod.length cm] := by rw [hW]; exact (Box.new _ _ _ rfl).alloc _
  have y0 : Box W (w.heap.size + 1) [.int .i64 0, .int .i64 0, .slice none 0 0] := by rw [hW]; exact Box.new _ _ _ (by simp)
  have hmodW := hmod.keep hbW
  have hS : ∀ V, Below W.heap.size W V → V.cell? ⟨w.heap.size, 0, none⟩ = some (.int .i64 P) ∧ V.cell? ⟨w.heap.size, 1, none⟩ = some (.int .i64 M) ∧ V.cell? ⟨w.heap.size, 2, none⟩ = some (.slice am mod.length cm) ∧ Ints V am mod.length mod ∧
      Box V (w.heap.size + 1) [.int .i64 0, .int .i64 0, .slice none 0 0] ∧ Below W.heap.size W V := fun V hV => by
    have x1 := x0.keep hV
    exact ⟨x1.cell 0 rfl, x1.cell 1 rfl, x1.cell 2 rfl, hmodW.keep hV, y0.keep hV, hV⟩
  have HS := Lib.hid hS
  have HbW := Lib.hid hbW
  have HsW := Lib.hid hsW
  clear hW x0 y0 hS
  have HP : Hid (∀ (w4 : World) (a4 : Option Addr) (c4 : Nat), IntsN W.heap.size w4 a4 mod.length mod → Below W.heap.size W w4 →
      FieldPost P M mod w (.returned (.agg #[.int .i64 P, .int .i64 M, .slice a4 mod.length c4])) (((w4.setCell ⟨w.heap.size + 1, 0, none⟩ (.int .i64 P)).setCell ⟨w.heap.size + 1, 1, none⟩ (.int .i64 M)).setCell ⟨w.heap.size + 1, 2, none⟩ (.slice a4 mod.length c4))) := fun w4 a4 c4 h1 h2 => by
    have hb := Below.next hbW h2
    have hs := HsW.out
    refine ⟨a4, c4, rfl, ?_, ?_⟩
    · exact (((h1.setCell (p := ⟨w.heap.size + 1, 0, none⟩) (by simp; omega) _).setCell (p := ⟨w.heap.size + 1, 1, none⟩) (by simp; omega) _).setCell (p := ⟨w.heap.size + 1, 2, none⟩) (by simp; omega) _).mono (by omega)
    · exact ((hb.setCell (p := ⟨w.heap.size + 1, 0, none⟩) (by simp) _).setCell (p := ⟨w.heap.size + 1, 1, none⟩) (by simp) _).setCell (p := ⟨w.heap.size + 1, 2, none⟩) (by simp) _
  have hplm := hmod.pl
  have hbA : Below W.heap.size W (W.alloc (.cells #[] 3)).drew := (below1 W _).drew
  have HbA := Lib.hid hbA
  obtain ⟨c0, c1, c2, _⟩ := HS.out W (Below.refl _ _)
  obtain ⟨d0, d1, d2, _⟩ := HS.out _ (below1 W (.cells #[] 3))
  clear hbA hsW hbW hmod
  go_region_law (
    (refine step_appAll (by rfl) (.tmp 7) (.tmp 9) 22 3 (by rfl) (.int .i64 0) 8 Tryz.underlying22 infoInt (by rfl) W.heap.size _ 0 0 [] (by rfl) (show (W.alloc (.cells #[] 3)).drew.ownsRow W.heap.size 3 1 (.slice (some ⟨W.heap.size, 0, none⟩) 0 0) 0 [] from own_emp W 3) am mod.length cm (mod.map (Value.int .i64)) (by rfl) hplm (by simp) (Ints.news (hmodW.keep HbA.out)) (ints_oneCell _ _) (by omega) (by unfold maxLen; omega) (by simp) ?_; intro a3 c3 w3 hown3 hgr3 hap3; obtain ⟨_, _, _, _, zz, hb3⟩ := HS.out w3 (Below.app (B := W.heap.size) HbA.out (show (W.alloc (.cells #[] 3)).drew.ownsRow W.heap.size 3 1 (.slice (some ⟨W.heap.size, 0, none⟩) 0 0) 0 [] from own_emp W 3) hgr3 (Nat.le_refl _) (by simp)); have z0 := zz.cell 0 rfl; have z1 := zz.cell 1 rfl; have z2 := zz.cell 2 rfl; have f0 := zz.frozen 0; have f1 := zz.frozen 1; have f2 := zz.frozen 2))
  all_goals (
    have hN3 : IntsN W.heap.size w3 a3 mod.length mod := IntsN.own (by simpa using hown3)
    have HP4 := Lib.hid (HP.out w3 a3 c3 hN3 hb3)
    clear hN3 hb3 hown3 hgr3 hap3 HP HS
    go_wp2_with fail
    exact bodyPost_ret (v := .agg #[.int .i64 P, .int .i64 M, .slice a3 mod.length c3]) (by simp [results, Tryz.results112, go_sem, z0, z1, z2]) rfl HP4.out)

def MakePost (P M : Int) (mod : List Int) (m : Nat) (L : List (List Int)) (w : World) (e : Ending) (w' : World) : Prop :=
  ∃ a1 c1 a2 c2, e = .returned (.agg #[.int .i64 P, .int .i64 M, .slice a1 mod.length c1, .int .i64 m, .slice a2 (canS (tblOf P M.toNat mod) L m).length c2]) ∧ IntsN w.heap.size w' a1 mod.length mod ∧
    MatN w.heap.size w' a2 (canS (tblOf P M.toNat mod) L m).length (canS (tblOf P M.toNat mod) L m) ∧ Below w.heap.size w w'

set_option maxRecDepth 100000 in
set_option maxHeartbeats 4000000 in
theorem rMake12_any (P M : Int) (am : Option Addr) (mn cm : Nat) (mod : List Int) (m : Nat) (a : Option Addr) (n c : Nat) (L : List (List Int)) (w : World) (hmod : Ints w am mn mod) (hi : Mat w a n L)
    (hB : fieldB P M mod = true) (hR : Rws (tblOf P M.toNat mod).El m L) (hm : m ≤ 1000000) (hn : n ≤ 1000000) (hmn : mn ≤ 1000000) :
    Calls Tryz.prog 65 #[.agg #[.int .i64 P, .int .i64 M, .slice am mn cm], .slice a n c, .int .i64 m] w (MakePost P M mod m L w) := by
  have hcan := canR_eq hB hR
  have hinv := hinv_all (P := P) (M := M) (mod := mod) (by rw [fieldRB_eq]; exact hB)
  obtain ⟨k, rfl, hel, _, hF, hA, _⟩ := eq_ops hB
  obtain ⟨k', e2, hrf, hmods⟩ := fieldRB_rf (by rw [fieldRB_eq]; exact hB)
  obtain rfl : k = k' := by omega
  rw [Int.toNat_natCast] at hcan hR hinv
  rw [← hel] at hR
  have HC : Hid (∀ V, Below w.heap.size w V → Calls Tryz.prog 111 #[.agg #[.int .i64 P, .int .i64 k, .slice am mn cm], .slice a n c, .int .i64 m] V fun e w' =>
      ∃ a2 c2 v2, e = .returned (.tuple #[.slice a2 (canS (tblOf P k mod) L m).length c2, v2]) ∧ MatN V.heap.size w' a2 (canS (tblOf P k mod) L m).length (canS (tblOf P k mod) L m) ∧ Below V.heap.size V w') := fun V hV => by
    refine (rCanon_any P k am mn cm mod a n c m L V ⟨hrf, hmods V am mn (hmod.keep hV)⟩ (hi.keep hV) hR hm hn hinv).mono ?_
    rintro e w' ⟨a4, c4, ap, cp, rfl, hM4, _, hb4⟩
    have hk := hM4.mat.len
    rw [hcan] at hM4 hk
    rw [← hk] at hM4
    exact ⟨a4, c4, _, by rw [hk], hM4, hb4⟩
  have HFd : Hid (∀ V, Below w.heap.size w V → Calls Tryz.prog 112 #[.agg #[.int .i64 P, .int .i64 k, .slice am mn cm]] V (FieldPost P k mod V)) := fun V hV => rField12_any P k am mn cm mod V (hmod.keep hV) hmn
  unfold MakePost
  rw [Int.toNat_natCast]
  obtain ⟨D, hD⟩ : ∃ D, canS (tblOf P k mod) L m = D := ⟨_, rfl⟩
  rw [hD] at HC ⊢
  clear hcan hinv hel hF hA hrf hmods e2 hR hB hD
  obtain ⟨q, hq⟩ : ∃ q, D.length = q := ⟨_, rfl⟩
  rw [hq] at HC ⊢
  clear hq
  go_enter Tryz.func65, Tryz.ntmps65
  go_wp2_with fail
  obtain ⟨W, hW⟩ : ∃ W : World, W = (w.alloc (.cells #[.int .i64 P, .int .i64 k, .slice am mn cm] 24)).alloc (.cells #[.int .i64 0, .int .i64 0, .slice none 0 0, .int .i64 0, .slice none 0 0] 27) := ⟨_, rfl⟩
  rw [← hW]
  have hbW : Below w.heap.size w W := by rw [hW]; exact below2 _ _ _
  have hsW : W.heap.size = w.heap.size + 2 := by rw [hW]; simp
  have x0 : Box W w.heap.size [.int .i64 P, .int .i64 k, .slice am mn cm] := by rw [hW]; exact (Box.new _ _ _ rfl).alloc _
  have z0 : Box W (w.heap.size + 1) [.int .i64 0, .int .i64 0, .slice none 0 0, .int .i64 0, .slice none 0 0] := by rw [hW]; exact Box.new _ _ _ (by simp)
  have hS : ∀ V, Below W.heap.size W V → V.cell? ⟨w.heap.size, 0, none⟩ = some (.int .i64 P) ∧ V.cell? ⟨w.heap.size, 1, none⟩ = some (.int .i64 k) ∧ V.cell? ⟨w.heap.size, 2, none⟩ = some (.slice am mn cm) ∧
      Box V (w.heap.size + 1) [.int .i64 0, .int .i64 0, .slice none 0 0, .int .i64 0, .slice none 0 0] := fun V hV => by
    have x1 := x0.keep hV
    exact ⟨x1.cell 0 rfl, x1.cell 1 rfl, x1.cell 2 rfl, z0.keep hV⟩
  have HS := Lib.hid hS
  have HbW := Lib.hid hbW
  have HsW := Lib.hid hsW
  clear hW x0 z0 hS
  obtain ⟨c0, c1, c2, _⟩ := HS.out W (Below.refl _ _)
  go_wp2_with fail
  refine (HC.out W hbW).mono ?_
  rintro e w1 ⟨a2, c2', v2, rfl, hM1, hb1⟩
  clear c0 c1 c2
  obtain ⟨c0, c1, c2, _⟩ := HS.out w1 hb1
  have HF2 := Lib.hid (HFd.out w1 (Below.next hbW hb1))
  clear HC HFd hbW hsW
  go_wp2_with fail
  refine HF2.out.mono ?_
  rintro e w2 ⟨a3, c3, rfl, hN3, hb2⟩
  obtain ⟨_, _, _, zz6⟩ := HS.out w2 (Below.next hb1 hb2)
  have z0 := zz6.cell 0 rfl
  have z1 := zz6.cell 1 rfl
  have z2 := zz6.cell 2 rfl
  have z3 := zz6.cell 3 rfl
  have z4 := zz6.cell 4 rfl
  have f0 := zz6.frozen 0
  have f1 := zz6.frozen 1
  have f2 := zz6.frozen 2
  have f3 := zz6.frozen 3
  have f4 := zz6.frozen 4
  have hs := HsW.out
  have hs2 := hb1.size
  have hM2 := hM1.keep hb2
  have hbF := Below.next HbW.out (Below.next hb1 hb2)
  have hFin : ∃ a1 c1 a2' c2'', (Ending.returned (.agg #[.int .i64 P, .int .i64 k, .slice a3 mod.length c3, .int .i64 m, .slice a2 q c2'])) = .returned (.agg #[.int .i64 P, .int .i64 k, .slice a1 mod.length c1, .int .i64 m, .slice a2' q c2'']) ∧
      IntsN w.heap.size (((((w2.setCell ⟨w.heap.size + 1, 0, none⟩ (.int .i64 P)).setCell ⟨w.heap.size + 1, 1, none⟩ (.int .i64 k)).setCell ⟨w.heap.size + 1, 2, none⟩ (.slice a3 mod.length c3)).setCell ⟨w.heap.size + 1, 3, none⟩ (.int .i64 m)).setCell ⟨w.heap.size + 1, 4, none⟩ (.slice a2 q c2')) a1 mod.length mod ∧
      MatN w.heap.size (((((w2.setCell ⟨w.heap.size + 1, 0, none⟩ (.int .i64 P)).setCell ⟨w.heap.size + 1, 1, none⟩ (.int .i64 k)).setCell ⟨w.heap.size + 1, 2, none⟩ (.slice a3 mod.length c3)).setCell ⟨w.heap.size + 1, 3, none⟩ (.int .i64 m)).setCell ⟨w.heap.size + 1, 4, none⟩ (.slice a2 q c2')) a2' q D ∧
      Below w.heap.size w (((((w2.setCell ⟨w.heap.size + 1, 0, none⟩ (.int .i64 P)).setCell ⟨w.heap.size + 1, 1, none⟩ (.int .i64 k)).setCell ⟨w.heap.size + 1, 2, none⟩ (.slice a3 mod.length c3)).setCell ⟨w.heap.size + 1, 3, none⟩ (.int .i64 m)).setCell ⟨w.heap.size + 1, 4, none⟩ (.slice a2 q c2')) := by
    refine ⟨a3, c3, a2, c2', rfl, ?_, ?_, (((((hbF.setCell (p := ⟨w.heap.size + 1, 0, none⟩) (by simp) _).setCell (p := ⟨w.heap.size + 1, 1, none⟩) (by simp) _).setCell (p := ⟨w.heap.size + 1, 2, none⟩) (by simp) _).setCell (p := ⟨w.heap.size + 1, 3, none⟩) (by simp) _).setCell (p := ⟨w.heap.size + 1, 4, none⟩) (by simp) _)⟩
    · exact (((((hN3.setCell (p := ⟨w.heap.size + 1, 0, none⟩) (by simp; omega) _).setCell (p := ⟨w.heap.size + 1, 1, none⟩) (by simp; omega) _).setCell (p := ⟨w.heap.size + 1, 2, none⟩) (by simp; omega) _).setCell (p := ⟨w.heap.size + 1, 3, none⟩) (by simp; omega) _).setCell (p := ⟨w.heap.size + 1, 4, none⟩) (by simp; omega) _).mono (by omega)
    · exact (((((hM2.setCell (p := ⟨w.heap.size + 1, 0, none⟩) (by simp; omega) _).setCell (p := ⟨w.heap.size + 1, 1, none⟩) (by simp; omega) _).setCell (p := ⟨w.heap.size + 1, 2, none⟩) (by simp; omega) _).setCell (p := ⟨w.heap.size + 1, 3, none⟩) (by simp; omega) _).setCell (p := ⟨w.heap.size + 1, 4, none⟩) (by simp; omega) _).mono (by omega)
  have HFin := Lib.hid hFin
  clear hFin hM1 hM2 hN3 zz6 HS HF2
  go_wp2_with fail
  exact bodyPost_ret (v := .agg #[.int .i64 P, .int .i64 k, .slice a3 mod.length c3, .int .i64 m, .slice a2 q c2']) (by simp [results, Tryz.results65, go_sem, z0, z1, z2, z3, z4]) rfl HFin.out
end

/- The walk of the reference of layer 48: Reorder. -/
section
open Go.RowKit

set_option maxRecDepth 100000 in
set_option maxHeartbeats 4000000 in
theorem rReorder48_any (P M : Int) (am : Option Addr) (mn cm : Nat) (mod : List Int) (N : Int) (a : Option Addr) (n c : Nat) (L : List (List Int)) (ao : Option Addr) (no co : Nat) (Q : List Int) (w : World)
    (hmod : Ints w am mn mod) (hi : Mat w a n L) (hq : Ints w ao no Q) :
    Calls Tryz.prog 19 #[.agg #[.int .i64 P, .int .i64 M, .slice am mn cm, .int .i64 N, .slice a n c], .slice ao no co] w (ReoPost P M mod N L Q w) := by
  have Hql := Lib.hid hq.len
  have hplq := hq.pl
  go_enter Tryz.func19, Tryz.ntmps19
  go_wp2_with fail
  obtain ⟨W, hW⟩ : ∃ W : World, W = (w.alloc (.cells #[.int .i64 P, .int .i64 M, .slice am mn cm, .int .i64 N, .slice a n c] 27)).alloc (.cells #[.int .i64 0, .int .i64 0, .slice none 0 0, .int .i64 0, .slice none 0 0] 27) := ⟨_, rfl⟩
  rw [← hW]
  have hbW : Below w.heap.size w W := by rw [hW]; exact below2 _ _ _
  have hsW : W.heap.size = w.heap.size + 2 := by rw [hW]; simp
  have x0 : Box W w.heap.size [.int .i64 P, .int .i64 M, .slice am mn cm, .int .i64 N, .slice a n c] := by rw [hW]; exact (Box.new _ _ _ rfl).alloc _
  have z0 : Box W (w.heap.size + 1) [.int .i64 0, .int .i64 0, .slice none 0 0, .int .i64 0, .slice none 0 0] := by rw [hW]; exact Box.new _ _ _ (by simp)
  clear hW
  have hS : ∀ V, Below W.heap.size W V → V.cell? ⟨w.heap.size, 0, none⟩ = some (.int .i64 P) ∧ V.cell? ⟨w.heap.size, 1, none⟩ = some (.int .i64 M) ∧ V.cell? ⟨w.heap.size, 2, none⟩ = some (.slice am mn cm) ∧ V.cell? ⟨w.heap.size, 3, none⟩ = some (.int .i64 N) ∧ V.cell? ⟨w.heap.size, 4, none⟩ = some (.slice a n c) ∧
      Box V (w.heap.size + 1) [.int .i64 0, .int .i64 0, .slice none 0 0, .int .i64 0, .slice none 0 0] := fun V hV => by
    have x1 := x0.keep hV
    exact ⟨x1.cell 0 rfl, x1.cell 1 rfl, x1.cell 2 rfl, x1.cell 3 rfl, x1.cell 4 rfl, z0.keep hV⟩
  have HS := Lib.hid hS
  have HbW := Lib.hid hbW
  have HsW := Lib.hid hsW
  refine (rOrder48_any P M am mn cm mod N a n c L ao no co Q W (hmod.keep hbW) (hi.keep hbW) (hq.keep hbW)).mono ?_
  rintro e w1 ⟨rfl, hb1⟩
  have hbw1 := Below.next hbW hb1
  clear hS x0 z0 hbW hsW
  by_cases hO : ordE P M mod N L Q = 0
  · obtain ⟨hE, hB⟩ := ordE_zero hO
    have HO := Lib.hid hO
    have hmn : mn ≤ 1000000 := by
      have h1 := hmod.len
      have h2 := mod_len (codeE_zero hE).1
      omega
    obtain ⟨m, rfl, hm1, hm64, _, _⟩ := codeE_fld hE
    obtain ⟨hI, hl⟩ := ordB_in hB
    obtain rfl : no = m := by rw [← hq.len]; exact hl
    have hn : n ≤ 256 := by rw [← hi.len]; exact (codeE_rws hE).choose_spec.2.2.2.1
    obtain ⟨m', em', _, _, F, hR0⟩ := codeE_fld hE
    obtain rfl : no = m' := by omega
    have hR2 := reo_rws F hR0 hI hl
    have HC : Hid (∀ V a7 c7, Below w.heap.size w V → Mat V a7 n (L.map (pickL Q)) → Calls Tryz.prog 65 #[.agg #[.int .i64 P, .int .i64 M, .slice am mn cm], .slice a7 n c7, .int .i64 no] V (MakePost P M mod no (L.map (pickL Q)) V)) := fun V a7 c7 hV hM =>
      rMake12_any P M am mn cm mod no a7 n c7 (L.map (pickL Q)) V (hmod.keep hV) hM (codeE_zero hE).1 hR2 (by omega) (by omega) hmn
    have HQ := Lib.hid hI
    have Hlen := Lib.hid hi.len
    have HLl : Hid (∀ r ∈ L, r.length = no) := fun r hr => (hR0 r hr).1
    obtain ⟨L2, hL2⟩ : ∃ L2, L.map (pickL Q) = L2 := ⟨_, rfl⟩
    have hl2 : L2.length = n := by rw [← hL2, List.length_map]; exact Hlen.out
    have Hl2 := Lib.hid hl2
    have HLk : Hid (∀ k, k < n → nthR L2 k = pickL Q (nthR L k)) := fun k hk => by rw [← hL2]; exact nthR_map _ L (by rw [Hlen.out]; exact hk)
    have Hre : Hid (reoL (tblOf P M.toNat mod).ops no Q L = canS (tblOf P M.toNat mod) L2 no) := by show _ = _; rw [← hL2]; rfl
    rw [hL2] at HC
    have hpl := hi.pl
    have hiw := hi.keep hbw1
    have hqw := hq.keep hbw1
    have hO0 := OMat.lit w1 (B := w1.heap.size) (Nat.le_refl _)
    have hb0 := below1 w1 (.cells #[] 22)
    rw [hO]
    clear hO hE hB hI hl hR0 hR2 F hL2 hl2 em'
    go_wp2_with fail
    go_loopw [7, 8] (fun sv iv wr => ∃ (k : Nat) (a1 : Option Addr) (c1 : Nat), k ≤ n ∧ iv = .int .i64 k ∧ sv = .slice a1 k c1 ∧ (∃ R, OMat wr w1.heap.size a1 k c1 R (L2.take k)) ∧ Below w1.heap.size w1 wr) (fun _ iv _ => n - (intOf iv).toNat)
    case atStart => exact ⟨0, _, _, Nat.zero_le _, rfl, rfl, ⟨[], by simpa using hO0⟩, hb0⟩
    case round =>
      clear hO0 hb0
      obtain ⟨k, a1, c1, hk, rfl, rfl, ⟨R, hO⟩, hbr⟩ := hrel
      obtain ⟨d0, d1, d2, d3, d4, _⟩ := HS.out wr (Below.next hb1 hbr)
      by_cases hlt : k < n
      · obtain ⟨ra, rn, rc, hcell, hrow⟩ := (hiw.keep hbr).cell k hlt
        have hkL : k < L.length := by rw [Hlen.out]; exact hlt
        have hrl : rn = no := by rw [← hrow.len, nthR_getElem hkL]; exact HLl.out _ (List.getElem_mem hkL)
        have Htk : Hid (L2.take (k + 1) = L2.take k ++ [pickL Q (nthR L k)]) := by show _ = _; rw [List.take_succ_eq_append_getElem (by rw [Hl2.out]; exact hlt), ← HLk.out k hlt, nthR_getElem (by rw [Hl2.out]; exact hlt)]
        obtain ⟨l, hl⟩ : ∃ l, nthR L k = l := ⟨_, rfl⟩
        rw [hl] at Htk hrow
        have hpk := rPick_any ra rn rc l ao no co Q wr hrow (hqw.keep hbr) (by rw [hrl]; exact HQ.out) (by omega)
        have hsz := hbr.size
        clear hl hrl
        go_wp2_with fail
        refine hpk.mono ?_
        rintro e w3 ⟨a3, c3, rfl, hown3, hb3⟩
        have hO3 := hO.keep (Below.next hb3 (below1 w3 (.cells #[.slice a3 (pickL Q l).length c3] 22)))
        have hs3 : w1.heap.size ≤ (w3.alloc (.cells #[.slice a3 (pickL Q l).length c3] 22)).heap.size := by have h1 := hb3.size; simp; omega
        clear hpk
        go_wp2_with (at_builtin; refine wpList_push rfl _ _ 25 22 rfl (.slice none 0 0) 24 Tryz.underlying25 infoInts rfl w1.heap.size a1 k c1 _ rfl hO3.own ⟨w3.heap.size, 0, none⟩ 1 (.slice a3 (pickL Q l).length c3) rfl (cell_new w3 _ _) rfl (by omega) (by unfold maxLen; omega) hs3 ?_; intro a5 c5 w5 hown5 hgr5 hap5)
        go_roundw
        case rel =>
          have hb4 : Below wr.heap.size wr (w3.alloc (.cells #[.slice a3 (pickL Q l).length c3] 22)) := Below.next hb3 (below1 _ _)
          have hown4 : (w3.alloc (.cells #[.slice a3 (pickL Q l).length c3] 22)).ownsRow w1.heap.size 3 1 (.slice a3 (pickL Q l).length c3) (pickL Q l).length ((pickL Q l).map (Value.int .i64)) :=
            own_mono (own_keep hown3 (below1 _ _)) hsz
          have hra : a3 ≠ none → ¬ OIn a1 R (ablk a3) := fun h0 hI => by
            have h1 := (own_ne hown3 h0).1
            have h2 := (hO.lt _ hI).2
            omega
          have hP := OMat.push hO3 hown4 hra hown5 hgr5 hap5
          have hb5 : Below w1.heap.size w1 w5 := Below.app (Below.next hbr hb4) hO3.own hgr5 (Nat.le_refl _) (Nat.le_trans hsz hb4.size)
          exact ⟨k + 1, a5, c5, by omega, by go_num, rfl, ⟨_, by rw [Htk.out]; exact hP⟩, hb5⟩
        case measure => simp [intOf] <;> omega
      · obtain rfl : k = n := by omega
        rw [List.take_of_length_le (by rw [Hl2.out]; exact Nat.le_refl _)] at hO
        have hbwr := Below.next hbw1 hbr
        have Hcc := Lib.hid (HC.out wr a1 c1 hbwr hO.mat)
        clear HC hO
        go_wp2_with fail
        refine Hcc.out.mono ?_
        rintro e w6 ⟨a4, c4', a2, c2', rfl, hN1, hN2, hb6⟩
        rw [← Hre.out] at hN2 ⊢
        obtain ⟨_, _, _, _, _, zz6⟩ := HS.out w6 (Below.next (Below.next hb1 hbr) hb6)
        have z0 := zz6.cell 0 rfl
        have z1 := zz6.cell 1 rfl
        have z2 := zz6.cell 2 rfl
        have z3 := zz6.cell 3 rfl
        have z4 := zz6.cell 4 rfl
        have f0 := zz6.frozen 0
        have f1 := zz6.frozen 1
        have f2 := zz6.frozen 2
        have f3 := zz6.frozen 3
        have f4 := zz6.frozen 4
        have hs := HsW.out
        have hs2 := (Below.next hb1 hbr).size
        have hbF := Below.next hbwr hb6
        have hFin : ReoPost P M mod no L Q w (.returned (.tuple #[.agg #[.int .i64 P, .int .i64 M, .slice a4 mod.length c4', .int .i64 no, .slice a2 (reoL (tblOf P M.toNat mod).ops no Q L).length c2'], .int .i64 0]))
            (((((w6.setCell ⟨w.heap.size + 1, 0, none⟩ (.int .i64 P)).setCell ⟨w.heap.size + 1, 1, none⟩ (.int .i64 M)).setCell ⟨w.heap.size + 1, 2, none⟩ (.slice a4 mod.length c4')).setCell ⟨w.heap.size + 1, 3, none⟩ (.int .i64 no)).setCell ⟨w.heap.size + 1, 4, none⟩ (.slice a2 (reoL (tblOf P M.toNat mod).ops no Q L).length c2')) := by
          refine ⟨(((((hbF.setCell (p := ⟨w.heap.size + 1, 0, none⟩) (by simp) _).setCell (p := ⟨w.heap.size + 1, 1, none⟩) (by simp) _).setCell (p := ⟨w.heap.size + 1, 2, none⟩) (by simp) _).setCell (p := ⟨w.heap.size + 1, 3, none⟩) (by simp) _).setCell (p := ⟨w.heap.size + 1, 4, none⟩) (by simp) _), .inr ⟨HO.out, no, a4, c4', a2, c2', rfl, rfl, ?_, ?_⟩⟩
          · exact (((((hN1.setCell (p := ⟨w.heap.size + 1, 0, none⟩) (by simp; omega) _).setCell (p := ⟨w.heap.size + 1, 1, none⟩) (by simp; omega) _).setCell (p := ⟨w.heap.size + 1, 2, none⟩) (by simp; omega) _).setCell (p := ⟨w.heap.size + 1, 3, none⟩) (by simp; omega) _).setCell (p := ⟨w.heap.size + 1, 4, none⟩) (by simp; omega) _).mono (by omega)
          · exact (((((hN2.setCell (p := ⟨w.heap.size + 1, 0, none⟩) (by simp; omega) _).setCell (p := ⟨w.heap.size + 1, 1, none⟩) (by simp; omega) _).setCell (p := ⟨w.heap.size + 1, 2, none⟩) (by simp; omega) _).setCell (p := ⟨w.heap.size + 1, 3, none⟩) (by simp; omega) _).setCell (p := ⟨w.heap.size + 1, 4, none⟩) (by simp; omega) _).mono (by omega)
        have HFin := Lib.hid hFin
        clear hFin hN1 hN2 Hcc zz6
        generalize (reoL (tblOf P M.toNat mod).ops no Q L).length = q at *
        go_wp2_with fail
        exact bodyPost_ret (v := .tuple #[.agg #[.int .i64 P, .int .i64 M, .slice a4 mod.length c4', .int .i64 no, .slice a2 q c2'], .int .i64 0]) (by simp [results, Tryz.results19, go_sem, z0, z1, z2, z3, z4]) rfl HFin.out
  · have HO := Lib.hid hO
    have hO2 : (ordE P M mod N L Q != 0) = true := by simpa using hO
    obtain ⟨_, _, _, _, _, zz6⟩ := HS.out w1 hb1
    have z0 := zz6.cell 0 rfl
    have z1 := zz6.cell 1 rfl
    have z2 := zz6.cell 2 rfl
    have z3 := zz6.cell 3 rfl
    have z4 := zz6.cell 4 rfl
    have f0 := zz6.frozen 0
    have f1 := zz6.frozen 1
    have f2 := zz6.frozen 2
    have f3 := zz6.frozen 3
    have f4 := zz6.frozen 4
    have hb6 : Below w.heap.size w (((((w1.setCell ⟨w.heap.size + 1, 0, none⟩ (.int .i64 0)).setCell ⟨w.heap.size + 1, 1, none⟩ (.int .i64 0)).setCell ⟨w.heap.size + 1, 2, none⟩ (.slice none 0 0)).setCell ⟨w.heap.size + 1, 3, none⟩ (.int .i64 0)).setCell ⟨w.heap.size + 1, 4, none⟩ (.slice none 0 0)) :=
      (((((hbw1.setCell (p := ⟨w.heap.size + 1, 0, none⟩) (by simp) _).setCell (p := ⟨w.heap.size + 1, 1, none⟩) (by simp) _).setCell (p := ⟨w.heap.size + 1, 2, none⟩) (by simp) _).setCell (p := ⟨w.heap.size + 1, 3, none⟩) (by simp) _).setCell (p := ⟨w.heap.size + 1, 4, none⟩) (by simp) _)
    have hFin : ReoPost P M mod N L Q w (.returned (.tuple #[.agg #[.int .i64 0, .int .i64 0, .slice none 0 0, .int .i64 0, .slice none 0 0], .int .i64 (ordE P M mod N L Q)])) _ := ⟨hb6, .inl ⟨hO, rfl⟩⟩
    have HFin := Lib.hid hFin
    clear hFin hb6 zz6 hO
    generalize ordE P M mod N L Q = oe at *
    go_wp2_with fail
    exact bodyPost_ret (v := .tuple #[.agg #[.int .i64 0, .int .i64 0, .slice none 0 0, .int .i64 0, .slice none 0 0], .int .i64 oe]) (by simp [results, Tryz.results19, go_sem, z0, z1, z2, z3, z4]) rfl HFin.out
end

/- The walks of the references: Combine of layer 09, List and Encode of layer 12. -/
section
open Go.RowKit

theorem cmbTo_agr {O O' : FOps} {El : Int → Prop} (F : Fld O El) (h : Agr O O' El) {m : Nat} {L : List (List Int)} (hL : Rws El m L) {x : List Int} (hx : ∀ k, k < L.length → El (nth x k)) : ∀ k, k ≤ L.length → cmbTo O m x L k = cmbTo O' m x L k
  | 0, _ => rfl
  | k + 1, hk => by
    have h1 := (cmb_rs F hL hx k (by omega)).1
    rw [cmbTo, cmbTo, ← cmbTo_agr F h hL hx k (by omega), addRow_agr h F.cl _ _ _ h1.2 (hL.row (i := k) (by omega)).2 (hx k (by omega))]

set_option maxRecDepth 100000 in
set_option maxHeartbeats 4000000 in
theorem rCombine_any (P : Int) (m : Nat) (am : Option Addr) (mn cm : Nat) (mod : List Int) (ax : Option Addr) (cx : Nat) (x : List Int) (a : Option Addr) (n c : Nat) (L : List (List Int)) (cols : Nat) (w : World) (hf : RFld w P m am mn mod)
    (hx : Ints w ax n x) (hi : Mat w a n L) (hxe : ∀ k, k < n → ElP P m (nth x k)) (hR : Rws (ElP P m) cols L) (hv : ∀ k, k ≤ n → Vc (ElP P m) cols (cmbTo (rops P m mod) cols x L k)) (hc : cols ≤ 1000000) (hn : n ≤ 1000000) :
    Calls Tryz.prog 67 #[.agg #[.int .i64 P, .int .i64 m, .slice am mn cm], .slice ax n cx, .slice a n c, .int .i64 cols] w fun e w' =>
      ∃ a1 c1, e = .returned (.slice a1 cols c1) ∧ w'.ownsRow w.heap.size 3 1 (.slice a1 cols c1) cols ((cmbTo (rops P m mod) cols x L n).map (Value.int .i64)) ∧ Below w.heap.size w w' := by
  have Hil := Lib.hid hi.len
  have hplx := hx.pl
  have hpla := hi.pl
  have HR := Lib.hid hR
  have Hv := Lib.hid hv
  have Hxe := Lib.hid hxe
  obtain ⟨O, hO⟩ : ∃ O, rops P m mod = O := ⟨_, rfl⟩
  have HA : Hid (∀ V k a1 c1 ra rc, k < n → Below w.heap.size w V → Ints V a1 cols (cmbTo O cols x L k) → Ints V ra cols (nthR L k) → ∀ V2, Below V.heap.size V V2 →
      Calls Tryz.prog 113 #[.agg #[.int .i64 P, .int .i64 m, .slice am mn cm], .slice a1 cols c1, .int .i64 (nth x k), .slice ra cols rc] V2 fun e w' =>
        ∃ a2 c2, e = .returned (.slice a2 cols c2) ∧ w'.ownsRow V2.heap.size 3 1 (.slice a2 cols c2) cols ((addRow O (cmbTo O cols x L k) (nth x k) (nthR L k)).map (Value.int .i64)) ∧ Below V2.heap.size V2 w') := fun V k a1 c1 ra rc hk hV h1 h2 V2 hV2 => by
    have hrow := HR.out.row (i := k) (by rw [Hil.out]; exact hk)
    have hvk := Hv.out k (by omega)
    rw [hO] at hvk
    have h := rAddTo_any P m am mn cm mod a1 cols c1 (cmbTo O cols x L k) (nth x k) ra rc (nthR L k) V2 (hf.keep (Below.next hV hV2)) (Hxe.out k hk) (h1.keep hV2) (h2.keep hV2) hvk.2 hrow.2 hc
    refine h.mono ?_
    rintro e w' ⟨a2, c2, rfl, hown, hb⟩
    rw [hO, addRow_length _ _ _ _ (by rw [hrow.1, hvk.1]), hvk.1] at hown
    rw [hO, addRow_length _ _ _ _ (by rw [hrow.1, hvk.1]), hvk.1]
    exact ⟨a2, c2, rfl, hown, hb⟩
  have hz : (cmbTo O cols x L 0).map (Value.int .i64) = List.replicate cols (Value.int .i64 0) := by simp [cmbTo]
  have Hz := Lib.hid hz
  rw [hO]
  clear hO hR hv hxe hz
  go_enter Tryz.func67, Tryz.ntmps67
  go_upto_region 1 with fail
  obtain ⟨W, hW⟩ : ∃ W : World, W = w.alloc (.cells #[.int .i64 P, .int .i64 m, .slice am mn cm] 24) := ⟨_, rfl⟩
  rw [← hW]
  have hbW : Below w.heap.size w W := by rw [hW]; exact below1 _ _
  have x0 : Box W w.heap.size [.int .i64 P, .int .i64 m, .slice am mn cm] := by rw [hW]; exact Box.new _ _ _ rfl
  have HX := Lib.hid x0
  have HbW := Lib.hid hbW
  have hxW := hx.keep hbW
  have hiW := hi.keep hbW
  clear hW x0
  go_wp2_with (at_make; refine wpList_mk rfl _ _ 22 3 rfl (.int .i64 0) 8 Tryz.underlying22 infoInt rfl cols rfl rfl (by omega) (by unfold maxLen; omega) ?_; intro a5 w5 hown hbel hge hlt)
  have hown0 : w5.ownsRow W.heap.size 3 1 (.slice a5 cols cols) cols ((cmbTo O cols x L 0).map (Value.int .i64)) := by rw [Hz.out]; exact hown
  clear hown hge hlt
  go_loopw [9, 10] (fun ov iv wr => ∃ (k : Nat) (a1 : Option Addr) (c1 : Nat), k ≤ n ∧ iv = .int .i64 k ∧ ov = .slice a1 cols c1 ∧ wr.ownsRow W.heap.size 3 1 (.slice a1 cols c1) cols ((cmbTo O cols x L k).map (Value.int .i64)) ∧ Below W.heap.size W wr) (fun _ iv _ => n - (intOf iv).toNat)
  case atStart => exact ⟨0, a5, cols, Nat.zero_le _, rfl, rfl, hown0, hbel⟩
  case round =>
    clear hown0 hbel
    obtain ⟨k, a1, c1, hk, rfl, rfl, hown, hbr⟩ := hrel
    by_cases hlt : k < n
    · have cxk := (hxW.keep hbr).cell k hlt
      have hrow := HR.out.row (i := k) (by rw [Hil.out]; exact hlt)
      obtain ⟨ra, rn, rc, er, ir⟩ := (hiW.keep hbr).cell k hlt
      have hrn : rn = cols := by rw [← ir.len]; exact hrow.1
      rw [hrn] at er ir
      clear hrn hrow
      by_cases h0 : nth x k = 0
      · have h0' : (nth x k != 0) = false := by simpa using h0
        have Hn : Hid (cmbTo O cols x L (k + 1) = cmbTo O cols x L k) := by show _ = _; rw [cmbTo, if_pos h0]
        clear h0
        go_wp2_with fail
        go_roundw
        case rel => exact ⟨k + 1, a1, c1, by omega, by go_num, rfl, by rw [Hn.out]; exact hown, hbr⟩
        case measure => simp [intOf] <;> omega
      · have h0' : (nth x k != 0) = true := by simpa using h0
        have Hn : Hid (cmbTo O cols x L (k + 1) = addRow O (cmbTo O cols x L k) (nth x k) (nthR L k)) := by show _ = _; rw [cmbTo, if_neg h0]
        have hbwr := Below.next HbW.out hbr
        have Hk := Lib.hid (HA.out wr k a1 c1 ra rc hlt hbwr (Ints.own hown).1 ir)
        have HS2 : Hid (∀ V, Below wr.heap.size wr V → V.cell? ⟨w.heap.size, 0, none⟩ = some (.int .i64 P) ∧ V.cell? ⟨w.heap.size, 1, none⟩ = some (.int .i64 m) ∧ V.cell? ⟨w.heap.size, 2, none⟩ = some (.slice am mn cm) ∧
            V.cell? ⟨ablk ax, aoff ax + k, none⟩ = some (.int .i64 (nth x k)) ∧ V.cell? ⟨ablk a, aoff a + k, none⟩ = some (.slice ra cols rc) ∧ Below wr.heap.size wr V) := fun V hV => by
          have x1 := HX.out.keep (Below.next hbr hV)
          exact ⟨x1.cell 0 rfl, x1.cell 1 rfl, x1.cell 2 rfl, cell_keep hV cxk, cell_keep hV er, hV⟩
        have Hbr := Lib.hid hbr
        have hszr := hbr.size
        clear h0 hbr hown ir HA
        go_wp2_with fail
        go_region_held3 (fun V => V.cell? ⟨w.heap.size, 0, none⟩ = some (.int .i64 P) ∧ V.cell? ⟨w.heap.size, 1, none⟩ = some (.int .i64 m) ∧ V.cell? ⟨w.heap.size, 2, none⟩ = some (.slice am mn cm) ∧
            V.cell? ⟨ablk ax, aoff ax + k, none⟩ = some (.int .i64 (nth x k)) ∧ V.cell? ⟨ablk a, aoff a + k, none⟩ = some (.slice ra cols rc) ∧ Below wr.heap.size wr V)
          ((refine HS2.out _ ?_; first | exact (Below.refl _ _).drew | exact Below.next (Below.refl _ _).drew hb4))
          (first
            | (go_at_call 113; ((with_reducible refine (Hk.out _ (Below.refl _ _).drew).mono ?_); rintro e w4 ⟨a4, c4, rfl, hown4, hb4⟩)))
        have hbr4 := Below.next Hbr.out (Below.next (Below.refl _ _).drew hb4)
        have hown5 := own_mono hown4 (show W.heap.size ≤ wr.drew.heap.size from hszr)
        go_wp2_with fail
        go_roundw
        case rel => exact ⟨k + 1, a4, c4, by omega, by go_num, rfl, by rw [Hn.out]; exact hown5, hbr4⟩
        case measure => simp [intOf] <;> omega
    · obtain rfl : k = n := by omega
      have hF := own_mono hown HbW.out.size
      have HF := Lib.hid hF
      have hbF := Below.next HbW.out hbr
      clear hF hown
      go_wp2_with fail
      go_ret
      exact ⟨a1, c1, rfl, HF.out, hbF⟩

/-- the error of a list of n elements -/
def lstE (q : Int) (l : List Int) (n : Nat) : Int := if l.length = n then elsE q l else 4

set_option maxHeartbeats 1600000 in
theorem rList12_any (P M : Int) (am : Option Addr) (mn cm : Nat) (a : Option Addr) (n c : Nat) (l : List Int) (k : Nat) (w : World) (hi : Ints w a n l) :
    Calls Tryz.prog 53 #[.agg #[.int .i64 P, .int .i64 M, .slice am mn cm], .slice a n c, .int .i64 k] w fun e w' => e = .returned (.int .i64 (lstE (orderS P M) l k)) ∧ Below w.heap.size w w' := by
  have hl := hi.len
  go_enter Tryz.func53, Tryz.ntmps53
  go_upto_region 1 with fail
  obtain ⟨W, hW⟩ : ∃ W : World, W = w.alloc (.cells #[.int .i64 P, .int .i64 M, .slice am mn cm] 24) := ⟨_, rfl⟩
  rw [← hW]
  have hbW : Below w.heap.size w W := by rw [hW]; exact below1 _ _
  have x0 : Box W w.heap.size [.int .i64 P, .int .i64 M, .slice am mn cm] := by rw [hW]; exact Box.new _ _ _ rfl
  have c0 := x0.cell 0 rfl
  have c1 := x0.cell 1 rfl
  have c2 := x0.cell 2 rfl
  clear hW x0
  by_cases h1 : n = k
  · have HL : Hid (lstE (orderS P M) l k = elsE (orderS P M) l) := by show _ = _; rw [lstE, if_pos (by omega)]
    have Hc := Lib.hid (rEntries_any P M am mn cm a n c l W (hi.keep hbW))
    have h1' : ((n : Int) != k) = false := by rw [show (n : Int) = k by omega]; simp
    clear h1 hl
    generalize elsE (orderS P M) l = er at *
    go_wp2_with fail
    refine Hc.out.mono ?_
    rintro e w1 ⟨rfl, hb1⟩
    have hF := Below.next hbW hb1
    go_wp2_with fail
    go_ret
    exact ⟨ret_int HL.out.symm, hF⟩
  · have HL : Hid (lstE (orderS P M) l k = 4) := by show _ = _; rw [lstE, if_neg (by omega)]
    have h1' : ((n : Int) != k) = true := by simp only [bne_iff_ne, ne_eq]; omega
    clear h1 hl
    go_wp2_with fail
    go_ret
    exact ⟨ret_int HL.out.symm, hbW⟩

/-- the error of a code and a message -/
def encE (P M : Int) (mod : List Int) (N : Int) (L : List (List Int)) (x : List Int) : Int := if codeE P M mod N L = 0 then lstE (orderS P M) x L.length else codeE P M mod N L
theorem encE_zero {P M : Int} {mod : List Int} {N : Int} {L : List (List Int)} {x : List Int} (h : encE P M mod N L x = 0) : codeE P M mod N L = 0 ∧ x.length = L.length ∧ ∀ k, k < L.length → (tblOf P M.toNat mod).El (nth x k) := by
  unfold encE at h
  split at h
  · rename_i hE
    refine ⟨hE, ?_⟩
    unfold lstE at h
    split at h
    · rename_i hl
      refine ⟨hl, fun k hk => ?_⟩
      unfold elsE at h
      split at h
      · rename_i hq
        obtain ⟨m, rfl, hel, hq2, _⟩ := eq_ops (codeE_zero hE).1
        unfold elsQ at hq
        have h3 := List.all_eq_true.1 hq _ (nth_mem (i := k) (by rw [hl]; exact hk))
        unfold isQ at h3
        rw [Int.toNat_natCast]
        unfold Tbl.El
        rw [← hq2] at h3
        simpa using h3
      · omega
    · omega
  · rename_i h1; exact absurd h h1
def EncPost (P M : Int) (mod : List Int) (N : Int) (L : List (List Int)) (x : List Int) (w : World) (e : Ending) (w' : World) : Prop :=
  Below w.heap.size w w' ∧ ((encE P M mod N L x ≠ 0 ∧ e = .returned (.tuple #[.slice none 0 0, .int .i64 (encE P M mod N L x)])) ∨
    (encE P M mod N L x = 0 ∧ ∃ (m : Nat), N = m ∧ ∃ a1 c1, e = .returned (.tuple #[.slice a1 m c1, .int .i64 0]) ∧ Ints w' a1 m (cmbTo (tblOf P M.toNat mod).ops m x L L.length)))

set_option maxRecDepth 100000 in
set_option maxHeartbeats 4000000 in
theorem rEncode_any (P M : Int) (am : Option Addr) (mn cm : Nat) (mod : List Int) (N : Int) (a : Option Addr) (n c : Nat) (L : List (List Int)) (ax : Option Addr) (nx cx : Nat) (x : List Int) (w : World)
    (hmod : Ints w am mn mod) (hi : Mat w a n L) (hx : Ints w ax nx x) :
    Calls Tryz.prog 21 #[.agg #[.int .i64 P, .int .i64 M, .slice am mn cm, .int .i64 N, .slice a n c], .slice ax nx cx] w (EncPost P M mod N L x w) := by
  have hil := hi.len
  have Hil := Lib.hid hil
  go_enter Tryz.func21, Tryz.ntmps21
  go_wp2_with fail
  obtain ⟨W, hW⟩ : ∃ W : World, W = w.alloc (.cells #[.int .i64 P, .int .i64 M, .slice am mn cm, .int .i64 N, .slice a n c] 27) := ⟨_, rfl⟩
  rw [← hW]
  have hbW : Below w.heap.size w W := by rw [hW]; exact below1 _ _
  have x0 : Box W w.heap.size [.int .i64 P, .int .i64 M, .slice am mn cm, .int .i64 N, .slice a n c] := by rw [hW]; exact Box.new _ _ _ rfl
  have hS : ∀ V, Below W.heap.size W V → V.cell? ⟨w.heap.size, 0, none⟩ = some (.int .i64 P) ∧ V.cell? ⟨w.heap.size, 1, none⟩ = some (.int .i64 M) ∧ V.cell? ⟨w.heap.size, 2, none⟩ = some (.slice am mn cm) ∧ V.cell? ⟨w.heap.size, 3, none⟩ = some (.int .i64 N) ∧ V.cell? ⟨w.heap.size, 4, none⟩ = some (.slice a n c) := fun V hV => by
    have x1 := x0.keep hV
    exact ⟨x1.cell 0 rfl, x1.cell 1 rfl, x1.cell 2 rfl, x1.cell 3 rfl, x1.cell 4 rfl⟩
  have HS := Lib.hid hS
  have HbW := Lib.hid hbW
  clear hW x0 hS
  have hck := rCodeCheck_any P M am mn cm mod N a n c L W (hmod.keep hbW) (hi.keep hbW) fun h => hinv_all h
  rw [rcodeE_eq] at hck
  have Hck := Lib.hid hck
  clear hck hil
  refine Hck.out.mono ?_
  rintro e w1 ⟨rfl, hb1⟩
  have hbw1 := Below.next hbW hb1
  clear Hck
  by_cases hE : codeE P M mod N L = 0
  · obtain ⟨m, hm, hm1, hm64, _⟩ := codeE_fld hE
    subst hm
    obtain ⟨k, hk, hel, hq, hF, hA, _⟩ := eq_ops (codeE_zero hE).1
    subst hk
    obtain ⟨k', e2, hrf, hmods⟩ := fieldRB_rf (P := P) (M := (k : Int)) (mod := mod) (by rw [fieldRB_eq]; exact (codeE_zero hE).1)
    obtain rfl : k = k' := by omega
    have hR := (codeE_rws hE).choose_spec.2.2.2.2
    have hn : n ≤ 256 := by rw [← Hil.out]; exact (codeE_rws hE).choose_spec.2.2.2.1
    have hEn : encE P k mod m L x = lstE (orderS P k) x n := by rw [encE, if_pos hE, Hil.out]
    have HL := Lib.hid (rList12_any P k am mn cm ax nx cx x n w1 (hx.keep hbw1))
    obtain ⟨c0, c1, c2, c3, c4⟩ := HS.out w1 hb1
    by_cases hl : lstE (orderS P k) x n = 0
    · have hz : encE P k mod m L x = 0 := hEn.trans hl
      obtain ⟨_, hxl, hxe⟩ := encE_zero hz
      have hnx : nx = n := by rw [← hx.len, hxl]; exact Hil.out
      subst hnx
      have hRm : Rws (tblOf P k mod).El m L := by
        have h := codeE_fld hE
        obtain ⟨m', em, _, _, _, h⟩ := h
        obtain rfl : m = m' := by omega
        rw [Int.toNat_natCast] at h
        exact h
      rw [Int.toNat_natCast] at hxe
      rw [← hel] at hRm hxe
      have hag := cmbTo_agr hF hA hRm hxe
      have HC : Hid (∀ V, Below w.heap.size w V → Calls Tryz.prog 67 #[.agg #[.int .i64 P, .int .i64 k, .slice am mn cm], .slice ax nx cx, .slice a nx c, .int .i64 m] V fun e w' =>
          Below V.heap.size V w' ∧ ∃ a1 c1, e = .returned (.slice a1 m c1) ∧ Ints w' a1 m (cmbTo (tblOf P k mod).ops m x L L.length)) := fun V hV => by
        refine (rCombine_any P k am mn cm mod ax cx x a nx c L m V ⟨hrf, hmods V am mn (hmod.keep hV)⟩ (hx.keep hV) (hi.keep hV) (fun j hj => hxe j (by rw [Hil.out]; exact hj)) hRm
          (fun j hj => by rw [← hag j (by rw [Hil.out]; exact hj)]; exact (cmb_rs hF hRm hxe j (by rw [Hil.out]; exact hj)).1) (by omega) (by omega)).mono ?_
        rintro e w' ⟨a1, c1, rfl, hown, hb⟩
        refine ⟨hb, a1, c1, rfl, ?_⟩
        rw [hag _ (Nat.le_refl _), Hil.out]
        exact (Ints.own hown).1
      have HP : Hid (∀ a1 c1 w', Below w.heap.size w w' → Ints w' a1 m (cmbTo (tblOf P k mod).ops m x L L.length) → EncPost P k mod m L x w (.returned (.tuple #[.slice a1 m c1, .int .i64 0])) w') := fun a1 c1 w' h1 h2 =>
        ⟨h1, .inr ⟨hz, m, rfl, a1, c1, rfl, by rw [Int.toNat_natCast]; exact h2⟩⟩
      rw [hE]
      rw [hl] at HL
      clear hE hEn hl hz hxl hxe hRm hag hel hq hF hA hrf hmods e2 hR
      go_wp2_with fail
      refine HL.out.mono ?_
      rintro e w2 ⟨rfl, hb2⟩
      have hb12 := Below.next hb1 hb2
      clear c0 c1 c2 c3 c4 HL
      obtain ⟨c0, c1, c2, c3, c4⟩ := HS.out w2 hb12
      have Hc := Lib.hid (HC.out w2 (Below.next HbW.out hb12))
      clear HC
      go_wp2_with fail
      refine Hc.out.mono ?_
      rintro e w3 ⟨hb3, a1, c1', rfl, hI3⟩
      have HF := Lib.hid (HP.out a1 c1' w3 (Below.next HbW.out (Below.next hb12 hb3)) hI3)
      clear HP hI3 Hc
      go_wp2_with fail
      go_ret2
      exact HF.out
    · have hl' : (lstE (orderS P k) x n != 0) = true := by simpa using hl
      have hnz : encE P k mod m L x ≠ 0 := by rw [hEn]; exact hl
      have HP : Hid (∀ w', Below w.heap.size w w' → EncPost P k mod m L x w (.returned (.tuple #[.slice none 0 0, .int .i64 (lstE (orderS P k) x n)])) w') := fun w' h1 => ⟨h1, .inl ⟨hnz, by rw [hEn]⟩⟩
      rw [hE]
      clear hE hEn hnz hl hel hq hF hA hrf hmods e2 hR
      generalize lstE (orderS P k) x n = er at *
      go_wp2_with fail
      refine HL.out.mono ?_
      rintro e w2 ⟨rfl, hb2⟩
      have HF := Lib.hid (HP.out w2 (Below.next hbw1 hb2))
      clear HP HL
      go_wp2_with fail
      go_ret2
      exact HF.out
  · have hE1 : (codeE P M mod N L == 0) = false := by simpa using hE
    have hE2 : (codeE P M mod N L != 0) = true := by simpa using hE
    have hEn : encE P M mod N L x = codeE P M mod N L := by rw [encE, if_neg hE]
    have HP : Hid (EncPost P M mod N L x w (.returned (.tuple #[.slice none 0 0, .int .i64 (codeE P M mod N L)])) w1) := ⟨hbw1, .inl ⟨by rw [hEn]; exact hE, by rw [hEn]⟩⟩
    clear hE hEn
    generalize codeE P M mod N L = er at *
    go_wp2_with fail
    go_ret2
    exact HP.out
end

end Go.Proofs.YtakmnncmeefceaaGreat
