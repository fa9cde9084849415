/- The walks of the references: Combine of layer 09, List and Encode of layer 12. -/
import Derived.Test.YtapjcccpokhhhaaGreatG25
import Derived.Test.YtapjcccpokhhhaaGreatG26
import Derived.Test.YtapjcccpokhhhaaGreatG20
namespace Go.Proofs.YtapjcccpokhhhaaGreat
set_option linter.unusedVariables false
set_option linter.unusedSimpArgs false
set_option linter.unusedSectionVars false

/- The walk of codewrightref25.Systematic (the contract of codewrightref09.Mul still as an argument). -/
section
open Go.RowKit

theorem Box.setC {w : World} {b : Nat} {cs : List Value} (h : Box w b cs) (i : Nat) (v : Value) : Box (w.setCell ⟨b, i, none⟩ v) b (cs.set i v) := by
  refine ⟨by simpa using h.1, fun j u hu => ?_, fun j => by rw [World.frozen?_setCell]; exact h.2.2 j⟩
  by_cases e : j = i
  · subst e
    by_cases hl : j < cs.length
    · rw [List.getElem?_set_self hl] at hu
      cases hu
      exact World.cell?_setCell_same _ _ _ (h.2.1 j cs[j] (List.getElem?_eq_getElem hl))
    · rw [List.set_eq_of_length_le (by omega), List.getElem?_eq_none (by omega)] at hu
      cases hu
  · rw [List.getElem?_set_ne (by omega)] at hu
    rw [World.cell?_setCell_other _ _ _ _ (by simp <;> omega)]
    exact h.2.1 j u hu

set_option maxRecDepth 100000 in
set_option maxHeartbeats 8000000 in
theorem rSystematic25_any (P M : Int) (am : Option Addr) (mn cm : Nat) (mod : List Int) (N : Int) (a : Option Addr) (n c : Nat) (L : List (List Int)) (ao : Option Addr) (no co : Nat) (Q : List Int) (w : World)
    (hMu : ∀ (k m : Nat) (a1 c1 : _) (A : List (List Int)) (V : World), Ints V am mn mod → Mat V a1 k A → Mat V a k L → fieldB P M mod = true → Rws (tblOf P M.toNat mod).El k A → Rws (tblOf P M.toNat mod).El m L → k ≤ 64 → 1 ≤ m → m ≤ 64 →
      Calls Tryz.prog 74 #[.agg #[.int .i64 P, .int .i64 M, .slice am mn cm], .agg #[.int .i64 k, .slice a1 k c1], .agg #[.int .i64 m, .slice a k c]] V fun e w' => ∃ a3 c3, e = .returned (.tuple #[.agg #[.int .i64 m, .slice a3 k c3], .int .i64 0]) ∧ MatN V.heap.size w' a3 k (mtL (tblOf P M.toNat mod).ops m A L) ∧ Below V.heap.size V w')
    (hmod : Ints w am mn mod) (hi : Mat w a n L) (hq : Ints w ao no Q) :
    Calls Tryz.prog 34 #[.agg #[.int .i64 P, .int .i64 M, .slice am mn cm, .int .i64 N, .slice a n c], .slice ao no co] w (SysPost P M mod N L Q w) := by
  have HS1 : Hid (∀ V b, Below w.heap.size w V → V.heap.size = b → Calls Tryz.prog 71 #[.agg #[.int .i64 P, .int .i64 M, .slice am mn cm, .int .i64 N, .slice a n c], .slice (some ⟨b, 0, none⟩) 1 1] (V.alloc (.cells #[.slice ao no co] 22)) fun e w' => e = .returned (.int .i64 (rankE P M mod N L Q)) ∧ Below V.heap.size V w') := fun V b hV hbb => by
    subst hbb
    have hb := Below.next hV (below1 V (.cells #[.slice ao no co] 22))
    refine (rSets_any P M am mn cm mod N a n c L _ 1 1 [Q] _ (hmod.keep hb) (hi.keep hb) (mat_one (c := co) V (hq.keep hV))).mono ?_
    rintro e w' ⟨rfl, h1⟩
    exact ⟨by rw [setsC_one], Below.next (below1 _ _) h1⟩
  have Hql := Lib.hid hq.len
  have Hil := Lib.hid hi.len
  go_enter Tryz.func34, Tryz.ntmps34
  go_wp2_with fail
  obtain ⟨W, hW⟩ : ∃ W : World, W = (w.alloc (.cells #[.int .i64 P, .int .i64 M, .slice am mn cm, .int .i64 N, .slice a n c] 27)).alloc (.cells #[.int .i64 0, .slice none 0 0] 52) := ⟨_, rfl⟩
  rw [← hW]
  have hbW : Below w.heap.size w W := by rw [hW]; exact below2 _ _ _
  have hsW : W.heap.size = w.heap.size + 1 + 1 := by rw [hW]; simp
  have x0 : Box W w.heap.size [.int .i64 P, .int .i64 M, .slice am mn cm, .int .i64 N, .slice a n c] := by rw [hW]; exact (Box.new _ _ _ rfl).alloc _
  have z0 : Box W (w.heap.size + 1) [.int .i64 0, .slice none 0 0] := by rw [hW]; exact Box.new _ _ _ (by simp)
  have hS : ∀ V, Below W.heap.size W V → V.cell? ⟨w.heap.size, 0, none⟩ = some (.int .i64 P) ∧ V.cell? ⟨w.heap.size, 1, none⟩ = some (.int .i64 M) ∧ V.cell? ⟨w.heap.size, 2, none⟩ = some (.slice am mn cm) ∧ V.cell? ⟨w.heap.size, 3, none⟩ = some (.int .i64 N) ∧ V.cell? ⟨w.heap.size, 4, none⟩ = some (.slice a n c) ∧
      Box V (w.heap.size + 1) [.int .i64 0, .slice none 0 0] := fun V hV => by
    have x1 := x0.keep hV
    exact ⟨x1.cell 0 rfl, x1.cell 1 rfl, x1.cell 2 rfl, x1.cell 3 rfl, x1.cell 4 rfl, z0.keep hV⟩
  have HS := Lib.hid hS
  have HbW := Lib.hid hbW
  have HsW := Lib.hid hsW
  obtain ⟨c0, c1, c2, c3, c4, _⟩ := HS.out W (Below.refl _ _)
  have H1 := Lib.hid (HS1.out W _ hbW hsW)
  clear hW x0 z0 hS HS1 hsW
  refine H1.out.mono ?_
  rintro e w1 ⟨rfl, hb1⟩
  have hbw1 := Below.next hbW hb1
  have hend : ∀ er : Int, sysE P M mod N L Q ≠ 0 → sysE P M mod N L Q = er → SysPost P M mod N L Q w (.returned (.tuple #[.agg #[.int .i64 0, .slice none 0 0], .int .i64 er])) ((w1.setCell ⟨w.heap.size + 1, 0, none⟩ (.int .i64 0)).setCell ⟨w.heap.size + 1, 1, none⟩ (.slice none 0 0)) := fun er h0 h1 =>
    ⟨(hbw1.setCell (p := ⟨w.heap.size + 1, 0, none⟩) (by simp) _).setCell (p := ⟨w.heap.size + 1, 1, none⟩) (by simp) _, .inl ⟨h0, by rw [h1]⟩⟩
  have Hend := Lib.hid hend
  have zz := (HS.out w1 hb1).2.2.2.2.2
  have z0 := zz.cell 0 rfl
  have z1 := zz.cell 1 rfl
  have f0 := zz.frozen 0
  have f1 := zz.frozen 1
  clear hend zz hbW c0 c1 c2 c3 c4 H1
  by_cases hr : rankE P M mod N L Q = 0
  rotate_left
  · have hs : sysE P M mod N L Q = rankE P M mod N L Q := by rw [sysE, if_pos hr]
    have HF := Lib.hid (Hend.out (rankE P M mod N L Q) (by rw [hs]; exact hr) hs)
    have hr' : (rankE P M mod N L Q != 0) = true := by simpa using hr
    clear hr hs Hend
    generalize rankE P M mod N L Q = er at *
    go_wp2_with fail
    exact bodyPost_ret (v := .tuple #[.agg #[.int .i64 0, .slice none 0 0], .int .i64 er]) (by simp [results, Tryz.results34, go_sem, z0, z1]) rfl HF.out
  obtain ⟨hE, hok⟩ := rankE_z hr
  obtain ⟨m, rfl, hm1, hm64, F, hR⟩ := codeE_fld hE
  have hQ : InN m Q := set_in hok
  have hqm : (Q.length : Int) ≤ m := okSet_len hok (by omega)
  have hno64 : no ≤ 64 := by rw [← Hql.out]; omega
  have hin := rInfo_any P M am mn cm mod m a n c L ao no co Q w1 (hmod.keep hbw1) (hi.keep hbw1) (hq.keep hbw1) hE hQ (by omega)
  have hsv : isV P M mod m L Q = isB (tblOf P M.toNat mod).ops L Q := isV_of hr
  by_cases hv : isB (tblOf P M.toNat mod).ops L Q = true
  rotate_left
  · have hv' : isB (tblOf P M.toNat mod).ops L Q = false := by simpa using hv
    have hs : sysE P M mod m L Q = 9 := by rw [sysE, if_neg (by simpa using hr), if_neg (by rw [hsv]; exact hv)]
    rw [hv'] at hin
    have Hin := Lib.hid hin
    have HsE := Lib.hid hs
    obtain ⟨c0, c1, c2, c3, c4, _⟩ := HS.out w1 hb1
    rw [hr]
    clear hr hs Hend hv hv' hin hsv hE hok F hR hQ hqm z0 z1 f0 f1
    go_wp2_with fail
    refine Hin.out.mono ?_
    rintro e w2 ⟨rfl, hb2⟩
    have hb12 := Below.next hb1 hb2
    have hbw2 := Below.next hbw1 hb2
    have zz := (HS.out w2 hb12).2.2.2.2.2
    have z0 := zz.cell 0 rfl
    have z1 := zz.cell 1 rfl
    have f0 := zz.frozen 0
    have f1 := zz.frozen 1
    have HF : Hid (SysPost P M mod m L Q w (.returned (.tuple #[.agg #[.int .i64 0, .slice none 0 0], .int .i64 9])) ((w2.setCell ⟨w.heap.size + 1, 0, none⟩ (.int .i64 0)).setCell ⟨w.heap.size + 1, 1, none⟩ (.slice none 0 0))) :=
      ⟨(hbw2.setCell (p := ⟨w.heap.size + 1, 0, none⟩) (by simp) _).setCell (p := ⟨w.heap.size + 1, 1, none⟩) (by simp) _, .inl ⟨by rw [HsE.out]; decide, by rw [HsE.out]⟩⟩
    clear zz c0 c1 c2 c3 c4 Hin
    go_wp2_with fail
    exact bodyPost_ret (v := .tuple #[.agg #[.int .i64 0, .slice none 0 0], .int .i64 9]) (by simp [results, Tryz.results34, go_sem, z0, z1]) rfl HF.out
  have hs0 : sysE P M mod m L Q = 0 := by rw [sysE, if_neg (by simpa using hr), if_pos (by rw [hsv]; exact hv)]
  obtain ⟨hl, hg⟩ := isB_iff.1 hv
  have hno : no = n := by rw [← Hql.out, hl, Hil.out]
  have hn64 : n ≤ 64 := by omega
  have hDr : Rws (tblOf P M.toNat mod).El n (L.map (pickL Q)) := by have h := pick_rws hR hQ; rw [Hql.out, hno] at h; exact h
  have hqn : Q.length = n := by rw [Hql.out]; exact hno
  have hpv := (elim_gr F hR hQ).trans (show (grS (tblOf P M.toNat mod).ops L Q).length = n from hg.trans hqn)
  rw [hqn] at hpv
  have hfB := (codeE_zero hE).1
  have hsyl : sysL (tblOf P M.toNat mod).ops m L Q = mtL (tblOf P M.toNat mod).ops m (invL (tblOf P M.toNat mod).ops (L.map (pickL Q)) n) L := by rw [sysL, hqn]
  have HKp : Hid (∀ V, Below w.heap.size w V → Calls Tryz.prog 39 #[.slice a n c, .slice ao no co] V fun e w' => Below V.heap.size V w' ∧ ∃ a1 c1, e = .returned (.slice a1 n c1) ∧ Mat w' a1 n (L.map (pickL Q))) := fun V hV => by
    refine (rKeep_any m a n c L ao no co Q V (hi.keep hV) (hq.keep hV) (fun r hr => (hR r hr).1) hQ (by omega) (by omega)).mono ?_
    rintro e w' ⟨a1, c1, R, rfl, hO, hb⟩
    exact ⟨hb, a1, c1, rfl, hO.mat⟩
  have HIv : Hid (∀ V a1 c1, Below w.heap.size w V → Mat V a1 n (L.map (pickL Q)) → ∀ V2, Below V.heap.size V V2 → Calls Tryz.prog 73 #[.agg #[.int .i64 P, .int .i64 M, .slice am mn cm], .agg #[.int .i64 n, .slice a1 n c1]] V2 fun e w' =>
      Below V2.heap.size V2 w' ∧ ∃ a2 c2, e = .returned (.tuple #[.agg #[.int .i64 n, .slice a2 n c2], .int .i64 0]) ∧ MatN V2.heap.size w' a2 n (invL (tblOf P M.toNat mod).ops (L.map (pickL Q)) n)) := fun V a1 c1 hV hM V2 hV2 => by
    refine (rInverse_any P M am mn cm mod n a1 c1 _ V2 (hmod.keep (Below.next hV hV2)) (hM.keep hV2) hfB hDr hn64 hpv).mono ?_
    rintro e w' ⟨a2, c2, rfl, hN, hb⟩
    exact ⟨hb, a2, c2, rfl, hN⟩
  have HMl : Hid (∀ V a2 c2, Below w.heap.size w V → Mat V a2 n (invL (tblOf P M.toNat mod).ops (L.map (pickL Q)) n) → Calls Tryz.prog 74 #[.agg #[.int .i64 P, .int .i64 M, .slice am mn cm], .agg #[.int .i64 n, .slice a2 n c2], .agg #[.int .i64 m, .slice a n c]] V fun e w' =>
      ∃ a3 c3, e = .returned (.tuple #[.agg #[.int .i64 m, .slice a3 n c3], .int .i64 0]) ∧ MatN V.heap.size w' a3 n (sysL (tblOf P M.toNat mod).ops m L Q) ∧ Below V.heap.size V w') := fun V a2 c2 hV hM => by
    rw [hsyl]
    exact hMu n m a2 c2 _ V (hmod.keep hV) hM (hi.keep hV) hfB (invL_rws F hDr) hR hn64 hm1 hm64
  have Hs0 := Lib.hid hs0
  have HPost : Hid (∀ a3 c3 w', Below w.heap.size w w' → MatN w.heap.size w' a3 n (sysL (tblOf P M.toNat mod).ops m L Q) → SysPost P M mod m L Q w (.returned (.tuple #[.agg #[.int .i64 m, .slice a3 n c3], .int .i64 0])) w') := fun a3 c3 w' h1 h2 => by
    rw [← Hil.out] at h2 ⊢
    exact ⟨h1, .inr ⟨Hs0.out, m, rfl, a3, c3, rfl, h2⟩⟩
  obtain ⟨D, hD⟩ : ∃ D, L.map (pickL Q) = D := ⟨_, rfl⟩
  obtain ⟨Iv, hIv⟩ : ∃ Iv, invL (tblOf P M.toNat mod).ops D n = Iv := ⟨_, rfl⟩
  obtain ⟨Sy, hSy⟩ : ∃ Sy, sysL (tblOf P M.toNat mod).ops m L Q = Sy := ⟨_, rfl⟩
  rw [hD] at HKp HIv HMl
  rw [hIv] at HIv HMl
  rw [hSy] at HMl HPost
  rw [hv] at hin
  have Hin := Lib.hid hin
  obtain ⟨c0, c1, c2, c3, c4, _⟩ := HS.out w1 hb1
  rw [hr]
  obtain rfl : n = no := hno.symm
  clear hr hs0 Hend hv hin hsv hE hok F hR hQ hqm z0 z1 f0 f1 hl hg hDr hqn hpv hfB hsyl hD hIv hSy hmod hi hq
  go_wp2_with fail
  refine Hin.out.mono ?_
  rintro e w2 ⟨rfl, hb2⟩
  have hb12 := Below.next hb1 hb2
  have HS2 : Hid (∀ V, Below w2.heap.size w2 V → V.cell? ⟨w.heap.size, 0, none⟩ = some (.int .i64 P) ∧ V.cell? ⟨w.heap.size, 1, none⟩ = some (.int .i64 M) ∧ V.cell? ⟨w.heap.size, 2, none⟩ = some (.slice am mn cm) ∧ V.cell? ⟨w.heap.size, 3, none⟩ = some (.int .i64 m) ∧ V.cell? ⟨w.heap.size, 4, none⟩ = some (.slice a n c) ∧ Below w2.heap.size w2 V) := fun V hV => by
    obtain ⟨q0, q1, q2, q3, q4, _⟩ := HS.out V (Below.next hb12 hV)
    exact ⟨q0, q1, q2, q3, q4, hV⟩
  have Hbw2 := Lib.hid (Below.next HbW.out hb12)
  clear c0 c1 c2 c3 c4 Hin
  go_wp2_with fail
  go_cut [7, 8] (fun v u wx => ∃ g a2 c2, v = .pointer (some ⟨g, 0, none⟩) ∧ u = .int .i64 0 ∧ wx.cell? ⟨g, 0, none⟩ = some (.int .i64 n) ∧ wx.cell? ⟨g, 1, none⟩ = some (.slice a2 n c2) ∧ Mat wx a2 n Iv ∧ Below w2.heap.size w2 wx)
  case first =>
    refine wp_region_held_drew (S := (fun V => V.cell? ⟨w.heap.size, 0, none⟩ = some (.int .i64 P) ∧ V.cell? ⟨w.heap.size, 1, none⟩ = some (.int .i64 M) ∧ V.cell? ⟨w.heap.size, 2, none⟩ = some (.slice am mn cm) ∧ V.cell? ⟨w.heap.size, 3, none⟩ = some (.int .i64 m) ∧ V.cell? ⟨w.heap.size, 4, none⟩ = some (.slice a n c) ∧ Below w2.heap.size w2 V)) (by kernel_rfl) ?_ (fun hHeld => ?_)
    · exact HS2.out _ (Below.refl _ _).drew
    refine wpAnyH_take (i := 0) (v := ?_) (by simp only [List.getElem?_toArray, List.getElem?_cons_succ, List.getElem?_cons_zero]; rfl) (by kernel_rfl) (by kernel_rfl) (by kernel_rfl) (by exact fun _ _ _ h => h) (Or.inl ⟨by rfl, ?_⟩) (by assumption) ?_
    rotate_left
    · (intro w hSw; (try dsimp only at hSw); go_split_ands; go_simp; first | done | with_reducible rfl)
    try simp only [Act.put, List.setIfInBounds_toArray, List.set_cons_zero, List.set_cons_succ]
    refine wpAnyH_take (i := 1) (v := ?_) (by simp only [List.getElem?_toArray, List.getElem?_cons_succ, List.getElem?_cons_zero]; rfl) (by kernel_rfl) (by kernel_rfl) (by kernel_rfl) (by exact fun _ _ _ h => h) (Or.inl ⟨by rfl, ?_⟩) (by assumption) ?_
    rotate_left
    · (intro w hSw; (try dsimp only at hSw); go_split_ands; go_simp; first | done | with_reducible rfl)
    try simp only [Act.put, List.setIfInBounds_toArray, List.set_cons_zero, List.set_cons_succ]
    refine wpAnyH_take (i := 2) (v := ?_) (by simp only [List.getElem?_toArray, List.getElem?_cons_succ, List.getElem?_cons_zero]; rfl) (by kernel_rfl) (by kernel_rfl) (by kernel_rfl) (by exact fun _ _ _ h => h) (Or.inl ⟨by rfl, ?_⟩) (by assumption) ?_
    rotate_left
    · (intro w hSw; (try dsimp only at hSw); go_split_ands; go_simp; first | done | with_reducible rfl)
    try simp only [Act.put, List.setIfInBounds_toArray, List.set_cons_zero, List.set_cons_succ]
    refine wpAnyH_take (i := 3) (v := ?_) (by simp only [List.getElem?_toArray, List.getElem?_cons_succ, List.getElem?_cons_zero]; rfl) (by kernel_rfl) (by kernel_rfl) (by kernel_rfl) (by exact fun _ _ _ h => h) (Or.inl ⟨by rfl, ?_⟩) (by assumption) ?_
    rotate_left
    · (intro w hSw; (try dsimp only at hSw); go_split_ands; go_simp; first | done | with_reducible rfl)
    try simp only [Act.put, List.setIfInBounds_toArray, List.set_cons_zero, List.set_cons_succ]
    refine wpAnyH_take (i := 4) (v := ?_) (by simp only [List.getElem?_toArray, List.getElem?_cons_succ, List.getElem?_cons_zero]; rfl) (by kernel_rfl) (by kernel_rfl) (by kernel_rfl) (by exact fun _ _ _ h => h) (Or.inl ⟨by rfl, ?_⟩) (by assumption) ?_
    rotate_left
    · (intro w hSw; (try dsimp only at hSw); go_split_ands; go_simp; first | done | with_reducible rfl)
    try simp only [Act.put, List.setIfInBounds_toArray, List.set_cons_zero, List.set_cons_succ]
    refine wpAnyH_take (i := 5) (v := ?_) (by simp only [List.getElem?_toArray, List.getElem?_cons_succ, List.getElem?_cons_zero]; rfl) (by kernel_rfl) (by kernel_rfl) (by kernel_rfl) (by exact fun _ _ _ h => h) (Or.inl ⟨by rfl, ?_⟩) (by assumption) ?_
    rotate_left
    · (intro w hSw; (try dsimp only at hSw); go_split_ands; go_simp; first | done | with_reducible rfl)
    try simp only [Act.put, List.setIfInBounds_toArray, List.set_cons_zero, List.set_cons_succ]
    refine wpAnyH_take (i := 6) (v := ?_) (by simp only [List.getElem?_toArray, List.getElem?_cons_succ, List.getElem?_cons_zero]; rfl) (by kernel_rfl) (by kernel_rfl) (by kernel_rfl) (by exact fun _ _ _ h => h) (Or.inl ⟨by rfl, ?_⟩) (by assumption) ?_
    rotate_left
    · (intro w hSw; (try dsimp only at hSw); go_split_ands; go_simp; first | done | with_reducible rfl)
    try simp only [Act.put, List.setIfInBounds_toArray, List.set_cons_zero, List.set_cons_succ]
    refine wpAnyH_ready (rs := [7, 13]) (by kernel_rfl) (by simp) ?_
    refine AllReadyH.cons rfl (fun K hK => ?_) (AllReadyH.cons rfl (fun K hK => ?_) (AllReadyH.nil))
    · go_simp
      refine (HKp.out _ (Below.next Hbw2.out (by first | exact hbZ | exact (Below.refl _ _).drew))).mono ?_; rintro e w7 ⟨hb7', a7, k7, rfl, hM7⟩
      go_wp2_with fail
      have hb7 : Below w2.heap.size w2 w7 := (by first | exact Below.next hbZ hb7' | exact Below.next (Below.refl _ _).drew hb7')
      have Hr2 := Lib.hid (HIv.out w7 a7 k7 (Below.next Hbw2.out hb7) hM7)
      clear hM7
      first | have hZb := hZa.keep hb7' | skip
      refine hK.out _ _ ?_ (fun hHeld => ?_)
      · exact HS2.out _ hb7
      clear hK K
      try simp only [Act.put, List.setIfInBounds_toArray, List.set_cons_zero, List.set_cons_succ]
      refine wpAnyH_take (i := 8) (v := ?_) (by simp only [List.getElem?_toArray, List.getElem?_cons_succ, List.getElem?_cons_zero]; rfl) (by kernel_rfl) (by kernel_rfl) (by kernel_rfl) (by exact fun _ _ _ h => h) (Or.inl ⟨by rfl, ?_⟩) (by assumption) ?_
      rotate_left
      · (intro w hSw; (try dsimp only at hSw); go_split_ands; go_simp; first | done | with_reducible rfl)
      try simp only [Act.put, List.setIfInBounds_toArray, List.set_cons_zero, List.set_cons_succ]
      refine wpAnyH_ready (rs := [9, 13]) (by kernel_rfl) (by simp) ?_
      refine AllReadyH.cons rfl (fun K hK => ?_) (AllReadyH.cons rfl (fun K hK => ?_) (AllReadyH.nil))
      · go_simp
        refine (Hr2.out _ (by first | exact Below.refl _ _ | exact below1 _ _)).mono ?_; rintro e w8 ⟨hb8', a8, k8, rfl, hM8⟩
        go_wp2_with fail
        have hb8 : Below w2.heap.size w2 w8 := (by first | exact Below.next hb7 hb8' | exact Below.next (Below.allocN hb7 _) hb8')
        first | (have hZc := hZb.keep hb8'; have z0 := hZc.cell 0 rfl; have z1 := hZc.cell 1 rfl; have f0 := hZc.frozen 0; have f1 := hZc.frozen 1) | (have hZc := hZa.keep hb8'; have z0 := hZc.cell 0 rfl; have z1 := hZc.cell 1 rfl; have f0 := hZc.frozen 0; have f1 := hZc.frozen 1) | skip
        refine hK.out _ _ ?_ (fun hHeld => ?_)
        · exact HS2.out _ hb8
        clear hK K
        try simp only [Act.put, List.setIfInBounds_toArray, List.set_cons_zero, List.set_cons_succ]
        refine wpAnyH_take (i := 10) (v := ?_) (by simp only [List.getElem?_toArray, List.getElem?_cons_succ, List.getElem?_cons_zero]; rfl) (by kernel_rfl) (by kernel_rfl) (by kernel_rfl) (by exact fun _ _ _ h => h) (Or.inl ⟨by rfl, ?_⟩) (by assumption) ?_
        rotate_left
        · (intro w hSw; (try dsimp only at hSw); go_split_ands; go_simp; first | done | with_reducible rfl)
        try simp only [Act.put, List.setIfInBounds_toArray, List.set_cons_zero, List.set_cons_succ]
        refine wpAnyH_take (i := 11) (v := ?_) (by simp only [List.getElem?_toArray, List.getElem?_cons_succ, List.getElem?_cons_zero]; rfl) (by kernel_rfl) (by kernel_rfl) (by kernel_rfl) (by exact fun _ _ _ h => h) (Or.inl ⟨by rfl, ?_⟩) (by assumption) ?_
        rotate_left
        · (intro w hSw; (try dsimp only at hSw); go_split_ands; go_simp; first | done | with_reducible rfl)
        try simp only [Act.put, List.setIfInBounds_toArray, List.set_cons_zero, List.set_cons_succ]
        refine wpAnyH_take (i := 12) (v := ?_) (by simp only [List.getElem?_toArray, List.getElem?_cons_succ, List.getElem?_cons_zero]; rfl) (by kernel_rfl) (by kernel_rfl) (by kernel_rfl) (by exact fun _ _ _ h => h) (Or.inl ⟨by rfl, ?_⟩) (by assumption) ?_
        rotate_left
        · (intro w hSw; (try dsimp only at hSw); go_split_ands; go_simp; first | done | with_reducible rfl)
        try simp only [Act.put, List.setIfInBounds_toArray, List.set_cons_zero, List.set_cons_succ]
        refine wpAnyH_ready (rs := [13]) (by kernel_rfl) (by simp) ?_
        refine AllReadyH.cons rfl (fun K hK => ?_) (AllReadyH.nil)
        · go_simp
          try go_wp2_with fail
          first | (have hZa := Box.new (g := w8.heap.size) w8 [.int .i64 0, .slice none 0 0] 52 rfl; have hbZ := Below.allocN hb8 (.cells #[.int .i64 0, .slice none 0 0] 52)) | (have hZa := Box.new (g := w7.heap.size) w7 [.int .i64 0, .slice none 0 0] 52 rfl; have hbZ := Below.allocN hb7 (.cells #[.int .i64 0, .slice none 0 0] 52)) | (have hZa := Box.new (g := w2.heap.size) w2.drew [.int .i64 0, .slice none 0 0] 52 rfl; have hbZ := Below.allocN (Below.refl w2.heap.size w2).drew (.cells #[.int .i64 0, .slice none 0 0] 52))
          have y0 := hZa.cell 0 rfl
          have y1 := hZa.cell 1 rfl
          have g0 := hZa.frozen 0
          have g1 := hZa.frozen 1
          refine hK.out _ _ ?_ (fun hHeld => ?_)
          · exact HS2.out _ hbZ
          clear hK K
          try simp only [Act.put, List.setIfInBounds_toArray, List.set_cons_zero, List.set_cons_succ]
          refine wpAnyH_ready (rs := [14]) (by kernel_rfl) (by simp) ?_
          refine AllReadyH.cons rfl (fun K hK => ?_) (AllReadyH.nil)
          · go_simp
            try go_wp2_with fail
            refine hK.out _ _ ?_ (fun hHeld => ?_)
            · first | exact HS2.out _ hbZ | exact HS2.out _ ((hb8.setCell (Nat.le_refl _) _).setCell (Nat.le_refl _) _) | exact HS2.out _ ((hb8.setCell hb7.size _).setCell hb7.size _) | exact HS2.out _ ((hbZ.setCell hb8.size _).setCell hb8.size _) | exact HS2.out _ (Below.allocN hb8 _)
            clear hK K
            try simp only [Act.put, List.setIfInBounds_toArray, List.set_cons_zero, List.set_cons_succ]
            refine wpAnyH_take (i := 15) (v := ?_) (by simp only [List.getElem?_toArray, List.getElem?_cons_succ, List.getElem?_cons_zero]; rfl) (by kernel_rfl) (by kernel_rfl) (by kernel_rfl) (by exact fun _ _ _ h => h) (Or.inl ⟨by rfl, ?_⟩) (by assumption) ?_
            rotate_left
            · (intro w hSw; (try dsimp only at hSw); go_split_ands; go_simp; first | done | with_reducible rfl)
            try simp only [Act.put, List.setIfInBounds_toArray, List.set_cons_zero, List.set_cons_succ]
            refine wpAnyH_done (by kernel_rfl) ?_ _
            go_wp2_with fail
            go_meet
            first
            | exact ⟨w8.heap.size, a8, k8, rfl, rfl, (Box.new (g := w8.heap.size) w8 [.int .i64 n, .slice a8 n k8] 52 rfl).cell 0 rfl, (Box.new (g := w8.heap.size) w8 [.int .i64 n, .slice a8 n k8] 52 rfl).cell 1 rfl, hM8.mat.keep (below1 _ _), Below.allocN hb8 _⟩
            | exact ⟨w2.heap.size, a8, k8, rfl, rfl, ((hZc.setC 0 (.int .i64 n)).setC 1 (.slice a8 n k8)).cell 0 rfl, ((hZc.setC 0 (.int .i64 n)).setC 1 (.slice a8 n k8)).cell 1 rfl, ((hM8.setCell (p := ⟨w2.heap.size, 0, none⟩) (by have h1 := hZb.1; simp only []; omega) _).setCell (p := ⟨w2.heap.size, 1, none⟩) (by have h1 := hZb.1; simp only []; omega) _).mat, (hb8.setCell (p := ⟨w2.heap.size, 0, none⟩) (Nat.le_refl _) _).setCell (p := ⟨w2.heap.size, 1, none⟩) (Nat.le_refl _) _⟩
            | exact ⟨w7.heap.size, a8, k8, rfl, rfl, ((hZc.setC 0 (.int .i64 n)).setC 1 (.slice a8 n k8)).cell 0 rfl, ((hZc.setC 0 (.int .i64 n)).setC 1 (.slice a8 n k8)).cell 1 rfl, ((hM8.setCell (p := ⟨w7.heap.size, 0, none⟩) (by simp) _).setCell (p := ⟨w7.heap.size, 1, none⟩) (by simp) _).mat, (hb8.setCell (p := ⟨w7.heap.size, 0, none⟩) hb7.size _).setCell (p := ⟨w7.heap.size, 1, none⟩) hb7.size _⟩
      · go_simp
        try go_wp2_with fail
        first | (have hZa := Box.new (g := w8.heap.size) w8 [.int .i64 0, .slice none 0 0] 52 rfl; have hbZ := Below.allocN hb8 (.cells #[.int .i64 0, .slice none 0 0] 52)) | (have hZa := Box.new (g := w7.heap.size) w7 [.int .i64 0, .slice none 0 0] 52 rfl; have hbZ := Below.allocN hb7 (.cells #[.int .i64 0, .slice none 0 0] 52)) | (have hZa := Box.new (g := w2.heap.size) w2.drew [.int .i64 0, .slice none 0 0] 52 rfl; have hbZ := Below.allocN (Below.refl w2.heap.size w2).drew (.cells #[.int .i64 0, .slice none 0 0] 52))
        have y0 := hZa.cell 0 rfl
        have y1 := hZa.cell 1 rfl
        have g0 := hZa.frozen 0
        have g1 := hZa.frozen 1
        refine hK.out _ _ ?_ (fun hHeld => ?_)
        · exact HS2.out _ hbZ
        clear hK K
        try simp only [Act.put, List.setIfInBounds_toArray, List.set_cons_zero, List.set_cons_succ]
        refine wpAnyH_ready (rs := [9]) (by kernel_rfl) (by simp) ?_
        refine AllReadyH.cons rfl (fun K hK => ?_) (AllReadyH.nil)
        · go_simp
          refine (Hr2.out _ (by first | exact Below.refl _ _ | exact below1 _ _)).mono ?_; rintro e w8 ⟨hb8', a8, k8, rfl, hM8⟩
          go_wp2_with fail
          have hb8 : Below w2.heap.size w2 w8 := (by first | exact Below.next hb7 hb8' | exact Below.next (Below.allocN hb7 _) hb8')
          first | (have hZc := hZb.keep hb8'; have z0 := hZc.cell 0 rfl; have z1 := hZc.cell 1 rfl; have f0 := hZc.frozen 0; have f1 := hZc.frozen 1) | (have hZc := hZa.keep hb8'; have z0 := hZc.cell 0 rfl; have z1 := hZc.cell 1 rfl; have f0 := hZc.frozen 0; have f1 := hZc.frozen 1) | skip
          refine hK.out _ _ ?_ (fun hHeld => ?_)
          · exact HS2.out _ hb8
          clear hK K
          try simp only [Act.put, List.setIfInBounds_toArray, List.set_cons_zero, List.set_cons_succ]
          refine wpAnyH_take (i := 10) (v := ?_) (by simp only [List.getElem?_toArray, List.getElem?_cons_succ, List.getElem?_cons_zero]; rfl) (by kernel_rfl) (by kernel_rfl) (by kernel_rfl) (by exact fun _ _ _ h => h) (Or.inl ⟨by rfl, ?_⟩) (by assumption) ?_
          rotate_left
          · (intro w hSw; (try dsimp only at hSw); go_split_ands; go_simp; first | done | with_reducible rfl)
          try simp only [Act.put, List.setIfInBounds_toArray, List.set_cons_zero, List.set_cons_succ]
          refine wpAnyH_take (i := 11) (v := ?_) (by simp only [List.getElem?_toArray, List.getElem?_cons_succ, List.getElem?_cons_zero]; rfl) (by kernel_rfl) (by kernel_rfl) (by kernel_rfl) (by exact fun _ _ _ h => h) (Or.inl ⟨by rfl, ?_⟩) (by assumption) ?_
          rotate_left
          · (intro w hSw; (try dsimp only at hSw); go_split_ands; go_simp; first | done | with_reducible rfl)
          try simp only [Act.put, List.setIfInBounds_toArray, List.set_cons_zero, List.set_cons_succ]
          refine wpAnyH_take (i := 12) (v := ?_) (by simp only [List.getElem?_toArray, List.getElem?_cons_succ, List.getElem?_cons_zero]; rfl) (by kernel_rfl) (by kernel_rfl) (by kernel_rfl) (by exact fun _ _ _ h => h) (Or.inl ⟨by rfl, ?_⟩) (by assumption) ?_
          rotate_left
          · (intro w hSw; (try dsimp only at hSw); go_split_ands; go_simp; first | done | with_reducible rfl)
          try simp only [Act.put, List.setIfInBounds_toArray, List.set_cons_zero, List.set_cons_succ]
          refine wpAnyH_ready (rs := [14]) (by kernel_rfl) (by simp) ?_
          refine AllReadyH.cons rfl (fun K hK => ?_) (AllReadyH.nil)
          · go_simp
            try go_wp2_with fail
            refine hK.out _ _ ?_ (fun hHeld => ?_)
            · first | exact HS2.out _ hbZ | exact HS2.out _ ((hb8.setCell (Nat.le_refl _) _).setCell (Nat.le_refl _) _) | exact HS2.out _ ((hb8.setCell hb7.size _).setCell hb7.size _) | exact HS2.out _ ((hbZ.setCell hb8.size _).setCell hb8.size _) | exact HS2.out _ (Below.allocN hb8 _)
            clear hK K
            try simp only [Act.put, List.setIfInBounds_toArray, List.set_cons_zero, List.set_cons_succ]
            refine wpAnyH_take (i := 15) (v := ?_) (by simp only [List.getElem?_toArray, List.getElem?_cons_succ, List.getElem?_cons_zero]; rfl) (by kernel_rfl) (by kernel_rfl) (by kernel_rfl) (by exact fun _ _ _ h => h) (Or.inl ⟨by rfl, ?_⟩) (by assumption) ?_
            rotate_left
            · (intro w hSw; (try dsimp only at hSw); go_split_ands; go_simp; first | done | with_reducible rfl)
            try simp only [Act.put, List.setIfInBounds_toArray, List.set_cons_zero, List.set_cons_succ]
            refine wpAnyH_done (by kernel_rfl) ?_ _
            go_wp2_with fail
            go_meet
            first
            | exact ⟨w8.heap.size, a8, k8, rfl, rfl, (Box.new (g := w8.heap.size) w8 [.int .i64 n, .slice a8 n k8] 52 rfl).cell 0 rfl, (Box.new (g := w8.heap.size) w8 [.int .i64 n, .slice a8 n k8] 52 rfl).cell 1 rfl, hM8.mat.keep (below1 _ _), Below.allocN hb8 _⟩
            | exact ⟨w2.heap.size, a8, k8, rfl, rfl, ((hZc.setC 0 (.int .i64 n)).setC 1 (.slice a8 n k8)).cell 0 rfl, ((hZc.setC 0 (.int .i64 n)).setC 1 (.slice a8 n k8)).cell 1 rfl, ((hM8.setCell (p := ⟨w2.heap.size, 0, none⟩) (by have h1 := hZb.1; simp only []; omega) _).setCell (p := ⟨w2.heap.size, 1, none⟩) (by have h1 := hZb.1; simp only []; omega) _).mat, (hb8.setCell (p := ⟨w2.heap.size, 0, none⟩) (Nat.le_refl _) _).setCell (p := ⟨w2.heap.size, 1, none⟩) (Nat.le_refl _) _⟩
            | exact ⟨w7.heap.size, a8, k8, rfl, rfl, ((hZc.setC 0 (.int .i64 n)).setC 1 (.slice a8 n k8)).cell 0 rfl, ((hZc.setC 0 (.int .i64 n)).setC 1 (.slice a8 n k8)).cell 1 rfl, ((hM8.setCell (p := ⟨w7.heap.size, 0, none⟩) (by simp) _).setCell (p := ⟨w7.heap.size, 1, none⟩) (by simp) _).mat, (hb8.setCell (p := ⟨w7.heap.size, 0, none⟩) hb7.size _).setCell (p := ⟨w7.heap.size, 1, none⟩) hb7.size _⟩
    · go_simp
      try go_wp2_with fail
      first | (have hZa := Box.new (g := w8.heap.size) w8 [.int .i64 0, .slice none 0 0] 52 rfl; have hbZ := Below.allocN hb8 (.cells #[.int .i64 0, .slice none 0 0] 52)) | (have hZa := Box.new (g := w7.heap.size) w7 [.int .i64 0, .slice none 0 0] 52 rfl; have hbZ := Below.allocN hb7 (.cells #[.int .i64 0, .slice none 0 0] 52)) | (have hZa := Box.new (g := w2.heap.size) w2.drew [.int .i64 0, .slice none 0 0] 52 rfl; have hbZ := Below.allocN (Below.refl w2.heap.size w2).drew (.cells #[.int .i64 0, .slice none 0 0] 52))
      have y0 := hZa.cell 0 rfl
      have y1 := hZa.cell 1 rfl
      have g0 := hZa.frozen 0
      have g1 := hZa.frozen 1
      refine hK.out _ _ ?_ (fun hHeld => ?_)
      · exact HS2.out _ hbZ
      clear hK K
      try simp only [Act.put, List.setIfInBounds_toArray, List.set_cons_zero, List.set_cons_succ]
      refine wpAnyH_ready (rs := [7]) (by kernel_rfl) (by simp) ?_
      refine AllReadyH.cons rfl (fun K hK => ?_) (AllReadyH.nil)
      · go_simp
        refine (HKp.out _ (Below.next Hbw2.out (by first | exact hbZ | exact (Below.refl _ _).drew))).mono ?_; rintro e w7 ⟨hb7', a7, k7, rfl, hM7⟩
        go_wp2_with fail
        have hb7 : Below w2.heap.size w2 w7 := (by first | exact Below.next hbZ hb7' | exact Below.next (Below.refl _ _).drew hb7')
        have Hr2 := Lib.hid (HIv.out w7 a7 k7 (Below.next Hbw2.out hb7) hM7)
        clear hM7
        first | have hZb := hZa.keep hb7' | skip
        refine hK.out _ _ ?_ (fun hHeld => ?_)
        · exact HS2.out _ hb7
        clear hK K
        try simp only [Act.put, List.setIfInBounds_toArray, List.set_cons_zero, List.set_cons_succ]
        refine wpAnyH_take (i := 8) (v := ?_) (by simp only [List.getElem?_toArray, List.getElem?_cons_succ, List.getElem?_cons_zero]; rfl) (by kernel_rfl) (by kernel_rfl) (by kernel_rfl) (by exact fun _ _ _ h => h) (Or.inl ⟨by rfl, ?_⟩) (by assumption) ?_
        rotate_left
        · (intro w hSw; (try dsimp only at hSw); go_split_ands; go_simp; first | done | with_reducible rfl)
        try simp only [Act.put, List.setIfInBounds_toArray, List.set_cons_zero, List.set_cons_succ]
        refine wpAnyH_ready (rs := [9]) (by kernel_rfl) (by simp) ?_
        refine AllReadyH.cons rfl (fun K hK => ?_) (AllReadyH.nil)
        · go_simp
          refine (Hr2.out _ (by first | exact Below.refl _ _ | exact below1 _ _)).mono ?_; rintro e w8 ⟨hb8', a8, k8, rfl, hM8⟩
          go_wp2_with fail
          have hb8 : Below w2.heap.size w2 w8 := (by first | exact Below.next hb7 hb8' | exact Below.next (Below.allocN hb7 _) hb8')
          first | (have hZc := hZb.keep hb8'; have z0 := hZc.cell 0 rfl; have z1 := hZc.cell 1 rfl; have f0 := hZc.frozen 0; have f1 := hZc.frozen 1) | (have hZc := hZa.keep hb8'; have z0 := hZc.cell 0 rfl; have z1 := hZc.cell 1 rfl; have f0 := hZc.frozen 0; have f1 := hZc.frozen 1) | skip
          refine hK.out _ _ ?_ (fun hHeld => ?_)
          · exact HS2.out _ hb8
          clear hK K
          try simp only [Act.put, List.setIfInBounds_toArray, List.set_cons_zero, List.set_cons_succ]
          refine wpAnyH_take (i := 10) (v := ?_) (by simp only [List.getElem?_toArray, List.getElem?_cons_succ, List.getElem?_cons_zero]; rfl) (by kernel_rfl) (by kernel_rfl) (by kernel_rfl) (by exact fun _ _ _ h => h) (Or.inl ⟨by rfl, ?_⟩) (by assumption) ?_
          rotate_left
          · (intro w hSw; (try dsimp only at hSw); go_split_ands; go_simp; first | done | with_reducible rfl)
          try simp only [Act.put, List.setIfInBounds_toArray, List.set_cons_zero, List.set_cons_succ]
          refine wpAnyH_take (i := 11) (v := ?_) (by simp only [List.getElem?_toArray, List.getElem?_cons_succ, List.getElem?_cons_zero]; rfl) (by kernel_rfl) (by kernel_rfl) (by kernel_rfl) (by exact fun _ _ _ h => h) (Or.inl ⟨by rfl, ?_⟩) (by assumption) ?_
          rotate_left
          · (intro w hSw; (try dsimp only at hSw); go_split_ands; go_simp; first | done | with_reducible rfl)
          try simp only [Act.put, List.setIfInBounds_toArray, List.set_cons_zero, List.set_cons_succ]
          refine wpAnyH_take (i := 12) (v := ?_) (by simp only [List.getElem?_toArray, List.getElem?_cons_succ, List.getElem?_cons_zero]; rfl) (by kernel_rfl) (by kernel_rfl) (by kernel_rfl) (by exact fun _ _ _ h => h) (Or.inl ⟨by rfl, ?_⟩) (by assumption) ?_
          rotate_left
          · (intro w hSw; (try dsimp only at hSw); go_split_ands; go_simp; first | done | with_reducible rfl)
          try simp only [Act.put, List.setIfInBounds_toArray, List.set_cons_zero, List.set_cons_succ]
          refine wpAnyH_ready (rs := [14]) (by kernel_rfl) (by simp) ?_
          refine AllReadyH.cons rfl (fun K hK => ?_) (AllReadyH.nil)
          · go_simp
            try go_wp2_with fail
            refine hK.out _ _ ?_ (fun hHeld => ?_)
            · first | exact HS2.out _ hbZ | exact HS2.out _ ((hb8.setCell (Nat.le_refl _) _).setCell (Nat.le_refl _) _) | exact HS2.out _ ((hb8.setCell hb7.size _).setCell hb7.size _) | exact HS2.out _ ((hbZ.setCell hb8.size _).setCell hb8.size _) | exact HS2.out _ (Below.allocN hb8 _)
            clear hK K
            try simp only [Act.put, List.setIfInBounds_toArray, List.set_cons_zero, List.set_cons_succ]
            refine wpAnyH_take (i := 15) (v := ?_) (by simp only [List.getElem?_toArray, List.getElem?_cons_succ, List.getElem?_cons_zero]; rfl) (by kernel_rfl) (by kernel_rfl) (by kernel_rfl) (by exact fun _ _ _ h => h) (Or.inl ⟨by rfl, ?_⟩) (by assumption) ?_
            rotate_left
            · (intro w hSw; (try dsimp only at hSw); go_split_ands; go_simp; first | done | with_reducible rfl)
            try simp only [Act.put, List.setIfInBounds_toArray, List.set_cons_zero, List.set_cons_succ]
            refine wpAnyH_done (by kernel_rfl) ?_ _
            go_wp2_with fail
            go_meet
            first
            | exact ⟨w8.heap.size, a8, k8, rfl, rfl, (Box.new (g := w8.heap.size) w8 [.int .i64 n, .slice a8 n k8] 52 rfl).cell 0 rfl, (Box.new (g := w8.heap.size) w8 [.int .i64 n, .slice a8 n k8] 52 rfl).cell 1 rfl, hM8.mat.keep (below1 _ _), Below.allocN hb8 _⟩
            | exact ⟨w2.heap.size, a8, k8, rfl, rfl, ((hZc.setC 0 (.int .i64 n)).setC 1 (.slice a8 n k8)).cell 0 rfl, ((hZc.setC 0 (.int .i64 n)).setC 1 (.slice a8 n k8)).cell 1 rfl, ((hM8.setCell (p := ⟨w2.heap.size, 0, none⟩) (by have h1 := hZb.1; simp only []; omega) _).setCell (p := ⟨w2.heap.size, 1, none⟩) (by have h1 := hZb.1; simp only []; omega) _).mat, (hb8.setCell (p := ⟨w2.heap.size, 0, none⟩) (Nat.le_refl _) _).setCell (p := ⟨w2.heap.size, 1, none⟩) (Nat.le_refl _) _⟩
            | exact ⟨w7.heap.size, a8, k8, rfl, rfl, ((hZc.setC 0 (.int .i64 n)).setC 1 (.slice a8 n k8)).cell 0 rfl, ((hZc.setC 0 (.int .i64 n)).setC 1 (.slice a8 n k8)).cell 1 rfl, ((hM8.setCell (p := ⟨w7.heap.size, 0, none⟩) (by simp) _).setCell (p := ⟨w7.heap.size, 1, none⟩) (by simp) _).mat, (hb8.setCell (p := ⟨w7.heap.size, 0, none⟩) hb7.size _).setCell (p := ⟨w7.heap.size, 1, none⟩) hb7.size _⟩
  obtain ⟨g, a2, c2, rfl, rfl, hg0, hg1, hM2, hb3⟩ := hcut
  generalize wc = V6 at *
  have hb13 := Below.next hb12 hb3
  have hbw6 := Below.next Hbw2.out hb3
  obtain ⟨c0, c1, c2', c3, c4, _⟩ := HS2.out V6 hb3
  have hZ := (HS.out V6 hb13).2.2.2.2.2
  have z0 := hZ.cell 0 rfl
  have z1 := hZ.cell 1 rfl
  have f0 := hZ.frozen 0
  have f1 := hZ.frozen 1
  have HMl2 := Lib.hid (HMl.out V6 a2 c2 hbw6 hM2)
  have hs6 := hZ.1
  clear hZ
  go_wp2_with fail
  refine HMl2.out.mono ?_
  rintro e w9 ⟨a3, c3', rfl, hN9, hb9⟩
  have hZ9 := (HS.out w9 (Below.next hb13 hb9)).2.2.2.2.2
  have y0 := hZ9.cell 0 rfl
  have y1 := hZ9.cell 1 rfl
  have g0 := hZ9.frozen 0
  have g1 := hZ9.frozen 1
  have HF := Lib.hid (HPost.out a3 c3' ((w9.setCell ⟨w.heap.size + 1, 0, none⟩ (.int .i64 m)).setCell ⟨w.heap.size + 1, 1, none⟩ (.slice a3 n c3')) (((Below.next hbw6 hb9).setCell (p := ⟨w.heap.size + 1, 0, none⟩) (by simp) _).setCell (p := ⟨w.heap.size + 1, 1, none⟩) (by simp) _)
    (((hN9.setCell (p := ⟨w.heap.size + 1, 0, none⟩) (by simp only []; omega) _).setCell (p := ⟨w.heap.size + 1, 1, none⟩) (by simp only []; omega) _).mono (by have := hbw6.size; omega)))
  clear hZ9 c0 c1 c2' c3 c4 z0 z1 f0 f1
  go_wp2_with fail
  exact bodyPost_ret (v := .tuple #[.agg #[.int .i64 m, .slice a3 n c3'], .int .i64 0]) (by simp [results, Tryz.results34, go_sem, y0, y1]) rfl HF.out
end

/- The walks of the references: Combine of layer 09, List and Encode of layer 12. -/
section
open Go.RowKit

theorem cmbTo_agr {O O' : FOps} {El : Int → Prop} (F : Fld O El) (h : Agr O O' El) {m : Nat} {L : List (List Int)} (hL : Rws El m L) {x : List Int} (hx : ∀ k, k < L.length → El (nth x k)) : ∀ k, k ≤ L.length → cmbTo O m x L k = cmbTo O' m x L k
  | 0, _ => rfl
  | k + 1, hk => by
    have h1 := (cmb_rs F hL hx k (by omega)).1
    rw [cmbTo, cmbTo, ← cmbTo_agr F h hL hx k (by omega), addRow_agr h F.cl _ _ _ h1.2 (hL.row (i := k) (by omega)).2 (hx k (by omega))]

set_option maxRecDepth 100000 in
set_option maxHeartbeats 4000000 in
theorem rCombine_any (P : Int) (m : Nat) (am : Option Addr) (mn cm : Nat) (mod : List Int) (ax : Option Addr) (cx : Nat) (x : List Int) (a : Option Addr) (n c : Nat) (L : List (List Int)) (cols : Nat) (w : World) (hf : RFld w P m am mn mod)
    (hx : Ints w ax n x) (hi : Mat w a n L) (hxe : ∀ k, k < n → ElP P m (nth x k)) (hR : Rws (ElP P m) cols L) (hv : ∀ k, k ≤ n → Vc (ElP P m) cols (cmbTo (rops P m mod) cols x L k)) (hc : cols ≤ 1000000) (hn : n ≤ 1000000) :
    Calls Tryz.prog 127 #[.agg #[.int .i64 P, .int .i64 m, .slice am mn cm], .slice ax n cx, .slice a n c, .int .i64 cols] w fun e w' =>
      ∃ a1 c1, e = .returned (.slice a1 cols c1) ∧ w'.ownsRow w.heap.size 3 1 (.slice a1 cols c1) cols ((cmbTo (rops P m mod) cols x L n).map (Value.int .i64)) ∧ Below w.heap.size w w' := by
  have Hil := Lib.hid hi.len
  have hplx := hx.pl
  have hpla := hi.pl
  have HR := Lib.hid hR
  have Hv := Lib.hid hv
  have Hxe := Lib.hid hxe
  obtain ⟨O, hO⟩ : ∃ O, rops P m mod = O := ⟨_, rfl⟩
  have HA : Hid (∀ V k a1 c1 ra rc, k < n → Below w.heap.size w V → Ints V a1 cols (cmbTo O cols x L k) → Ints V ra cols (nthR L k) → ∀ V2, Below V.heap.size V V2 →
      Calls Tryz.prog 45 #[.agg #[.int .i64 P, .int .i64 m, .slice am mn cm], .slice a1 cols c1, .int .i64 (nth x k), .slice ra cols rc] V2 fun e w' =>
        ∃ a2 c2, e = .returned (.slice a2 cols c2) ∧ w'.ownsRow V2.heap.size 3 1 (.slice a2 cols c2) cols ((addRow O (cmbTo O cols x L k) (nth x k) (nthR L k)).map (Value.int .i64)) ∧ Below V2.heap.size V2 w') := fun V k a1 c1 ra rc hk hV h1 h2 V2 hV2 => by
    have hrow := HR.out.row (i := k) (by rw [Hil.out]; exact hk)
    have hvk := Hv.out k (by omega)
    rw [hO] at hvk
    have h := rAddTo_any P m am mn cm mod a1 cols c1 (cmbTo O cols x L k) (nth x k) ra rc (nthR L k) V2 (hf.keep (Below.next hV hV2)) (Hxe.out k hk) (h1.keep hV2) (h2.keep hV2) hvk.2 hrow.2 hc
    refine h.mono ?_
    rintro e w' ⟨a2, c2, rfl, hown, hb⟩
    rw [hO, addRow_length _ _ _ _ (by rw [hrow.1, hvk.1]), hvk.1] at hown
    rw [hO, addRow_length _ _ _ _ (by rw [hrow.1, hvk.1]), hvk.1]
    exact ⟨a2, c2, rfl, hown, hb⟩
  have hz : (cmbTo O cols x L 0).map (Value.int .i64) = List.replicate cols (Value.int .i64 0) := by simp [cmbTo]
  have Hz := Lib.hid hz
  rw [hO]
  clear hO hR hv hxe hz
  go_enter Tryz.func127, Tryz.ntmps127
  go_upto_region 1 with fail
  obtain ⟨W, hW⟩ : ∃ W : World, W = w.alloc (.cells #[.int .i64 P, .int .i64 m, .slice am mn cm] 24) := ⟨_, rfl⟩
  rw [← hW]
  have hbW : Below w.heap.size w W := by rw [hW]; exact below1 _ _
  have x0 : Box W w.heap.size [.int .i64 P, .int .i64 m, .slice am mn cm] := by rw [hW]; exact Box.new _ _ _ rfl
  have HX := Lib.hid x0
  have HbW := Lib.hid hbW
  have hxW := hx.keep hbW
  have hiW := hi.keep hbW
  clear hW x0
  go_wp2_with (at_make; refine wpList_mk rfl _ _ 22 3 rfl (.int .i64 0) 8 Tryz.underlying22 infoInt rfl cols rfl rfl (by omega) (by unfold maxLen; omega) ?_; intro a5 w5 hown hbel hge hlt)
  have hown0 : w5.ownsRow W.heap.size 3 1 (.slice a5 cols cols) cols ((cmbTo O cols x L 0).map (Value.int .i64)) := by rw [Hz.out]; exact hown
  clear hown hge hlt
  go_loopw [9, 10] (fun ov iv wr => ∃ (k : Nat) (a1 : Option Addr) (c1 : Nat), k ≤ n ∧ iv = .int .i64 k ∧ ov = .slice a1 cols c1 ∧ wr.ownsRow W.heap.size 3 1 (.slice a1 cols c1) cols ((cmbTo O cols x L k).map (Value.int .i64)) ∧ Below W.heap.size W wr) (fun _ iv _ => n - (intOf iv).toNat)
  case atStart => exact ⟨0, a5, cols, Nat.zero_le _, rfl, rfl, hown0, hbel⟩
  case round =>
    clear hown0 hbel
    obtain ⟨k, a1, c1, hk, rfl, rfl, hown, hbr⟩ := hrel
    by_cases hlt : k < n
    · have cxk := (hxW.keep hbr).cell k hlt
      have hrow := HR.out.row (i := k) (by rw [Hil.out]; exact hlt)
      obtain ⟨ra, rn, rc, er, ir⟩ := (hiW.keep hbr).cell k hlt
      have hrn : rn = cols := by rw [← ir.len]; exact hrow.1
      rw [hrn] at er ir
      clear hrn hrow
      by_cases h0 : nth x k = 0
      · have h0' : (nth x k != 0) = false := by simpa using h0
        have Hn : Hid (cmbTo O cols x L (k + 1) = cmbTo O cols x L k) := by show _ = _; rw [cmbTo, if_pos h0]
        clear h0
        go_wp2_with fail
        go_roundw
        case rel => exact ⟨k + 1, a1, c1, by omega, by go_num, rfl, by rw [Hn.out]; exact hown, hbr⟩
        case measure => simp [intOf] <;> omega
      · have h0' : (nth x k != 0) = true := by simpa using h0
        have Hn : Hid (cmbTo O cols x L (k + 1) = addRow O (cmbTo O cols x L k) (nth x k) (nthR L k)) := by show _ = _; rw [cmbTo, if_neg h0]
        have hbwr := Below.next HbW.out hbr
        have Hk := Lib.hid (HA.out wr k a1 c1 ra rc hlt hbwr (Ints.own hown).1 ir)
        have HS2 : Hid (∀ V, Below wr.heap.size wr V → V.cell? ⟨w.heap.size, 0, none⟩ = some (.int .i64 P) ∧ V.cell? ⟨w.heap.size, 1, none⟩ = some (.int .i64 m) ∧ V.cell? ⟨w.heap.size, 2, none⟩ = some (.slice am mn cm) ∧
            V.cell? ⟨ablk ax, aoff ax + k, none⟩ = some (.int .i64 (nth x k)) ∧ V.cell? ⟨ablk a, aoff a + k, none⟩ = some (.slice ra cols rc) ∧ Below wr.heap.size wr V) := fun V hV => by
          have x1 := HX.out.keep (Below.next hbr hV)
          exact ⟨x1.cell 0 rfl, x1.cell 1 rfl, x1.cell 2 rfl, cell_keep hV cxk, cell_keep hV er, hV⟩
        have Hbr := Lib.hid hbr
        have hszr := hbr.size
        clear h0 hbr hown ir HA
        go_wp2_with fail
        go_region_held3 (fun V => V.cell? ⟨w.heap.size, 0, none⟩ = some (.int .i64 P) ∧ V.cell? ⟨w.heap.size, 1, none⟩ = some (.int .i64 m) ∧ V.cell? ⟨w.heap.size, 2, none⟩ = some (.slice am mn cm) ∧
            V.cell? ⟨ablk ax, aoff ax + k, none⟩ = some (.int .i64 (nth x k)) ∧ V.cell? ⟨ablk a, aoff a + k, none⟩ = some (.slice ra cols rc) ∧ Below wr.heap.size wr V)
          ((refine HS2.out _ ?_; first | exact (Below.refl _ _).drew | exact Below.next (Below.refl _ _).drew hb4))
          (first
            | (go_at_call 45; ((with_reducible refine (Hk.out _ (Below.refl _ _).drew).mono ?_); rintro e w4 ⟨a4, c4, rfl, hown4, hb4⟩)))
        have hbr4 := Below.next Hbr.out (Below.next (Below.refl _ _).drew hb4)
        have hown5 := own_mono hown4 (show W.heap.size ≤ wr.drew.heap.size from hszr)
        go_wp2_with fail
        go_roundw
        case rel => exact ⟨k + 1, a4, c4, by omega, by go_num, rfl, by rw [Hn.out]; exact hown5, hbr4⟩
        case measure => simp [intOf] <;> omega
    · obtain rfl : k = n := by omega
      have hF := own_mono hown HbW.out.size
      have HF := Lib.hid hF
      have hbF := Below.next HbW.out hbr
      clear hF hown
      go_wp2_with fail
      go_ret
      exact ⟨a1, c1, rfl, HF.out, hbF⟩
end

end Go.Proofs.YtapjcccpokhhhaaGreat
