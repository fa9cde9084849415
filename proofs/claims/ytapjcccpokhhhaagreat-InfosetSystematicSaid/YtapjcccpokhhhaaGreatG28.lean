/- The walks of the references: Same of layers 04 and 12, at equal codes. -/
import Derived.Test.YtapjcccpokhhhaaGreatG25
import Derived.Test.YtapjcccpokhhhaaGreatG26
import Derived.Test.YtapjcccpokhhhaaGreatG27
import Derived.Test.YtapjcccpokhhhaaGreatG20
namespace Go.Proofs.YtapjcccpokhhhaaGreat
set_option linter.unusedVariables false
set_option linter.unusedSimpArgs false
set_option linter.unusedSectionVars false

/- The walk of codewrightref09.Mul, at valid matrices. -/
section
open Go.RowKit

set_option maxRecDepth 100000 in
set_option maxHeartbeats 8000000 in
theorem rMul09_any (P M : Int) (am : Option Addr) (mn cm : Nat) (mod : List Int) (k : Nat) (a : Option Addr) (n c : Nat) (A : List (List Int)) (m : Nat) (ab : Option Addr) (cb : Nat) (B : List (List Int)) (w : World) (hmod : Ints w am mn mod) (hi : Mat w a n A) (hb : Mat w ab k B)
    (hfB : fieldB P M mod = true) (hA : Rws (tblOf P M.toNat mod).El k A) (hBr : Rws (tblOf P M.toNat mod).El m B) (hk : k ≤ 64) (hm1 : 1 ≤ m) (hm : m ≤ 64) (hn : n ≤ 64) :
    Calls Tryz.prog 74 #[.agg #[.int .i64 P, .int .i64 M, .slice am mn cm], .agg #[.int .i64 k, .slice a n c], .agg #[.int .i64 m, .slice ab k cb]] w
      fun e w' => ∃ a1 c1, e = .returned (.tuple #[.agg #[.int .i64 m, .slice a1 n c1], .int .i64 0]) ∧ MatN w.heap.size w' a1 n (mtL (tblOf P M.toNat mod).ops m A B) ∧ Below w.heap.size w w' := by
  have hAl := hi.len
  have hBl := hb.len
  have F := fieldB_fld hfB
  have hmE1 : matE (tblOf P M.toNat mod).q k A = 0 := (fmatE_zero (fmatE_mk hfB (show k ≤ 256 by omega) (show A.length ≤ 256 by omega) hA)).2
  have hmE2 : matE (tblOf P M.toNat mod).q m B = 0 := (fmatE_zero (fmatE_mk hfB (show m ≤ 256 by omega) (show B.length ≤ 256 by omega) hBr)).2
  have hpla := hi.pl
  have HTw := Lib.hid (fun V (hV : Below w.heap.size w V) => rTwo_any P M am mn cm mod k a n c A m ab k cb B V (hmod.keep hV) (hi.keep hV) (hb.keep hV) hfB hA hBr (by omega) (by omega) (by omega) (by omega))
  have HCo : Hid (∀ V ra rc (l : List Int), Below w.heap.size w V → Ints V ra k l → l.length = k → (∀ x ∈ l, (tblOf P M.toNat mod).El x) → Calls Tryz.prog 127 #[.agg #[.int .i64 P, .int .i64 M, .slice am mn cm], .slice ra k rc, .slice ab k cb, .int .i64 m] V fun e w' =>
      ∃ a1 c1, e = .returned (.slice a1 m c1) ∧ w'.ownsRow V.heap.size 3 1 (.slice a1 m c1) m ((cmbTo (tblOf P M.toNat mod).ops m l B k).map (Value.int .i64)) ∧ Below V.heap.size V w') := fun V ra rc l hV hl hll hle => by
    obtain ⟨M', rfl, hel, _, hF, hAg, _⟩ := eq_ops hfB
    obtain ⟨M2, e2, hrf, hmods⟩ := fieldRB_rf (by rw [fieldRB_eq]; exact hfB)
    obtain rfl : M' = M2 := by omega
    rw [Int.toNat_natCast] at hBr hle ⊢
    rw [← hel] at hBr hle
    have hxe : ∀ t, t < B.length → ElP P M' (nth l t) := fun t ht => hle _ (nth_mem (by rw [hll]; omega))
    have hag := cmbTo_agr hF hAg hBr hxe
    rw [hag k (by omega)]
    exact rCombine_any P M' am mn cm mod ra rc l ab k cb B m V ⟨hrf, hmods V am mn (hmod.keep hV)⟩ hl (hb.keep hV) (fun t ht => hxe t (by omega)) hBr (fun t ht => by rw [← hag t (by omega)]; exact (cmb_rs hF hBr hxe t (by omega)).1) (by omega) (by omega)
  obtain ⟨G, hGG⟩ : ∃ G, tblOf P M.toNat mod = G := ⟨_, rfl⟩
  rw [hGG] at hA hBr F hmE1 hmE2 HCo ⊢
  obtain ⟨L2, hL2⟩ : ∃ L2, mtL G.ops m A B = L2 := ⟨_, rfl⟩
  have HL2l : Hid (L2.length = n) := by show _ = _; rw [← hL2, mtL, List.length_map]; exact hAl
  have HLk : Hid (∀ j, j < n → L2.take (j + 1) = L2.take j ++ [cmbTo G.ops m (nthR A j) B k]) := fun j hj => by
    have hj' : j < L2.length := by rw [HL2l.out]; exact hj
    rw [List.take_succ_eq_append_getElem hj', ← nthR_getElem hj', ← hL2, mtL, nthR_map _ A (by omega), hBl]
  rw [hL2]
  have HAr : Hid (∀ j, j < n → (nthR A j).length = k ∧ ∀ x ∈ nthR A j, G.El x) := fun j hj => hA.row (by omega)
  have HBr := Lib.hid hBr
  have HFl := Lib.hid F
  have HBl := Lib.hid hBl
  have HB := Lib.hid hfB
  have HmE := Lib.hid (And.intro hmE1 hmE2)
  have HGG := Lib.hid hGG
  clear hA hBr F hAl hBl hfB hmE1 hmE2 hGG hL2
  go_enter Tryz.func74, Tryz.ntmps74
  go_wp2_with fail
  obtain ⟨W, hW⟩ : ∃ W : World, W = ((((w.alloc (.cells #[.int .i64 P, .int .i64 M, .slice am mn cm] 24)).alloc (.cells #[.int .i64 k, .slice a n c] 52)).alloc (.cells #[.int .i64 m, .slice ab k cb] 52)).alloc (.cells #[.int .i64 0, .slice none 0 0] 52)) := ⟨_, rfl⟩
  rw [← hW]
  have hbW : Below w.heap.size w W := by rw [hW]; exact ((((Below.refl _ _).alloc (Nat.le_refl _) _).alloc (by simp) _).alloc (by simp; omega) _).alloc (by simp; omega) _
  have hsW : W.heap.size = w.heap.size + 4 := by rw [hW]; simp
  have x0 : Box W w.heap.size [.int .i64 P, .int .i64 M, .slice am mn cm] := by rw [hW]; exact (((Box.new _ _ _ rfl).alloc _).alloc _).alloc _
  have x1 : Box W (w.heap.size + 1) [.int .i64 k, .slice a n c] := by rw [hW]; exact ((Box.new _ _ _ (by simp)).alloc _).alloc _
  have x2 : Box W (w.heap.size + 1 + 1) [.int .i64 m, .slice ab k cb] := by rw [hW]; exact (Box.new _ _ _ (by simp)).alloc _
  have x3 : Box W (w.heap.size + 1 + 1 + 1) [.int .i64 0, .slice none 0 0] := by rw [hW]; exact Box.new _ _ _ (by simp)
  have HX := Lib.hid (And.intro x1 (And.intro x2 x3))
  have HX0 := Lib.hid x0
  have HsW := Lib.hid hsW
  have HbW := Lib.hid hbW
  clear hW hsW x0 x1 x2 x3 hmod
  refine (HTw.out W hbW).mono ?_
  rintro e w1 ⟨rfl, hb1⟩
  have hbw1 := Below.next hbW hb1
  have r1 := HX.out.1.keep hb1
  have r2 := HX.out.2.1.keep hb1
  have m0 := r1.cell 0 rfl
  have m1 := r1.cell 1 rfl
  have p0 := r2.cell 0 rfl
  have p1 := r2.cell 1 rfl
  have hkk : ((k : Int) != k) = false := by simp
  clear hbW r1 r2 HTw
  go_upto_region 6 with fail
  obtain ⟨g, hg⟩ : ∃ g, w1.heap.size = g := ⟨_, rfl⟩
  have HGs := Lib.hid hg
  clear hg
  go_cut [9] (fun v wx => v = .pointer (some ⟨w1.heap.size, 0, none⟩) ∧ MOut wx w1.heap.size (.int .i64 m) none 0 0 [] [] ∧ Below w1.heap.size w1 wx)
  case first =>
    go_wp2_with fail
    go_meet
    exact ⟨rfl, MOut.start (Box.new w1 [.int .i64 m, .slice none 0 0] _ rfl), below1 _ _⟩
  obtain ⟨rfl, hO0, hbc⟩ := hcut
  generalize wc = U at *
  have hs3 := HGs.out
  rw [hs3] at hO0 ⊢
  have HbU := Lib.hid (Below.next hb1 hbc)
  have HbU1 := Lib.hid hbc
  have HS : Hid (∀ V, Below W.heap.size W V → V.cell? ⟨w.heap.size + 1, 0, none⟩ = some (.int .i64 k) ∧ V.cell? ⟨w.heap.size + 1, 1, none⟩ = some (.slice a n c) ∧ V.cell? ⟨w.heap.size + 1 + 1, 0, none⟩ = some (.int .i64 m) ∧ V.cell? ⟨w.heap.size + 1 + 1, 1, none⟩ = some (.slice ab k cb) ∧ V.cell? ⟨w.heap.size, 0, none⟩ = some (.int .i64 P) ∧ V.cell? ⟨w.heap.size, 1, none⟩ = some (.int .i64 M) ∧ V.cell? ⟨w.heap.size, 2, none⟩ = some (.slice am mn cm)) := fun V hV => by
    have r1 := HX.out.1.keep hV
    have r2 := HX.out.2.1.keep hV
    have r0 := HX0.out.keep hV
    exact ⟨r1.cell 0 rfl, r1.cell 1 rfl, r2.cell 0 rfl, r2.cell 1 rfl, r0.cell 0 rfl, r0.cell 1 rfl, r0.cell 2 rfl⟩
  clear m0 m1 p0 p1
  obtain ⟨m0, m1, p0, p1, _, _, _⟩ := HS.out U HbU.out
  have hgU := hO0.lt
  have hgW : W.heap.size ≤ g := by have := hb1.size; omega
  have hw1g : w1.heap.size ≤ g := by omega
  clear hbc hs3
  go_wp2_with fail
  clear m0 m1 p0 p1
  go_loopw [10] (fun iv wr => ∃ (j : Nat) (a1 : Option Addr) (c1 : Nat) (Rr : List (Option Addr × Nat)), j ≤ n ∧ iv = .int .i64 j ∧ MOut wr g (.int .i64 m) a1 j c1 Rr (L2.take j) ∧ Below g U wr) (fun iv _ => n - (intOf iv).toNat)
  case atStart => exact ⟨0, none, 0, [], Nat.zero_le _, rfl, by simpa using hO0, Below.refl _ _⟩
  case round =>
    clear hO0
    obtain ⟨j, a1, c1, Rr, hj, rfl, hO, hbr⟩ := hrel
    have hbWr := Below.trans HbU.out (hbr.mono hgW)
    have hbwr := Below.next HbW.out hbWr
    have hgr := hO.lt
    by_cases hltj : j < n
    · obtain ⟨ra, rn, rc, hcell0, hrow0⟩ := hi.cell j hltj
      have hcell := cell_keep hbwr hcell0
      have hrow := hrow0.keep hbwr
      have hA := HAr.out j hltj
      have hrn : rn = k := by rw [← hrow.len]; exact hA.1
      rw [hrn] at hcell hrow hcell0
      have Htk := Lib.hid (HLk.out j hltj)
      obtain ⟨l, hl⟩ : ∃ l, nthR A j = l := ⟨_, rfl⟩
      rw [hl] at Htk hrow hA
      have Hvec : Hid (∀ V, Below wr.heap.size wr V → Calls Tryz.prog 127 #[.agg #[.int .i64 P, .int .i64 M, .slice am mn cm], .slice ra k rc, .slice ab k cb, .int .i64 m] V fun e w' =>
          ∃ a1 c1, e = .returned (.slice a1 m c1) ∧ w'.ownsRow V.heap.size 3 1 (.slice a1 m c1) m ((cmbTo G.ops m l B k).map (Value.int .i64)) ∧ Below V.heap.size V w') := fun V hV =>
        HCo.out V ra rc l (Below.next hbwr hV) (hrow.keep hV) hA.1 hA.2
      have hvl : (cmbTo G.ops m l B k).length = m := (cmb_rs HFl.out HBr.out (x := l) (fun t ht => hA.2 _ (nth_mem (by rw [hA.1, ← HBl.out]; exact ht))) k (by rw [HBl.out]; exact Nat.le_refl _)).1.1
      obtain ⟨pk, hpk⟩ : ∃ pk, cmbTo G.ops m l B k = pk := ⟨_, rfl⟩
      rw [hpk] at Hvec hvl Htk
      have Hvl := Lib.hid hvl
      have Hbr := Lib.hid hbr
      have HbWr := Lib.hid hbWr
      have HO := Lib.hid hO
      have g1 := hO.c1
      have HSj : Hid (∀ V, Below W.heap.size W V → V.cell? ⟨w.heap.size + 1, 0, none⟩ = some (.int .i64 k) ∧ V.cell? ⟨w.heap.size + 1, 1, none⟩ = some (.slice a n c) ∧ V.cell? ⟨w.heap.size + 1 + 1, 0, none⟩ = some (.int .i64 m) ∧ V.cell? ⟨w.heap.size + 1 + 1, 1, none⟩ = some (.slice ab k cb) ∧ V.cell? ⟨w.heap.size, 0, none⟩ = some (.int .i64 P) ∧ V.cell? ⟨w.heap.size, 1, none⟩ = some (.int .i64 M) ∧ V.cell? ⟨w.heap.size, 2, none⟩ = some (.slice am mn cm) ∧ V.cell? ⟨ablk a, aoff a + j, none⟩ = some (.slice ra k rc)) := fun V hV => by
        obtain ⟨q1, q2, q3, q4, q5, q6, q7⟩ := HS.out V hV
        exact ⟨q1, q2, q3, q4, q5, q6, q7, cell_keep (Below.next HbW.out hV) hcell0⟩
      obtain ⟨q0, q1, p0, p1, f0, f1, f2⟩ := HS.out wr hbWr
      clear hl hrn hpk hvl hA hrow hrow0 hcell0 hbr hbWr hbwr hO
      go_wp2_with fail
      refine wp_region_held_drew (S := (fun V => V.cell? ⟨w.heap.size + 1, 0, none⟩ = some (.int .i64 k) ∧ V.cell? ⟨w.heap.size + 1, 1, none⟩ = some (.slice a n c) ∧ V.cell? ⟨w.heap.size + 1 + 1, 0, none⟩ = some (.int .i64 m) ∧ V.cell? ⟨w.heap.size + 1 + 1, 1, none⟩ = some (.slice ab k cb) ∧ V.cell? ⟨w.heap.size, 0, none⟩ = some (.int .i64 P) ∧ V.cell? ⟨w.heap.size, 1, none⟩ = some (.int .i64 M) ∧ V.cell? ⟨w.heap.size, 2, none⟩ = some (.slice am mn cm) ∧ V.cell? ⟨ablk a, aoff a + j, none⟩ = some (.slice ra k rc))) (by kernel_rfl) ?_ (fun hHeld => ?_)
      · exact HSj.out _ HbWr.out.drew
      refine wpAnyH_take (i := 0) (v := ?_) (by simp only [List.getElem?_toArray, List.getElem?_cons_succ, List.getElem?_cons_zero]; rfl) (by kernel_rfl) (by kernel_rfl) (by kernel_rfl) (by exact fun _ _ _ h => h) (Or.inl ⟨by rfl, ?_⟩) (by assumption) ?_
      rotate_left
      · (intro w hSw; (try dsimp only at hSw); go_split_ands; go_simp; first | done | with_reducible rfl)
      try simp only [Act.put, List.setIfInBounds_toArray, List.set_cons_zero, List.set_cons_succ]
      refine wpAnyH_take (i := 2) (v := ?_) (by simp only [List.getElem?_toArray, List.getElem?_cons_succ, List.getElem?_cons_zero]; rfl) (by kernel_rfl) (by kernel_rfl) (by kernel_rfl) (by exact fun _ _ _ h => h) (Or.inl ⟨by rfl, ?_⟩) (by assumption) ?_
      rotate_left
      · (intro w hSw; (try dsimp only at hSw); go_split_ands; go_simp; first | done | with_reducible rfl)
      try simp only [Act.put, List.setIfInBounds_toArray, List.set_cons_zero, List.set_cons_succ]
      refine wpAnyH_take (i := 3) (v := ?_) (by simp only [List.getElem?_toArray, List.getElem?_cons_succ, List.getElem?_cons_zero]; rfl) (by kernel_rfl) (by kernel_rfl) (by kernel_rfl) (by exact fun _ _ _ h => h) (Or.inl ⟨by rfl, ?_⟩) (by assumption) ?_
      rotate_left
      · (intro w hSw; (try dsimp only at hSw); go_split_ands; go_simp; first | done | with_reducible rfl)
      try simp only [Act.put, List.setIfInBounds_toArray, List.set_cons_zero, List.set_cons_succ]
      refine wpAnyH_take (i := 4) (v := ?_) (by simp only [List.getElem?_toArray, List.getElem?_cons_succ, List.getElem?_cons_zero]; rfl) (by kernel_rfl) (by kernel_rfl) (by kernel_rfl) (by exact fun _ _ _ h => h) (Or.inl ⟨by rfl, ?_⟩) (by assumption) ?_
      rotate_left
      · (intro w hSw; (try dsimp only at hSw); go_split_ands; go_simp; first | done | with_reducible rfl)
      try simp only [Act.put, List.setIfInBounds_toArray, List.set_cons_zero, List.set_cons_succ]
      refine wpAnyH_take (i := 5) (v := ?_) (by simp only [List.getElem?_toArray, List.getElem?_cons_succ, List.getElem?_cons_zero]; rfl) (by kernel_rfl) (by kernel_rfl) (by kernel_rfl) (by exact fun _ _ _ h => h) (Or.inl ⟨by rfl, ?_⟩) (by assumption) ?_
      rotate_left
      · (intro w hSw; (try dsimp only at hSw); go_split_ands; go_simp; first | done | with_reducible rfl)
      try simp only [Act.put, List.setIfInBounds_toArray, List.set_cons_zero, List.set_cons_succ]
      refine wpAnyH_take (i := 6) (v := ?_) (by simp only [List.getElem?_toArray, List.getElem?_cons_succ, List.getElem?_cons_zero]; rfl) (by kernel_rfl) (by kernel_rfl) (by kernel_rfl) (by exact fun _ _ _ h => h) (Or.inl ⟨by rfl, ?_⟩) (by assumption) ?_
      rotate_left
      · (intro w hSw; (try dsimp only at hSw); go_split_ands; go_simp; first | done | with_reducible rfl)
      try simp only [Act.put, List.setIfInBounds_toArray, List.set_cons_zero, List.set_cons_succ]
      refine wpAnyH_take (i := 7) (v := ?_) (by simp only [List.getElem?_toArray, List.getElem?_cons_succ, List.getElem?_cons_zero]; rfl) (by kernel_rfl) (by kernel_rfl) (by kernel_rfl) (by exact fun _ _ _ h => h) (Or.inl ⟨by rfl, ?_⟩) (by assumption) ?_
      rotate_left
      · (intro w hSw; (try dsimp only at hSw); go_split_ands; go_simp; first | done | with_reducible rfl)
      try simp only [Act.put, List.setIfInBounds_toArray, List.set_cons_zero, List.set_cons_succ]
      refine wpAnyH_take (i := 8) (v := ?_) (by simp only [List.getElem?_toArray, List.getElem?_cons_succ, List.getElem?_cons_zero]; rfl) (by kernel_rfl) (by kernel_rfl) (by kernel_rfl) (by exact fun _ _ _ h => h) (Or.inl ⟨by rfl, ?_⟩) (by assumption) ?_
      rotate_left
      · (intro w hSw; (try dsimp only at hSw); go_split_ands; go_simp; first | done | with_reducible rfl)
      try simp only [Act.put, List.setIfInBounds_toArray, List.set_cons_zero, List.set_cons_succ]
      refine wpAnyH_take (i := 9) (v := ?_) (by simp only [List.getElem?_toArray, List.getElem?_cons_succ, List.getElem?_cons_zero]; rfl) (by kernel_rfl) (by kernel_rfl) (by kernel_rfl) (by exact fun _ _ _ h => h) (Or.inl ⟨by rfl, ?_⟩) (by assumption) ?_
      rotate_left
      · (intro w hSw; (try dsimp only at hSw); go_split_ands; go_simp; first | done | with_reducible rfl)
      try simp only [Act.put, List.setIfInBounds_toArray, List.set_cons_zero, List.set_cons_succ]
      refine wpAnyH_take (i := 10) (v := ?_) (by simp only [List.getElem?_toArray, List.getElem?_cons_succ, List.getElem?_cons_zero]; rfl) (by kernel_rfl) (by kernel_rfl) (by kernel_rfl) (by exact fun _ _ _ h => h) (Or.inl ⟨by rfl, ?_⟩) (by assumption) ?_
      rotate_left
      · (intro w hSw; (try dsimp only at hSw); go_split_ands; go_simp; first | done | with_reducible rfl)
      try simp only [Act.put, List.setIfInBounds_toArray, List.set_cons_zero, List.set_cons_succ]
      refine wpAnyH_take (i := 11) (v := ?_) (by simp only [List.getElem?_toArray, List.getElem?_cons_succ, List.getElem?_cons_zero]; rfl) (by kernel_rfl) (by kernel_rfl) (by kernel_rfl) (by exact fun _ _ _ h => h) (Or.inl ⟨by rfl, ?_⟩) (by assumption) ?_
      rotate_left
      · (intro w hSw; (try dsimp only at hSw); go_split_ands; go_simp; first | done | with_reducible rfl)
      try simp only [Act.put, List.setIfInBounds_toArray, List.set_cons_zero, List.set_cons_succ]
      refine wpAnyH_ready (rs := [1, 12]) (by kernel_rfl) (by simp) ?_
      refine AllReadyH.cons rfl (fun K hK => ?_) (AllReadyH.cons rfl (fun K hK => ?_) (AllReadyH.nil))
      · go_simp
        try go_wp2_with fail
        refine hK.out _ _ ?_ (fun hHeld => ?_)
        · exact HSj.out _ (by first | exact HbWr.out | exact HbWr.out.drew | exact hbA | exact hbB)
        clear hK K
        try simp only [Act.put, List.setIfInBounds_toArray, List.set_cons_zero, List.set_cons_succ]
        refine wpAnyH_ready (rs := [12]) (by kernel_rfl) (by simp) ?_
        refine AllReadyH.cons rfl (fun K hK => ?_) (AllReadyH.nil)
        · go_simp
          refine (Hvec.out _ (Below.refl _ _).drew).mono ?_; rintro e w4 ⟨a4, c4, rfl, hown4, hb4⟩
          go_wp2_with fail
          have hb4' := Below.next (Below.refl wr.heap.size wr).drew hb4
          have hs4 := HO.out.keep hb4'
          have g2 := hs4.c1
          have g3 := cell_box hs4.c1 (.cells #[.slice a4 m c4] 22)
          have hbA := Below.trans HbWr.out (hb4'.mono HbWr.out.size)
          have hbB := Below.allocN hbA (.cells #[.slice a4 m c4] 22)
          refine hK.out _ _ ?_ (fun hHeld => ?_)
          · exact HSj.out _ hbA
          clear hK K
          try simp only [Act.put, List.setIfInBounds_toArray, List.set_cons_zero, List.set_cons_succ]
          refine wpAnyH_ready (rs := [13]) (by kernel_rfl) (by simp) ?_
          refine AllReadyH.cons rfl (fun K hK => ?_) (AllReadyH.nil)
          · go_simp
            try go_wp2_with fail
            refine hK.out _ _ ?_ (fun hHeld => ?_)
            · exact HSj.out _ hbB
            clear hK K
            try simp only [Act.put, List.setIfInBounds_toArray, List.set_cons_zero, List.set_cons_succ]
            refine wpAnyH_ready (rs := [14]) (by kernel_rfl) (by simp) ?_
            refine AllReadyH.cons rfl (fun K hK => ?_) (AllReadyH.nil)
            · skip
              refine step_appAll (by rfl) (.tmp 37) (.tmp 49) 25 22 (by rfl) (.slice none 0 0) 24 Tryz.underlying25 infoInts (by rfl) (g + 1) a1 j c1 (List.zipWith rowV Rr (L2.take j)) (by rfl) ((hs4.om.keep (below1 _ _)).own) (some ⟨w4.heap.size, 0, none⟩) 1 1 [.slice a4 m c4] (by rfl) (fun _ => rfl) rfl (by intro y hy; obtain rfl : y = 0 := (by omega); exact cell_new' _ _ _ rfl) (by intro y hy; simp at hy; subst hy; rfl) (by omega) (by unfold maxLen; omega) (by have e2 := hs4.lt; simp; omega) ?_; intro a5 c5 w5 hown5 hgr5 hap5
              have k5 := (hs4.pushed hgr5).2.1
              have f5 := (hs4.pushed hgr5).2.2
              have hb5 : Below W.heap.size W w5 := Below.app hbB ((hs4.om.keep (below1 _ _)).own) hgr5 (by omega) (by have e2 := hs4.lt; simp; omega)
              refine hK.out _ _ ?_ (fun hHeld => ?_)
              · exact HSj.out _ hb5
              clear hK K
              try simp only [Act.put, List.setIfInBounds_toArray, List.set_cons_zero, List.set_cons_succ]
              refine wpAnyH_take (i := 15) (v := ?_) (by simp only [List.getElem?_toArray, List.getElem?_cons_succ, List.getElem?_cons_zero]; rfl) (by kernel_rfl) (by kernel_rfl) (by kernel_rfl) (by exact fun _ _ _ h => h) (Or.inl ⟨by rfl, ?_⟩) (by assumption) ?_
              rotate_left
              · (intro w hSw; (try dsimp only at hSw); go_split_ands; go_simp; first | done | with_reducible rfl)
              try simp only [Act.put, List.setIfInBounds_toArray, List.set_cons_zero, List.set_cons_succ]
              refine wpAnyH_ready (rs := [16]) (by kernel_rfl) (by simp) ?_
              refine AllReadyH.cons rfl (fun K hK => ?_) (AllReadyH.nil)
              · go_simp
                try go_wp2_with fail
                refine hK.out _ _ ?_ (fun hHeld => ?_)
                · exact HSj.out _ (hb5.setCell (by simp; omega) _)
                clear hK K
                try simp only [Act.put, List.setIfInBounds_toArray, List.set_cons_zero, List.set_cons_succ]
                refine wpAnyH_done (by kernel_rfl) ?_ _
                go_wp2_with fail
                go_roundw
                case rel =>
                  have hra : a4 ≠ none → ¬ OIn a1 Rr (ablk a4) := fun h0 hI => by
                    have h1 := (own_ne hown4 h0).1
                    have h2 := (HO.out.om.lt _ hI).2
                    have h3 : wr.drew.heap.size = wr.heap.size := rfl
                    omega
                  obtain ⟨hP, hbP⟩ := hs4.push Hvl.out (own_mono hown4 (show g + 1 ≤ wr.drew.heap.size from hgr)) hra hown5 hgr5 hap5
                  exact ⟨j + 1, a5, c5, _, by omega, by go_num, by rw [Htk.out]; exact hP, Below.trans Hbr.out ((hb4'.mono (by omega)).trans hbP)⟩
                case measure => simp [intOf] <;> omega
      · go_simp
        refine (Hvec.out _ (Below.refl _ _).drew).mono ?_; rintro e w4 ⟨a4, c4, rfl, hown4, hb4⟩
        go_wp2_with fail
        have hb4' := Below.next (Below.refl wr.heap.size wr).drew hb4
        have hs4 := HO.out.keep hb4'
        have g2 := hs4.c1
        have g3 := cell_box hs4.c1 (.cells #[.slice a4 m c4] 22)
        have hbA := Below.trans HbWr.out (hb4'.mono HbWr.out.size)
        have hbB := Below.allocN hbA (.cells #[.slice a4 m c4] 22)
        refine hK.out _ _ ?_ (fun hHeld => ?_)
        · exact HSj.out _ hbA
        clear hK K
        try simp only [Act.put, List.setIfInBounds_toArray, List.set_cons_zero, List.set_cons_succ]
        refine wpAnyH_ready (rs := [1, 13]) (by kernel_rfl) (by simp) ?_
        refine AllReadyH.cons rfl (fun K hK => ?_) (AllReadyH.cons rfl (fun K hK => ?_) (AllReadyH.nil))
        · go_simp
          try go_wp2_with fail
          refine hK.out _ _ ?_ (fun hHeld => ?_)
          · exact HSj.out _ (by first | exact HbWr.out | exact HbWr.out.drew | exact hbA | exact hbB)
          clear hK K
          try simp only [Act.put, List.setIfInBounds_toArray, List.set_cons_zero, List.set_cons_succ]
          refine wpAnyH_ready (rs := [13]) (by kernel_rfl) (by simp) ?_
          refine AllReadyH.cons rfl (fun K hK => ?_) (AllReadyH.nil)
          · go_simp
            try go_wp2_with fail
            refine hK.out _ _ ?_ (fun hHeld => ?_)
            · exact HSj.out _ hbB
            clear hK K
            try simp only [Act.put, List.setIfInBounds_toArray, List.set_cons_zero, List.set_cons_succ]
            refine wpAnyH_ready (rs := [14]) (by kernel_rfl) (by simp) ?_
            refine AllReadyH.cons rfl (fun K hK => ?_) (AllReadyH.nil)
            · skip
              refine step_appAll (by rfl) (.tmp 37) (.tmp 49) 25 22 (by rfl) (.slice none 0 0) 24 Tryz.underlying25 infoInts (by rfl) (g + 1) a1 j c1 (List.zipWith rowV Rr (L2.take j)) (by rfl) ((hs4.om.keep (below1 _ _)).own) (some ⟨w4.heap.size, 0, none⟩) 1 1 [.slice a4 m c4] (by rfl) (fun _ => rfl) rfl (by intro y hy; obtain rfl : y = 0 := (by omega); exact cell_new' _ _ _ rfl) (by intro y hy; simp at hy; subst hy; rfl) (by omega) (by unfold maxLen; omega) (by have e2 := hs4.lt; simp; omega) ?_; intro a5 c5 w5 hown5 hgr5 hap5
              have k5 := (hs4.pushed hgr5).2.1
              have f5 := (hs4.pushed hgr5).2.2
              have hb5 : Below W.heap.size W w5 := Below.app hbB ((hs4.om.keep (below1 _ _)).own) hgr5 (by omega) (by have e2 := hs4.lt; simp; omega)
              refine hK.out _ _ ?_ (fun hHeld => ?_)
              · exact HSj.out _ hb5
              clear hK K
              try simp only [Act.put, List.setIfInBounds_toArray, List.set_cons_zero, List.set_cons_succ]
              refine wpAnyH_take (i := 15) (v := ?_) (by simp only [List.getElem?_toArray, List.getElem?_cons_succ, List.getElem?_cons_zero]; rfl) (by kernel_rfl) (by kernel_rfl) (by kernel_rfl) (by exact fun _ _ _ h => h) (Or.inl ⟨by rfl, ?_⟩) (by assumption) ?_
              rotate_left
              · (intro w hSw; (try dsimp only at hSw); go_split_ands; go_simp; first | done | with_reducible rfl)
              try simp only [Act.put, List.setIfInBounds_toArray, List.set_cons_zero, List.set_cons_succ]
              refine wpAnyH_ready (rs := [16]) (by kernel_rfl) (by simp) ?_
              refine AllReadyH.cons rfl (fun K hK => ?_) (AllReadyH.nil)
              · go_simp
                try go_wp2_with fail
                refine hK.out _ _ ?_ (fun hHeld => ?_)
                · exact HSj.out _ (hb5.setCell (by simp; omega) _)
                clear hK K
                try simp only [Act.put, List.setIfInBounds_toArray, List.set_cons_zero, List.set_cons_succ]
                refine wpAnyH_done (by kernel_rfl) ?_ _
                go_wp2_with fail
                go_roundw
                case rel =>
                  have hra : a4 ≠ none → ¬ OIn a1 Rr (ablk a4) := fun h0 hI => by
                    have h1 := (own_ne hown4 h0).1
                    have h2 := (HO.out.om.lt _ hI).2
                    have h3 : wr.drew.heap.size = wr.heap.size := rfl
                    omega
                  obtain ⟨hP, hbP⟩ := hs4.push Hvl.out (own_mono hown4 (show g + 1 ≤ wr.drew.heap.size from hgr)) hra hown5 hgr5 hap5
                  exact ⟨j + 1, a5, c5, _, by omega, by go_num, by rw [Htk.out]; exact hP, Below.trans Hbr.out ((hb4'.mono (by omega)).trans hbP)⟩
                case measure => simp [intOf] <;> omega
        · go_simp
          try go_wp2_with fail
          refine hK.out _ _ ?_ (fun hHeld => ?_)
          · exact HSj.out _ hbB
          clear hK K
          try simp only [Act.put, List.setIfInBounds_toArray, List.set_cons_zero, List.set_cons_succ]
          refine wpAnyH_ready (rs := [1]) (by kernel_rfl) (by simp) ?_
          refine AllReadyH.cons rfl (fun K hK => ?_) (AllReadyH.nil)
          · go_simp
            try go_wp2_with fail
            refine hK.out _ _ ?_ (fun hHeld => ?_)
            · exact HSj.out _ (by first | exact HbWr.out | exact HbWr.out.drew | exact hbA | exact hbB)
            clear hK K
            try simp only [Act.put, List.setIfInBounds_toArray, List.set_cons_zero, List.set_cons_succ]
            refine wpAnyH_ready (rs := [14]) (by kernel_rfl) (by simp) ?_
            refine AllReadyH.cons rfl (fun K hK => ?_) (AllReadyH.nil)
            · skip
              refine step_appAll (by rfl) (.tmp 37) (.tmp 49) 25 22 (by rfl) (.slice none 0 0) 24 Tryz.underlying25 infoInts (by rfl) (g + 1) a1 j c1 (List.zipWith rowV Rr (L2.take j)) (by rfl) ((hs4.om.keep (below1 _ _)).own) (some ⟨w4.heap.size, 0, none⟩) 1 1 [.slice a4 m c4] (by rfl) (fun _ => rfl) rfl (by intro y hy; obtain rfl : y = 0 := (by omega); exact cell_new' _ _ _ rfl) (by intro y hy; simp at hy; subst hy; rfl) (by omega) (by unfold maxLen; omega) (by have e2 := hs4.lt; simp; omega) ?_; intro a5 c5 w5 hown5 hgr5 hap5
              have k5 := (hs4.pushed hgr5).2.1
              have f5 := (hs4.pushed hgr5).2.2
              have hb5 : Below W.heap.size W w5 := Below.app hbB ((hs4.om.keep (below1 _ _)).own) hgr5 (by omega) (by have e2 := hs4.lt; simp; omega)
              refine hK.out _ _ ?_ (fun hHeld => ?_)
              · exact HSj.out _ hb5
              clear hK K
              try simp only [Act.put, List.setIfInBounds_toArray, List.set_cons_zero, List.set_cons_succ]
              refine wpAnyH_take (i := 15) (v := ?_) (by simp only [List.getElem?_toArray, List.getElem?_cons_succ, List.getElem?_cons_zero]; rfl) (by kernel_rfl) (by kernel_rfl) (by kernel_rfl) (by exact fun _ _ _ h => h) (Or.inl ⟨by rfl, ?_⟩) (by assumption) ?_
              rotate_left
              · (intro w hSw; (try dsimp only at hSw); go_split_ands; go_simp; first | done | with_reducible rfl)
              try simp only [Act.put, List.setIfInBounds_toArray, List.set_cons_zero, List.set_cons_succ]
              refine wpAnyH_ready (rs := [16]) (by kernel_rfl) (by simp) ?_
              refine AllReadyH.cons rfl (fun K hK => ?_) (AllReadyH.nil)
              · go_simp
                try go_wp2_with fail
                refine hK.out _ _ ?_ (fun hHeld => ?_)
                · exact HSj.out _ (hb5.setCell (by simp; omega) _)
                clear hK K
                try simp only [Act.put, List.setIfInBounds_toArray, List.set_cons_zero, List.set_cons_succ]
                refine wpAnyH_done (by kernel_rfl) ?_ _
                go_wp2_with fail
                go_roundw
                case rel =>
                  have hra : a4 ≠ none → ¬ OIn a1 Rr (ablk a4) := fun h0 hI => by
                    have h1 := (own_ne hown4 h0).1
                    have h2 := (HO.out.om.lt _ hI).2
                    have h3 : wr.drew.heap.size = wr.heap.size := rfl
                    omega
                  obtain ⟨hP, hbP⟩ := hs4.push Hvl.out (own_mono hown4 (show g + 1 ≤ wr.drew.heap.size from hgr)) hra hown5 hgr5 hap5
                  exact ⟨j + 1, a5, c5, _, by omega, by go_num, by rw [Htk.out]; exact hP, Below.trans Hbr.out ((hb4'.mono (by omega)).trans hbP)⟩
                case measure => simp [intOf] <;> omega
    · obtain rfl : j = n := by omega
      rw [List.take_of_length_le (by rw [HL2l.out]; exact Nat.le_refl _)] at hO
      obtain ⟨q0, q1, p0, p1, _, _, _⟩ := HS.out wr hbWr
      have g0 := hO.c0
      have g1 := hO.c1
      have z6 := HX.out.2.2.keep hbWr
      have z0 := z6.cell 0 rfl
      have z1 := z6.cell 1 rfl
      have f0 := z6.frozen 0
      have f1 := z6.frozen 1
      have hs := HsW.out
      have hMN : MatN (g + 1) wr a1 j L2 := MatN.own hO.om
      have HF := Lib.hid (And.intro (((hMN.setCell (p := ⟨w.heap.size + 1 + 1 + 1, 0, none⟩) (by simp; omega) (.int .i64 m)).setCell (p := ⟨w.heap.size + 1 + 1 + 1, 1, none⟩) (by simp; omega) (.slice a1 j c1)).mono (show w.heap.size ≤ g + 1 by omega))
        ((hbwr.setCell (p := ⟨w.heap.size + 1 + 1 + 1, 0, none⟩) (by simp; omega) (.int .i64 m)).setCell (p := ⟨w.heap.size + 1 + 1 + 1, 1, none⟩) (by simp; omega) (.slice a1 j c1)))
      clear hMN z6 hO
      go_wp2_with fail
      exact bodyPost_ret (v := .tuple #[.agg #[.int .i64 m, .slice a1 j c1], .int .i64 0]) (by simp [results, Tryz.results74, go_sem, z0, z1]) rfl ⟨a1, c1, rfl, HF.out.1, HF.out.2⟩
end

/- Canonical rows are determined by their row space; the systematic matrix (plain laws). -/
section
section
variable {O : FOps} {El : Int → Prop} {m : Nat}
theorem Piv.lessT (F : Fld O El) {L : List (List Int)} {P : List Int} {c : Nat} (h : Piv L P c) (hL : Rws El m L) {v : List Int} (hv : Vc El L.length v) {φ : List Int → Int} (hφ : Lin O El L.length φ)
    {t : Nat} (ht : t ≤ P.length) (h0 : ∀ j, j < t → φ (colS L (nth P j).toNat) = 0) : ∀ k, k ≤ t → Vc El L.length (lessTo O L P v k) ∧ φ (lessTo O L P v k) = φ v ∧ ∀ i, i < L.length → nth (lessTo O L P v k) i = if i < k then 0 else nth v i
  | 0, _ => ⟨hv, rfl, fun i _ => by rw [if_neg (by omega)]; rfl⟩
  | k + 1, hk => by
    obtain ⟨h1, h2, h3⟩ := h.lessT F hL hv hφ ht h0 k (by omega)
    have hle := h.le
    have hcol := colS_vc hL F.zero (nth P k).toNat
    have hx := h1.at (i := k) (by omega)
    refine ⟨h1.sub F hcol hx, ?_, fun i hi => ?_⟩
    · rw [lessTo, hφ.sub _ _ _ h1 hcol hx, h0 k (by omega), F.mzero hx, F.nzero, F.add_zero _ (hφ.el _ h1), h2]
    · rw [lessTo, nth_subRow O _ _ _ i (by rw [hcol.1, h1.1]) (by rw [h1.1]; exact hi), nth_colS L _ i hi, h.one k i (by omega) hi]
      by_cases e : i = k
      · subst e
        rw [if_pos rfl, F.mone hx, F.add_neg _ hx, if_pos (by omega)]
      · rw [if_neg e, F.mzero hx, F.nzero, F.add_zero _ (h1.at hi), h3 i hi]
        by_cases e2 : i < k
        · rw [if_pos e2, if_pos (by omega)]
        · rw [if_neg e2, if_neg (by omega)]
theorem asc_cut {P : List Int} (ha : ∀ i j, i < j → j < P.length → nth P i < nth P j) {x : Int} (hx : ¬ x ∈ P) : ∀ k, k ≤ P.length → ∃ t, t ≤ k ∧ (∀ j, j < t → nth P j < x) ∧ ∀ j, t ≤ j → j < k → x < nth P j
  | 0, _ => ⟨0, Nat.le_refl _, fun j hj => by omega, fun j _ hj => by omega⟩
  | k + 1, hk => by
    obtain ⟨t, h1, h2, h3⟩ := asc_cut ha hx k (by omega)
    have hne : nth P k ≠ x := fun e => hx (e ▸ nth_mem (by omega))
    by_cases ht : t = k
    · subst ht
      by_cases hlt : nth P t < x
      · exact ⟨t + 1, by omega, fun j hj => by
          by_cases e : j = t
          · subst e; exact hlt
          · exact h2 j (by omega), fun j h4 h5 => by omega⟩
      · exact ⟨t, by omega, h2, fun j h4 h5 => by
          obtain rfl : j = t := by omega
          omega⟩
    · refine ⟨t, by omega, h2, fun j h4 h5 => ?_⟩
      by_cases e : j = k
      · subst e
        have := ha t j (by omega) (by omega)
        have := h3 t (Nat.le_refl _) (by omega)
        omega
      · exact h3 j h4 (by omega)
/-- a word of the row space begins at a pivot -/
theorem lead_in (F : Fld O El) {R : List (List Int)} {P : List Int} (hR : Rws El m R) (hP : Piv R P m) (hl : Lead R P) {f : Nat → Int} (hf : RS O El m R f) {x : Nat} (hx : x < m) (h0 : ∀ y, y < x → f y = 0) (hne : f x ≠ 0) : (x : Int) ∈ P := by
  refine Classical.byContradiction fun hn => hne ?_
  obtain ⟨t, h1, h2, h3⟩ := asc_cut hl.asc hn P.length (Nat.le_refl _)
  obtain ⟨e, he, h⟩ := hf
  have hlt := hP.lt
  obtain ⟨q1, q2, q3⟩ := hP.lessT F hR (colS_vc hR F.zero x) he h1 (fun j hj => by
    have := h2 j hj
    have := hlt j (by omega)
    rw [← h _ (by omega)]
    exact h0 _ (by omega)) t (Nat.le_refl _)
  rw [h x hx, ← q2]
  refine he.zero F q1 fun i hi => ?_
  rw [q3 i hi]
  split
  · rfl
  · rw [nth_colS R x i hi]
    by_cases hi2 : i < P.length
    · have := h3 i (by omega) hi2
      exact hl.lead i x hi2 (by omega)
    · exact hP.zero i x (by omega) hi hx
/-- a word of the row space that is 0 at the pivots is 0 -/
theorem piv_zero (F : Fld O El) {R : List (List Int)} {P : List Int} (hR : Rws El m R) (hP : Piv R P m) {f : Nat → Int} (hf : RS O El m R f) (h0 : ∀ j, j < P.length → f (nth P j).toNat = 0) : ∀ x, x < m → f x = 0 := fun x hx => by
  obtain ⟨e, he, h⟩ := hf
  rw [h x hx]
  refine hP.all F hR hx e he fun y hy => ?_
  obtain ⟨j, hj, rfl⟩ := (mem_grL P _ _).1 hy
  rw [← h _ (by have := hP.lt j hj; omega)]
  exact h0 j hj
theorem asc_pair {P : List Int} (ha : ∀ i j, i < j → j < P.length → nth P i < nth P j) : P.Pairwise fun x y => x < y := by
  rw [List.pairwise_iff_getElem]
  intro i j hi hj hij
  have := ha i j hij hj
  rwa [nth_getElem hi, nth_getElem hj] at this
theorem asc_same {P P' : List Int} (ha : ∀ i j, i < j → j < P.length → nth P i < nth P j) (ha' : ∀ i j, i < j → j < P'.length → nth P' i < nth P' j) (h : ∀ x, x ∈ P ↔ x ∈ P') : P = P' := by
  have h1 := asc_pair ha
  have h2 := asc_pair ha'
  exact pair_unique (h1.imp fun h => by omega) (h2.imp fun h => by omega) ((List.perm_ext_iff_of_nodup (h1.imp fun h => by omega) (h2.imp fun h => by omega)).2 h)
/-- canonical rows with one row space are equal -/
theorem can_uniq (F : Fld O El) {R R' : List (List Int)} {P P' : List Int} (hR : Rws El m R) (hR' : Rws El m R') (hP : Piv R P m) (hP' : Piv R' P' m) (hl : Lead R P) (hl' : Lead R' P') (hlen : R.length = P.length) (hlen' : R'.length = P'.length)
    (h1 : RSub O El m R R') (h2 : RSub O El m R' R) : R = R' := by
  have key : ∀ {R R' : List (List Int)} {P P' : List Int}, Rws El m R → Piv R P m → Lead R P → Piv R' P' m → Lead R' P' → R'.length = P'.length → RSub O El m R' R → ∀ x ∈ P', x ∈ P := fun {R R' P P'} hR hP hl hP' hl' hlen' h2 x hx => by
    obtain ⟨i, hi, rfl⟩ := List.mem_iff_getElem.1 hx
    have hb := hP'.lt i hi
    have h3 := lead_in F hR hP hl (h2 i (by omega)) (x := (nth P' i).toNat) (by omega) (fun y hy => hl'.lead i y hi hy) (by
      show nth (nthR R' i) (nth P' i).toNat ≠ 0
      rw [hP'.one i i hi (by omega), if_pos rfl]; decide)
    rw [show (((nth P' i).toNat : Nat) : Int) = nth P' i by omega, nth_getElem hi] at h3
    exact h3
  have hPP : P = P' := asc_same hl.asc hl'.asc fun x => ⟨key hR' hP' hl' hP hl hlen h1 x, key hR hP hl hP' hl' hlen' h2 x⟩
  subst hPP
  refine List.ext_getElem (by omega) fun i hi hi' => ?_
  have hr := hR _ (List.getElem_mem hi)
  have hr' := hR' _ (List.getElem_mem hi')
  refine nth_ext (by rw [hr.1, hr'.1]) fun x hx => ?_
  rw [hr.1] at hx
  have hz := piv_zero F hR hP ((h2 i hi').comb F (RS.row F (m := m) hi) F.one) (fun j hj => by
    show O.add (nth (nthR R' i) (nth P j).toNat) (O.neg (O.mul (nth (nthR R i) (nth P j).toNat) 1)) = 0
    rw [hP'.one j i hj hi', hP.one j i hj hi]
    split
    · rw [F.mone F.one, F.add_neg _ F.one]
    · rw [F.mone F.zero, F.add_neg _ F.zero]) x hx
  have hz' : O.add (nth (nthR R' i) x) (O.neg (O.mul (nth (nthR R i) x) 1)) = 0 := hz
  have e1 : El (nth R[i] x) := hr.2 _ (nth_mem (by rw [hr.1]; exact hx))
  have e2 : El (nth R'[i] x) := hr'.2 _ (nth_mem (by rw [hr'.1]; exact hx))
  rw [nthR_getElem hi, nthR_getElem hi', F.mone e1] at hz'
  have h4 := F.neg_of e2 (F.cl.neg _ e1) hz'
  have h5 := congrArg O.neg h4
  rwa [F.neg_neg e1, F.neg_neg e2] at h5
/-- a form is the combination of its values at the unit vectors -/
theorem unitR_vc (F : Fld O El) (n k : Nat) : Vc El n (unitR n k) := by
  refine ⟨unitR_len n k, fun x hx => ?_⟩
  unfold unitR at hx
  rcases List.mem_or_eq_of_mem_set hx with hx | rfl
  · rw [List.eq_of_mem_replicate hx]; exact F.zero
  · exact F.one
theorem nth_unitR {n k i : Nat} (hk : k < n) : nth (unitR n k) i = if i = k then 1 else 0 := by
  unfold unitR
  rw [nth_set _ _ _ _ (by simpa using hk)]
  split
  · rfl
  · unfold nth
    simp only [List.getD_eq_getElem?_getD, List.getElem?_replicate]
    split <;> rfl
def cutTo (O : FOps) (n : Nat) (v : List Int) : Nat → List Int
  | 0 => v
  | k + 1 => subRow O (cutTo O n v k) (nth v k) (unitR n k)
theorem cut_form (F : Fld O El) {n : Nat} {φ : List Int → Int} (hφ : Lin O El n φ) {v : List Int} (hv : Vc El n v) : ∀ k, k ≤ n → Vc El n (cutTo O n v k) ∧ (∀ i, i < n → nth (cutTo O n v k) i = if i < k then 0 else nth v i) ∧
    O.add (φ (cutTo O n v k)) (dotN O (fun t => φ (unitR n t)) (fun t => nth v t) k) = φ v
  | 0, _ => ⟨hv, fun i _ => by rw [if_neg (by omega)]; rfl, by rw [dotN]; exact F.add_zero _ (hφ.el _ hv)⟩
  | k + 1, hk => by
    obtain ⟨h1, h2, h3⟩ := cut_form F hφ hv k (by omega)
    have hu := unitR_vc F n k
    have hx := hv.at (i := k) (by omega)
    refine ⟨h1.sub F hu hx, fun i hi => ?_, ?_⟩
    · rw [cutTo, nth_subRow O _ _ _ i (by rw [hu.1, h1.1]) (by rw [h1.1]; exact hi), nth_unitR (by omega), h2 i hi]
      by_cases e : i = k
      · subst e
        rw [if_pos rfl, if_neg (by omega), F.mone hx, F.add_neg _ hx, if_pos (by omega)]
      · rw [if_neg e, F.mzero hx, F.nzero]
        by_cases e2 : i < k
        · rw [if_pos e2, if_pos (by omega), F.add_zero _ F.zero]
        · rw [if_neg e2, if_neg (by omega), F.add_zero _ (hv.at hi)]
    · have hm := F.cl.mul _ _ hx (hφ.el _ hu)
      have hd := dotN_el F (a := fun t => φ (unitR n t)) (b := fun t => nth v t) k (fun p _ => hφ.el _ (unitR_vc F n p)) (fun p hp => hv.at (by omega))
      rw [cutTo, hφ.sub _ _ _ h1 hu hx, dotN, F.mul_comm _ _ (hφ.el _ hu) hx, F.add4 (hφ.el _ h1) (F.cl.neg _ hm) hd hm, F.negadd hm, F.add_zero _ (F.cl.add _ _ (hφ.el _ h1) hd), h3]
theorem form_unit (F : Fld O El) {n : Nat} {φ : List Int → Int} (hφ : Lin O El n φ) {v : List Int} (hv : Vc El n v) : φ v = dotN O (fun t => φ (unitR n t)) (fun t => nth v t) n := by
  obtain ⟨h1, h2, h3⟩ := cut_form F hφ hv n (Nat.le_refl _)
  rw [← h3, hφ.zero F h1 fun i hi => by rw [h2 i hi, if_pos hi], F.zadd (dotN_el F n (fun p _ => hφ.el _ (unitR_vc F n p)) (fun p hp => hv.at hp))]
theorem cmb_dot (F : Fld O El) {L : List (List Int)} (hL : Rws El m L) {x : List Int} (hx : ∀ k, k < L.length → El (nth x k)) {y : Nat} (hy : y < m) : ∀ k, k ≤ L.length → nth (cmbTo O m x L k) y = dotN O (fun t => nth x t) (fun t => nth (nthR L t) y) k
  | 0, _ => by
    rw [cmbTo, dotN]
    unfold nth
    simp only [List.getD_eq_getElem?_getD, List.getElem?_replicate]
    split <;> rfl
  | k + 1, hk => by
    have ih := cmb_dot F hL hx hy k (by omega)
    obtain ⟨h1, _⟩ := cmb_rs F hL hx k (by omega)
    have hr := hL.row (i := k) (by omega)
    have hd := dotN_el F (a := fun t => nth x t) (b := fun t => nth (nthR L t) y) k (fun p hp => hx p (by omega)) (fun p hp => Vc.at (hL.row (i := p) (by omega)) hy)
    rw [cmbTo, dotN]
    split
    · rename_i e0
      rw [ih, e0, F.zmul (Vc.at hr hy), F.add_zero _ hd]
    · rw [nth_addRow O _ _ _ y (by rw [hr.1, h1.1]) (by rw [h1.1]; exact hy), ih]
      split
      · rename_i e1
        show _ = O.add _ (O.mul (nth x k) (nth (nthR L k) y))
        rw [e1, F.mzero (hx k (by omega)), F.add_zero _ hd]
      · rfl
theorem asc_id {P : List Int} {k : Nat} (hl : P.length = k) (hb : ∀ j, j < k → 0 ≤ nth P j ∧ nth P j < k) (ha : ∀ i j, i < j → j < P.length → nth P i < nth P j) : ∀ j, j < k → nth P j = j := by
  have h1 : ∀ j, j < k → (j : Int) ≤ nth P j := fun j => by
    induction j with
    | zero => intro h; exact (hb 0 h).1
    | succ j ih => intro h; have := ih (by omega); have := ha j (j + 1) (by omega) (by omega); omega
  have h2 : ∀ d j, j + d + 1 = k → nth P j ≤ j := fun d => by
    induction d with
    | zero => intro j h; have := hb j (by omega); omega
    | succ d ih => intro j h; have := ih (j + 1) (by omega); have := ha j (j + 1) (by omega) (by omega); omega
  intro j hj
  have := h1 j hj
  have := h2 (k - j - 1) j (by omega)
  omega
/-- the systematic rows by forms: at the set they are the unit vectors -/
theorem sys_form (F : Fld O El) {L : List (List Int)} (hL : Rws El m L) {Q : List Int} (hQ : InN m Q) (hl : Q.length = L.length) (hg : (grS O L Q).length = Q.length) (i : Nat) (hi : i < L.length) :
    ∃ e, Lin O El L.length e ∧ (∀ y, y < m → nth (nthR (sysL O m L Q) i) y = e (colS L y)) ∧ ∀ j, j < Q.length → e (colS L (nth Q j).toNat) = if i = j then 1 else 0 := by
  have hD := pick_rws hL hQ
  have hpv := sys_pv F hL hQ hl hg
  have hJr := joinL_rws hD (unit_rws F.zero F.one Q.length)
  have hDl : (L.map (pickL Q)).length = Q.length := by rw [List.length_map, hl]
  have hJl : (joinL (L.map (pickL Q)) (unitL Q.length)).length = Q.length := by simp [joinL, unitL_len, hl]
  have hJt := joinL_take (D := L.map (pickL Q)) (U := unitL Q.length) (k := Q.length) (by rw [unitL_len, hDl]) (fun r hr => (hD r hr).1)
  have hJd := joinL_drop (D := L.map (pickL Q)) (U := unitL Q.length) (k := Q.length) (by rw [unitL_len, hDl]) (fun r hr => (hD r hr).1)
  obtain ⟨J, hJ⟩ : ∃ J, joinL (L.map (pickL Q)) (unitL Q.length) = J := ⟨_, rfl⟩
  have hsys : sysL O m L Q = mtL O m ((elimTo O J Q.length).1.map (List.drop Q.length)) L := by rw [sysL, invL, hJ]
  rw [hJ] at hpv hJr hJl hJt hJd
  obtain ⟨h1, h2, _⟩ := elim_inv F hJr Q.length (by omega)
  have h3 := elim_lead F hJr Q.length (by omega)
  have hel : (elimTo O J Q.length).1.length = Q.length := by rw [elimTo_length, hJl]
  have hEr := elim_rws F hJr Q.length (by omega)
  have hid := asc_id hpv (fun j hj => h1.lt j (by omega)) h3.asc
  obtain ⟨e, he, hx⟩ := h2 i (by omega)
  rw [hJl, hl] at he
  have hcolD : ∀ x, x < Q.length → colS J x = colS L (nth Q x).toNat := fun x hx => by
    have e1 : colS J x = colS (J.map (List.take Q.length)) x := by
      unfold colS
      rw [List.map_map]
      exact List.map_congr_left fun r _ => (nth_take hx).symm
    rw [e1, hJt]
    unfold colS
    rw [List.map_map]
    exact List.map_congr_left fun r _ => nth_pickL Q r hx
  have hcolU : ∀ x, x < Q.length → colS J (Q.length + x) = unitR L.length x := fun x hx => by
    have e1 : colS J (Q.length + x) = colS (J.map (List.drop Q.length)) x := by
      unfold colS
      rw [List.map_map]
      refine List.map_congr_left fun r _ => ?_
      unfold nth
      simp only [List.getD_eq_getElem?_getD, Function.comp, List.getElem?_drop]
    rw [e1, hJd]
    refine nth_ext (by rw [colS_length, unitL_len, unitR_len, hl]) fun t ht => ?_
    rw [colS_length, unitL_len] at ht
    rw [nth_colS _ _ _ (by rw [unitL_len]; exact ht), nthR_unit ht, nth_unitR ht, ← hl, nth_unitR hx]
    by_cases e : x = t
    · subst e; simp
    · rw [if_neg e, if_neg fun e2 => e e2.symm]
  have hT : ∀ t, t < Q.length → nth (nthR ((elimTo O J Q.length).1.map (List.drop Q.length)) i) t = e (unitR L.length t) := fun t ht => by
    rw [nthR_map0 _ List.drop_nil, ← hcolU t ht, ← hx _ (by omega)]
    unfold nth
    simp only [List.getD_eq_getElem?_getD, List.getElem?_drop]
  have hTl : ((elimTo O J Q.length).1.map (List.drop Q.length)).length = L.length := by rw [List.length_map, hel, hl]
  refine ⟨e, he, fun y hy => ?_, fun j hj => ?_⟩
  · rw [hsys, mtL, nthR_mapf _ _ (by rw [hTl]; exact hi)]
    rw [cmb_dot F hL (fun t ht => by rw [hT t (by omega)]; exact he.el _ (unitR_vc F _ t)) hy _ (Nat.le_refl _), form_unit F he (colS_vc hL F.zero y)]
    exact dotN_congr _ fun t ht => ⟨hT t (by omega), (nth_colS L y t ht).symm⟩
  · rw [← hcolD j hj, ← hx _ (by omega)]
    have := h1.one j i (by omega) (by omega)
    rw [hid j hj, Int.toNat_natCast] at this
    exact this
end
section
variable {P M : Int} {mod : List Int} {m : Nat} {L : List (List Int)}
/-- the systematic matrix generates the code, and is the identity at the set -/
theorem sys_law (hE : codeE P M mod m L = 0) {Q : List Int} (hQ : InN m Q) (hl : Q.length = L.length) (hg : (grS (tblOf P M.toNat mod).ops L Q).length = Q.length) :
    Rws (tblOf P M.toNat mod).El m (sysL (tblOf P M.toNat mod).ops m L Q) ∧ (sysL (tblOf P M.toNat mod).ops m L Q).length = L.length ∧ (sysL (tblOf P M.toNat mod).ops m L Q).map (pickL Q) = unitL Q.length ∧
    canS (tblOf P M.toNat mod) (sysL (tblOf P M.toNat mod).ops m L Q) m = L := by
  obtain ⟨N', e, hm1, hm64, F, hR⟩ := codeE_fld hE
  obtain rfl : m = N' := by omega
  have hfull := code_full hE
  have h6 := (spaceE_zero (codeE_zero hE).2.2.2).2
  rw [Int.toNat_natCast] at h6
  have hcan : canO (tblOf P M.toNat mod).ops m L = L := h6
  obtain ⟨hPv, hLd⟩ := canO_piv F hR
  have hcl := canO_len F hR
  rw [hcan] at hPv hLd hcl
  have hform := fun i hi => sys_form F hR hQ hl hg i hi
  have hD := pick_rws hR hQ
  have hIr := invL_rws F hD
  have hIl : (invL (tblOf P M.toNat mod).ops (L.map (pickL Q)) Q.length).length = L.length := by rw [invL_len _ (by rw [List.length_map, hl]), hl]
  have hSl : (sysL (tblOf P M.toNat mod).ops m L Q).length = L.length := by unfold sysL mtL; rw [List.length_map, hIl]
  have hSr : Rws (tblOf P M.toNat mod).El m (sysL (tblOf P M.toNat mod).ops m L Q) := fun r hr => by
    unfold sysL mtL at hr
    obtain ⟨s, hs, rfl⟩ := List.mem_map.1 hr
    have hs2 := hIr s hs
    exact (cmb_rs F hR (fun k hk => hs2.2 _ (nth_mem (by rw [hs2.1]; omega))) _ (Nat.le_refl _)).1
  show _ ∧ _ ∧ _ ∧ canO (tblOf P M.toNat mod).ops m (sysL (tblOf P M.toNat mod).ops m L Q) = L
  generalize sysL (tblOf P M.toNat mod).ops m L Q = S at *
  generalize (tblOf P M.toNat mod).ops = O at *
  generalize (tblOf P M.toNat mod).El = El at *
  refine ⟨hSr, hSl, ?_, ?_⟩
  · refine List.ext_getElem (by rw [List.length_map, unitL_len, hSl, hl]) fun i h1 h2 => ?_
    rw [List.length_map, hSl] at h1
    rw [← nthR_getElem, ← nthR_getElem, nthR_mapf _ _ (by rw [hSl]; exact h1), nthR_unit (by omega)]
    obtain ⟨e, he, hy, hj⟩ := hform i h1
    refine nth_ext (by rw [unitR_len]; simp [pickL]) fun j hj2 => ?_
    have hj3 : j < Q.length := by simpa [pickL] using hj2
    have hqj := hQ j hj3
    rw [nth_pickL Q _ hj3, nth_unitR (by omega), hy _ (by omega), hj j hj3]
    by_cases e2 : i = j
    · subst e2; simp
    · rw [if_neg e2, if_neg fun e3 => e2 e3.symm]
  · obtain ⟨k1, k2⟩ := canO_piv F hSr
    have k3 := canO_len F hSr
    obtain ⟨s1, s2⟩ := canO_rsub F hSr
    have hSL : RSub O El m S L := fun i hi => by
      obtain ⟨e, he, hy, _⟩ := hform i (by omega)
      exact ⟨e, he, hy⟩
    have hclA : ∀ x, x < m → clV O El L.length (colS L) (gA Q) x := fun x hx => by
      refine Classical.byContradiction fun hn => ?_
      have h1 := rkQ_out F hR (Q := Q) (x := (x : Int)) (by simpa using hn)
      have h2 := Rk.le (col_clo F hR) (rkQ_rk F hR (Q ++ [(x : Int)])) hfull fun y hy => by
        refine (col_clo F hR).mem _ _ ?_
        rw [List.mem_range]
        obtain ⟨z, hz, rfl⟩ := mem_gA.1 hy
        rcases List.mem_append.1 hz with hz | hz
        · obtain ⟨j, hj, rfl⟩ := List.mem_iff_getElem.1 hz
          have := hQ j hj
          rw [nth_getElem hj] at this
          omega
        · rw [List.mem_singleton] at hz; subst hz; simpa using hx
      have h3 : rkQ O L Q = Q.length := hg
      omega
    have hLS : RSub O El m L S := fun i hi => by
      -- the row less the combination of the systematic rows with its entries at the set
      have hcx : ∀ k, k < S.length → El (nth (pickL Q (nthR L i)) k) := fun k hk => by
        have hk2 : k < Q.length := by omega
        have := hQ k hk2
        rw [nth_pickL Q _ hk2]
        exact Vc.at (hR.row (i := i) hi) (by omega)
      obtain ⟨c1, c2⟩ := cmb_rs F hSr hcx S.length (Nat.le_refl _)
      have hd := (RS.row F (m := m) (O := O) (El := El) hi).comb F (hSL.rs c2) F.one
      obtain ⟨e, he, hx⟩ := hd
      have hz : ∀ x, x < m → O.add (nth (nthR L i) x) (O.neg (O.mul (nth (cmbTo O m (pickL Q (nthR L i)) S S.length) x) 1)) = 0 := fun x hxm => by
        have h1 : O.add (nth (nthR L i) x) (O.neg (O.mul (nth (cmbTo O m (pickL Q (nthR L i)) S S.length) x) 1)) = e (colS L x) := hx x hxm
        rw [h1]
        refine hclA x hxm e he fun y hy => ?_
        obtain ⟨q, hq, rfl⟩ := mem_gA.1 hy
        obtain ⟨j, hj, rfl⟩ := List.mem_iff_getElem.1 hq
        have hqj := hQ j hj
        rw [nth_getElem hj] at hqj
        have h2 : O.add (nth (nthR L i) (Q[j]).toNat) (O.neg (O.mul (nth (cmbTo O m (pickL Q (nthR L i)) S S.length) (Q[j]).toNat) 1)) = e (colS L (Q[j]).toNat) := hx _ (by omega)
        rw [← h2]
        have hvi : El (nth (nthR L i) (Q[j]).toNat) := Vc.at (hR.row (i := i) hi) (by omega)
        have h3 : nth (cmbTo O m (pickL Q (nthR L i)) S S.length) (Q[j]).toNat = nth (nthR L i) (Q[j]).toNat := by
          rw [cmb_dot F hSr hcx (by omega) _ (Nat.le_refl _)]
          have hone : ∀ t, t < S.length → nth (nthR S t) (Q[j]).toNat = if t = j then 1 else 0 := fun t ht => by
            obtain ⟨e', _, hy', hj'⟩ := hform t (by omega)
            have h4 := hj' j hj
            rw [nth_getElem hj] at h4
            rw [hy' _ (by omega), h4]
          have hpj : nth (pickL Q (nthR L i)) j = nth (nthR L i) (Q[j]).toNat := by rw [nth_pickL Q _ hj, nth_getElem hj]
          rw [dotN_one F (x := j) (by
            show El (O.mul (nth (pickL Q (nthR L i)) j) (nth (nthR S j) (Q[j]).toNat))
            rw [hone j (by omega), if_pos rfl, hpj, F.mone hvi]; exact hvi) S.length (fun p hp hpj => by
            show O.mul (nth (pickL Q (nthR L i)) p) (nth (nthR S p) (Q[j]).toNat) = 0
            rw [hone p hp, if_neg hpj, F.mzero (hcx p hp)]), if_pos (by omega)]
          show O.mul (nth (pickL Q (nthR L i)) j) (nth (nthR S j) (Q[j]).toNat) = _
          rw [hone j (by omega), if_pos rfl, hpj, F.mone hvi]
        rw [h3, F.mone hvi, F.add_neg _ hvi]
      refine c2.congr fun x hxm => ?_
      have h1 := hz x hxm
      have hvi : El (nth (nthR L i) x) := Vc.at (hR.row (i := i) hi) hxm
      have hvc := c1.at hxm
      rw [F.mone hvc] at h1
      have h4 := F.neg_of hvi (F.cl.neg _ hvc) h1
      have h5 := congrArg O.neg h4
      rw [F.neg_neg hvc, F.neg_neg hvi] at h5
      exact h5.symm
    exact can_uniq F (canO_rws F hSr) hR k1 hPv k2 hLd k3 hcl (s1.trans hSL) (hLS.trans s2)
end
end

/- The walks of the references: Same of layers 04 and 12, at equal codes. -/
section
open Go.RowKit

set_option maxRecDepth 100000 in
set_option maxHeartbeats 1600000 in
theorem rSame04_any (P M : Int) (am : Option Addr) (mn cm : Nat) (mod : List Int) (am' : Option Addr) (mn' cm' : Nat) (w : World) (h : Ints w am mn mod) (h' : Ints w am' mn' mod) :
    Calls Tryz.prog 78 #[.agg #[.int .i64 P, .int .i64 M, .slice am mn cm], .agg #[.int .i64 P, .int .i64 M, .slice am' mn' cm']] w fun e w' => e = .returned (.bool true) ∧ Below w.heap.size w w' := by
  obtain rfl : mn = mn' := by have := h.len; have := h'.len; omega
  have hpl := h.pl
  have hpl' := h'.pl
  have hmax := h.max
  unfold maxLen at hmax
  go_enter Tryz.func78, Tryz.ntmps78
  go_wp2_with fail
  obtain ⟨W, hW⟩ : ∃ W : World, W = (w.alloc (.cells #[.int .i64 P, .int .i64 M, .slice am mn cm] 24)).alloc (.cells #[.int .i64 P, .int .i64 M, .slice am' mn cm'] 24) := ⟨_, rfl⟩
  rw [← hW]
  have hbW : Below w.heap.size w W := by rw [hW]; exact below2 _ _ _
  have x0 : Box W w.heap.size [.int .i64 P, .int .i64 M, .slice am mn cm] := by rw [hW]; exact (Box.new _ _ _ rfl).alloc _
  have y0 : Box W (w.heap.size + 1) [.int .i64 P, .int .i64 M, .slice am' mn cm'] := by rw [hW]; exact Box.new _ _ _ (by simp)
  have hS : ∀ V, Below W.heap.size W V → V.cell? ⟨w.heap.size, 0, none⟩ = some (.int .i64 P) ∧ V.cell? ⟨w.heap.size, 1, none⟩ = some (.int .i64 M) ∧ V.cell? ⟨w.heap.size, 2, none⟩ = some (.slice am mn cm) ∧
      V.cell? ⟨w.heap.size + 1, 0, none⟩ = some (.int .i64 P) ∧ V.cell? ⟨w.heap.size + 1, 1, none⟩ = some (.int .i64 M) ∧ V.cell? ⟨w.heap.size + 1, 2, none⟩ = some (.slice am' mn cm') ∧ Below W.heap.size W V := fun V hV => by
    have x1 := x0.keep hV
    have y1 := y0.keep hV
    exact ⟨x1.cell 0 rfl, x1.cell 1 rfl, x1.cell 2 rfl, y1.cell 0 rfl, y1.cell 1 rfl, y1.cell 2 rfl, hV⟩
  have HS := Lib.hid hS
  have hh := h.keep hbW
  have hh' := h'.keep hbW
  clear hW x0 y0 hS
  obtain ⟨c0, c1, c2, d0, d1, d2, _⟩ := HS.out W (Below.refl _ _)
  have hPP : (P != P) = false := by simp
  have hMM : (M != M) = false := by simp
  have hnn : ((mn : Int) != mn) = false := by simp
  go_wp2_with fail
  clear hPP hMM hnn c0 c1 c2 d0 d1 d2
  go_loopw [5] (fun iv wr => ∃ k : Nat, k ≤ mn ∧ iv = .int .i64 k ∧ Drawn W wr) (fun iv _ => mn - (intOf iv).toNat)
  case atStart => exact ⟨0, Nat.zero_le _, rfl, Drawn.refl _⟩
  case round =>
    obtain ⟨k, hk, rfl, hd⟩ := hrel
    obtain ⟨c0, c1, c2, d0, d1, d2, _⟩ := HS.out wr hd.below
    by_cases hlt : k < mn
    · have cc := (hh.drawn hd).cell k hlt
      have dd := (hh'.drawn hd).cell k hlt
      have hne : (nth mod k != nth mod k) = false := by simp
      go_wp2_with fail
      go_quiet (fail)
      go_wp2_with fail
      go_roundw
      case rel => exact ⟨k + 1, by omega, by go_num, hd.drewN _⟩
      case measure => simp [intOf] <;> omega
    · obtain rfl : k = mn := by omega
      have hF := Below.next hbW hd.below
      go_wp2_with fail
      go_ret
      exact ⟨rfl, hF⟩

set_option maxRecDepth 100000 in
set_option maxHeartbeats 1600000 in
theorem rSame12_any (P M : Int) (am : Option Addr) (mn cm : Nat) (mod : List Int) (am' : Option Addr) (mn' cm' : Nat) (N : Int) (a : Option Addr) (n c : Nat) (L : List (List Int)) (a' : Option Addr) (n' c' : Nat) (w : World) (h : Ints w am mn mod) (h' : Ints w am' mn' mod) (hL : Mat w a n L) (hL' : Mat w a' n' L) :
    Calls Tryz.prog 37 #[.agg #[.int .i64 P, .int .i64 M, .slice am mn cm, .int .i64 N, .slice a n c], .agg #[.int .i64 P, .int .i64 M, .slice am' mn' cm', .int .i64 N, .slice a' n' c']] w fun e w' => e = .returned (.bool true) ∧ Below w.heap.size w w' := by
  go_enter Tryz.func37, Tryz.ntmps37
  go_wp2_with fail
  obtain ⟨W, hW⟩ : ∃ W : World, W = (w.alloc (.cells #[.int .i64 P, .int .i64 M, .slice am mn cm, .int .i64 N, .slice a n c] 27)).alloc (.cells #[.int .i64 P, .int .i64 M, .slice am' mn' cm', .int .i64 N, .slice a' n' c'] 27) := ⟨_, rfl⟩
  rw [← hW]
  have hbW : Below w.heap.size w W := by rw [hW]; exact below2 _ _ _
  have x0 : Box W w.heap.size [.int .i64 P, .int .i64 M, .slice am mn cm, .int .i64 N, .slice a n c] := by rw [hW]; exact (Box.new _ _ _ rfl).alloc _
  have y0 : Box W (w.heap.size + 1) [.int .i64 P, .int .i64 M, .slice am' mn' cm', .int .i64 N, .slice a' n' c'] := by rw [hW]; exact Box.new _ _ _ (by simp)
  have hS : ∀ V, Below W.heap.size W V → V.cell? ⟨w.heap.size, 0, none⟩ = some (.int .i64 P) ∧ V.cell? ⟨w.heap.size, 1, none⟩ = some (.int .i64 M) ∧ V.cell? ⟨w.heap.size, 2, none⟩ = some (.slice am mn cm) ∧ V.cell? ⟨w.heap.size, 3, none⟩ = some (.int .i64 N) ∧ V.cell? ⟨w.heap.size, 4, none⟩ = some (.slice a n c) ∧
      V.cell? ⟨w.heap.size + 1, 0, none⟩ = some (.int .i64 P) ∧ V.cell? ⟨w.heap.size + 1, 1, none⟩ = some (.int .i64 M) ∧ V.cell? ⟨w.heap.size + 1, 2, none⟩ = some (.slice am' mn' cm') ∧ V.cell? ⟨w.heap.size + 1, 3, none⟩ = some (.int .i64 N) ∧ V.cell? ⟨w.heap.size + 1, 4, none⟩ = some (.slice a' n' c') := fun V hV => by
    have x1 := x0.keep hV
    have y1 := y0.keep hV
    exact ⟨x1.cell 0 rfl, x1.cell 1 rfl, x1.cell 2 rfl, x1.cell 3 rfl, x1.cell 4 rfl, y1.cell 0 rfl, y1.cell 1 rfl, y1.cell 2 rfl, y1.cell 3 rfl, y1.cell 4 rfl⟩
  have HS := Lib.hid hS
  have hNN : (N == N) = true := by simp
  clear hW x0 y0 hS
  obtain ⟨c0, c1, c2, c3, c4, d0, d1, d2, d3, d4⟩ := HS.out W (Below.refl _ _)
  go_wp2_with fail
  refine (rSame04_any P M am mn cm mod am' mn' cm' W (h.keep hbW) (h'.keep hbW)).mono ?_
  rintro e w1 ⟨rfl, hb1⟩
  clear c0 c1 c2 c3 c4 d0 d1 d2 d3 d4
  obtain ⟨c0, c1, c2, c3, c4, d0, d1, d2, d3, d4⟩ := HS.out w1 hb1
  have hbw1 := Below.next hbW hb1
  have hr := rSameRows_any a n c L a' n' c' L (hL.keep hbw1) (hL'.keep hbw1)
  rw [decide_eq_true (rfl : L = L)] at hr
  have Hr := Lib.hid hr
  clear hr
  go_wp2_with fail
  refine Hr.out.mono ?_
  rintro e w2 ⟨rfl, hd⟩
  have hF := Below.next hbw1 hd.below
  go_wp2_with fail
  go_ret
  exact ⟨rfl, hF⟩
end

end Go.Proofs.YtapjcccpokhhhaaGreat
