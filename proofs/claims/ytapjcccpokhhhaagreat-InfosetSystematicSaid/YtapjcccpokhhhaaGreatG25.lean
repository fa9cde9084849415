/- The walk of matrix.Columns, at positions in range. -/
import Derived.Test.YtapjcccpokhhhaaGreatG24
import Derived.Test.YtapjcccpokhhhaaGreatG21
import Derived.Test.YtapjcccpokhhhaaGreatG20
namespace Go.Proofs.YtapjcccpokhhhaaGreat
set_option linter.unusedVariables false
set_option linter.unusedSimpArgs false
set_option linter.unusedSectionVars false

/- The walks of codewrightref09 at valid matrices: square, Canonical, Rank, two. -/
section
open Go.RowKit

theorem rMat_ok {P M : Int} (am : Option Addr) (mn cm : Nat) {mod : List Int} (k : Nat) (a : Option Addr) (n c : Nat) {D : List (List Int)} {w : World} (hmod : Ints w am mn mod) (hi : Mat w a n D) (hB : fieldB P M mod = true) (hR : Rws (tblOf P M.toNat mod).El k D) (hk : k ≤ 256) (hn : n ≤ 256) :
    ∀ V, Below w.heap.size w V → Calls Tryz.prog 133 #[.agg #[.int .i64 P, .int .i64 M, .slice am mn cm], .agg #[.int .i64 k, .slice a n c]] V fun e w' => e = .returned (.int .i64 0) ∧ Below V.heap.size V w' := fun V hV => by
  have h := rMatCheck_any P M am mn cm mod k a n c D V (hmod.keep hV) (hi.keep hV)
  rw [rmatE_eq, fmatE_mk hB hk (by rw [hi.len]; exact hn) hR] at h
  exact h

set_option maxRecDepth 100000 in
set_option maxHeartbeats 1600000 in
theorem rSquare_any (P M : Int) (am : Option Addr) (mn cm : Nat) (mod : List Int) (k : Nat) (a : Option Addr) (c : Nat) (D : List (List Int)) (w : World) (hmod : Ints w am mn mod) (hi : Mat w a k D) (hB : fieldB P M mod = true) (hR : Rws (tblOf P M.toNat mod).El k D) (hk : k ≤ 64) :
    Calls Tryz.prog 123 #[.agg #[.int .i64 P, .int .i64 M, .slice am mn cm], .agg #[.int .i64 k, .slice a k c]] w fun e w' => e = .returned (.int .i64 0) ∧ Below w.heap.size w w' := by
  have HC := Lib.hid (rMat_ok am mn cm k a k c hmod hi hB hR (by omega) (by omega))
  clear hmod hi hB hR
  go_enter Tryz.func123, Tryz.ntmps123
  go_wp2_with fail
  obtain ⟨W, hW⟩ : ∃ W : World, W = (w.alloc (.cells #[.int .i64 P, .int .i64 M, .slice am mn cm] 24)).alloc (.cells #[.int .i64 k, .slice a k c] 52) := ⟨_, rfl⟩
  rw [← hW]
  have hbW : Below w.heap.size w W := by rw [hW]; exact below2 _ _ _
  have x1 : Box W (w.heap.size + 1) [.int .i64 k, .slice a k c] := by rw [hW]; exact Box.new _ _ _ (by simp)
  clear hW
  refine (HC.out W hbW).mono ?_
  rintro e w1 ⟨rfl, hb1⟩
  have r1 := x1.keep hb1
  have m0 := r1.cell 0 rfl
  have m1 := r1.cell 1 rfl
  have hF := Below.next hbW hb1
  have hkk : ((k : Int) != k) = false := by simp
  clear r1 x1
  go_wp2_with fail
  go_ret
  exact ⟨rfl, hF⟩

set_option maxRecDepth 100000 in
set_option maxHeartbeats 1600000 in
theorem rTwo_any (P M : Int) (am : Option Addr) (mn cm : Nat) (mod : List Int) (k : Nat) (a : Option Addr) (n c : Nat) (A : List (List Int)) (m : Nat) (ab : Option Addr) (nb cb : Nat) (B : List (List Int)) (w : World) (hmod : Ints w am mn mod) (hi : Mat w a n A) (hb : Mat w ab nb B) (hB : fieldB P M mod = true) (hA : Rws (tblOf P M.toNat mod).El k A) (hBr : Rws (tblOf P M.toNat mod).El m B) (hk : k ≤ 256) (hm : m ≤ 256) (hn : n ≤ 256) (hnb : nb ≤ 256) :
    Calls Tryz.prog 126 #[.agg #[.int .i64 P, .int .i64 M, .slice am mn cm], .agg #[.int .i64 k, .slice a n c], .agg #[.int .i64 m, .slice ab nb cb]] w fun e w' => e = .returned (.int .i64 0) ∧ Below w.heap.size w w' := by
  have HC := Lib.hid (rMat_ok am mn cm k a n c hmod hi hB hA hk hn)
  have HC2 := Lib.hid (rMat_ok am mn cm m ab nb cb hmod hb hB hBr hm hnb)
  clear hmod hi hB hA hBr hb
  go_enter Tryz.func126, Tryz.ntmps126
  go_wp2_with fail
  obtain ⟨W, hW⟩ : ∃ W : World, W = ((w.alloc (.cells #[.int .i64 P, .int .i64 M, .slice am mn cm] 24)).alloc (.cells #[.int .i64 k, .slice a n c] 52)).alloc (.cells #[.int .i64 m, .slice ab nb cb] 52) := ⟨_, rfl⟩
  rw [← hW]
  have hbW : Below w.heap.size w W := by rw [hW]; exact below3 _ _ _ _
  have x0 : Box W w.heap.size [.int .i64 P, .int .i64 M, .slice am mn cm] := by rw [hW]; exact ((Box.new _ _ _ rfl).alloc _).alloc _
  have x2 : Box W (w.heap.size + 1 + 1) [.int .i64 m, .slice ab nb cb] := by rw [hW]; exact Box.new _ _ _ (by simp)
  clear hW
  refine (HC.out W hbW).mono ?_
  rintro e w1 ⟨rfl, hb1⟩
  have hbw1 := Below.next hbW hb1
  have r0 := x0.keep hb1
  have r2 := x2.keep hb1
  have f0 := r0.cell 0 rfl
  have f1 := r0.cell 1 rfl
  have f2 := r0.cell 2 rfl
  have m0 := r2.cell 0 rfl
  have m1 := r2.cell 1 rfl
  have Hc := Lib.hid (HC2.out w1 hbw1)
  clear r0 r2 x0 x2
  go_wp2_with fail
  refine Hc.out.mono ?_
  rintro e w2 ⟨rfl, hb2⟩
  have hF := Below.next hbw1 hb2
  go_wp2_with fail
  go_ret
  exact ⟨rfl, hF⟩

set_option maxRecDepth 100000 in
set_option maxHeartbeats 3200000 in
theorem rCanonical_any (P M : Int) (am : Option Addr) (mn cm : Nat) (mod : List Int) (k : Nat) (a : Option Addr) (n c : Nat) (D : List (List Int)) (w : World) (hmod : Ints w am mn mod) (hi : Mat w a n D) (hB : fieldB P M mod = true) (hR : Rws (tblOf P M.toNat mod).El k D) (hk : k ≤ 256) (hn : n ≤ 256) :
    Calls Tryz.prog 173 #[.agg #[.int .i64 P, .int .i64 M, .slice am mn cm], .agg #[.int .i64 k, .slice a n c]] w fun e w' => ∃ a1 c1 ap cp, e = .returned (.tuple #[.agg #[.int .i64 k, .slice a1 (elimTo (tblOf P M.toNat mod).ops D k).2.length c1], .slice ap (elimTo (tblOf P M.toNat mod).ops D k).2.length cp, .int .i64 0]) ∧ Below w.heap.size w w' := by
  have HC := Lib.hid (rMat_ok am mn cm k a n c hmod hi hB hR hk hn)
  have hinv := hinv_all (P := P) (M := M) (mod := mod) (by rw [fieldRB_eq]; exact hB)
  obtain ⟨M', rfl, hel, _, hF, hA, _⟩ := eq_ops hB
  obtain ⟨M2, e2, hrf, hmods⟩ := fieldRB_rf (by rw [fieldRB_eq]; exact hB)
  obtain rfl : M' = M2 := by omega
  rw [Int.toNat_natCast] at hR hinv ⊢
  rw [← hel] at hR
  have hag := (elimTo_agr hA hF.cl hR k (Nat.le_refl _)).1
  rw [hag]
  have HCn : Hid (∀ V, Below w.heap.size w V → Calls Tryz.prog 134 #[.agg #[.int .i64 P, .int .i64 M', .slice am mn cm], .slice a n c, .int .i64 k] V fun e w' =>
      Below V.heap.size V w' ∧ ∃ a1 c1 ap cp, e = .returned (.tuple #[.slice a1 (elimTo (rops P M' mod) D k).2.length c1, .slice ap (elimTo (rops P M' mod) D k).2.length cp])) := fun V hV => by
    refine (rCanon_any P M' am mn cm mod a n c k D V ⟨hrf, hmods V am mn (hmod.keep hV)⟩ (hi.keep hV) hR (by omega) (by omega) hinv).mono ?_
    rintro e w' ⟨a4, c4, ap, cp, rfl, _, _, hb⟩
    exact ⟨hb, a4, c4, ap, cp, rfl⟩
  obtain ⟨q, hq⟩ : ∃ q, (elimTo (rops P M' mod) D k).2.length = q := ⟨_, rfl⟩
  rw [hq] at HCn ⊢
  clear hB hR hinv hel hF hA e2 hrf hmods hag hq hmod hi
  go_enter Tryz.func173, Tryz.ntmps173
  go_wp2_with fail
  obtain ⟨W, hW⟩ : ∃ W : World, W = ((w.alloc (.cells #[.int .i64 P, .int .i64 M', .slice am mn cm] 24)).alloc (.cells #[.int .i64 k, .slice a n c] 52)).alloc (.cells #[.int .i64 0, .slice none 0 0] 52) := ⟨_, rfl⟩
  rw [← hW]
  have hbW : Below w.heap.size w W := by rw [hW]; exact below3 _ _ _ _
  have x0 : Box W w.heap.size [.int .i64 P, .int .i64 M', .slice am mn cm] := by rw [hW]; exact ((Box.new _ _ _ rfl).alloc _).alloc _
  have x1 : Box W (w.heap.size + 1) [.int .i64 k, .slice a n c] := by rw [hW]; exact (Box.new _ _ _ (by simp)).alloc _
  have x2 : Box W (w.heap.size + 1 + 1) [.int .i64 0, .slice none 0 0] := by rw [hW]; exact Box.new _ _ _ (by simp)
  have HX := Lib.hid (And.intro x0 (And.intro x1 x2))
  clear hW x0 x1 x2
  refine (HC.out W hbW).mono ?_
  rintro e w1 ⟨rfl, hb1⟩
  have hbw1 := Below.next hbW hb1
  have r0 := HX.out.1.keep hb1
  have r1 := HX.out.2.1.keep hb1
  have f0 := r0.cell 0 rfl
  have f1 := r0.cell 1 rfl
  have f2 := r0.cell 2 rfl
  have m0 := r1.cell 0 rfl
  have m1 := r1.cell 1 rfl
  have Hc := Lib.hid (HCn.out w1 hbw1)
  clear r0 r1
  go_wp2_with fail
  refine Hc.out.mono ?_
  rintro e w2 ⟨hb2, a1, c1, ap, cp, rfl⟩
  have hbw2 := Below.next hbw1 hb2
  have r1 := HX.out.2.1.keep (Below.next hb1 hb2)
  have r2 := HX.out.2.2.keep (Below.next hb1 hb2)
  have m0 := r1.cell 0 rfl
  have z0 := r2.cell 0 rfl
  have z1 := r2.cell 1 rfl
  have g0 := r2.frozen 0
  have g1 := r2.frozen 1
  have hF : Below w.heap.size w ((w2.setCell ⟨w.heap.size + 1 + 1, 0, none⟩ (.int .i64 k)).setCell ⟨w.heap.size + 1 + 1, 1, none⟩ (.slice a1 q c1)) := (hbw2.setCell (p := ⟨w.heap.size + 1 + 1, 0, none⟩) (by simp; omega) _).setCell (p := ⟨w.heap.size + 1 + 1, 1, none⟩) (by simp; omega) _
  clear r1 r2 Hc f0 f1 f2 m1
  go_wp2_with fail
  exact bodyPost_ret (v := .tuple #[.agg #[.int .i64 k, .slice a1 q c1], .slice ap q cp, .int .i64 0]) (by simp [results, Tryz.results173, go_sem, z0, z1]) rfl ⟨a1, c1, ap, cp, rfl, hF⟩

set_option maxRecDepth 100000 in
set_option maxHeartbeats 1600000 in
theorem rRank09_any (P M : Int) (am : Option Addr) (mn cm : Nat) (mod : List Int) (k : Nat) (a : Option Addr) (n c : Nat) (D : List (List Int)) (w : World) (hmod : Ints w am mn mod) (hi : Mat w a n D) (hB : fieldB P M mod = true) (hR : Rws (tblOf P M.toNat mod).El k D) (hk : k ≤ 256) (hn : n ≤ 256) :
    Calls Tryz.prog 125 #[.agg #[.int .i64 P, .int .i64 M, .slice am mn cm], .agg #[.int .i64 k, .slice a n c]] w fun e w' => e = .returned (.tuple #[.int .i64 (elimTo (tblOf P M.toNat mod).ops D k).2.length, .int .i64 0]) ∧ Below w.heap.size w w' := by
  have HC := Lib.hid (fun V (hV : Below w.heap.size w V) => rCanonical_any P M am mn cm mod k a n c D V (hmod.keep hV) (hi.keep hV) hB hR hk hn)
  obtain ⟨q, hq⟩ : ∃ q, (elimTo (tblOf P M.toNat mod).ops D k).2.length = q := ⟨_, rfl⟩
  rw [hq] at HC ⊢
  clear hmod hi hB hR hq
  go_enter Tryz.func125, Tryz.ntmps125
  go_wp2_with fail
  have hbW := below2 w (.cells #[.int .i64 P, .int .i64 M, .slice am mn cm] 24) (.cells #[.int .i64 k, .slice a n c] 52)
  refine (HC.out _ hbW).mono ?_
  rintro e w1 ⟨a1, c1, ap, cp, rfl, hb1⟩
  have hF := Below.next (Below.next hbW hb1) (below1 w1 (.cells #[.int .i64 k, .slice a1 q c1] 52))
  go_wp2_with fail
  go_ret2
  exact ⟨rfl, hF⟩
end

/- The walk of codewrightref09.Transform, at valid square matrices. -/
section
open Go.RowKit

theorem nthR_join {D U : List (List Int)} {i : Nat} (h1 : i < D.length) (h2 : i < U.length) : nthR (joinL D U) i = nthR D i ++ nthR U i := by
  have h : i < (joinL D U).length := by simp [joinL]; omega
  rw [nthR_getElem h, nthR_getElem h1, nthR_getElem h2]
  simp [joinL]

theorem Ints.drop {w : World} {b o : Nat} {n k : Nat} {l : List Int} (h : Ints w (some ⟨b, o, none⟩) n l) (hk : k ≤ n) : Ints w (some ⟨b, o + k, none⟩) (n - k) (l.drop k) :=
  ⟨by rw [List.length_drop, h.len], fun _ => rfl, by have := h.max; omega, fun i hi => by
    have h1 := h.cell (k + i) (by omega)
    have e : nth (l.drop k) i = nth l (k + i) := by unfold nth; simp only [List.getD_eq_getElem?_getD, List.getElem?_drop]
    rw [e]
    simp only [ablk_some, aoff_some] at h1 ⊢
    rw [Nat.add_assoc]; exact h1⟩

set_option maxRecDepth 100000 in
set_option maxHeartbeats 8000000 in
theorem rTransform_any (P M : Int) (am : Option Addr) (mn cm : Nat) (mod : List Int) (k : Nat) (a : Option Addr) (c : Nat) (D : List (List Int)) (w : World) (hmod : Ints w am mn mod) (hi : Mat w a k D) (hB : fieldB P M mod = true) (hR : Rws (tblOf P M.toNat mod).El k D) (hk : k ≤ 64) :
    Calls Tryz.prog 124 #[.agg #[.int .i64 P, .int .i64 M, .slice am mn cm], .agg #[.int .i64 k, .slice a k c]] w fun e w' =>
      ∃ a1 c1 a2 c2, e = .returned (.tuple #[.agg #[.int .i64 k, .slice a1 k c1], .agg #[.int .i64 k, .slice a2 k c2], .int .i64 0]) ∧ MatN w.heap.size w' a1 k (invL (tblOf P M.toNat mod).ops D k) ∧ Below w.heap.size w w' := by
  have HC := Lib.hid (rMat_ok am mn cm k a k c hmod hi hB hR (by omega) (by omega))
  have hinv := hinv_all (P := P) (M := M) (mod := mod) (by rw [fieldRB_eq]; exact hB)
  have F := fieldB_fld hB
  have hDl := hi.len
  have hJr := joinL_rws hR (unit_rws F.zero F.one k)
  have hJl : (joinL D (unitL k)).length = k := by simp [joinL, unitL_len, hDl]
  have HJn : Hid (∀ i, i < k → (joinL D (unitL k)).take (i + 1) = (joinL D (unitL k)).take i ++ [nthR D i ++ unitR k i] ∧ (nthR D i).length = k) := fun i hi' => by
    have h := nthR_join (D := D) (U := unitL k) (i := i) (by omega) (by rw [unitL_len]; exact hi')
    rw [nthR_unit hi'] at h
    rw [List.take_succ_eq_append_getElem (by rw [hJl]; exact hi'), ← nthR_getElem (by rw [hJl]; exact hi'), h]
    exact ⟨rfl, (hR.row (i := i) (by omega)).1⟩
  unfold invL
  obtain ⟨J, hJ⟩ : ∃ J, joinL D (unitL k) = J := ⟨_, rfl⟩
  rw [hJ] at hJr hJl HJn ⊢
  obtain ⟨M', rfl, hel, _, hF, hA, _⟩ := eq_ops hB
  obtain ⟨M2, e2, hrf, hmods⟩ := fieldRB_rf (by rw [fieldRB_eq]; exact hB)
  obtain rfl : M' = M2 := by omega
  rw [Int.toNat_natCast] at hJr hinv ⊢
  rw [← hel] at hJr
  have hag := (elimTo_agr hA hF.cl hJr k (by omega)).1
  rw [hag]
  have HEl : Hid (∀ V ab cb, Below w.heap.size w V → Mat V ab k J → Calls Tryz.prog 172 #[.agg #[.int .i64 P, .int .i64 M', .slice am mn cm], .slice ab k cb, .int .i64 k] V fun e w' =>
      Below V.heap.size V w' ∧ ∃ a1 c1 v, e = .returned (.tuple #[.slice a1 k c1, v]) ∧ Mat w' a1 k (elimTo (rops P M' mod) J k).1 ∧ Hid (∀ j, j < k → ∀ ra rn rc, w'.cell? ⟨ablk a1, aoff a1 + j, none⟩ = some (.slice ra rn rc) → rn ≤ rc)) := fun V ab cb hV hM => by
    refine (rElim_any P M' am mn cm mod ab k cb k (k + k) J V ⟨hrf, hmods V am mn (hmod.keep hV)⟩ hM hJr (by omega) (by omega) (by omega) hinv).mono ?_
    rintro e w' ⟨a4, c4, R4, ap, cp, rfl, hO, _, hb⟩
    rw [hJl] at hO ⊢
    refine ⟨hb, a4, c4, _, rfl, hO.mat, fun j hj ra rn rc hc => ?_⟩
    have h1 := hO.cell hj
    rw [hc] at h1
    have h2 := own_cap (hO.row j hj)
    simp only [Option.some.injEq, Value.slice.injEq] at h1
    omega
  have HEn : Hid ((elimTo (rops P M' mod) J k).1.length = k) := by show _ = _; rw [elimTo_length]; exact hJl
  have HEw : Hid (∀ i, i < k → (nthR (elimTo (rops P M' mod) J k).1 i).length = k + k) := fun i hi' => by
    have h := elimTo_agr hA hF.cl hJr k (by omega)
    rw [h.1] at h
    exact (h.2.row (i := i) (by rw [elimTo_length]; omega)).1
  obtain ⟨E, hE⟩ : ∃ E, (elimTo (rops P M' mod) J k).1 = E := ⟨_, rfl⟩
  rw [hE] at HEl HEw HEn ⊢
  have HJl := Lib.hid hJl
  clear hB hR hinv hel hF hA e2 hrf hmods hag hE hmod F hJr hJ hJl hDl
  go_enter Tryz.func124, Tryz.ntmps124
  go_wp2_with fail
  obtain ⟨W, hW⟩ : ∃ W : World, W = (((w.alloc (.cells #[.int .i64 P, .int .i64 M', .slice am mn cm] 24)).alloc (.cells #[.int .i64 k, .slice a k c] 52)).alloc (.cells #[.int .i64 0, .slice none 0 0] 52)).alloc (.cells #[.int .i64 0, .slice none 0 0] 52) := ⟨_, rfl⟩
  rw [← hW]
  have hbW : Below w.heap.size w W := by rw [hW]; exact ((((Below.refl _ _).alloc (Nat.le_refl _) _).alloc (by simp) _).alloc (by simp; omega) _).alloc (by simp; omega) _
  have x0 : Box W w.heap.size [.int .i64 P, .int .i64 M', .slice am mn cm] := by rw [hW]; exact (((Box.new _ _ _ rfl).alloc _).alloc _).alloc _
  have x1 : Box W (w.heap.size + 1) [.int .i64 k, .slice a k c] := by rw [hW]; exact ((Box.new _ _ _ (by simp)).alloc _).alloc _
  have x2 : Box W (w.heap.size + 1 + 1) [.int .i64 0, .slice none 0 0] := by rw [hW]; exact (Box.new _ _ _ (by simp)).alloc _
  have x3 : Box W (w.heap.size + 1 + 1 + 1) [.int .i64 0, .slice none 0 0] := by rw [hW]; exact Box.new _ _ _ (by simp)
  have HS : Hid (∀ V, Below W.heap.size W V → (V.cell? ⟨w.heap.size, 0, none⟩ = some (.int .i64 P) ∧ V.cell? ⟨w.heap.size, 1, none⟩ = some (.int .i64 M') ∧ V.cell? ⟨w.heap.size, 2, none⟩ = some (.slice am mn cm)) ∧ V.cell? ⟨w.heap.size + 1, 0, none⟩ = some (.int .i64 k) ∧ V.cell? ⟨w.heap.size + 1, 1, none⟩ = some (.slice a k c)) := fun V hV => by
    have r0 := x0.keep hV
    have r1 := x1.keep hV
    exact ⟨⟨r0.cell 0 rfl, r0.cell 1 rfl, r0.cell 2 rfl⟩, r1.cell 0 rfl, r1.cell 1 rfl⟩
  have HX := Lib.hid (And.intro x2 x3)
  have HbW := Lib.hid hbW
  clear hW x0 x1 x2 x3 hbW
  refine (HC.out W HbW.out).mono ?_
  rintro e w1 ⟨rfl, hb1⟩
  obtain ⟨⟨f0, f1, f2⟩, m0, m1⟩ := HS.out w1 hb1
  have hun := rUnit09_any k w1 (by omega)
  have Hun := Lib.hid hun
  have hpla := hi.pl
  clear hun HC f0 f1 f2
  go_wp2_with fail
  refine Hun.out.mono ?_
  rintro e X ⟨au, cu, Ru, rfl, hU, hb2⟩
  have hbX := Below.next hb1 hb2
  have hbwX := Below.next HbW.out hbX
  have HMu := Lib.hid hU.mat
  have hplu := hU.mat.pl
  have hiX := hi.keep hbwX
  clear hU m0 m1 Hun hb1 hb2 hi
  go_wp2_with fail
  go_loopw [10, 11] (fun ov iv wr => ∃ (i : Nat) (ab : Option Addr) (cb : Nat), i ≤ k ∧ iv = .int .i64 i ∧ ov = .slice ab i cb ∧ (∃ R, OMat wr X.heap.size ab i cb R (J.take i)) ∧ Below X.heap.size X wr) (fun _ iv _ => k - (intOf iv).toNat)
  case atStart => exact ⟨0, none, 0, Nat.zero_le _, rfl, rfl, ⟨[], by simpa using OMat.empty X X.heap.size⟩, Below.refl _ _⟩
  case round =>
    obtain ⟨i, ab, cb, hik, rfl, rfl, ⟨R, hO⟩, hbr⟩ := hrel
    by_cases hlt : i < k
    · obtain ⟨ra, rn, rc, hcell, hrow⟩ := hiX.cell i hlt
      obtain ⟨ua, un, uc, hcellu, hrowu⟩ := HMu.out.cell i hlt
      obtain ⟨hst, hrl⟩ := HJn.out i hlt
      have hrn : rn = k := by rw [← hrow.len]; exact hrl
      have hun : un = k := by rw [← hrowu.len, nthR_unit hlt, unitR_len]
      obtain rfl : k = rn := hrn.symm
      obtain rfl : k = un := hun.symm
      rw [nthR_unit hlt] at hrowu
      obtain ⟨Di, hDi⟩ : ∃ Di, nthR D i = Di := ⟨_, rfl⟩
      obtain ⟨Ui, hUi⟩ : ∃ Ui, unitR k i = Ui := ⟨_, rfl⟩
      rw [hDi] at hrow hst hrl
      rw [hUi] at hrowu hst
      have hul : Ui.length = k := by rw [← hUi]; exact unitR_len k i
      have hplr := hrow.pl
      have hplru := hrowu.pl
      have HS2 : Hid (∀ V, Below X.heap.size X V → V.cell? ⟨w.heap.size + 1, 1, none⟩ = some (.slice a k c) ∧ V.cell? ⟨ablk a, aoff a + i, none⟩ = some (.slice ra k rc) ∧ V.cell? ⟨ablk au, aoff au + i, none⟩ = some (.slice ua k uc) ∧ Ints V ra k Di ∧ Ints V ua k Ui ∧ Below X.heap.size X V) := fun V hV =>
        ⟨(HS.out V (Below.next hbX hV)).2.2, cell_keep hV hcell, cell_keep hV hcellu, hrow.keep hV, hrowu.keep hV, hV⟩
      have Hst := Lib.hid hst
      have Hdl := Lib.hid hrl
      have Hul := Lib.hid hul
      have HO := Lib.hid (And.intro hO hbr)
      have hsz := hbr.size
      have hEa := Lib.hid (below1 wr (.cells #[] 3))
      have hOe := Lib.hid (own_emp wr 3)
      have hbr0 := Lib.hid hbr
      clear hcell hcellu hrow hrowu hst hrl hul hDi hUi hO hrn hun
      go_wp2_with fail
      go_region_held3 (fun V => V.cell? ⟨w.heap.size + 1, 1, none⟩ = some (.slice a k c) ∧ V.cell? ⟨ablk a, aoff a + i, none⟩ = some (.slice ra k rc) ∧ V.cell? ⟨ablk au, aoff au + i, none⟩ = some (.slice ua k uc) ∧ Ints V ra k Di ∧ Ints V ua k Ui ∧ Below X.heap.size X V)
        ((refine HS2.out _ ?_; first | exact hb7 | exact Below.next hbr0.out hb5 | exact Below.next hbr0.out hb4 | exact hbr0.out.drew | exact (Below.next hbr0.out hEa.out).drew | exact Below.next hbr0.out hEa.out | exact Below.allocN (Below.next hbr0.out hb5) _ | assumption | (go_split_ands; assumption)))
        (first
          | (obtain ⟨_, _, _, hIr, hIu, hB9⟩ := (by assumption : _ ∧ _ ∧ _ ∧ Ints _ ra k Di ∧ Ints _ ua k Ui ∧ Below X.heap.size X _); refine step_appAll (by rfl) (.tmp 34) (.tmp 39) 22 3 (by rfl) (.int .i64 0) 8 Tryz.underlying22 infoInt (by rfl) wr.heap.size _ 0 0 [] (by rfl) (by exact hOe.out) ra k rc (Di.map (Value.int .i64)) (by rfl) hplr (by rw [List.length_map]; exact Hdl.out) (Ints.news hIr) (ints_oneCell _ _) (by omega) (by unfold maxLen; omega) (by exact hEa.out.size) ?_; intro a4 c4 w4 hown4 hgr4 hap4; have hb4 : Below wr.heap.size wr w4 := (by first | exact Below.app (e := 3) (xs := []) hEa.out hOe.out hgr4 (Nat.le_refl _) hEa.out.size | exact Below.app (e := 3) (xs := []) hEa.out.drew (by exact hOe.out) hgr4 (Nat.le_refl _) hEa.out.drew.size); rw [Nat.zero_add] at hown4 ⊢; rw [List.nil_append] at hown4)
          | (obtain ⟨_, _, _, hIr, hIu, hB9⟩ := (by assumption : _ ∧ _ ∧ _ ∧ Ints _ ra k Di ∧ Ints _ ua k Ui ∧ Below X.heap.size X _); refine step_appAll (by rfl) (.tmp 40) (.tmp 44) 22 3 (by rfl) (.int .i64 0) 8 Tryz.underlying22 infoInt (by rfl) wr.heap.size a4 k c4 (Di.map (Value.int .i64)) (by rfl) (by exact hown4) ua k uc (Ui.map (Value.int .i64)) (by rfl) hplru (by rw [List.length_map]; exact Hul.out) (Ints.news hIu) (ints_oneCell _ _) (by omega) (by unfold maxLen; omega) hb4.size ?_; intro a5 c5 w5 hown5 hgr5 hap5; have hb5 : Below wr.heap.size wr w5 := Below.app hb4 hown4 hgr5 (Nat.le_refl _) hb4.size; have hO5 := Lib.hid (HO.out.1.keep (Below.next hb5 (below1 w5 (.cells #[.slice a5 (k + k) c5] 22)))); have hEb := Lib.hid (Below.allocN (Below.next hbr0.out hb5) (.cells #[.slice a5 (k + k) c5] 22)))
          | (refine step_appAll (by rfl) (.tmp 33) (.tmp 46) 25 22 (by rfl) (.slice none 0 0) 24 Tryz.underlying25 infoInts (by rfl) X.heap.size ab i cb _ (by rfl) (by exact hO5.out.own) _ 1 1 [.slice a5 (k + k) c5] (by rfl) (fun _ => rfl) rfl (by intro j hj; obtain rfl : j = 0 := (by omega); exact cell_new' _ _ _ rfl) (by intro y hy; simp at hy; subst hy; rfl) (by omega) (by unfold maxLen; omega) (by exact hEb.out.size) ?_; intro a6 c6 w6 hown6 hgr6 hap6; have hb7 : Below X.heap.size X w6 := (by first | exact Below.app hEb.out hO5.out.own hgr6 (Nat.le_refl _) hEb.out.size | exact Below.app hEb.out.drew (by exact hO5.out.own) hgr6 (Nat.le_refl _) hEb.out.drew.size)))
      all_goals (
        go_wp2_with fail
        go_roundw
        case rel =>
          have hown9 : (w5.alloc (.cells #[.slice a5 (k + k) c5] 22)).ownsRow X.heap.size 3 1 (.slice a5 (Di ++ Ui).length c5) (Di ++ Ui).length ((Di ++ Ui).map (Value.int .i64)) := by
            rw [List.length_append, Hdl.out, Hul.out, List.map_append]
            exact own_mono (own_keep hown5 (below1 _ _)) hsz
          have hra : a5 ≠ none → ¬ OIn ab R (ablk a5) := fun h0 hI => by
            have h1 := (own_ne hown5 h0).1
            have h2 := (HO.out.1.lt _ hI).2
            omega
          have hl : (Di ++ Ui).length = k + k := by rw [List.length_append, Hdl.out, Hul.out]
          have hP := OMat.push hO5.out hown9 hra (by rw [hl]; exact hown6) hgr6 hap6
          exact ⟨i + 1, a6, c6, by omega, by go_num, rfl, ⟨_, by rw [Hst.out]; exact hP⟩, hb7⟩
        case measure => simp [intOf] <;> omega)
    · obtain rfl : i = k := by omega
      obtain ⟨hl, hE2⟩ : (J.take i).length = i ∧ J.take i = J := by
        have h := hO.ll
        refine ⟨h, ?_⟩
        exact List.take_of_length_le (by rw [HJl.out]; exact Nat.le_refl _)
      rw [hE2] at hO
      have hbwr := Below.next hbwX hbr
      have hbWr := Below.next hbX hbr
      have Hel := Lib.hid (HEl.out wr ab cb hbwr hO.mat)
      obtain ⟨⟨f0, f1, f2⟩, m0, m1⟩ := HS.out wr hbWr
      clear hl hE2 hO HMu hiX hplu HEl HJn
      go_wp2_with fail
      refine Hel.out.mono ?_
      rintro e X2 ⟨hb3, ae, ce, ve, rfl, hEm, hEc⟩
      have hbX2 := Below.next hbWr hb3
      have hplE := hEm.pl
      clear f0 f1 f2 m0 m1 Hel hb3 hbr hbwr hbWr
      go_wp2_with fail
      go_loopw [12, 13, 14] (fun tv rv jv ws => ∃ (j : Nat) (at1 : Option Addr) (ct : Nat) (ar : Option Addr) (cr : Nat), j ≤ i ∧ jv = .int .i64 j ∧ tv = .slice at1 j ct ∧ rv = .slice ar j cr ∧ (∃ xs, ws.ownsRow X2.heap.size 22 1 (.slice ar j cr) j xs) ∧ (∃ R, OMat ws X2.heap.size at1 j ct R ((E.map (List.drop i)).take j) ∧ Hid (∀ b, OIn at1 R b → Apt ar b)) ∧ Below X2.heap.size X2 ws) (fun _ _ jv _ => i - (intOf jv).toNat)
      case atStart => exact ⟨0, none, 0, none, 0, Nat.zero_le _, rfl, rfl, rfl, ⟨[], own_none⟩, ⟨[], by simpa using OMat.empty X2 X2.heap.size, fun b _ => .inl rfl⟩, Below.refl _ _⟩
      case round =>
        obtain ⟨j, at1, ct, ar, cr, hji, rfl, rfl, rfl, ⟨xs, hownr⟩, ⟨R, hOt, hsep⟩, hbr⟩ := hrel
        by_cases hlt : j < i
        · obtain ⟨ra, rn, rc, hcell, hrow⟩ := hEm.cell j hlt
          have hrn : rn = i + i := by rw [← hrow.len]; exact HEw.out j hlt
          have hni : rn - i = i := by omega
          have hri : i < rn := by omega
          clear hrn
          obtain ⟨Ei, hEi⟩ : ∃ Ei, nthR E j = Ei := ⟨_, rfl⟩
          rw [hEi] at hrow
          have hplr := hrow.pl
          have HS2 : Hid (∀ V, Below X2.heap.size X2 V → V.cell? ⟨w.heap.size + 1, 0, none⟩ = some (.int .i64 i) ∧ V.cell? ⟨ablk ae, aoff ae + j, none⟩ = some (.slice ra rn rc) ∧ Ints V ra rn Ei ∧ Below X2.heap.size X2 V) := fun V hV =>
            ⟨(HS.out V (Below.next hbX2 hV)).2.1, cell_keep hV hcell, hrow.keep hV, hV⟩
          have hlen := Lib.hid hrow.len
          have hplk : Pl ra i := fun h => hplr (by omega)
          have hcap := hEc.out j hlt ra rn rc hcell
          have hcap2 : i ≤ rc := by omega
          have hcap3 : (i : Int) ≤ rc := by omega
          have hcap4 : (i : Int) ≤ rn := by omega
          have hcap5 : i ≤ rn := by omega
          have HO := Lib.hid (And.intro hOt (And.intro hownr hbr))
          have hsz := hbr.size
          have hEa := Lib.hid (below1 wr (.cells #[] 3))
          have hOe := Lib.hid (own_emp wr 3)
          have hbr0 := Lib.hid hbr
          have hEi := Lib.hid hEi
          clear hcell hrow hOt hownr
          go_wp2_with fail
          go_cut [13] (fun v wx => ∃ a6 c6, v = .slice a6 (j + 1) c6 ∧ (∃ ys, wx.ownsRow X2.heap.size 22 1 (.slice a6 (j + 1) c6) (j + 1) ys) ∧ OMat wx X2.heap.size at1 j ct R ((E.map (List.drop i)).take j) ∧ Hid (∀ b, OIn at1 R b → Apt a6 b) ∧ Below X2.heap.size X2 wx)
          case first =>
            go_region_held3 (fun V => V.cell? ⟨w.heap.size + 1, 0, none⟩ = some (.int .i64 i) ∧ V.cell? ⟨ablk ae, aoff ae + j, none⟩ = some (.slice ra rn rc) ∧ Ints V ra rn Ei ∧ Below X2.heap.size X2 V)
              ((refine HS2.out _ ?_; first | exact hb7 | exact Below.next hbr0.out hb4 | exact hbr0.out.drew | exact (Below.next hbr0.out hEa.out).drew | exact Below.next hbr0.out hEa.out | exact Below.allocN (Below.next hbr0.out hb4) _ | assumption | (go_split_ands; assumption)))
              (first
                | (obtain ⟨_, _, hIr, hB9⟩ := (by assumption : _ ∧ _ ∧ Ints _ ra rn Ei ∧ Below X2.heap.size X2 _); have hIk := hIr.take (k := i) (by omega); refine step_appAll (by rfl) (.tmp 62) (.tmp 69) 22 3 (by rfl) (.int .i64 0) 8 Tryz.underlying22 infoInt (by rfl) wr.heap.size _ 0 0 [] (by rfl) (by exact hOe.out) ra i rc ((Ei.take i).map (Value.int .i64)) (by rfl) hplk (by rw [List.length_map]; exact hIk.len) (Ints.news hIk) (ints_oneCell _ _) (by omega) (by unfold maxLen; omega) (by exact hEa.out.size) ?_; intro a4 c4 w4 hown4 hgr4 hap4; have hb4 : Below wr.heap.size wr w4 := (by first | exact Below.app (e := 3) (xs := []) hEa.out hOe.out hgr4 (Nat.le_refl _) hEa.out.size | exact Below.app (e := 3) (xs := []) hEa.out.drew (by exact hOe.out) hgr4 (Nat.le_refl _) hEa.out.drew.size); rw [Nat.zero_add] at hown4 ⊢; rw [List.nil_append] at hown4; have hk5 := Lib.hid (Below.next hb4 (below1 w4 (.cells #[.slice a4 i c4] 22))); have hO5 := Lib.hid (HO.out.1.keep hk5.out); have hR5 := Lib.hid (own_keep HO.out.2.1 hk5.out); have hEb := Lib.hid (Below.next hbr0.out hk5.out))
                | (refine step_appAll (by rfl) (.tmp 61) (.tmp 71) 25 22 (by rfl) (.slice none 0 0) 24 Tryz.underlying25 infoInts (by rfl) X2.heap.size ar j cr _ (by rfl) (by exact hR5.out) _ 1 1 [.slice a4 i c4] (by rfl) (fun _ => rfl) rfl (by intro q hq; obtain rfl : q = 0 := (by omega); exact cell_new' _ _ _ rfl) (by intro y hy; simp at hy; subst hy; rfl) (by omega) (by unfold maxLen; omega) (by exact hEb.out.size) ?_; intro a6 c6 w6 hown6 hgr6 hap6; have hb7 : Below X2.heap.size X2 w6 := (by first | exact Below.app hEb.out hR5.out hgr6 (Nat.le_refl _) hEb.out.size | exact Below.app hEb.out.drew (by exact hR5.out) hgr6 (Nat.le_refl _) hEb.out.drew.size)))
            all_goals (
              go_wp2_with fail
              go_meet
              have hO6 : OMat w6 X2.heap.size at1 j ct R ((E.map (List.drop i)).take j) := hO5.out.of_blocks fun b hb => hgr6.block b (hO5.out.lt b hb).2 fun e => (hsep.out b hb).own j cr e.symm
              exact ⟨a6, c6, rfl, ⟨_, hown6⟩, hO6, fun b hb => hap6 b (hO5.out.lt b hb).2 (hsep.out b hb), hb7⟩)
          obtain ⟨a6, c6, rfl, ⟨ys, hown6⟩, hOt, hsep6, hb6⟩ := hcut
          generalize wc = Y at *
          obtain ⟨rb, ro, hra⟩ : ∃ rb ro, ra = some ⟨rb, ro, none⟩ := ⟨_, _, hplr (by omega)⟩
          subst hra
          have hi0 : ¬ i = 0 := by omega
          have hrc : ¬ rc = i := by omega
          have hlo : (i : Int) ≤ rn := by omega
          have Htk : Hid ((E.map (List.drop i)).take (j + 1) = (E.map (List.drop i)).take j ++ [Ei.drop i]) := by
            show _ = _
            rw [List.take_succ_eq_append_getElem (by rw [List.length_map, HEn.out]; exact hlt), List.getElem_map, ← hEi.out, nthR_getElem (by rw [HEn.out]; exact hlt)]
          have HO2 := Lib.hid (And.intro hOt (And.intro hown6 hb6))
          have hsz2 := hb6.size
          have hEa2 := Lib.hid (below1 Y (.cells #[] 3))
          have hOe2 := Lib.hid (own_emp Y 3)
          have hbr2 := Lib.hid hb6
          have hdl : (Ei.drop i).length = i := by rw [List.length_drop, hlen.out]; omega
          have Hdl := Lib.hid hdl
          have h1 := (HS2.out Y hb6)
          clear hOt hown6 hb6 hsep hbr hbr0 hEa hOe HO hsz hcap hcap2 hcap3 hcap4 hcap5 hplk hdl
          go_wp2_with fail
          go_region_held3 (fun V => V.cell? ⟨w.heap.size + 1, 0, none⟩ = some (.int .i64 i) ∧ V.cell? ⟨ablk ae, aoff ae + j, none⟩ = some (.slice (some ⟨rb, ro, none⟩) rn rc) ∧ Ints V (some ⟨rb, ro, none⟩) rn Ei ∧ Below X2.heap.size X2 V)
            ((refine HS2.out _ ?_; first | exact hb7 | exact Below.next hbr2.out hb4 | exact hbr2.out.drew | exact (Below.next hbr2.out hEa2.out).drew | exact Below.next hbr2.out hEa2.out | exact Below.allocN (Below.next hbr2.out hb4) _ | assumption | (go_split_ands; assumption)))
            (first
              | (obtain ⟨_, _, hIr, hB9⟩ := (by assumption : _ ∧ _ ∧ Ints _ (some ⟨rb, ro, none⟩) rn Ei ∧ Below X2.heap.size X2 _); have hIk := hIr.drop (k := i) (by omega); rw [hni] at hIk; refine step_appAll (by rfl) (.tmp 74) (.tmp 81) 22 3 (by rfl) (.int .i64 0) 8 Tryz.underlying22 infoInt (by rfl) Y.heap.size _ 0 0 [] (by rfl) (by exact hOe2.out) (some ⟨rb, ro + i, none⟩) i (rc - i) ((Ei.drop i).map (Value.int .i64)) (by rfl) (fun _ => rfl) (by rw [List.length_map]; exact Hdl.out) (Ints.news hIk) (ints_oneCell _ _) (by omega) (by unfold maxLen; omega) (by exact hEa2.out.size) ?_; intro a4 c4 w4 hown4 hgr4 hap4; have hb4 : Below Y.heap.size Y w4 := (by first | exact Below.app (e := 3) (xs := []) hEa2.out hOe2.out hgr4 (Nat.le_refl _) hEa2.out.size | exact Below.app (e := 3) (xs := []) hEa2.out.drew (by exact hOe2.out) hgr4 (Nat.le_refl _) hEa2.out.drew.size); rw [Nat.zero_add] at hown4 ⊢; rw [List.nil_append] at hown4; have hk5 := Lib.hid (Below.next hb4 (below1 w4 (.cells #[.slice a4 i c4] 22))); have hO5 := Lib.hid (HO2.out.1.keep hk5.out); have hR5 := Lib.hid (own_keep HO2.out.2.1 hk5.out); have hEb := Lib.hid (Below.next hbr2.out hk5.out))
              | (refine step_appAll (by rfl) (.tmp 73) (.tmp 83) 25 22 (by rfl) (.slice none 0 0) 24 Tryz.underlying25 infoInts (by rfl) X2.heap.size at1 j ct _ (by rfl) (by exact hO5.out.own) _ 1 1 [.slice a4 i c4] (by rfl) (fun _ => rfl) rfl (by intro q hq; obtain rfl : q = 0 := (by omega); exact cell_new' _ _ _ rfl) (by intro y hy; simp at hy; subst hy; rfl) (by omega) (by unfold maxLen; omega) (by exact hEb.out.size) ?_; intro a7 c7 w7 hown7 hgr7 hap7; have hb7 : Below X2.heap.size X2 w7 := (by first | exact Below.app hEb.out hO5.out.own hgr7 (Nat.le_refl _) hEb.out.size | exact Below.app hEb.out.drew (by exact hO5.out.own) hgr7 (Nat.le_refl _) hEb.out.drew.size)))
          all_goals (
            go_wp2_with fail
            go_roundw
            case rel =>
              have hown9 : (w4.alloc (.cells #[.slice a4 i c4] 22)).ownsRow X2.heap.size 3 1 (.slice a4 (Ei.drop i).length c4) (Ei.drop i).length ((Ei.drop i).map (Value.int .i64)) := by
                rw [Hdl.out]
                exact own_mono (own_keep hown4 (below1 _ _)) hsz2
              have hra : a4 ≠ none → ¬ OIn at1 R (ablk a4) := fun h0 hI => by
                have h1 := (own_ne hown4 h0).1
                have h2 := (HO2.out.1.lt _ hI).2
                omega
              have hP := OMat.push hO5.out hown9 hra (by rw [Hdl.out]; exact hown7) hgr7 hap7
              have hal : a6 ≠ none → ablk a6 < Y.heap.size := fun h0 => (own_ne HO2.out.2.1 h0).2
              refine ⟨j + 1, a7, c7, a6, c6, by omega, by go_num, rfl, rfl, ⟨ys, ?_⟩, ⟨_, by rw [Htk.out]; exact hP, fun b hb => ?_⟩, hb7⟩
              · by_cases h0 : at1 = none
                · refine own_grownApt hR5.out hgr7 (.inl h0)
                · refine own_grownApt hR5.out hgr7 (.inr fun e => ?_)
                  rcases hsep6.out _ (.inl ⟨h0, rfl⟩) with h3 | h3
                  · exfalso
                    rcases HO2.out.2.1.2 with ⟨_, h4⟩ | ⟨g', cap, cur, hv, _⟩
                    · omega
                    · rw [h3] at hv; cases hv
                  · exact h3 e.symm
              · by_cases h0 : a6 = none
                · exact .inl h0
                · refine .inr fun e => ?_
                  rcases OIn.push hO5.out hap7 hb with h3 | ⟨h3, h4⟩ | h3
                  · rcases hsep6.out b h3 with h5 | h5
                    · exact h0 h5
                    · exact h5 e
                  · have h5 := (own_ne hown4 h3).1
                    have h6 := hal h0
                    omega
                  · have h6 := hal h0
                    have h7 := hEb.out.size
                    have h8 := hk5.out.size
                    omega
            case measure => simp [intOf] <;> omega)
        · obtain rfl : j = i := by omega
          have hT : (E.map (List.drop j)).take j = E.map (List.drop j) := List.take_of_length_le (by rw [List.length_map, HEn.out]; exact Nat.le_refl _)
          rw [hT] at hOt
          have hbWs := Below.next hbX2 hbr
          have hbws := Below.next HbW.out hbWs
          obtain ⟨_, m0, _⟩ := HS.out wr hbWs
          have zz := HX.out.1.keep hbWs
          have yy := HX.out.2.keep hbWs
          have z0 := zz.cell 0 rfl
          have z1 := zz.cell 1 rfl
          have y0 := yy.cell 0 rfl
          have y1 := yy.cell 1 rfl
          have fz0 := zz.frozen 0
          have fz1 := zz.frozen 1
          have fy0 := yy.frozen 0
          have fy1 := yy.frozen 1
          have hs2 : w.heap.size + 1 + 1 + 1 < X2.heap.size := by have h1 := World.block_lt_of_cell? _ _ ((HX.out.2.keep hbX2).cell 0 rfl); exact h1
          have HO := Lib.hid (And.intro hOt hbws)
          clear hT hOt hownr hsep zz yy hbWs hbws hbr
          go_wp2_with fail
          go_region
          all_goals (
            go_wp2_with fail
            refine bodyPost_ret (v := .tuple #[.agg #[.int .i64 j, .slice at1 j ct], .agg #[.int .i64 j, .slice ar j cr], .int .i64 0]) (by simp [results, Tryz.results124, go_sem, z0, z1, y0, y1]) rfl ⟨at1, ct, ar, cr, rfl, ?_, ?_⟩
            · exact (MatN.own (OMat.keep ((((HO.out.1.setOther (p := ⟨w.heap.size + 1 + 1, 0, none⟩) (by simp only []; omega) (.int .i64 j)).setOther (p := ⟨w.heap.size + 1 + 1, 1, none⟩) (by simp only []; omega) (.slice at1 j ct)).setOther (p := ⟨w.heap.size + 1 + 1 + 1, 0, none⟩) (by simp only []; omega) (.int .i64 j)).setOther (p := ⟨w.heap.size + 1 + 1 + 1, 1, none⟩) (by simp only []; omega) (.slice ar j cr)) (Below.refl _ _).drew)).mono (by omega)
            · exact Below.next ((((HO.out.2.setCell (p := ⟨w.heap.size + 1 + 1, 0, none⟩) (by simp only []; omega) (.int .i64 j)).setCell (p := ⟨w.heap.size + 1 + 1, 1, none⟩) (by simp only []; omega) (.slice at1 j ct)).setCell (p := ⟨w.heap.size + 1 + 1 + 1, 0, none⟩) (by simp only []; omega) (.int .i64 j)).setCell (p := ⟨w.heap.size + 1 + 1 + 1, 1, none⟩) (by simp only []; omega) (.slice ar j cr)) (Below.refl _ _).drew)
end

/- The walk of codewrightref09.Inverse, at invertible matrices. -/
section
open Go.RowKit

set_option maxRecDepth 100000 in
set_option maxHeartbeats 3200000 in
theorem rInverse_any (P M : Int) (am : Option Addr) (mn cm : Nat) (mod : List Int) (k : Nat) (a : Option Addr) (c : Nat) (D : List (List Int)) (w : World) (hmod : Ints w am mn mod) (hi : Mat w a k D) (hB : fieldB P M mod = true) (hR : Rws (tblOf P M.toNat mod).El k D) (hk : k ≤ 64)
    (hpv : (elimTo (tblOf P M.toNat mod).ops D k).2.length = k) :
    Calls Tryz.prog 73 #[.agg #[.int .i64 P, .int .i64 M, .slice am mn cm], .agg #[.int .i64 k, .slice a k c]] w fun e w' =>
      ∃ a1 c1, e = .returned (.tuple #[.agg #[.int .i64 k, .slice a1 k c1], .int .i64 0]) ∧ MatN w.heap.size w' a1 k (invL (tblOf P M.toNat mod).ops D k) ∧ Below w.heap.size w w' := by
  have HSq := Lib.hid (fun V (hV : Below w.heap.size w V) => rSquare_any P M am mn cm mod k a c D V (hmod.keep hV) (hi.keep hV) hB hR hk)
  have HT := Lib.hid (fun V (hV : Below w.heap.size w V) => rTransform_any P M am mn cm mod k a c D V (hmod.keep hV) (hi.keep hV) hB hR hk)
  have HRk : Hid (∀ V, Below w.heap.size w V → Calls Tryz.prog 125 #[.agg #[.int .i64 P, .int .i64 M, .slice am mn cm], .agg #[.int .i64 k, .slice a k c]] V fun e w' => e = .returned (.tuple #[.int .i64 k, .int .i64 0]) ∧ Below V.heap.size V w') := fun V hV => by
    have h := rRank09_any P M am mn cm mod k a k c D V (hmod.keep hV) (hi.keep hV) hB hR (by omega) (by omega)
    rw [hpv] at h
    exact h
  obtain ⟨T, hTT⟩ : ∃ T, invL (tblOf P M.toNat mod).ops D k = T := ⟨_, rfl⟩
  rw [hTT] at HT ⊢
  clear hmod hi hB hR hpv hTT
  go_enter Tryz.func73, Tryz.ntmps73
  go_wp2_with fail
  obtain ⟨W, hW⟩ : ∃ W : World, W = ((w.alloc (.cells #[.int .i64 P, .int .i64 M, .slice am mn cm] 24)).alloc (.cells #[.int .i64 k, .slice a k c] 52)).alloc (.cells #[.int .i64 0, .slice none 0 0] 52) := ⟨_, rfl⟩
  rw [← hW]
  have hbW : Below w.heap.size w W := by rw [hW]; exact below3 _ _ _ _
  have x0 : Box W w.heap.size [.int .i64 P, .int .i64 M, .slice am mn cm] := by rw [hW]; exact ((Box.new _ _ _ rfl).alloc _).alloc _
  have x1 : Box W (w.heap.size + 1) [.int .i64 k, .slice a k c] := by rw [hW]; exact (Box.new _ _ _ (by simp)).alloc _
  have x2 : Box W (w.heap.size + 1 + 1) [.int .i64 0, .slice none 0 0] := by rw [hW]; exact Box.new _ _ _ (by simp)
  have HX := Lib.hid (And.intro x0 (And.intro x1 x2))
  clear hW x0 x1 x2
  refine (HSq.out W hbW).mono ?_
  rintro e w1 ⟨rfl, hb1⟩
  have hbw1 := Below.next hbW hb1
  have r0 := HX.out.1.keep hb1
  have r1 := HX.out.2.1.keep hb1
  have f0 := r0.cell 0 rfl
  have f1 := r0.cell 1 rfl
  have f2 := r0.cell 2 rfl
  have m0 := r1.cell 0 rfl
  have m1 := r1.cell 1 rfl
  have Hc := Lib.hid (HT.out w1 hbw1)
  clear r0 r1
  go_wp2_with fail
  refine Hc.out.mono ?_
  rintro e w2 ⟨a1, c1, a2, c2, rfl, hN, hb2⟩
  clear f0 f1 f2 m0 m1 Hc
  obtain ⟨w3, hw3⟩ : ∃ V : World, V = (w2.alloc (.cells #[.int .i64 k, .slice a1 k c1] 52)).alloc (.cells #[.int .i64 k, .slice a2 k c2] 52) := ⟨_, rfl⟩
  have hb3 : Below w2.heap.size w2 w3 := by rw [hw3]; exact below2 _ _ _
  have xt : Box w3 w2.heap.size [.int .i64 k, .slice a1 k c1] := by rw [hw3]; exact (Box.new _ _ _ rfl).alloc _
  have hb23 := Below.next hb2 hb3
  have hbw3 := Below.next hbw1 hb23
  have r0 := HX.out.1.keep (Below.next hb1 hb23)
  have r1 := HX.out.2.1.keep (Below.next hb1 hb23)
  have f0 := r0.cell 0 rfl
  have f1 := r0.cell 1 rfl
  have f2 := r0.cell 2 rfl
  have m0 := r1.cell 0 rfl
  have m1 := r1.cell 1 rfl
  have Hrk := Lib.hid (HRk.out w3 hbw3)
  rw [hw3] at f0 f1 f2 m0 m1 Hrk
  have Hw3 := Lib.hid hw3
  have HN := Lib.hid (hN.keep hb3)
  clear r0 r1 hw3 hN
  go_wp2_with fail
  refine Hrk.out.mono ?_
  rintro e w4 ⟨rfl, hb4⟩
  rw [← Hw3.out] at hb4
  have hb24 := Below.next hb23 hb4
  have hbw4 := Below.next hbw1 hb24
  have r1 := HX.out.2.1.keep (Below.next hb1 hb24)
  have r2 := HX.out.2.2.keep (Below.next hb1 hb24)
  have rt := xt.keep hb4
  have m0 := r1.cell 0 rfl
  have z0 := r2.cell 0 rfl
  have z1 := r2.cell 1 rfl
  have fz0 := r2.frozen 0
  have fz1 := r2.frozen 1
  have t0 := rt.cell 0 rfl
  have t1 := rt.cell 1 rfl
  have hsz : w.heap.size + 1 + 1 < w1.heap.size := World.block_lt_of_cell? _ _ ((HX.out.2.2.keep hb1).cell 0 rfl)
  have hN4 := HN.out.keep hb4
  have HF := Lib.hid (And.intro (((hN4.setCell (p := ⟨w.heap.size + 1 + 1, 0, none⟩) (by simp only []; omega) (.int .i64 k)).setCell (p := ⟨w.heap.size + 1 + 1, 1, none⟩) (by simp only []; omega) (.slice a1 k c1)).mono (show w.heap.size ≤ w1.heap.size by omega))
    ((hbw4.setCell (p := ⟨w.heap.size + 1 + 1, 0, none⟩) (by simp only []; omega) (.int .i64 k)).setCell (p := ⟨w.heap.size + 1 + 1, 1, none⟩) (by simp only []; omega) (.slice a1 k c1)))
  clear r1 r2 rt f0 f1 f2 m1 Hrk hN4
  go_wp2_with fail
  exact bodyPost_ret (v := .tuple #[.agg #[.int .i64 k, .slice a1 k c1], .int .i64 0]) (by simp [results, Tryz.results73, go_sem, z0, z1]) rfl ⟨a1, c1, rfl, HF.out.1, HF.out.2⟩
end

/- The walk of matrix.Columns, at positions in range. -/
section
open Go.RowKit

def ColsPost (n : Nat) (Q : List Int) (L : List (List Int)) (w : World) (e : Ending) (w' : World) : Prop :=
  ∃ a1 c1, e = .returned (.tuple #[.agg #[.int .i64 Q.length, .slice a1 n c1], .int .i64 0]) ∧ MatN w.heap.size w' a1 n (L.map (pickL Q)) ∧ Below w.heap.size w w'

set_option maxRecDepth 100000 in
set_option maxHeartbeats 4000000 in
theorem columns_any (P M : Int) (am : Option Addr) (mn cm : Nat) (mod : List Int) (m : Nat) (a : Option Addr) (n c : Nat) (L : List (List Int)) (ao : Option Addr) (no co : Nat) (Q : List Int) (w : World) (hmod : Ints w am mn mod) (hi : Mat w a n L) (hq : Ints w ao no Q)
    (hE : codeE P M mod m L = 0) (hQ : InN m Q) (hno : no ≤ 256) :
    Calls Tryz.prog 68 #[.agg #[.int .i64 P, .int .i64 M, .slice am mn cm], .agg #[.int .i64 m, .slice a n c], .slice ao no co] w (ColsPost n Q L w) := by
  have Hlen := Lib.hid hi.len
  have Hql := Lib.hid hq.len
  have hplq := hq.pl
  have hpla := hi.pl
  obtain ⟨N', e, hm1, hm64, F, hR⟩ := codeE_fld hE
  obtain rfl : m = N' := by omega
  have hL256 := (codeE_rws hE).choose_spec.2.2.2.1
  have hn : n ≤ 256 := by rw [← hi.len]; exact hL256
  obtain ⟨h5, h6⟩ := spaceE_zero (codeE_zero hE).2.2.2
  obtain ⟨hfB, h8⟩ := fmatE_zero h5
  have HLl : Hid (∀ k, k < n → (nthR L k).length = m) := fun k hk => (hR.row (i := k) (by rw [hi.len]; exact hk)).1
  have HQ := Lib.hid hQ
  obtain ⟨L2, hL2⟩ : ∃ L2, L.map (pickL Q) = L2 := ⟨_, rfl⟩
  have HL2l : Hid (L2.length = n) := by show _ = _; rw [← hL2, List.length_map]; exact Hlen.out
  have HLk : Hid (∀ k, k < n → L2.take (k + 1) = L2.take k ++ [pickL Q (nthR L k)]) := fun k hk => by
    have hk' : k < L2.length := by rw [HL2l.out]; exact hk
    rw [List.take_succ_eq_append_getElem hk', ← nthR_getElem hk', ← hL2, nthR_map _ L (by rw [Hlen.out]; exact hk)]
  unfold ColsPost
  rw [hL2, Hql.out]
  clear hE h5 h6 e hL256 F hR hQ hL2
  go_enter Tryz.func68, Tryz.ntmps68
  go_wp2_with fail
  obtain ⟨W, hW⟩ : ∃ W : World, W = ((((w.alloc (.cells #[.int .i64 P, .int .i64 M, .slice am mn cm] 24)).alloc (.cells #[.int .i64 m, .slice a n c] 52)).alloc (.cells #[.int .i64 0, .slice none 0 0] 52)).alloc (.cells #[.int .i64 m, .slice a n c] 52)) := ⟨_, rfl⟩
  rw [← hW]
  have hbW : Below w.heap.size w W := by rw [hW]; exact ((((Below.refl _ _).alloc (Nat.le_refl _) _).alloc (by simp) _).alloc (by simp; omega) _).alloc (by simp; omega) _
  have hsW : W.heap.size = w.heap.size + 4 := by rw [hW]; simp
  have x1 : Box W (w.heap.size + 1) [.int .i64 m, .slice a n c] := by rw [hW]; exact ((Box.new _ _ _ (by simp)).alloc _).alloc _
  have x2 : Box W (w.heap.size + 1 + 1) [.int .i64 0, .slice none 0 0] := by rw [hW]; exact (Box.new _ _ _ (by simp)).alloc _
  have q3 : W.cell? ⟨w.heap.size + 1 + 1 + 1, 0, none⟩ = some (.int .i64 m) ∧ W.cell? ⟨w.heap.size + 1 + 1 + 1, 1, none⟩ = some (.slice a n c) := by rw [hW]; exact ⟨cell_alloc_at _ _ _ (by simp) 0, cell_alloc_at _ _ _ (by simp) 1⟩
  have hMs : Mats W (some ⟨w.heap.size + 1 + 1 + 1, 0, none⟩) 1 [((m : Int), L)] := ⟨rfl, fun _ => rfl, by unfold maxLen; omega, fun i hi' => by
    have : i = 0 := by simp at hi'; omega
    subst this
    exact ⟨a, n, c, by simpa using q3.1, by simpa using q3.2, hi.keep hbW⟩⟩
  have HX := Lib.hid (And.intro x1 x2)
  have HsW := Lib.hid hsW
  have HbW := Lib.hid hbW
  clear hW hsW x1 x2 q3
  refine (open_any P M am mn cm mod _ 1 1 _ W (hmod.keep hbW) hMs).mono ?_
  rintro e w1 ⟨hb1, hcase⟩
  rw [matsE_one] at hcase
  rcases hcase with ⟨hB, _⟩ | ⟨_, er, h0, h1, _⟩ | ⟨_, _, b, rfl, hG, hbl⟩
  · rw [hfB] at hB; exact absurd hB (by decide)
  · rw [h8] at h1; exact absurd h1.symm h0
  have hbw1 := Below.next hbW hb1
  have r1 := HX.out.1.keep hb1
  have m0 := r1.cell 0 rfl
  have m1 := r1.cell 1 rfl
  have hq1 := hq.keep hbw1
  have d256 : decide ((256 : Int) < no) = false := by simp; omega
  clear hMs hfB h8 hbW r1 hG hbl
  go_wp2_with fail
  go_loop [35] (fun iv => ∃ k : Nat, k ≤ no ∧ iv = .int .i64 k) (fun iv => no - (intOf iv).toNat)
  case atStart => exact ⟨0, Nat.zero_le _, rfl⟩
  case round =>
    obtain ⟨k, hk, rfl⟩ := hrel
    by_cases hlt : k < no
    · have cq := hq1.cell k hlt
      have hb := HQ.out k (by rw [Hql.out]; exact hlt)
      have e1 : decide (nth Q k < 0) = false := by simp; omega
      have e2 : decide ((m : Int) ≤ nth Q k) = false := by simp; omega
      clear hb
      go_wp2_with fail
      go_round
      case rel => exact ⟨k + 1, by omega, by go_num⟩
      case measure => simp [intOf] <;> omega
    · obtain rfl : k = no := by omega
      go_upto_region 12 with fail
      obtain ⟨g, hg⟩ : ∃ g, w1.heap.size = g := ⟨_, rfl⟩
      have HG := Lib.hid hg
      clear hg
      go_cut [12] (fun v wx => v = .pointer (some ⟨w1.heap.size, 0, none⟩) ∧ MOut wx w1.heap.size (.int .i64 k) none 0 0 [] [] ∧ Below w1.heap.size w1 wx)
      case first =>
        go_wp2_with fail
        go_meet
        exact ⟨rfl, MOut.start (Box.new w1 [.int .i64 k, .slice none 0 0] _ rfl), below1 _ _⟩
      obtain ⟨rfl, hO0, hbc⟩ := hcut
      generalize wc = U at *
      have hs3 := HG.out
      rw [hs3] at hO0 ⊢
      have HbU := Lib.hid (Below.next hb1 hbc)
      have r1 := HX.out.1.keep HbU.out
      clear m0 m1
      have m0 := r1.cell 0 rfl
      have m1 := r1.cell 1 rfl
      have hgU := hO0.lt
      have hgW : W.heap.size ≤ g := by have := hb1.size; omega
      have hqU := hq1.keep hbc
      clear r1 hbc hs3 hq1
      go_wp2_with fail
      clear m0 m1
      go_loopw [55] (fun iv wr => ∃ (j : Nat) (a1 : Option Addr) (c1 : Nat) (Rr : List (Option Addr × Nat)), j ≤ n ∧ iv = .int .i64 j ∧ MOut wr g (.int .i64 k) a1 j c1 Rr (L2.take j) ∧ Below g U wr) (fun iv _ => n - (intOf iv).toNat)
      case atStart => exact ⟨0, none, 0, [], Nat.zero_le _, rfl, by simpa using hO0, Below.refl _ _⟩
      case round =>
        clear hO0
        obtain ⟨j, a1, c1, Rr, hj, rfl, hO, hbr⟩ := hrel
        have hbWr := Below.trans HbU.out (hbr.mono hgW)
        have hbwr := Below.next HbW.out hbWr
        have hgr := hO.lt
        by_cases hltj : j < n
        · obtain ⟨ra, rn, rc, hcell, hrow⟩ := (hi.keep hbwr).cell j hltj
          have hrn : rn = m := by rw [← hrow.len]; exact HLl.out j hltj
          rw [hrn] at hcell hrow
          have Htk := Lib.hid (HLk.out j hltj)
          obtain ⟨l, hl⟩ : ∃ l, nthR L j = l := ⟨_, rfl⟩
          rw [hl] at Htk hrow
          have hplr := hrow.pl
          obtain ⟨pk, hpk⟩ : ∃ pk, pickL Q l = pk := ⟨_, rfl⟩
          have Hpk := Lib.hid hpk
          have hpl : pk.length = k := by rw [← hpk]; simp [pickL]; exact Hql.out
          have Hpl := Lib.hid hpl
          clear hl hrn hpk hpl
          go_wp2_with (at_make; refine wpList_mk rfl _ _ 22 3 rfl (.int .i64 0) 8 Tryz.underlying22 infoInt rfl k rfl rfl (by omega) (by unfold maxLen; omega) ?_; intro a5 w5 hown hbel hge hlt5)
          have hown0 : w5.ownsRow wr.heap.size 3 1 (.slice a5 k k) k ((mixTo pk (List.replicate k 0) 0).map (Value.int .i64)) := by rw [mixTo_zero, List.map_replicate]; exact hown
          clear hown hge hlt5 hcell
          generalize wr = X1 at *
          go_loopw [64] (fun jv ws => ∃ t : Nat, t ≤ k ∧ jv = .int .i64 t ∧ ws.ownsRow X1.heap.size 3 1 (.slice a5 k k) k ((mixTo pk (List.replicate k 0) t).map (Value.int .i64)) ∧ Below X1.heap.size X1 ws) (fun jv _ => k - (intOf jv).toNat)
          case atStart => exact ⟨0, Nat.zero_le _, rfl, hown0, hbel⟩
          case round =>
            clear hown0 hbel
            obtain ⟨t, ht, rfl, hown, hbs⟩ := hrel
            by_cases hltt : t < k
            · have hbU1 : Below w.heap.size w wr := Below.next hbwr hbs
              have cq := (hq.keep hbU1).cell t hltt
              have hqb := HQ.out t (by rw [Hql.out]; exact hltt)
              obtain ⟨z, hz⟩ : ∃ z : Nat, nth Q t = z := ⟨(nth Q t).toNat, by omega⟩
              have hzm : z < m := by omega
              have cr := (hrow.keep hbs).cell z hzm
              have Hst : Hid ((mixTo pk (List.replicate k 0) t).set t (nth l z) = mixTo pk (List.replicate k 0) (t + 1)) := by
                show _ = _
                have h1 := mixTo_set pk (List.replicate k 0) t (by rw [Hpl.out, List.length_replicate]) (by rw [List.length_replicate]; exact hltt)
                rw [← Hpk.out, nth_pickL Q l (by rw [Hql.out]; exact hltt), hz, Int.toNat_natCast] at h1
                rw [← Hpk.out]
                exact h1
              rw [hz] at cq
              obtain ⟨hints, hmine⟩ := Ints.own hown
              have hpl5 := hints.pl
              have cz := hints.cell t hltt
              have fz := (hmine (by omega)).2 t hltt
              have hB := (hmine (by omega)).1
              clear hz hqb
              go_wp2_with fail
              go_roundw
              case rel =>
                have h := own_set hown t hltt (.int .i64 (nth l z))
                rw [← List.map_set, Hst.out] at h
                exact ⟨t + 1, by omega, by go_num, h, hbs.setCell hB _⟩
              case measure => simp [intOf] <;> omega
            · obtain rfl : t = k := by omega
              rw [mixTo_all pk (List.replicate t 0) t (by simp [Hpl.out]) (by simp)] at hown
              have hs := hO.keep hbs
              have hOk := hs.om.keep (below1 wr (.cells #[.slice a5 t t] 22))
              have hcp := hs.c1
              have hgs := hs.lt
              go_wp2_with (at_builtin; refine wpList_push rfl _ _ 25 22 rfl (.slice none 0 0) 24 Tryz.underlying25 infoInts rfl (g + 1) a1 j c1 _ rfl hOk.own ⟨wr.heap.size, 0, none⟩ 1 (.slice a5 t t) rfl (cell_new wr _ _) rfl (by omega) (by unfold maxLen; omega) (by simp; omega) ?_; intro a6 c6 w6 hown6 hgr6 hap6; have hk6 := (hs.pushed hgr6).2.1; have hf6 := (hs.pushed hgr6).2.2)
              go_roundw
              case rel =>
                have hra : a5 ≠ none → ¬ OIn a1 Rr (ablk a5) := fun h0 hI => by
                  have h1 := (own_ne hown h0).1
                  have h2 := (hO.om.lt _ hI).2
                  omega
                obtain ⟨hP, hbP⟩ := hs.push Hpl.out (own_mono hown (by omega)) hra hown6 hgr6 hap6
                exact ⟨j + 1, a6, c6, _, by omega, by go_num, by rw [Htk.out, Hpk.out]; exact hP, Below.trans hbr ((hbs.mono (by omega)).trans hbP)⟩
              case measure => simp [intOf] <;> omega
        · obtain rfl : j = n := by omega
          rw [List.take_of_length_le (by rw [HL2l.out]; exact Nat.le_refl _)] at hO
          have g0 := hO.c0
          have g1 := hO.c1
          have z6 := HX.out.2.keep hbWr
          have z0 := z6.cell 0 rfl
          have z1 := z6.cell 1 rfl
          have f0 := z6.frozen 0
          have f1 := z6.frozen 1
          have hs := HsW.out
          have hMN : MatN (g + 1) wr a1 j L2 := MatN.own hO.om
          have HF := Lib.hid (And.intro (((hMN.setCell (p := ⟨w.heap.size + 1 + 1, 0, none⟩) (by simp; omega) (.int .i64 k)).setCell (p := ⟨w.heap.size + 1 + 1, 1, none⟩) (by simp; omega) (.slice a1 j c1)).mono (show w.heap.size ≤ g + 1 by omega))
            ((hbwr.setCell (p := ⟨w.heap.size + 1 + 1, 0, none⟩) (by simp; omega) (.int .i64 k)).setCell (p := ⟨w.heap.size + 1 + 1, 1, none⟩) (by simp; omega) (.slice a1 j c1)))
          clear hMN z6 hO
          go_wp2_with fail
          exact bodyPost_ret (v := .tuple #[.agg #[.int .i64 k, .slice a1 j c1], .int .i64 0]) (by simp [results, Tryz.results68, go_sem, z0, z1]) rfl ⟨a1, c1, rfl, HF.out.1, HF.out.2⟩
end

end Go.Proofs.YtapjcccpokhhhaaGreat
