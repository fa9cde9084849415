/- The walk of Vanish of the reference's exclusion. -/
import Derived.Test.YtapjcccpokhhhaaGreatK31
import Derived.Test.YtapjcccpokhhhaaGreatK23
namespace Go.Proofs.YtapjcccpokhhhaaGreat
set_option linter.unusedVariables false
set_option linter.unusedSimpArgs false
set_option linter.unusedSectionVars false

/- The walk of Solve of the reference of layer 09, at independent equations. -/
section
open Go.RowKit

theorem rVector_any (P M : Int) (am : Option Addr) (mn cm : Nat) (ab : Option Addr) (n cb : Nat) (b : List Int) (w : World) (hi : Ints w ab n b) :
    Calls Tryz.prog 212 #[.agg #[.int .i64 P, .int .i64 M, .slice am mn cm], .slice ab n cb, .int .i64 n] w fun e w' => e = .returned (.int .i64 (elsE (orderS P M) b)) ∧ Below w.heap.size w w' := by
  have HE := Lib.hid (fun V (hV : Below w.heap.size w V) => rEntries_any P M am mn cm ab n cb b V (hi.keep hV))
  have hn : ((n : Int) != n) = false := by simp
  go_enter Tryz.func212, Tryz.ntmps212
  go_upto_region 1 with fail
  obtain ⟨W, hW⟩ : ∃ W : World, W = w.alloc (.cells #[.int .i64 P, .int .i64 M, .slice am mn cm] 24) := ⟨_, rfl⟩
  rw [← hW]
  have hbW : Below w.heap.size w W := by rw [hW]; exact below1 _ _
  have x0 : Box W w.heap.size [.int .i64 P, .int .i64 M, .slice am mn cm] := by rw [hW]; exact Box.new _ _ _ rfl
  have c0 := x0.cell 0 rfl
  have c1 := x0.cell 1 rfl
  have c2 := x0.cell 2 rfl
  have He := Lib.hid (HE.out W hbW)
  clear hW x0 HE
  go_wp2_with fail
  refine He.out.mono ?_
  rintro e w1 ⟨rfl, hb1⟩
  have hF := Below.next hbW hb1
  go_wp2_with fail
  go_ret
  exact ⟨rfl, hF⟩

set_option maxRecDepth 100000 in
set_option maxHeartbeats 8000000 in
theorem rSolve_any (P M : Int) (am : Option Addr) (mn cm : Nat) (mod : List Int) (k : Nat) (aA : Option Addr) (t cA : Nat) (A : List (List Int)) (ab : Option Addr) (cb : Nat) (b : List Int) (w : World) (hmod : Ints w am mn mod) (hi : Mat w aA t A) (hb : Ints w ab t b) (hB : fieldB P M mod = true)
    (hR : Rws (tblOf P M.toNat mod).El k A) (hbe : ∀ x ∈ b, (tblOf P M.toNat mod).El x) (hpl : (elimTo (tblOf P M.toNat mod).ops (augL A b) k).2.length = t) (hk : k ≤ 64) (ht : t ≤ 64) :
    Calls Tryz.prog 189 #[.agg #[.int .i64 P, .int .i64 M, .slice am mn cm], .agg #[.int .i64 k, .slice aA t cA], .slice ab t cb] w fun e w' =>
      ∃ a1 c1, e = .returned (.tuple #[.slice a1 k c1, .int .i64 0]) ∧ Ints w' a1 k (solL (tblOf P M.toNat mod).ops A b k) ∧ Below w.heap.size w w' := by
  have HC := Lib.hid (rMat_ok am mn cm k aA t cA hmod hi hB hR (by omega) (by omega))
  have hinv := hinv_all (P := P) (M := M) (mod := mod) (by rw [fieldRB_eq]; exact hB)
  have F := fieldB_fld hB
  have hAl := hi.len
  have hbl := hb.len
  have hJr := aug_rws hR (by omega) hbe
  have hJl : (augL A b).length = t := by rw [augL_len (by omega), hAl]
  have HJn : Hid (∀ i, i < t → (augL A b).take (i + 1) = (augL A b).take i ++ [nthR A i ++ [nth b i]] ∧ (nthR A i).length = k) := fun i hi' => by
    rw [List.take_succ_eq_append_getElem (by rw [hJl]; exact hi'), ← nthR_getElem (by rw [hJl]; exact hi'), nthR_aug (by omega) (by omega)]
    exact ⟨rfl, (hR.row (i := i) (by omega)).1⟩
  unfold solL
  have HVe : Hid (∀ V, Below w.heap.size w V → Calls Tryz.prog 212 #[.agg #[.int .i64 P, .int .i64 M, .slice am mn cm], .slice ab t cb, .int .i64 t] V fun e w' => e = .returned (.int .i64 0) ∧ Below V.heap.size V w') := fun V hV => by
    have h := rVector_any P M am mn cm ab t cb b V (hb.keep hV)
    have hq : ((tblOf P M.toNat mod).q : Int) = orderS P M := by
      obtain ⟨m1, e1, _, h1, _⟩ := eq_ops hB
      rw [show M.toNat = m1 by omega]; exact h1
    have he : elsE (orderS P M) b = 0 := by
      unfold elsE
      rw [if_pos]
      rw [← hq]
      unfold elsQ
      rw [List.all_eq_true]
      intro x hx
      have h2 := hbe x hx
      simpa [isQ, Tbl.El] using h2
    rw [he] at h
    exact h
  obtain ⟨J, hJ⟩ : ∃ J, augL A b = J := ⟨_, rfl⟩
  rw [hJ] at hJr hJl HJn hpl ⊢
  obtain ⟨M', rfl, hel, _, hF, hA, _⟩ := eq_ops hB
  obtain ⟨M2, e2, hrf, hmods⟩ := fieldRB_rf (by rw [fieldRB_eq]; exact hB)
  obtain rfl : M' = M2 := by omega
  rw [Int.toNat_natCast] at hJr hinv hpl ⊢
  have hEw0 := elim_rws F (by rw [Int.toNat_natCast]; exact hJr) k (by omega)
  rw [Int.toNat_natCast] at hEw0
  have hPv0 := (elim_inv F (by rw [Int.toNat_natCast]; exact hJr) k (by omega)).1
  rw [Int.toNat_natCast] at hPv0
  rw [← hel] at hJr
  have hag := (elimTo_agr hA hF.cl hJr k (by omega)).1
  have HEl : Hid (∀ V ab cb, Below w.heap.size w V → Mat V ab t J → Calls Tryz.prog 172 #[.agg #[.int .i64 P, .int .i64 M', .slice am mn cm], .slice ab t cb, .int .i64 k] V fun e w' =>
      Below V.heap.size V w' ∧ ∃ a1 c1 ap cp, e = .returned (.tuple #[.slice a1 t c1, .slice ap t cp]) ∧ Mat w' a1 t (elimTo (tblOf P M' mod).ops J k).1 ∧ Ints w' ap t (elimTo (tblOf P M' mod).ops J k).2) := fun V ab cb hV hM => by
    refine (rElim_any P M' am mn cm mod ab t cb k (k + 1) J V ⟨hrf, hmods V am mn (hmod.keep hV)⟩ hM hJr (by omega) (by omega) (by omega) hinv).mono ?_
    rintro e w' ⟨a4, c4, R4, ap, cp, rfl, hO, hP, hb'⟩
    rw [← hag] at hO hP ⊢
    rw [hJl] at hO ⊢
    rw [hpl] at hP ⊢
    exact ⟨hb', a4, c4, ap, cp, rfl, hO.mat, (Ints.own hP).1⟩
  obtain ⟨E, hE⟩ : ∃ E, (elimTo (tblOf P M' mod).ops J k).1 = E := ⟨_, rfl⟩
  obtain ⟨Pv, hPv⟩ : ∃ Pv, (elimTo (tblOf P M' mod).ops J k).2 = Pv := ⟨_, rfl⟩
  have hEl : E.length = t := by rw [← hE, elimTo_length]; exact hJl
  rw [hE] at HEl hEw0 hPv0 ⊢
  rw [hPv] at HEl hpl hPv0 ⊢
  have HEw : Hid (∀ j, j < t → (nthR E j).length = k + 1) := fun j hj => (hEw0.row (i := j) (by omega)).1
  have HPb : Hid (∀ j, j < t → ∃ p : Nat, nth Pv j = p ∧ p < k) := fun j hj => by
    have h := hPv0.lt j (by omega)
    exact ⟨(nth Pv j).toNat, by omega, by omega⟩
  rw [hpl]
  have HJl := Lib.hid hJl
  have Hbl := Lib.hid hbl
  clear hB hR hinv hel hF hA e2 hrf hmods hag hE hPv hmod F hJr hJ hJl hAl hEw0 hPv0 hEl hpl hbe hbl
  go_enter Tryz.func189, Tryz.ntmps189
  go_wp2_with fail
  obtain ⟨W, hW⟩ : ∃ W : World, W = (w.alloc (.cells #[.int .i64 P, .int .i64 M', .slice am mn cm] 24)).alloc (.cells #[.int .i64 k, .slice aA t cA] 52) := ⟨_, rfl⟩
  rw [← hW]
  have hbW : Below w.heap.size w W := by rw [hW]; exact below2 _ _ _
  have x0 : Box W w.heap.size [.int .i64 P, .int .i64 M', .slice am mn cm] := by rw [hW]; exact (Box.new _ _ _ rfl).alloc _
  have x1 : Box W (w.heap.size + 1) [.int .i64 k, .slice aA t cA] := by rw [hW]; exact Box.new _ _ _ (by simp)
  have HS : Hid (∀ V, Below W.heap.size W V → (V.cell? ⟨w.heap.size, 0, none⟩ = some (.int .i64 P) ∧ V.cell? ⟨w.heap.size, 1, none⟩ = some (.int .i64 M') ∧ V.cell? ⟨w.heap.size, 2, none⟩ = some (.slice am mn cm)) ∧ V.cell? ⟨w.heap.size + 1, 0, none⟩ = some (.int .i64 k) ∧ V.cell? ⟨w.heap.size + 1, 1, none⟩ = some (.slice aA t cA)) := fun V hV => by
    have r0 := x0.keep hV
    have r1 := x1.keep hV
    exact ⟨⟨r0.cell 0 rfl, r0.cell 1 rfl, r0.cell 2 rfl⟩, r1.cell 0 rfl, r1.cell 1 rfl⟩
  have HbW := Lib.hid hbW
  clear hW x0 x1 hbW
  refine (HC.out W HbW.out).mono ?_
  rintro e w1 ⟨rfl, hb1⟩
  obtain ⟨⟨f0, f1, f2⟩, m0, m1⟩ := HS.out w1 hb1
  have Hve := Lib.hid (HVe.out w1 (Below.next HbW.out hb1))
  clear HC HVe
  go_wp2_with fail
  refine Hve.out.mono ?_
  rintro e X ⟨rfl, hb2⟩
  have hbX := Below.next hb1 hb2
  have hbwX := Below.next HbW.out hbX
  have hpla := hi.pl
  have hplb := hb.pl
  have hiX := hi.keep hbwX
  have hbXi := hb.keep hbwX
  clear f0 f1 f2 m0 m1 Hve hb1 hb2 hi hb
  go_wp2_with fail
  go_loopw [9, 10] (fun ov iv wr => ∃ (i : Nat) (ac : Option Addr) (cc : Nat), i ≤ t ∧ iv = .int .i64 i ∧ ov = .slice ac i cc ∧ (∃ R, OMat wr X.heap.size ac i cc R (J.take i)) ∧ Below X.heap.size X wr) (fun _ iv _ => t - (intOf iv).toNat)
  case atStart => exact ⟨0, none, 0, Nat.zero_le _, rfl, rfl, ⟨[], by simpa using OMat.empty X X.heap.size⟩, Below.refl _ _⟩
  case round =>
    obtain ⟨i, ac, cc, hik, rfl, rfl, ⟨R, hO⟩, hbr⟩ := hrel
    by_cases hlt : i < t
    · obtain ⟨ra, rn, rc, hcell, hrow⟩ := hiX.cell i hlt
      have hcb := hbXi.cell i hlt
      obtain ⟨hst, hrl⟩ := HJn.out i hlt
      have hrn : rn = k := by rw [← hrow.len]; exact hrl
      obtain rfl : k = rn := hrn.symm
      obtain ⟨Di, hDi⟩ : ∃ Di, nthR A i = Di := ⟨_, rfl⟩
      obtain ⟨x, hx⟩ : ∃ x, nth b i = x := ⟨_, rfl⟩
      rw [hDi] at hrow hst hrl
      rw [hx] at hcb hst
      have hplr := hrow.pl
      have HS2 : Hid (∀ V, Below X.heap.size X V → V.cell? ⟨w.heap.size + 1, 1, none⟩ = some (.slice aA t cA) ∧ V.cell? ⟨ablk aA, aoff aA + i, none⟩ = some (.slice ra k rc) ∧ V.cell? ⟨ablk ab, aoff ab + i, none⟩ = some (.int .i64 x) ∧ Ints V ra k Di ∧ Below X.heap.size X V) := fun V hV =>
        ⟨(HS.out V (Below.next hbX hV)).2.2, cell_keep hV hcell, cell_keep hV hcb, hrow.keep hV, hV⟩
      have Hst := Lib.hid hst
      have Hdl := Lib.hid hrl
      have HO := Lib.hid (And.intro hO hbr)
      have hsz := hbr.size
      have hbr0 := Lib.hid hbr
      have hO0 := own_emp wr 3
      have hO2 : ((wr.alloc (.cells #[.int .i64 x] 3)).alloc (.cells #[] 3)).ownsRow wr.heap.size 3 1 (.slice (some ⟨wr.heap.size + 1, 0, none⟩) 0 0) 0 [] := by
        have h := own_mono (own_emp (wr.alloc (.cells #[.int .i64 x] 3)) 3) (B' := wr.heap.size) (by simp)
        rwa [World.size_alloc] at h
      clear hcell hrow hst hrl hDi hO hrn hx hcb
      go_wp2_with fail
      go_region_held3 (fun V => V.cell? ⟨w.heap.size + 1, 1, none⟩ = some (.slice aA t cA) ∧ V.cell? ⟨ablk aA, aoff aA + i, none⟩ = some (.slice ra k rc) ∧ V.cell? ⟨ablk ab, aoff ab + i, none⟩ = some (.int .i64 x) ∧ Ints V ra k Di ∧ Below X.heap.size X V)
        ((refine HS2.out _ ?_; first | exact hb7 | exact Below.next hbr0.out hb5 | exact Below.next hbr0.out hb4 | exact hbr0.out.drew | exact (Below.next hbr0.out (below1 _ _)).drew | exact Below.next hbr0.out (below1 _ _) | exact (Below.next hbr0.out (below2 _ _ _)).drew | exact Below.next hbr0.out (below2 _ _ _) | exact Below.allocN (Below.next hbr0.out hb5) _ | exact Below.allocN (Below.next hbr0.out hb4) _ | assumption | (go_split_ands; assumption) | (go_split_ands; exact Below.allocN (by assumption) _)))
        (first
          | (obtain ⟨_, _, _, hIr, hB9⟩ := (by assumption : _ ∧ _ ∧ _ ∧ Ints _ ra k Di ∧ Below X.heap.size X _); refine step_appAll (by rfl) (.tmp 37) (.tmp 42) 22 3 (by rfl) (.int .i64 0) 8 Tryz.underlying22 infoInt (by rfl) wr.heap.size _ 0 0 [] (by rfl) (by first | exact hO0 | exact hO0.alloc _ | exact hO2) ra k rc (Di.map (Value.int .i64)) (by rfl) hplr (by rw [List.length_map]; exact Hdl.out) (Ints.news hIr) (ints_oneCell _ _) (by omega) (by unfold maxLen; omega) (by first | exact (below1 wr _).size | exact (below2 wr _ _).size) ?_; intro a4 c4 w4 hown4 hgr4 hap4; have hb4 : Below wr.heap.size wr w4 := (by first | exact Below.app (e := 3) (xs := []) (below1 wr _) (by first | exact hO0 | exact hO0.alloc _ | exact hO2) hgr4 (Nat.le_refl _) (below1 wr _).size | exact Below.app (e := 3) (xs := []) (below1 wr _).drew (by first | exact hO0 | exact hO0.alloc _ | exact hO2) hgr4 (Nat.le_refl _) (below1 wr _).drew.size | exact Below.app (e := 3) (xs := []) (below2 wr _ _) (by first | exact hO0 | exact hO0.alloc _ | exact hO2) hgr4 (Nat.le_refl _) (below2 wr _ _).size | exact Below.app (e := 3) (xs := []) (below2 wr _ _).drew (by first | exact hO0 | exact hO0.alloc _ | exact hO2) hgr4 (Nat.le_refl _) (below2 wr _ _).drew.size); rw [Nat.zero_add] at hown4 ⊢; rw [List.nil_append] at hown4; (first | (have hc4 := cell_grownApt (ad := ⟨wr.heap.size + 1, 0, none⟩) (v := .int .i64 x) hgr4 (cell_new' _ _ _ (by simp)) (.inr (by simp))) | (have hc4 := cell_grownApt (ad := ⟨wr.heap.size, 0, none⟩) (v := .int .i64 x) hgr4 (cell_box (cell_new' _ _ _ rfl) _) (.inr (by simp))) | skip))
          | (refine step_appAll (by rfl) (.tmp 43) (.tmp 48) 22 3 (by rfl) (.int .i64 0) 8 Tryz.underlying22 infoInt (by rfl) wr.heap.size a4 k c4 (Di.map (Value.int .i64)) (by rfl) (by first | exact hown4 | exact hown4.alloc _) _ 1 1 [.int .i64 x] (by rfl) (fun _ => rfl) rfl (by intro j hj; obtain rfl : j = 0 := (by omega); first | exact cell_new' _ _ _ rfl | exact hc4) (by intro y hy; simp at hy; subst hy; rfl) (by omega) (by unfold maxLen; omega) (by first | exact hb4.size | exact (Below.allocN hb4 _).size) ?_; intro a5 c5 w5 hown5 hgr5 hap5; have hb5 : Below wr.heap.size wr w5 := (by first | exact Below.app (Below.allocN hb4 _) (hown4.alloc _) hgr5 (Nat.le_refl _) (Below.allocN hb4 _).size | exact Below.app hb4 hown4 hgr5 (Nat.le_refl _) hb4.size); have hO5 := Lib.hid (HO.out.1.keep (Below.next hb5 (below1 w5 (.cells #[.slice a5 (k + 1) c5] 22)))); have hEb := Lib.hid (Below.allocN (Below.next hbr0.out hb5) (.cells #[.slice a5 (k + 1) c5] 22)))
          | (refine step_appAll (by rfl) (.tmp 36) (.tmp 50) 25 22 (by rfl) (.slice none 0 0) 24 Tryz.underlying25 infoInts (by rfl) X.heap.size ac i cc _ (by rfl) (by exact hO5.out.own) _ 1 1 [.slice a5 (k + 1) c5] (by rfl) (fun _ => rfl) rfl (by intro j hj; obtain rfl : j = 0 := (by omega); exact cell_new' _ _ _ rfl) (by intro y hy; simp at hy; subst hy; rfl) (by omega) (by unfold maxLen; omega) (by exact hEb.out.size) ?_; intro a6 c6 w6 hown6 hgr6 hap6; have hb7 : Below X.heap.size X w6 := (by first | exact Below.app hEb.out hO5.out.own hgr6 (Nat.le_refl _) hEb.out.size | exact Below.app hEb.out.drew (by exact hO5.out.own) hgr6 (Nat.le_refl _) hEb.out.drew.size)))
      all_goals (
        go_wp2_with fail
        go_roundw
        case rel =>
          have hown9 : (w5.alloc (.cells #[.slice a5 (k + 1) c5] 22)).ownsRow X.heap.size 3 1 (.slice a5 (Di ++ [x]).length c5) (Di ++ [x]).length ((Di ++ [x]).map (Value.int .i64)) := by
            rw [List.length_append, Hdl.out, List.map_append]
            exact own_mono (own_keep hown5 (below1 _ _)) hsz
          have hra : a5 ≠ none → ¬ OIn ac R (ablk a5) := fun h0 hI => by
            have h1 := (own_ne hown5 h0).1
            have h2 := (HO.out.1.lt _ hI).2
            omega
          have hl : (Di ++ [x]).length = k + 1 := by rw [List.length_append, Hdl.out]; rfl
          have hP := OMat.push hO5.out hown9 hra (by rw [hl]; exact hown6) hgr6 hap6
          exact ⟨i + 1, a6, c6, by omega, by go_num, rfl, ⟨_, by rw [Hst.out]; exact hP⟩, hb7⟩
        case measure => simp [intOf] <;> omega)
    · obtain rfl : i = t := by omega
      have hE2 : J.take i = J := List.take_of_length_le (by rw [HJl.out]; exact Nat.le_refl _)
      rw [hE2] at hO
      have hbwr := Below.next hbwX hbr
      have hbWr := Below.next hbX hbr
      have Hel := Lib.hid (HEl.out wr ac cc hbwr hO.mat)
      obtain ⟨⟨f0, f1, f2⟩, m0, m1⟩ := HS.out wr hbWr
      clear hE2 hO hiX HEl HJn
      go_wp2_with fail
      refine Hel.out.mono ?_
      rintro e X2 ⟨hb3, ae, ce, ap, cp, rfl, hEm, hPi⟩
      have hbX2 := Below.next hbWr hb3
      have hplE := hEm.pl
      have hplP := hPi.pl
      clear f0 f1 f2 m0 m1 Hel hb3 hbr hbwr hbWr
      have hii : decide ((i : Int) < (i : Int)) = false := by simp
      go_wp2_with fail
      go_loopw [13] (fun iv ws => iv = .int .i64 i ∧ ws = X2) (fun _ _ => 0)
      case atStart => exact ⟨rfl, rfl⟩
      case round =>
        obtain ⟨rfl, rfl⟩ := hrel
        obtain ⟨_, m0, m1⟩ := HS.out wr hbX2
        clear hii
        generalize wr = X3 at *
        go_wp2_with (at_make; refine wpList_mk rfl _ _ 22 3 rfl (.int .i64 0) 8 Tryz.underlying22 infoInt rfl k rfl rfl (by omega) (by unfold maxLen; omega) ?_; intro a5 w5 hown hbel hge hlt)
        have hown0 : w5.ownsRow X3.heap.size 3 1 (.slice a5 k k) k ((solTo k E Pv 0).map (Value.int .i64)) := by simpa [solTo] using hown
        clear hown
        go_loopw [15] (fun jv ws => ∃ j : Nat, j ≤ i ∧ jv = .int .i64 j ∧ ws.ownsRow X3.heap.size 3 1 (.slice a5 k k) k ((solTo k E Pv j).map (Value.int .i64)) ∧ Below X3.heap.size X3 ws) (fun jv _ => i - (intOf jv).toNat)
        case atStart => exact ⟨0, Nat.zero_le _, rfl, hown0, hbel⟩
        case round =>
          clear hown0 hbel
          obtain ⟨j, hji, rfl, hown, hbs⟩ := hrel
          have hbW5 := Below.next hbX2 hbs
          by_cases hlt : j < i
          · obtain ⟨p, hp, hpk⟩ := HPb.out j hlt
            obtain ⟨ra, rn, rc, hcell0, hrow0⟩ := hEm.cell j hlt
            have hrn : rn = k + 1 := by rw [← hrow0.len]; exact HEw.out j hlt
            have hcell := cell_keep hbs hcell0
            have hrow := hrow0.keep hbs
            have hkr : k < rn := by omega
            have ck := hrow.cell k hkr
            have cp' := (hPi.keep hbs).cell j hlt
            rw [hp] at cp'
            have hplr := hrow.pl
            obtain ⟨hi5, hm5⟩ := Ints.own hown
            have c5 := hi5.cell p hpk
            have f5 := (hm5 (by omega)).2 p hpk
            have hpl5 := hi5.pl
            have Hst : Hid (solTo k E Pv (j + 1) = (solTo k E Pv j).set p (nth (nthR E j) k)) := by show _ = _; rw [solTo, hp]; rfl
            obtain ⟨x, hx⟩ : ∃ x, nth (nthR E j) k = x := ⟨_, rfl⟩
            obtain ⟨x5, hx5⟩ : ∃ x5, nth (solTo k E Pv j) p = x5 := ⟨_, rfl⟩
            rw [hx] at ck Hst
            rw [hx5] at c5
            obtain ⟨_, m0', m1'⟩ := HS.out wr hbW5
            have hj1 : (j : Int) < i := by omega
            have hk1 : (k : Int) < rn := by omega
            have hp1 : (p : Int) < k := by omega
            have Hown := Lib.hid hown
            have Hbs := Lib.hid hbs
            have hszs := hbs.size
            clear hx hx5 hrow hrow0 hcell0 hi5 hm5 hown hrn hp
            go_wp2_with fail
            go_still_tail 14, (by kernel_rfl)
            change wpList _ _ _ _ _ wr.drew
            generalize hwd : wr.drew = wd
            have fd : wd.frozen? ⟨ablk a5, aoff a5 + p, none⟩ = false := by rw [← hwd]; exact f5
            have cd : wd.cell? ⟨ablk a5, aoff a5 + p, none⟩ = some (.int .i64 x5) := by rw [← hwd]; exact c5
            have Hwd := Lib.hid hwd
            clear hwd
            go_wp2_with fail
            go_roundw
            case rel =>
              obtain rfl := Hwd.out
              have h1 := own_set (w := wr.drew) Hown.out p hpk (.int .i64 x)
              rw [← List.map_set, ← Hst.out] at h1
              exact ⟨j + 1, by omega, by go_num, h1, Hbs.out.drew.setCell (by have := (own_ne Hown.out (by have := hpl5 (by omega); rw [this]; simp)).1; exact this) _⟩
            case measure => simp [intOf] <;> omega
          · obtain rfl : j = i := by omega
            have HF := Lib.hid (And.intro (Ints.own hown).1 (Below.next HbW.out hbW5))
            clear hown
            go_wp2_with fail
            go_ret2
            exact ⟨a5, k, rfl, HF.out.1, HF.out.2⟩
end

/- The walk of Turn of the reference of layer 09. -/
section
open Go.RowKit

set_option maxRecDepth 100000 in
set_option maxHeartbeats 4000000 in
theorem rTurn_any (a : Option Addr) (n c : Nat) (L : List (List Int)) (cols mm : Nat) (w : World) (hi : Mat w a n L) (hl : ∀ i, i < n → (nthR L i).length = mm) (hc : cols ≤ mm) (hn : n ≤ 1000000) (hcols : cols ≤ 1000000) :
    Calls Tryz.prog 188 #[.slice a n c, .int .i64 cols] w fun e w' => ∃ a1 c1 R, e = .returned (.slice a1 cols c1) ∧ OMat w' w.heap.size a1 cols c1 R ((List.range cols).map (colS L)) ∧ Below w.heap.size w w' := by
  have Hlen := Lib.hid hi.len
  have hpla := hi.pl
  have HLl := Lib.hid hl
  obtain ⟨T, hT⟩ : ∃ T, (List.range cols).map (colS L) = T := ⟨_, rfl⟩
  have HTl : Hid (T.length = cols) := by show _ = _; rw [← hT]; simp
  have HTk : Hid (∀ k, k < cols → T.take (k + 1) = T.take k ++ [colS L k]) := fun k hk => by
    rw [List.take_succ_eq_append_getElem (by rw [HTl.out]; exact hk)]
    congr 1
    simp [← hT]
  have HCl : Hid (∀ k, (colS L k).length = n) := fun k => by rw [colS_length]; exact Hlen.out
  have HCt : Hid (∀ k i, i < n → (colS L k).take (i + 1) = (colS L k).take i ++ [nth (nthR L i) k]) := fun k i hi' => by
    rw [List.take_succ_eq_append_getElem (by rw [HCl.out]; exact hi'), ← nth_colS L k i (by rw [Hlen.out]; exact hi'), nth_getElem (by rw [HCl.out]; exact hi')]
  rw [hT]
  clear hT hl
  go_enter Tryz.func188, Tryz.ntmps188
  go_wp2_with fail
  go_loopw [5, 6] (fun sv iv wr => ∃ (k : Nat) (a1 : Option Addr) (c1 : Nat), k ≤ cols ∧ iv = .int .i64 k ∧ sv = .slice a1 k c1 ∧ (∃ R, OMat wr w.heap.size a1 k c1 R (T.take k)) ∧ Below w.heap.size w wr) (fun _ iv _ => cols - (intOf iv).toNat)
  case atStart => exact ⟨0, none, 0, Nat.zero_le _, rfl, rfl, ⟨[], by simpa using OMat.empty w w.heap.size⟩, Below.refl _ _⟩
  case round =>
    obtain ⟨k, a1, c1, hk, rfl, rfl, ⟨R, hO⟩, hbr⟩ := hrel
    generalize wr = X at *
    by_cases hlt : k < cols
    · have hiX := hi.keep hbr
      have HO := Lib.hid hO
      have Hsz := Lib.hid hbr
      have hszX := hbr.size
      clear hO hbr
      go_wp2_with fail
      go_loopw [7, 8] (fun cv iv ws => ∃ (i : Nat) (ar : Option Addr) (cr : Nat), i ≤ n ∧ iv = .int .i64 i ∧ cv = .slice ar i cr ∧ ws.ownsRow X.heap.size 3 1 (.slice ar i cr) i (((colS L k).take i).map (Value.int .i64)) ∧ Below X.heap.size X ws) (fun _ iv _ => n - (intOf iv).toNat)
      case atStart => exact ⟨0, none, 0, Nat.zero_le _, rfl, rfl, by simpa using own_none, Below.refl _ _⟩
      case round =>
        obtain ⟨i, ar, cr, hin, rfl, rfl, hown, hbs⟩ := hrel
        generalize wr = Y at *
        by_cases hlt2 : i < n
        · obtain ⟨ra, rn, rc, hcell, hrow⟩ := (hiX.keep hbs).cell i hlt2
          have hrn : rn = mm := by rw [← hrow.len]; exact HLl.out i hlt2
          have hkr : k < rn := by omega
          have hplr := hrow.pl
          have ck := hrow.cell k hkr
          have Hct := Lib.hid (HCt.out k i hlt2)
          obtain ⟨x, hx⟩ : ∃ x, nth (nthR L i) k = x := ⟨_, rfl⟩
          rw [hx] at ck Hct
          have hcn := cell_new Y (.int .i64 x) 3
          have hbn := below1 Y (.cells #[.int .i64 x] 3)
          have hszY := hbs.size
          have hkr2 : (k : Int) < rn := by omega
          have hi2 : (i : Int) < n := by omega
          clear hx hrow hrn
          go_wp2_with (at_builtin; refine wpList_push rfl _ _ 22 3 rfl (.int .i64 0) 8 Tryz.underlying22 infoInt rfl X.heap.size ar i cr _ rfl (hown.alloc _) ⟨Y.heap.size, 0, none⟩ 1 (.int .i64 x) rfl hcn rfl (by omega) (by unfold maxLen; omega) (by simp; omega) ?_; intro a5 c5 w5 hown5 hgr5 hap5)
          go_roundw
          case rel =>
            have hb5 : Below X.heap.size X w5 := Below.app (Below.trans hbs (hbn.mono hszY)) (hown.alloc _) hgr5 (Nat.le_refl _) (Nat.le_trans hszY hbn.size)
            exact ⟨i + 1, a5, c5, by omega, by go_num, rfl, by rw [Hct.out, List.map_append]; exact hown5, hb5⟩
          case measure => simp [intOf] <;> omega
        · obtain rfl : i = n := by omega
          have hcl := HCl.out k
          rw [List.take_of_length_le (by rw [hcl]; exact Nat.le_refl _)] at hown
          have Hbs := Lib.hid hbs
          have hO3 := HO.out.keep (Below.next hbs (below1 Y (.cells #[.slice ar i cr] 22)))
          have hs3 : w.heap.size ≤ (Y.alloc (.cells #[.slice ar i cr] 22)).heap.size := by have h1 := hbs.size; simp; omega
          have hHcl := Lib.hid hcl
          clear hcl
          go_wp2_with (at_builtin; refine wpList_push rfl _ _ 25 22 rfl (.slice none 0 0) 24 Tryz.underlying25 infoInts rfl w.heap.size a1 k c1 _ rfl hO3.own ⟨Y.heap.size, 0, none⟩ 1 (.slice ar i cr) rfl (cell_new Y _ _) rfl (by omega) (by unfold maxLen; omega) hs3 ?_; intro a5 c5 w5 hown5 hgr5 hap5)
          go_roundw
          case rel =>
            have hb4 : Below X.heap.size X (Y.alloc (.cells #[.slice ar i cr] 22)) := Below.next Hbs.out (below1 _ _)
            have hown4 : (Y.alloc (.cells #[.slice ar i cr] 22)).ownsRow w.heap.size 3 1 (.slice ar (colS L k).length cr) (colS L k).length ((colS L k).map (Value.int .i64)) := by
              rw [hHcl.out]
              exact own_mono (own_keep hown (below1 _ _)) hszX
            have hra : ar ≠ none → ¬ OIn a1 R (ablk ar) := fun h0 hI => by
              have h1 := (own_ne hown h0).1
              have h2 := (HO.out.lt _ hI).2
              omega
            have hP := OMat.push hO3 hown4 hra (by rw [hHcl.out]; exact hown5) hgr5 hap5
            have hb5 : Below w.heap.size w w5 := Below.app (Below.next Hsz.out hb4) hO3.own hgr5 (Nat.le_refl _) (Nat.le_trans hszX hb4.size)
            exact ⟨k + 1, a5, c5, by omega, by go_num, rfl, ⟨_, by rw [HTk.out k hlt]; exact hP⟩, hb5⟩
          case measure => simp [intOf] <;> omega
    · obtain rfl : k = cols := by omega
      rw [List.take_of_length_le (by rw [HTl.out]; exact Nat.le_refl _)] at hO
      have HO := Lib.hid hO
      clear hO
      go_wp2_with fail
      go_ret
      exact ⟨a1, c1, R, rfl, HO.out, hbr⟩
end

/- The walk of Vanish of the reference's exclusion. -/
section
open Go.RowKit

theorem rCmbC_any {P M : Int} {am : Option Addr} {mn cm : Nat} {mod : List Int} {m : Nat} {L : List (List Int)} (hE : codeE P M mod m L = 0) (ax : Option Addr) (cx : Nat) (x : List Int) (a : Option Addr) (n c : Nat) (w : World)
    (hmod : Ints w am mn mod) (hx : Ints w ax n x) (hi : Mat w a n L) (hxe : ∀ k, k < L.length → (tblOf P M.toNat mod).El (nth x k)) :
    Calls Tryz.prog 127 #[.agg #[.int .i64 P, .int .i64 M, .slice am mn cm], .slice ax n cx, .slice a n c, .int .i64 m] w fun e w' =>
      ∃ a1 c1, e = .returned (.slice a1 m c1) ∧ Ints w' a1 m (cmbTo (tblOf P M.toNat mod).ops m x L L.length) ∧ Below w.heap.size w w' := by
  obtain ⟨_, _, hm64, _⟩ := codeE_zero hE
  have hn : n ≤ 256 := by rw [← hi.len]; exact (codeE_rws hE).choose_spec.2.2.2.1
  have hil := hi.len
  obtain ⟨m', em, _, _, _, hR⟩ := codeE_fld hE
  obtain rfl : m = m' := by omega
  obtain ⟨k, hk, hel, hq, hF, hA, _⟩ := eq_ops (codeE_zero hE).1
  subst hk
  obtain ⟨k', e2, hrf, hmods⟩ := fieldRB_rf (P := P) (M := (k : Int)) (mod := mod) (by rw [fieldRB_eq]; exact (codeE_zero hE).1)
  obtain rfl : k = k' := by omega
  rw [Int.toNat_natCast] at hxe hR ⊢
  rw [← hel] at hxe hR
  have hag := cmbTo_agr hF hA hR hxe
  refine (rCombine_any P k am mn cm mod ax cx x a n c L m w ⟨hrf, hmods w am mn hmod⟩ hx hi (fun j hj => hxe j (by omega)) hR
    (fun j hj => by rw [← hag j (by omega)]; exact (cmb_rs hF hR hxe j (by omega)).1) (by omega) (by omega)).mono ?_
  rintro e w' ⟨a1, c1, rfl, hown, hb⟩
  refine ⟨a1, c1, rfl, ?_, hb⟩
  rw [hag _ (Nat.le_refl _), hil]
  exact (Ints.own hown).1

theorem turn_pick (L : List (List Int)) (t : List Int) : (List.range t.length).map (colS (L.map (pickL t))) = t.map fun q => colS L q.toNat := by
  refine List.ext_getElem (by simp) fun i h1 h2 => ?_
  rw [List.length_map, List.length_range] at h1
  rw [List.getElem_map, List.getElem_range, List.getElem_map]
  unfold colS
  rw [List.map_map]
  refine List.map_congr_left fun r _ => ?_
  show nth (pickL t r) i = _
  rw [nth_pickL t r h1, nth_getElem h1]

set_option maxRecDepth 100000 in
set_option maxHeartbeats 8000000 in
theorem rVanish_any (P M : Int) (am : Option Addr) (mn cm : Nat) (mod : List Int) (m : Nat) (a : Option Addr) (n c : Nat) (L : List (List Int)) (ay : Option Addr) (cy : Nat) (y : List Int) (at' : Option Addr) (nt ct : Nat) (t : List Int) (w : World)
    (hmod : Ints w am mn mod) (hi : Mat w a n L) (hE : codeE P M mod m L = 0) (hy : Ints w ay m y) (ht : Ints w at' nt t) (hyv : Vc (tblOf P M.toNat mod).El m y) (hT : InN m t) (hrk : rkQ (tblOf P M.toNat mod).ops L t = t.length) (hnt : nt ≤ 64) :
    Calls Tryz.prog 157 #[.agg #[.int .i64 P, .int .i64 M, .slice am mn cm, .int .i64 m, .slice a n c], .slice ay m cy, .slice at' nt ct] w fun e w' =>
      ∃ a1 c1, e = .returned (.slice a1 m c1) ∧ Ints w' a1 m (vanL (tblOf P M.toNat mod).ops m L y t) ∧ Below w.heap.size w w' := by
  obtain ⟨m', em, hm1, hm64, F, hR⟩ := codeE_fld hE
  obtain rfl : m = m' := by omega
  have hn64 : n ≤ 64 := by rw [← hi.len]; have h := (code_full hE).len; rw [List.length_range] at h; omega
  have hil := hi.len
  have htl := ht.len
  obtain ⟨hAr, hbe⟩ := van_els F hR hyv hT
  obtain ⟨_, _, hxe, hpl⟩ := van_cos F hR hyv hT hrk
  have hyl := hy.len
  obtain ⟨M', rfl, hel, _, _, _, _⟩ := eq_ops (codeE_zero hE).1
  obtain ⟨M2, e2, hrf, _⟩ := fieldRB_rf (by rw [fieldRB_eq]; exact (codeE_zero hE).1)
  obtain rfl : M' = M2 := by omega
  rw [Int.toNat_natCast] at *
  have HNg : Hid (∀ (V : World) (x : Int), (tblOf P M' mod).El x → Calls Tryz.prog 187 #[.agg #[.int .i64 P, .int .i64 M', .slice am mn cm], .int .i64 x] V fun e w' => e = .returned (.int .i64 ((tblOf P M' mod).ops.neg x)) ∧ Below V.heap.size V w') := fun V x hx =>
    rNeg_any P M' am mn cm x V hrf (hrf.isQ (by rw [hel]; exact hx))
  have HYe : Hid (∀ j, j < m → (tblOf P M' mod).El (nth y j)) := fun j hj => hyv.at hj
  have HKp : Hid (∀ V, Below w.heap.size w V → Calls Tryz.prog 39 #[.slice a n c, .slice at' nt ct] V fun e w' => ∃ a1 c1, e = .returned (.slice a1 n c1) ∧ Mat w' a1 n (L.map (pickL t)) ∧ Below V.heap.size V w') := fun V hV => by
    refine (rKeep_any m a n c L at' nt ct t V (hi.keep hV) (ht.keep hV) (fun r hr => (hR r hr).1) hT (by omega) (by omega)).mono ?_
    rintro e w' ⟨a1, c1, R, rfl, hO, hb⟩
    exact ⟨a1, c1, rfl, hO.mat, hb⟩
  obtain ⟨A, hA⟩ : ∃ A, (t.map fun q => colS L q.toNat) = A := ⟨_, rfl⟩
  obtain ⟨B, hB⟩ : ∃ B, (t.map fun q => (tblOf P M' mod).ops.neg (nth y q.toNat)) = B := ⟨_, rfl⟩
  have HTu : Hid (∀ V a1 c1, Mat V a1 n (L.map (pickL t)) → Calls Tryz.prog 188 #[.slice a1 n c1, .int .i64 nt] V fun e w' => ∃ a2 c2 R, e = .returned (.slice a2 nt c2) ∧ OMat w' V.heap.size a2 nt c2 R A ∧ Below V.heap.size V w') := fun V a1 c1 hV => by
    have h := rTurn_any a1 n c1 (L.map (pickL t)) nt nt V hV (fun i hi' => by rw [nthR_map _ _ (by omega)]; simp [pickL, htl]) (Nat.le_refl _) (by omega) (by omega)
    have e : (List.range nt).map (colS (L.map (pickL t))) = A := by rw [← htl, turn_pick, hA]
    rw [e] at h
    exact h
  unfold vanL
  have hX : vanX (tblOf P M' mod).ops L y t = solL (tblOf P M' mod).ops A B n := by unfold vanX; rw [hA, hB, hil]
  rw [hX] at hxe ⊢
  rw [hA] at hAr hpl
  rw [hB] at hbe hpl
  rw [hil] at hAr hpl
  have HSo : Hid (∀ V aA cA ab cb, Below w.heap.size w V → Mat V aA nt A → Ints V ab nt B → Calls Tryz.prog 189 #[.agg #[.int .i64 P, .int .i64 M', .slice am mn cm], .agg #[.int .i64 n, .slice aA nt cA], .slice ab nt cb] V fun e w' =>
      ∃ a1 c1, e = .returned (.tuple #[.slice a1 n c1, .int .i64 0]) ∧ Ints w' a1 n (solL (tblOf P M' mod).ops A B n) ∧ Below V.heap.size V w') := fun V aA cA ab cb hV h1 h2 => by
    have h := rSolve_any P M' am mn cm mod n aA nt cA A ab cb B V (hmod.keep hV) h1 h2 (codeE_zero hE).1 (by rw [Int.toNat_natCast]; exact hAr) (by rw [Int.toNat_natCast]; exact hbe) (by rw [Int.toNat_natCast, hpl, htl]) hn64 hnt
    rw [Int.toNat_natCast] at h
    exact h
  obtain ⟨Xs, hXs⟩ : ∃ Xs, solL (tblOf P M' mod).ops A B n = Xs := ⟨_, rfl⟩
  rw [hXs] at hxe HSo ⊢
  have hcv := (cmb_rs F hR hxe L.length (Nat.le_refl _)).1
  have HCb : Hid (∀ V ax cx, Below w.heap.size w V → Ints V ax n Xs → Calls Tryz.prog 127 #[.agg #[.int .i64 P, .int .i64 M', .slice am mn cm], .slice ax n cx, .slice a n c, .int .i64 m] V fun e w' =>
      ∃ a1 c1, e = .returned (.slice a1 m c1) ∧ Ints w' a1 m (cmbTo (tblOf P M' mod).ops m Xs L L.length) ∧ Below V.heap.size V w') := fun V ax cx hV h1 => by
    have h := rCmbC_any (cm := cm) hE ax cx Xs a n c V (hmod.keep hV) h1 (hi.keep hV) (by rw [Int.toNat_natCast]; exact hxe)
    rw [Int.toNat_natCast] at h
    exact h
  obtain ⟨Cm, hCm⟩ : ∃ Cm, cmbTo (tblOf P M' mod).ops m Xs L L.length = Cm := ⟨_, rfl⟩
  rw [hCm] at hcv HCb ⊢
  have HAd : Hid (∀ V au cu, Below w.heap.size w V → Ints V au m Cm → Calls Tryz.prog 45 #[.agg #[.int .i64 P, .int .i64 M', .slice am mn cm], .slice ay m cy, .int .i64 1, .slice au m cu] V fun e w' =>
      ∃ a1 c1, e = .returned (.slice a1 m c1) ∧ Ints w' a1 m (addRow (tblOf P M' mod).ops y 1 Cm) ∧ Below V.heap.size V w') := fun V au cu hV h1 => by
    have h := rAddC_any (cm := cm) hE ay cy y 1 au cu Cm V (hmod.keep hV) (hy.keep hV) h1 (by rw [Int.toNat_natCast]; exact hyv) (by rw [Int.toNat_natCast]; exact F.one) (by rw [Int.toNat_natCast]; exact hcv)
    rw [Int.toNat_natCast] at h
    exact h
  obtain ⟨Z, hZ⟩ : ∃ Z, addRow (tblOf P M' mod).ops y 1 Cm = Z := ⟨_, rfl⟩
  rw [hZ] at HAd ⊢
  have HTk : Hid (∀ i, i < nt → ∃ p : Nat, nth t i = p ∧ p < m ∧ B.take (i + 1) = B.take i ++ [(tblOf P M' mod).ops.neg (nth y p)]) := fun i hi' => by
    have h := hT i (by omega)
    refine ⟨(nth t i).toNat, by omega, by omega, ?_⟩
    rw [List.take_succ_eq_append_getElem (by rw [← hB, List.length_map]; omega)]
    congr 1
    rw [nth_getElem (show i < t.length by omega)]
    simp [← hB]
  have HBl : Hid (B.length = nt) := by show _ = _; rw [← hB, List.length_map]; exact htl
  generalize (tblOf P M' mod).ops = O at *
  generalize (tblOf P M' mod).El = El at *
  clear hE em F hR hAr hbe hxe hpl hcv hCm hZ hXs hX hA hB hel e2 hrf hmod hi hyv hT hrk
  go_enter Tryz.func157, Tryz.ntmps157
  go_wp2_with fail
  obtain ⟨W, hW⟩ : ∃ W : World, W = w.alloc (.cells #[.int .i64 P, .int .i64 M', .slice am mn cm, .int .i64 m, .slice a n c] 27) := ⟨_, rfl⟩
  rw [← hW]
  have hbW : Below w.heap.size w W := by rw [hW]; exact below1 _ _
  have x0 : Box W w.heap.size [.int .i64 P, .int .i64 M', .slice am mn cm, .int .i64 m, .slice a n c] := by rw [hW]; exact Box.new _ _ _ rfl
  have HS : Hid (∀ V, Below W.heap.size W V → V.cell? ⟨w.heap.size, 0, none⟩ = some (.int .i64 P) ∧ V.cell? ⟨w.heap.size, 1, none⟩ = some (.int .i64 M') ∧ V.cell? ⟨w.heap.size, 2, none⟩ = some (.slice am mn cm) ∧ V.cell? ⟨w.heap.size, 3, none⟩ = some (.int .i64 m) ∧ V.cell? ⟨w.heap.size, 4, none⟩ = some (.slice a n c)) := fun V hV => by
    have r0 := x0.keep hV
    exact ⟨r0.cell 0 rfl, r0.cell 1 rfl, r0.cell 2 rfl, r0.cell 3 rfl, r0.cell 4 rfl⟩
  have HbW := Lib.hid hbW
  have htW := ht.keep hbW
  have hyW := hy.keep hbW
  have hplt := ht.pl
  have hply := hy.pl
  clear hW x0 hbW ht hy
  go_loopw [7, 8] (fun bv iv wr => ∃ (i : Nat) (ar : Option Addr) (cr : Nat), i ≤ nt ∧ iv = .int .i64 i ∧ bv = .slice ar i cr ∧ wr.ownsRow W.heap.size 3 1 (.slice ar i cr) i ((B.take i).map (Value.int .i64)) ∧ Below W.heap.size W wr) (fun _ iv _ => nt - (intOf iv).toNat)
  case atStart => exact ⟨0, none, 0, Nat.zero_le _, rfl, rfl, by simpa using own_none, Below.refl _ _⟩
  case round =>
    obtain ⟨i, ar, cr, hint, rfl, rfl, hown, hbr⟩ := hrel
    generalize wr = U at *
    by_cases hlt : i < nt
    · obtain ⟨p, hp, hpm, hst⟩ := HTk.out i hlt
      have ct' := (htW.keep hbr).cell i hlt
      rw [hp] at ct'
      have cy' := (hyW.keep hbr).cell p hpm
      have Hng := Lib.hid (fun V => HNg.out V _ (HYe.out p hpm))
      obtain ⟨x, hx⟩ : ∃ x, nth y p = x := ⟨_, rfl⟩
      rw [hx] at cy' hst Hng
      obtain ⟨z, hz⟩ : ∃ z, O.neg x = z := ⟨_, rfl⟩
      rw [hz] at hst Hng
      have Hst := Lib.hid hst
      have ct0 := htW.cell i hlt
      have cy0 := hyW.cell p hpm
      rw [hp] at ct0
      rw [hx] at cy0
      have HS3 : Hid (∀ V, Below W.heap.size W V → V.cell? ⟨w.heap.size, 0, none⟩ = some (.int .i64 P) ∧ V.cell? ⟨w.heap.size, 1, none⟩ = some (.int .i64 M') ∧ V.cell? ⟨w.heap.size, 2, none⟩ = some (.slice am mn cm) ∧ V.cell? ⟨ablk at', aoff at' + i, none⟩ = some (.int .i64 p) ∧ V.cell? ⟨ablk ay, aoff ay + p, none⟩ = some (.int .i64 x)) := fun V hV => by
        obtain ⟨q0, q1, q2, _⟩ := HS.out V hV
        exact ⟨q0, q1, q2, cell_keep hV ct0, cell_keep hV cy0⟩
      have Hown := Lib.hid (And.intro hown hbr)
      have hsz := hbr.size
      have hi1 : (i : Int) < nt := by omega
      have hp1 : (p : Int) < m := by omega
      have hp0 : (0 : Int) ≤ p := by omega
      clear hst hown hx hz hp ct' cy' ct0 cy0
      go_wp2_with fail
      go_region_held3 (fun V => V.cell? ⟨w.heap.size, 0, none⟩ = some (.int .i64 P) ∧ V.cell? ⟨w.heap.size, 1, none⟩ = some (.int .i64 M') ∧ V.cell? ⟨w.heap.size, 2, none⟩ = some (.slice am mn cm) ∧ V.cell? ⟨ablk at', aoff at' + i, none⟩ = some (.int .i64 p) ∧ V.cell? ⟨ablk ay, aoff ay + p, none⟩ = some (.int .i64 x))
        ((refine HS3.out _ ?_; first | exact hb5 | exact Below.next Hown.out.2 hb4w | exact Below.next Hown.out.2 (Below.refl _ _).drew | exact hB4 | exact hB4.drew))
        (first
          | (go_at_call 187; ((with_reducible refine (Hng.out _).mono ?_); rintro e w4 ⟨rfl, hb4⟩; have hb4w : Below U.heap.size U w4 := Below.next (Below.refl _ _).drew hb4; have hO4 := own_keep Hown.out.1 (Below.allocN hb4w (.cells #[.int .i64 z] 3)); have hB4 := Below.next Hown.out.2 (Below.allocN hb4w (.cells #[.int .i64 z] 3))))
          | (refine step_appAll (by rfl) (.tmp 18) (.tmp 29) 22 3 (by rfl) (.int .i64 0) 8 Tryz.underlying22 infoInt (by rfl) W.heap.size ar i cr ((B.take i).map (Value.int .i64)) (by rfl) (by exact hO4) _ 1 1 [.int .i64 z] (by rfl) (fun _ => rfl) rfl (by intro j hj; obtain rfl : j = 0 := (by omega); exact cell_new' _ _ _ rfl) (by intro y hy; simp at hy; subst hy; rfl) (by omega) (by unfold maxLen; omega) (by exact hB4.size) ?_; intro a5 c5 w5 hown5 hgr5 hap5; have hb5 : Below W.heap.size W w5 := (by first | exact Below.app hB4 hO4 hgr5 (Nat.le_refl _) hB4.size | exact Below.app hB4.drew (by exact hO4) hgr5 (Nat.le_refl _) hB4.drew.size)))
      all_goals (
        go_wp2_with fail
        go_roundw
        case rel => exact ⟨i + 1, a5, c5, by omega, by go_num, rfl, by rw [Hst.out, List.map_append]; exact hown5, hb5⟩
        case measure => simp [intOf] <;> omega)
    · obtain rfl : i = nt := by omega
      have hB1 : B.take i = B := List.take_of_length_le (by rw [HBl.out]; exact Nat.le_refl _)
      rw [hB1] at hown
      have hIB := Lib.hid (Ints.own hown).1
      have hbwU := Below.next HbW.out hbr
      have HKp2 : Hid (∀ V, Below U.heap.size U V → Calls Tryz.prog 39 #[.slice a n c, .slice at' i ct] V fun e w' => ∃ a1 c1, e = .returned (.slice a1 n c1) ∧ Mat w' a1 n (L.map (pickL t)) ∧ Below V.heap.size V w') := fun V hV => HKp.out V (Below.next hbwU hV)
      have HS4 : Hid (∀ V, Below U.heap.size U V → V.cell? ⟨w.heap.size, 0, none⟩ = some (.int .i64 P) ∧ V.cell? ⟨w.heap.size, 1, none⟩ = some (.int .i64 M') ∧ V.cell? ⟨w.heap.size, 2, none⟩ = some (.slice am mn cm) ∧ V.cell? ⟨w.heap.size, 3, none⟩ = some (.int .i64 m) ∧ V.cell? ⟨w.heap.size, 4, none⟩ = some (.slice a n c)) := fun V hV => HS.out V (Below.next hbr hV)
      have HbU := Lib.hid (And.intro hbr hbwU)
      obtain ⟨c0, c1, c2, c3, c4⟩ := HS4.out U (Below.refl _ _)
      clear hB1 hown hbr hbwU HKp
      go_upto_region 6 with fail
      go_cut [9] (fun v wx => ∃ g, v = .pointer (some ⟨g, 0, none⟩) ∧ U.heap.size ≤ g ∧ (∃ a2 c2, Box wx g [.int .i64 n, .slice a2 i c2] ∧ Mat wx a2 i A) ∧ Below U.heap.size U wx)
      case first =>
        obtain ⟨Zo, hZo⟩ : ∃ Zo : Obj, Zo = .cells #[.int .i64 0, .slice none 0 0] 52 := ⟨_, rfl⟩
        have hA1 : Below U.heap.size U (U.alloc Zo) := below1 _ _
        have hZ1 : Box (U.alloc Zo) U.heap.size [.int .i64 0, .slice none 0 0] := by rw [hZo]; exact Box.new _ _ _ rfl
        have hA2 : ∀ V, Below U.heap.size U V → Box (V.alloc Zo) V.heap.size [.int .i64 0, .slice none 0 0] := fun V _ => by rw [hZo]; exact Box.new _ _ _ rfl
        have HA := Lib.hid (And.intro hA1 (And.intro hZ1 hA2))
        obtain ⟨z0, z1, z2, z3, z4⟩ := HS4.out (U.alloc Zo) hA1
        rw [hZo] at z0 z1 z2 z3 z4 HA
        clear hA1 hZ1 hA2 hZo
        go_region_law ((first
          | (go_simp; go_at_call 39; ((with_reducible refine (HKp2.out _ (by first | exact (Below.refl _ _).drew | exact HA.out.1 | exact HA.out.1.drew)).mono ?_); rintro e w3 ⟨a3, k3, rfl, hM3, hb3⟩; have hb3w : Below U.heap.size U w3 := (by first | exact Below.next (Below.refl _ _).drew hb3 | exact Below.next HA.out.1 hb3 | exact Below.next HA.out.1.drew hb3); obtain ⟨d0, d1, d2, d3, d4⟩ := HS4.out w3 hb3w; obtain ⟨y0, y1, y2, y3, y4⟩ := HS4.out _ (Below.allocN hb3w (.cells #[.int .i64 0, .slice none 0 0] 52)); (first | (have hZ3 := HA.out.2.1.keep hb3; have p0 := hZ3.cell 0 rfl; have p1 := hZ3.cell 1 rfl; have pf0 := hZ3.frozen 0; have pf1 := hZ3.frozen 1) | (have hZ3 := (HA.out.2.1.keep (Below.refl _ _).drew).keep hb3; have p0 := hZ3.cell 0 rfl; have p1 := hZ3.cell 1 rfl; have pf0 := hZ3.frozen 0; have pf1 := hZ3.frozen 1) | skip)))
          | (go_simp; go_at_call 188; ((with_reducible refine (HTu.out _ a3 k3 (by first | exact hM3 | exact hM3.keep (below1 _ _))).mono ?_); rintro e w5 ⟨a5, k5, R5, rfl, hM5, hb5⟩; have hb5w : Below U.heap.size U w5 := (by first | exact Below.next hb3w hb5 | exact Below.next (Below.allocN hb3w _) hb5 | exact Below.next (Below.allocN hb3w _).drew hb5); obtain ⟨e0, e1, e2, e3, e4⟩ := HS4.out w5 hb5w; obtain ⟨g0, g1, g2, g3, g4⟩ := HS4.out _ (Below.allocN hb5w (.cells #[.int .i64 0, .slice none 0 0] 52)); have hZ6 := HA.out.2.2 w5 hb5w; have r0 := hZ6.cell 0 rfl; have r1 := hZ6.cell 1 rfl; have rf0 := hZ6.frozen 0; have rf1 := hZ6.frozen 1; (first | (have hZ5 := hZ3.keep hb5; have q0 := hZ5.cell 0 rfl; have q1 := hZ5.cell 1 rfl; have qf0 := hZ5.frozen 0; have qf1 := hZ5.frozen 1) | (have hZ5 := (HA.out.2.2 w3 hb3w).keep hb5; have q0 := hZ5.cell 0 rfl; have q1 := hZ5.cell 1 rfl; have qf0 := hZ5.frozen 0; have qf1 := hZ5.frozen 1) | (have hZ5 := ((HA.out.2.2 w3 hb3w).keep (Below.refl _ _).drew).keep hb5; have q0 := hZ5.cell 0 rfl; have q1 := hZ5.cell 1 rfl; have qf0 := hZ5.frozen 0; have qf1 := hZ5.frozen 1) | skip)))))
        all_goals (
          go_wp2_with fail
          go_meet
          first
          | exact ⟨w5.heap.size, rfl, hb5w.size, ⟨a5, k5, Box.new _ _ _ rfl, hM5.mat.keep (below1 _ _)⟩, Below.allocN hb5w _⟩
          | exact ⟨U.heap.size, rfl, Nat.le_refl _, ⟨a5, k5, (hZ5.setCell 0 _).setCell 1 _, (OMat.of_blocks (hM5.of_blocks fun x hx => Below.heap_setCell _ _ _ _ fun e => (by have h1 := (hM5.lt x hx).1; have h2 := hb3.size; have h3 := hZ3.1; have e' : x = U.heap.size := e; omega)) fun x hx => Below.heap_setCell _ _ _ _ fun e => (by have h1 := (hM5.lt x hx).1; have h2 := hb3.size; have h3 := hZ3.1; have e' : x = U.heap.size := e; omega)).mat⟩, (hb5w.setCell (Nat.le_refl _) _).setCell (Nat.le_refl _) _⟩
          | exact ⟨w3.heap.size, rfl, hb3w.size, ⟨a5, k5, (hZ5.setCell 0 _).setCell 1 _, (OMat.of_blocks (hM5.of_blocks fun x hx => Below.heap_setCell _ _ _ _ fun e => (by have h1 := (hM5.lt x hx).1; simp at h1; have e' : x = w3.heap.size := e; omega)) fun x hx => Below.heap_setCell _ _ _ _ fun e => (by have h1 := (hM5.lt x hx).1; simp at h1; have e' : x = w3.heap.size := e; omega)).mat⟩, (hb5w.setCell hb3w.size _).setCell hb3w.size _⟩
          | exact ⟨w5.heap.size, rfl, hb5w.size, ⟨a5, k5, (hZ6.setCell 0 _).setCell 1 _, (OMat.of_blocks ((hM5.keep (below1 _ _)).of_blocks fun x hx => Below.heap_setCell _ _ _ _ fun e => (by have h1 := (hM5.lt x hx).2; have e' : x = w5.heap.size := e; omega)) fun x hx => Below.heap_setCell _ _ _ _ fun e => (by have h1 := (hM5.lt x hx).2; have e' : x = w5.heap.size := e; omega)).mat⟩, ((Below.allocN hb5w _).setCell hb5w.size _).setCell hb5w.size _⟩)
      obtain ⟨g, rfl, hg, ⟨a2, k2, hbx, hMA⟩, hbU6⟩ := hcut
      generalize wc = V6 at *
      clear c0 c1 c2 c3 c4
      obtain ⟨c0, c1, c2, c3, c4⟩ := HS4.out V6 hbU6
      have m0 := hbx.cell 0 rfl
      have m1 := hbx.cell 1 rfl
      have hbw6 := Below.next HbU.out.2 hbU6
      have HSo2 := Lib.hid (HSo.out V6 a2 k2 ar cr hbw6 hMA (hIB.out.keep hbU6))
      clear HSo HTu HKp2 hbx hMA
      go_wp2_with fail
      refine HSo2.out.mono ?_
      rintro e w7 ⟨a7, k7, rfl, hI7, hb7⟩
      have hbw7 := Below.next hbw6 hb7
      have hbU7 := Below.next hbU6 hb7
      have HCb2 : Hid (∀ V, Below w7.heap.size w7 V → Calls Tryz.prog 127 #[.agg #[.int .i64 P, .int .i64 M', .slice am mn cm], .slice a7 n k7, .slice a n c, .int .i64 m] V fun e w' =>
          ∃ a1 c1, e = .returned (.slice a1 m c1) ∧ Ints w' a1 m Cm ∧ Below V.heap.size V w') := fun V hV => HCb.out V a7 k7 (Below.next hbw7 hV) (hI7.keep hV)
      have HAd2 : Hid (∀ V au cu, Below w7.heap.size w7 V → Ints V au m Cm → Calls Tryz.prog 45 #[.agg #[.int .i64 P, .int .i64 M', .slice am mn cm], .slice ay m cy, .int .i64 1, .slice au m cu] V fun e w' =>
          ∃ a1 c1, e = .returned (.slice a1 m c1) ∧ Ints w' a1 m Z ∧ Below V.heap.size V w') := fun V au cu hV h1 => HAd.out V au cu (Below.next hbw7 hV) h1
      have HS7 : Hid (∀ V, Below w7.heap.size w7 V → V.cell? ⟨w.heap.size, 0, none⟩ = some (.int .i64 P) ∧ V.cell? ⟨w.heap.size, 1, none⟩ = some (.int .i64 M') ∧ V.cell? ⟨w.heap.size, 2, none⟩ = some (.slice am mn cm) ∧ V.cell? ⟨w.heap.size, 3, none⟩ = some (.int .i64 m) ∧ V.cell? ⟨w.heap.size, 4, none⟩ = some (.slice a n c) ∧ Below w7.heap.size w7 V) := fun V hV => by
        obtain ⟨q0, q1, q2, q3, q4⟩ := HS4.out V (Below.next hbU7 hV)
        exact ⟨q0, q1, q2, q3, q4, hV⟩
      have Hbw7 := Lib.hid hbw7
      clear c0 c1 c2 c3 c4 m0 m1 HCb HAd hI7 hb7 HSo2
      go_upto_region 8 with fail
      go_region_held3 (fun V => V.cell? ⟨w.heap.size, 0, none⟩ = some (.int .i64 P) ∧ V.cell? ⟨w.heap.size, 1, none⟩ = some (.int .i64 M') ∧ V.cell? ⟨w.heap.size, 2, none⟩ = some (.slice am mn cm) ∧ V.cell? ⟨w.heap.size, 3, none⟩ = some (.int .i64 m) ∧ V.cell? ⟨w.heap.size, 4, none⟩ = some (.slice a n c) ∧ Below w7.heap.size w7 V)
        ((refine HS7.out _ ?_; first | exact hb9w | exact hb8w | exact (Below.refl _ _).drew | assumption | (go_split_ands; assumption)))
        (first
          | (go_at_call 127; ((with_reducible refine (HCb2.out _ (by go_split_ands; assumption)).mono ?_); rintro e w8 ⟨a8, k8, rfl, hI8, hb8⟩; have hb8w : Below w7.heap.size w7 w8 := (by go_split_ands; exact Below.next (by assumption) hb8)))
          | (go_at_call 45; ((with_reducible refine (HAd2.out _ a8 k8 (by go_split_ands; assumption) hI8).mono ?_); rintro e w9 ⟨a9, k9, rfl, hI9, hb9⟩; have hb9w : Below w7.heap.size w7 w9 := (by go_split_ands; exact Below.next (by assumption) hb9))))
      all_goals (
        have HF := Lib.hid hI9
        clear hI9
        go_wp2_with fail
        go_ret
        exact ⟨a9, k9, rfl, HF.out, Below.next Hbw7.out hb9w⟩)
end

end Go.Proofs.YtapjcccpokhhhaaGreat
