/- The walks of in, with, kids of the reference's exclusion. -/
import Derived.Test.YtapjcccpokhhhaaGreatK21
import Derived.Test.YtapjcccpokhhhaaGreatK22
import Derived.Test.YtapjcccpokhhhaaGreatK16
import Derived.Test.YtapjcccpokhhhaaGreatK19
namespace Go.Proofs.YtapjcccpokhhhaaGreat
set_option linter.unusedVariables false
set_option linter.unusedSimpArgs false
set_option linter.unusedSectionVars false

/- The walks of the references: Keep of layer 13, Of of layer 25. -/
section
open Go.RowKit

set_option maxRecDepth 100000 in
set_option maxHeartbeats 4000000 in
theorem rKeep_any (m : Nat) (a : Option Addr) (n c : Nat) (L : List (List Int)) (ao : Option Addr) (no co : Nat) (Q : List Int) (w : World) (hi : Mat w a n L) (hq : Ints w ao no Q) (hL : ∀ r ∈ L, r.length = m) (hQ : InN m Q) (hn : n ≤ 1000000) (hno : no ≤ 1000000) :
    Calls Tryz.prog 39 #[.slice a n c, .slice ao no co] w fun e w' => ∃ a1 c1 R, e = .returned (.slice a1 n c1) ∧ OMat w' w.heap.size a1 n c1 R (L.map (pickL Q)) ∧ Below w.heap.size w w' := by
  have Hlen := Lib.hid hi.len
  have hpla := hi.pl
  have HLl := Lib.hid hL
  have HQ := Lib.hid hQ
  obtain ⟨L2, hL2⟩ : ∃ L2, L.map (pickL Q) = L2 := ⟨_, rfl⟩
  have hl2 : L2.length = n := by rw [← hL2, List.length_map]; exact Hlen.out
  have Hl2 := Lib.hid hl2
  have HLk : Hid (∀ k, k < n → nthR L2 k = pickL Q (nthR L k)) := fun k hk => by rw [← hL2]; exact nthR_map _ L (by rw [Hlen.out]; exact hk)
  rw [hL2]
  clear hL2 hl2 hL hQ
  go_enter Tryz.func39, Tryz.ntmps39
  go_wp2_with fail
  go_loopw [5, 6] (fun sv iv wr => ∃ (k : Nat) (a1 : Option Addr) (c1 : Nat), k ≤ n ∧ iv = .int .i64 k ∧ sv = .slice a1 k c1 ∧ (∃ R, OMat wr w.heap.size a1 k c1 R (L2.take k)) ∧ Below w.heap.size w wr) (fun _ iv _ => n - (intOf iv).toNat)
  case atStart => exact ⟨0, none, 0, Nat.zero_le _, rfl, rfl, ⟨[], by simpa using OMat.empty w w.heap.size⟩, Below.refl _ _⟩
  case round =>
    obtain ⟨k, a1, c1, hk, rfl, rfl, ⟨R, hO⟩, hbr⟩ := hrel
    by_cases hlt : k < n
    · obtain ⟨ra, rn, rc, hcell, hrow⟩ := (hi.keep hbr).cell k hlt
      have hkL : k < L.length := by rw [Hlen.out]; exact hlt
      have hrl : rn = m := by rw [← hrow.len, nthR_getElem hkL]; exact HLl.out _ (List.getElem_mem hkL)
      have Htk : Hid (L2.take (k + 1) = L2.take k ++ [pickL Q (nthR L k)]) := by show _ = _; rw [List.take_succ_eq_append_getElem (by rw [Hl2.out]; exact hlt), ← HLk.out k hlt, nthR_getElem (by rw [Hl2.out]; exact hlt)]
      obtain ⟨l, hl⟩ : ∃ l, nthR L k = l := ⟨_, rfl⟩
      rw [hl] at Htk hrow
      have hpk := rPick_any ra rn rc l ao no co Q wr hrow (hq.keep hbr) (by rw [hrl]; exact HQ.out) hno
      have hsz := hbr.size
      clear hl hrl
      go_wp2_with fail
      refine hpk.mono ?_
      rintro e w3 ⟨a3, c3, rfl, hown3, hb3⟩
      have hO3 := hO.keep (Below.next hb3 (below1 w3 (.cells #[.slice a3 (pickL Q l).length c3] 22)))
      have hs3 : w.heap.size ≤ (w3.alloc (.cells #[.slice a3 (pickL Q l).length c3] 22)).heap.size := by have h1 := hb3.size; simp; omega
      clear hpk
      go_wp2_with (at_builtin; refine wpList_push rfl _ _ 25 22 rfl (.slice none 0 0) 24 Tryz.underlying25 infoInts rfl w.heap.size a1 k c1 _ rfl hO3.own ⟨w3.heap.size, 0, none⟩ 1 (.slice a3 (pickL Q l).length c3) rfl (cell_new w3 _ _) rfl (by omega) (by unfold maxLen; omega) hs3 ?_; intro a5 c5 w5 hown5 hgr5 hap5)
      go_roundw
      case rel =>
        have hb4 : Below wr.heap.size wr (w3.alloc (.cells #[.slice a3 (pickL Q l).length c3] 22)) := Below.next hb3 (below1 _ _)
        have hown4 : (w3.alloc (.cells #[.slice a3 (pickL Q l).length c3] 22)).ownsRow w.heap.size 3 1 (.slice a3 (pickL Q l).length c3) (pickL Q l).length ((pickL Q l).map (Value.int .i64)) :=
          own_mono (own_keep hown3 (below1 _ _)) hsz
        have hra : a3 ≠ none → ¬ OIn a1 R (ablk a3) := fun h0 hI => by
          have h1 := (own_ne hown3 h0).1
          have h2 := (hO.lt _ hI).2
          omega
        have hP := OMat.push hO3 hown4 hra hown5 hgr5 hap5
        have hb5 : Below w.heap.size w w5 := Below.app (Below.next hbr hb4) hO3.own hgr5 (Nat.le_refl _) (Nat.le_trans hsz hb4.size)
        exact ⟨k + 1, a5, c5, by omega, by go_num, rfl, ⟨_, by rw [Htk.out]; exact hP⟩, hb5⟩
      case measure => simp [intOf] <;> omega
    · obtain rfl : k = n := by omega
      rw [List.take_of_length_le (by rw [Hl2.out]; exact Nat.le_refl _)] at hO
      have HO := Lib.hid hO
      clear hO
      go_wp2_with fail
      go_ret
      exact ⟨a1, c1, R, rfl, HO.out, hbr⟩

set_option maxRecDepth 100000 in
set_option maxHeartbeats 4000000 in
theorem rOf25_any (P M : Int) (am : Option Addr) (mn cm : Nat) (mod : List Int) (m : Nat) (a : Option Addr) (n c : Nat) (L : List (List Int)) (ao : Option Addr) (no co : Nat) (Q : List Int) (w : World) (hmod : Ints w am mn mod) (hi : Mat w a n L) (hq : Ints w ao no Q)
    (hE : codeE P M mod m L = 0) (hQ : InN m Q) (hno : no ≤ 1000000) :
    Calls Tryz.prog 122 #[.agg #[.int .i64 P, .int .i64 M, .slice am mn cm], .slice a n c, .slice ao no co] w fun e w' => e = .returned (.int .i64 (grS (tblOf P M.toNat mod).ops L Q).length) ∧ Below w.heap.size w w' := by
  have hql := hq.len
  obtain ⟨N', em, hm1, hm64, F, hR⟩ := codeE_fld hE
  obtain rfl : m = N' := by omega
  have hn : n ≤ 256 := by rw [← hi.len]; exact (codeE_rws hE).choose_spec.2.2.2.1
  have hB := (codeE_zero hE).1
  have hinv := hinv_all (P := P) (M := M) (mod := mod) (by rw [fieldRB_eq]; exact hB)
  have hgr := elim_gr F hR hQ
  have hpr := pick_rws hR hQ
  rw [hql] at hgr hpr
  obtain ⟨k, rfl, hel, _, hF, hA, _⟩ := eq_ops hB
  obtain ⟨k', e2, hrf, hmods⟩ := fieldRB_rf (by rw [fieldRB_eq]; exact hB)
  obtain rfl : k = k' := by omega
  rw [Int.toNat_natCast] at hgr hpr hinv hR ⊢
  have hag := (elimTo_agr hA hF.cl (by rw [hel]; exact hpr) no (Nat.le_refl _)).1
  rw [hag] at hgr
  rw [← hel] at hpr
  have HKp : Hid (∀ V, Below w.heap.size w V → Calls Tryz.prog 39 #[.slice a n c, .slice ao no co] V fun e w' => Below V.heap.size V w' ∧ ∃ a1 c1, e = .returned (.slice a1 n c1) ∧ Mat w' a1 n (L.map (pickL Q))) := fun V hV => by
    refine (rKeep_any m a n c L ao no co Q V (hi.keep hV) (hq.keep hV) (fun r hr => (hR r hr).1) hQ (by omega) hno).mono ?_
    rintro e w' ⟨a1, c1, R, rfl, hO, hb⟩
    exact ⟨hb, a1, c1, rfl, hO.mat⟩
  have HCn : Hid (∀ V a1 c1, Below w.heap.size w V → Mat V a1 n (L.map (pickL Q)) → ∀ V2, Below V.heap.size V V2 → Calls Tryz.prog 134 #[.agg #[.int .i64 P, .int .i64 k, .slice am mn cm], .slice a1 n c1, .int .i64 no] V2 fun e w' =>
      Below V2.heap.size V2 w' ∧ ∃ v ap cp, e = .returned (.tuple #[v, .slice ap (grS (tblOf P k mod).ops L Q).length cp])) := fun V a1 c1 hV hM V2 hV2 => by
    refine (rCanon_any P k am mn cm mod a1 n c1 no (L.map (pickL Q)) V2 ⟨hrf, hmods V2 am mn (hmod.keep (Below.next hV hV2))⟩ (hM.keep hV2) hpr hno (by omega) hinv).mono ?_
    rintro e w' ⟨a4, c4, ap, cp, rfl, _, _, hb⟩
    exact ⟨hb, _, ap, cp, by rw [← hgr]⟩
  obtain ⟨r, hr⟩ : ∃ r, (grS (tblOf P k mod).ops L Q).length = r := ⟨_, rfl⟩
  rw [hr] at HCn ⊢
  clear hE em F hR hB hinv hgr hpr hel hF hA e2 hrf hmods hag hr hQ hql hmod hi hq
  go_enter Tryz.func122, Tryz.ntmps122
  go_upto_region 1 with fail
  obtain ⟨W, hW⟩ : ∃ W : World, W = w.alloc (.cells #[.int .i64 P, .int .i64 k, .slice am mn cm] 24) := ⟨_, rfl⟩
  rw [← hW]
  have hbW : Below w.heap.size w W := by rw [hW]; exact below1 _ _
  have x0 : Box W w.heap.size [.int .i64 P, .int .i64 k, .slice am mn cm] := by rw [hW]; exact Box.new _ _ _ rfl
  have hS : ∀ V, Below W.heap.size W V → V.cell? ⟨w.heap.size, 0, none⟩ = some (.int .i64 P) ∧ V.cell? ⟨w.heap.size, 1, none⟩ = some (.int .i64 k) ∧ V.cell? ⟨w.heap.size, 2, none⟩ = some (.slice am mn cm) ∧ Below W.heap.size W V := fun V hV => by
    have x1 := x0.keep hV
    exact ⟨x1.cell 0 rfl, x1.cell 1 rfl, x1.cell 2 rfl, hV⟩
  have HS := Lib.hid hS
  have HbW := Lib.hid hbW
  clear hW x0 hS hbW
  go_region_held3 (fun V => V.cell? ⟨w.heap.size, 0, none⟩ = some (.int .i64 P) ∧ V.cell? ⟨w.heap.size, 1, none⟩ = some (.int .i64 k) ∧ V.cell? ⟨w.heap.size, 2, none⟩ = some (.slice am mn cm) ∧ Below W.heap.size W V)
    ((refine HS.out _ ?_; first | exact (Below.refl _ _).drew | (go_split_ands; exact Below.next (by assumption) (by assumption))))
    (first
      | (go_at_call 39; ((with_reducible refine (HKp.out _ (Below.next HbW.out (by go_split_ands; assumption))).mono ?_); rintro e w6 ⟨hb6, a6, c6, rfl, hM6⟩; have hb7 : Below W.heap.size W w6 := (by go_split_ands; exact Below.next (by assumption) hb6); have Hr2 := Lib.hid (HCn.out w6 a6 c6 (Below.next HbW.out hb7) hM6); clear hM6))
      | (go_at_call 134; ((with_reducible refine (Hr2.out _ (by first | exact Below.refl _ _ | exact hb4)).mono ?_); rintro e w8 ⟨hb8, v8, ap8, cp8, rfl⟩)))
  all_goals (
    go_wp2_with fail
    go_ret
    exact ⟨rfl, Below.next HbW.out (by go_split_ands; assumption)⟩)
end

/- The walk of codewrightref25.Sorted. -/
section
open Go.RowKit

set_option maxRecDepth 100000 in
set_option maxHeartbeats 4000000 in
theorem sorted25_any (a : Option Addr) (n c : Nat) (Q : List Int) (w : World) (hi : Ints w a n Q) (hn : n ≤ 1000000) :
    Calls Tryz.prog 100 #[.slice a n c] w fun e w' => ∃ a1 c1, e = .returned (.slice a1 n c1) ∧ w'.ownsRow w.heap.size 3 1 (.slice a1 n c1) n ((sortL Q).map (Value.int .i64)) ∧ Below w.heap.size w w' := by
  have Hlen := Lib.hid hi.len
  have hO := own_emp w 3
  have hal := Lib.hid ((Below.refl w.heap.size w).alloc (Nat.le_refl _) (.cells #[] 3))
  go_enter Tryz.func100, Tryz.ntmps100
  go_upto_region 1 with fail
  iterate 7 go_step
  have hbal := hal.out
  generalize w.alloc (.cells #[] 3) = W0 at *
  have hiW := hi.keep hbal
  refine wpList_appAll (by rfl) (.tmp 6) (.tmp 7) 22 3 (by rfl) (.int .i64 0) 8 Tryz.underlying22 infoInt (by rfl) w.heap.size _ 0 0 [] (by rfl) hO a n c (Q.map (Value.int .i64)) (by rfl) hiW.pl (by simp [Hlen.out]) (Ints.news hiW) (ints_oneCell _ _) (by omega) (by unfold maxLen; omega) (Below.size hbal) ?_
  intro a3 c3 w3 hown3 hgr3 hap3
  have hb3 : Below w.heap.size w w3 := Below.app (B := w.heap.size) (e := 3) (xs := []) hbal hO hgr3 (Nat.le_refl _) (Below.size hbal)
  rw [Nat.zero_add] at hown3 ⊢
  rw [List.nil_append] at hown3
  clear hgr3 hap3 hiW hbal hO hal hi
  have H3 := Lib.hid hown3
  clear hown3
  go_wp2_with fail
  go_loopw [4] (fun iv wr => ∃ (i : Nat) (X : List Int), 1 ≤ i ∧ i ≤ n + 1 ∧ iv = .int .i64 i ∧ Hid (X.Perm Q ∧ SrtK X i) ∧ wr.ownsRow w.heap.size 3 1 (.slice a3 n c3) n (X.map (Value.int .i64)) ∧ Below w.heap.size w wr) (fun iv _ => n + 1 - (intOf iv).toNat)
  case atStart => exact ⟨1, Q, Nat.le_refl _, by omega, rfl, ⟨List.Perm.refl _, fun p q h1 h2 => by omega⟩, H3.out, hb3⟩
  case round =>
    clear H3 hb3
    obtain ⟨i, X, hi1, hin, rfl, hX, hown, hbr⟩ := hrel
    have hi1' : (1 : Int) ≤ i := by omega
    by_cases hlt : i < n
    · have hlt' : (i : Int) < n := by omega
      go_wp2_with fail
      go_loopw [5] (fun jv wr2 => ∃ (j : Nat) (Y : List Int), j ≤ i ∧ jv = .int .i64 j ∧ Hid (Y.Perm Q ∧ SrtJ Y i j) ∧ wr2.ownsRow w.heap.size 3 1 (.slice a3 n c3) n (Y.map (Value.int .i64)) ∧ Below w.heap.size w wr2) (fun jv _ => (intOf jv).toNat)
      case atStart => exact ⟨i, X, Nat.le_refl _, rfl, ⟨hX.out.1, hX.out.2.start⟩, hown, hbr⟩
      case round =>
        clear hown hbr hX
        obtain ⟨j, Y, hji, rfl, hY, hown, hbr⟩ := hrel
        obtain ⟨hints, hmine⟩ := Ints.own hown
        have hpl := hints.pl
        have HYl := Lib.hid hints.len
        by_cases hj0 : j = 0
        · have d3 : decide (0 < j) = false := by simp; omega
          have Hd : Hid (Y.Perm Q ∧ SrtK Y (i + 1)) := ⟨hY.out.1, hY.out.2.done hji (.inl hj0)⟩
          clear hj0 hints hmine
          have hown2 := fun m => own_keep hown (Drawn.below (Drawn.drewN (Drawn.refl wr) m))
          have hbr2 := fun m => Below.next hbr (Drawn.below (Drawn.drewN (Drawn.refl wr) m))
          have Hn := Lib.hid (And.intro hown2 hbr2)
          clear hown2 hbr2
          go_wp2_with fail
          go_quiet (fail)
          go_wp2
          go_roundw
          case rel => exact ⟨i + 1, Y, by omega, by omega, by go_num, Hd, Hn.out.1 _, Hn.out.2 _⟩
          case measure => simp [intOf] <;> omega
        · have d3 : decide (0 < j) = true := by simp; omega
          have d4 : (0 : Int) ≤ (j : Int) - 1 := by omega
          have d5 : (1 : Int) ≤ (j : Int) := by omega
          have d6 : (j : Int) - 1 < n := by omega
          have d7 : (j : Int) < n := by omega
          have e1 : ((j : Int) - 1).toNat = j - 1 := by omega
          have kw : IntKind.i64.wrap ((j : Int) - 1) = (j : Int) - 1 := IntWalk.i64_in _ (by omega)
          have cj := hints.cell j (by omega)
          have cp := hints.cell (j - 1) (by omega)
          have hown2 := fun m => own_keep hown (Drawn.below (Drawn.drewN (Drawn.refl wr) m))
          have hbr2 := fun m => Below.next hbr (Drawn.below (Drawn.drewN (Drawn.refl wr) m))
          have Hn := Lib.hid (And.intro hown2 hbr2)
          clear hown2 hbr2
          by_cases h2 : nth Y j < nth Y (j - 1)
          · have h2' : decide (nth Y j < nth Y (j - 1)) = true := by simpa using h2
            have hjY : j < Y.length := by rw [HYl.out]; omega
            have Hd : Hid ((swp Y j).Perm Q ∧ SrtJ (swp Y j) i (j - 1)) := ⟨(swp_perm (by omega) hjY).trans hY.out.1, hY.out.2.step (by omega) hji hjY h2⟩
            clear hj0 hints hmine h2 hjY
            go_wp2_with fail
            go_quiet (fail)
            have hown2 := Hn.out.1 nq
            have hbr2 := Hn.out.2 nq
            clear Hn hown hbr cj cp h2'
            generalize wr.drewN nq = W2 at *
            obtain ⟨hints, hmine⟩ := Ints.own hown2
            have cj := hints.cell j (by omega)
            have cp := hints.cell (j - 1) (by omega)
            have fj := (hmine (by omega)).2 j (by omega)
            have fp := (hmine (by omega)).2 (j - 1) (by omega)
            have hB := (hmine (by omega)).1
            have k3 : (W2.setCell ⟨ablk a3, aoff a3 + j, none⟩ (.int .i64 (nth Y (j - 1)))).cell? ⟨ablk a3, aoff a3 + (j - 1), none⟩ = some (.int .i64 (nth Y (j - 1))) := by
              rw [World.cell?_setCell_other _ _ _ _ (by simp <;> omega)]; exact cp
            have hown3 := own_set (own_set hown2 j (by omega) (.int .i64 (nth Y (j - 1)))) (j - 1) (by omega) (.int .i64 (nth Y j))
            rw [← List.map_set, ← List.map_set] at hown3
            have hbr3 := (hbr2.setCell (p := ⟨ablk a3, aoff a3 + j, none⟩) hB (.int .i64 (nth Y (j - 1)))).setCell (p := ⟨ablk a3, aoff a3 + (j - 1), none⟩) hB (.int .i64 (nth Y j))
            have Hn := Lib.hid (And.intro hown3 hbr3)
            clear hown3 hbr3 hints hmine hown2 hbr2
            go_wp2_with fail
            go_region
            go_wp2_with fail
            go_roundw
            case rel => exact ⟨j - 1, swp Y j, by omega, by go_num, Hd, own_keep Hn.out.1 (Below.refl _ _).drew, Below.next Hn.out.2 (Below.refl _ _).drew⟩
            case measure => simp [intOf] <;> omega
          · have h2' : decide (nth Y j < nth Y (j - 1)) = false := by simpa using h2
            have Hd : Hid (Y.Perm Q ∧ SrtK Y (i + 1)) := ⟨hY.out.1, hY.out.2.done hji (.inr (by omega))⟩
            clear hj0 hints hmine h2
            go_wp2_with fail
            go_quiet (fail)
            go_wp2
            go_roundw
            case rel => exact ⟨i + 1, Y, by omega, by omega, by go_num, Hd, Hn.out.1 _, Hn.out.2 _⟩
            case measure => simp [intOf] <;> omega
    · have hXl := (Ints.own hown).1.len
      have He : Hid (X = sortL Q) := hX.out.2.sort (by omega) hX.out.1
      have hF := Lib.hid (And.intro hown hbr)
      clear hXl hown hbr
      go_wp2_with fail
      go_ret
      exact ⟨a3, c3, rfl, by rw [← He.out]; exact hF.out.1, hF.out.2⟩
end

/- The walk of infoset.Greedy. -/
section
open Go.RowKit
end

/- The walk of codewrightref10.Rising. -/
section
open Go.RowKit

set_option maxRecDepth 100000 in
set_option maxHeartbeats 3200000 in
theorem rising_any (N : Int) (a : Option Addr) (n c : Nat) (l : List Int) (w : World) (hi : Ints w a n l) :
    Calls Tryz.prog 121 #[.slice a n c, .int .i64 N] w (QuietBool w (okSet N l)) := by
  have Hlen := Lib.hid hi.len
  have hpl := hi.pl
  have hmax := hi.max
  unfold maxLen at hmax
  go_enter Tryz.func121, Tryz.ntmps121
  go_wp2_with fail
  go_loopw [5] (fun iv wr => ∃ k : Nat, k ≤ n ∧ iv = .int .i64 k ∧ Hid (okTo N l k = true) ∧ Drawn w wr) (fun iv _ => n - (intOf iv).toNat)
  case atStart => exact ⟨0, Nat.zero_le _, rfl, by show _ = _; simp [okTo], Drawn.refl _⟩
  case round =>
    obtain ⟨j, hj, rfl, hok, hd⟩ := hrel
    have hir := hi.drawn hd
    by_cases hlt2 : j < n
    · have cj := hir.cell j hlt2
      have hjj : (j : Int) < n := by omega
      have hbad : okAt N l j = false → okSet N l = false := fun hb => okTo_no (by rw [Hlen.out]; exact hlt2) hb
      have Hbad := Lib.hid hbad
      clear hbad
      by_cases h0 : 0 ≤ nth l j
      · have d1 : decide (nth l j < 0) = false := by simp; omega
        by_cases h1 : nth l j < N
        · have d2 : decide (N ≤ nth l j) = false := by simp; omega
          by_cases hj0 : j = 0
          · have Hgood : Hid (okAt N l j = true) := by show _ = _; unfold okAt; rw [decide_eq_true h0, decide_eq_true h1]; simp [hj0]
            have d3 : decide (0 < j) = false := by simp; omega
            clear hj0
            go_wp2_with fail
            go_quiet (fail)
            go_wp2
            go_roundw
            case rel => exact ⟨j + 1, by omega, by go_num, okTo_succ hok.out Hgood.out, hd.drewN _⟩
            case measure => simp [intOf] <;> omega
          · have cp := hir.cell (j - 1) (by omega)
            have e1 : ((j : Int) - 1).toNat = j - 1 := by omega
            have d3 : decide (0 < j) = true := by simp; omega
            have d4 : (0 : Int) ≤ (j : Int) - 1 := by omega
            have d5 : (1 : Int) ≤ (j : Int) := by omega
            have d6 : (j : Int) - 1 < n := by omega
            have kw : IntKind.i64.wrap ((j : Int) - 1) = (j : Int) - 1 := IntWalk.i64_in _ (by omega)
            by_cases h2 : nth l (j - 1) < nth l j
            · have Hgood : Hid (okAt N l j = true) := by show _ = _; unfold okAt; simp [h0, h1, h2]
              have h2' : decide (nth l j ≤ nth l (j - 1)) = false := by simp; omega
              clear hj0
              go_wp2_with fail
              go_quiet (fail)
              go_wp2
              go_roundw
              case rel => exact ⟨j + 1, by omega, by go_num, okTo_succ hok.out Hgood.out, hd.drewN _⟩
              case measure => simp [intOf] <;> omega
            · have Hb : Hid (okSet N l = false) := Hbad.out (by unfold okAt; simp [h2, hj0])
              have h2' : decide (nth l j ≤ nth l (j - 1)) = true := by simp; omega
              clear hj0
              go_wp2_with fail
              go_quiet (fail)
              go_wp2
              go_ret
              exact ⟨by rw [Hb.out]; rfl, hd.drewN _⟩
        · have Hb : Hid (okSet N l = false) := Hbad.out (by unfold okAt; simp [h1])
          have d2 : decide (N ≤ nth l j) = true := by simp; omega
          go_wp2_with fail
          go_quiet (fail)
          go_wp2
          go_ret
          exact ⟨by rw [Hb.out]; rfl, hd.drewN _⟩
      · have Hb : Hid (okSet N l = false) := Hbad.out (by unfold okAt; simp [h0])
        have d1 : decide (nth l j < 0) = true := by simp; omega
        go_wp2_with fail
        go_quiet (fail)
        go_wp2
        go_ret
        exact ⟨by rw [Hb.out]; rfl, hd.drewN _⟩
    · obtain rfl : j = n := by omega
      have Hg : Hid (okSet N l = true) := by show _ = _; rw [okSet, Hlen.out]; exact hok.out
      go_wp2_with fail
      go_ret
      exact ⟨by rw [Hg.out]; rfl, hd⟩
end

/- The walk of codewrightref25.sets. -/
section
open Go.RowKit

theorem rCheck_any (P M : Int) (am : Option Addr) (mn cm : Nat) (mod : List Int) (N : Int) (a : Option Addr) (n c : Nat) (L : List (List Int)) (w : World) (hmod : Ints w am mn mod) (hi : Mat w a n L) :
    Calls Tryz.prog 41 #[.agg #[.int .i64 P, .int .i64 M, .slice am mn cm, .int .i64 N, .slice a n c]] w fun e w' => e = .returned (.int .i64 (codeE P M mod N L)) ∧ Below w.heap.size w w' := by
  rw [← rcodeE_eq]
  exact rCodeCheck_any P M am mn cm mod N a n c L w hmod hi hinv_all
end

/- The walks of codewrightref25: info, Rank, Is. -/
section
open Go.RowKit

theorem set_in {m : Nat} {Q : List Int} (h : okSet m Q = true) : InN m Q := fun j hj => ⟨(okSet_at h hj).1, (okSet_at h hj).2.1⟩
end

/- The walk of codewrightref25.Pick. -/
section
open Go.RowKit

theorem rgTo_len (rk : List Int → Nat) (Q : List Int) (most : Nat) : ∀ k, (rgTo rk Q most k).length ≤ k
  | 0 => Nat.le_refl _
  | k + 1 => by
    have ih := rgTo_len rk Q most k
    rw [rgTo]
    split
    · rw [List.length_append]; simp; omega
    · omega
theorem rgTo_mem (rk : List Int → Nat) (Q : List Int) (most : Nat) : ∀ k, k ≤ Q.length → ∀ x ∈ rgTo rk Q most k, x ∈ Q
  | 0, _, x, hx => by simp [rgTo] at hx
  | k + 1, hk, x, hx => by
    rw [rgTo] at hx
    split at hx
    · rcases List.mem_append.1 hx with h | h
      · exact rgTo_mem rk Q most k (by omega) x h
      · rw [List.mem_singleton.1 h]; exact nth_mem (by omega)
    · exact rgTo_mem rk Q most k (by omega) x hx
theorem inN_mem {m : Nat} {Q : List Int} (h : InN m Q) {x : Int} (hx : x ∈ Q) : 0 ≤ x ∧ x < m := by
  obtain ⟨j, hj, rfl⟩ := List.mem_iff_getElem.1 hx
  rw [← nth_getElem hj]; exact h j hj
theorem inN_of {m : Nat} {Q : List Int} (h : ∀ x ∈ Q, 0 ≤ x ∧ x < (m : Int)) : InN m Q := fun j hj => h _ (nth_mem hj)

set_option maxRecDepth 100000 in
set_option maxHeartbeats 4000000 in
theorem rPick25_any (P M : Int) (am : Option Addr) (mn cm : Nat) (mod : List Int) (m : Nat) (a : Option Addr) (n c : Nat) (L : List (List Int)) (ao : Option Addr) (no co : Nat) (Q : List Int) (most : Nat) (w : World) (hmod : Ints w am mn mod) (hi : Mat w a n L) (hq : Ints w ao no Q)
    (hE : codeE P M mod m L = 0) (hQ : InN m Q) (hno : no ≤ 1000) :
    Calls Tryz.prog 102 #[.agg #[.int .i64 P, .int .i64 M, .slice am mn cm], .slice a n c, .slice ao no co, .int .i64 most] w fun e w' =>
      ∃ a1 c1, e = .returned (.slice a1 (rgTo (rkQ (tblOf P M.toNat mod).ops L) Q most no).length c1) ∧ w'.ownsRow w.heap.size 3 1 (.slice a1 (rgTo (rkQ (tblOf P M.toNat mod).ops L) Q most no).length c1) (rgTo (rkQ (tblOf P M.toNat mod).ops L) Q most no).length ((sortL (rgTo (rkQ (tblOf P M.toNat mod).ops L) Q most no)).map (Value.int .i64)) ∧ Below w.heap.size w w' := by
  have Hql := Lib.hid hq.len
  have hplo := hq.pl
  obtain ⟨rk, hrk⟩ : ∃ rk, rkQ (tblOf P M.toNat mod).ops L = rk := ⟨_, rfl⟩
  have HO : Hid (∀ V a5 c5 l, Below w.heap.size w V → V.ownsRow w.heap.size 3 1 (.slice a5 l.length c5) l.length (l.map (Value.int .i64)) → l.length ≤ 2000 → InN m l →
      Calls Tryz.prog 122 #[.agg #[.int .i64 P, .int .i64 M, .slice am mn cm], .slice a n c, .slice a5 l.length c5] V fun e w' => e = .returned (.int .i64 (rk l)) ∧ Below V.heap.size V w') := fun V a5 c5 l hV ho hl hil => by
    have h := rOf25_any P M am mn cm mod m a n c L a5 l.length c5 l V (hmod.keep hV) (hi.keep hV) (Ints.own ho).1 hE hil (by omega)
    rw [← hrk]; exact h
  rw [hrk]
  obtain ⟨G, hG⟩ : ∃ G, rgTo rk Q most = G := ⟨_, rfl⟩
  have Hgm : Hid (∀ k, k ≤ no → InN m (G k) ∧ (G k).length ≤ k) := fun k hk => by
    rw [← hG]
    exact ⟨inN_of fun x hx => inN_mem hQ (rgTo_mem rk Q most k (by rw [Hql.out]; exact hk) x hx), rgTo_len rk Q most k⟩
  have HG1 : Hid (∀ k, (G k).length < most → rk (G k ++ [nth Q k]) = (G k).length + 1 → G (k + 1) = G k ++ [nth Q k]) := fun k h1 h2 => by rw [← hG] at h1 h2 ⊢; rw [rgTo, if_pos ⟨h1, h2⟩]
  have HG2 : Hid (∀ k, rk (G k ++ [nth Q k]) ≠ (G k).length + 1 → G (k + 1) = G k) := fun k h2 => by rw [← hG] at h2 ⊢; rw [rgTo, if_neg fun h => h2 h.2]
  have HG3 : Hid (∀ k, k ≤ no → most ≤ (G k).length → G no = G k) := fun k h1 h2 => by rw [← hG] at h2 ⊢; exact rgTo_stop h1 h2
  have HG0 : Hid (G 0 = []) := by rw [← hG]; rfl
  have HQ := Lib.hid hQ
  rw [hG]
  clear hG hrk hmod hi hE hQ
  go_enter Tryz.func102, Tryz.ntmps102
  go_wp2_with fail
  obtain ⟨W, hW⟩ : ∃ W : World, W = w.alloc (.cells #[.int .i64 P, .int .i64 M, .slice am mn cm] 24) := ⟨_, rfl⟩
  rw [← hW]
  have hbW : Below w.heap.size w W := by rw [hW]; exact below1 _ _
  have x0 : Box W w.heap.size [.int .i64 P, .int .i64 M, .slice am mn cm] := by rw [hW]; exact Box.new _ _ _ rfl
  have hqW := hq.keep hbW
  have HS : Hid (∀ V, Below W.heap.size W V → V.cell? ⟨w.heap.size, 0, none⟩ = some (.int .i64 P) ∧ V.cell? ⟨w.heap.size, 1, none⟩ = some (.int .i64 M) ∧ V.cell? ⟨w.heap.size, 2, none⟩ = some (.slice am mn cm)) := fun V hV => by
    have x1 := x0.keep hV
    exact ⟨x1.cell 0 rfl, x1.cell 1 rfl, x1.cell 2 rfl⟩
  have HbW := Lib.hid hbW
  clear hW x0 hbW hq
  go_loopw [9, 10] (fun ov iv wr => ∃ (k g : Nat) (a1 : Option Addr) (c1 : Nat), k ≤ no ∧ Hid ((G k).length = g) ∧ iv = .int .i64 k ∧ ov = .slice a1 g c1 ∧ wr.ownsRow W.heap.size 3 1 (.slice a1 g c1) g ((G k).map (Value.int .i64)) ∧ Below W.heap.size W wr) (fun _ iv _ => no - (intOf iv).toNat)
  case atStart => exact ⟨0, 0, none, 0, Nat.zero_le _, by show _ = _; rw [HG0.out]; rfl, rfl, rfl, by rw [HG0.out]; exact ⟨rfl, .inl ⟨rfl, rfl⟩⟩, Below.refl _ _⟩
  case round =>
    obtain ⟨k, g, a1, c1, hk, Hgl, rfl, rfl, hown, hbr⟩ := hrel
    by_cases hcond : k < no ∧ g < most
    · obtain ⟨hlt, hgm⟩ := hcond
      have hgk : g ≤ 1000 := by have h := (Hgm.out k hk).2; rw [Hgl.out] at h; omega
      have hcx := (hqW.keep hbr).cell k hlt
      obtain ⟨z, hz⟩ : ∃ z, nth Q k = z := ⟨_, rfl⟩
      have hzm : 0 ≤ z ∧ z < m := by rw [← hz]; exact HQ.out k (by rw [Hql.out]; exact hlt)
      have hg1 := HG1.out k
      have hg2 := HG2.out k
      rw [hz] at hcx hg1 hg2
      rw [Hgl.out] at hg1 hg2
      have hin := (Hgm.out k hk).1
      have hinz : InN m (G k ++ [z]) := inN_of fun x hx => by
        rcases List.mem_append.1 hx with h | h
        · exact inN_mem hin h
        · rw [List.mem_singleton.1 h]; exact hzm
      have hpl1 := (Ints.own hown).1.pl
      have hbwr := Below.next HbW.out hbr
      have HOf : Hid (∀ V a5 c5, Below wr.heap.size wr V → V.ownsRow wr.heap.size 3 1 (.slice a5 (g + 1) c5) (g + 1) ((G k).map (Value.int .i64) ++ [.int .i64 z]) →
          Calls Tryz.prog 122 #[.agg #[.int .i64 P, .int .i64 M, .slice am mn cm], .slice a n c, .slice a5 (g + 1) c5] V fun e w' => e = .returned (.int .i64 (rk (G k ++ [z]))) ∧ Below V.heap.size V w') := fun V a5 c5 hV ho => by
        have hl : (G k ++ [z]).length = g + 1 := by rw [List.length_append, Hgl.out]; rfl
        have h1 := HO.out V a5 c5 (G k ++ [z]) (Below.next hbwr hV) (by rw [hl]; exact own_mono (by simpa using ho) (by have := hbwr.size; omega)) (by omega) hinz
        rw [hl] at h1
        exact h1
      have HS2 : Hid (∀ V, Below wr.heap.size wr V → V.cell? ⟨w.heap.size, 0, none⟩ = some (.int .i64 P) ∧ V.cell? ⟨w.heap.size, 1, none⟩ = some (.int .i64 M) ∧ V.cell? ⟨w.heap.size, 2, none⟩ = some (.slice am mn cm)) := fun V hV => HS.out V (Below.next hbr hV)
      have HS4 : Hid (∀ V, Below wr.heap.size wr V → V.cell? ⟨ablk ao, aoff ao + k, none⟩ = some (.int .i64 z) ∧ Ints V a1 g (G k) ∧ Below wr.heap.size wr V) := fun V hV => by
        refine ⟨?_, (Ints.own (own_keep hown hV)).1, hV⟩
        have h := ((hqW.keep hbr).keep hV).cell k hlt
        rwa [hz] at h
      have Hbr := Lib.hid hbr
      have Hown := Lib.hid hown
      have hGl := Hgl.out
      have Hg1 := Lib.hid hg1
      have Hg2 := Lib.hid hg2
      obtain ⟨Gk, hGk⟩ : ∃ Gk, G k = Gk := ⟨_, rfl⟩
      rw [hGk] at HOf HS4 Hown hGl Hg1 Hg2 hinz hin Hgl
      obtain ⟨r, hr⟩ : ∃ r, rk (Gk ++ [z]) = r := ⟨_, rfl⟩
      rw [hr] at HOf Hg1 Hg2
      have HGk := Lib.hid hGk
      clear hr hz hcx hown hbr hg1 hg2 hin hinz hGk hbwr hzm
      go_wp2_with fail
      go_cut [11] (fun v wx => ∃ a5 c5, v = .slice a5 (g + 1) c5 ∧ wx.ownsRow wr.heap.size 3 1 (.slice a5 (g + 1) c5) (g + 1) (Gk.map (Value.int .i64) ++ [.int .i64 z]) ∧ Below wr.heap.size wr wx)
      case first =>
        have hO := own_emp wr 3
        have hO2 : ((wr.alloc (.cells #[.int .i64 z] 3)).alloc (.cells #[] 3)).ownsRow wr.heap.size 3 1 (.slice (some ⟨wr.heap.size + 1, 0, none⟩) 0 0) 0 [] := by
          have h := own_mono (own_emp (wr.alloc (.cells #[.int .i64 z] 3)) 3) (B' := wr.heap.size) (by simp)
          rwa [World.size_alloc] at h
        go_region_held3 (fun V => V.cell? ⟨ablk ao, aoff ao + k, none⟩ = some (.int .i64 z) ∧ Ints V a1 g Gk ∧ Below wr.heap.size wr V)
          ((refine HS4.out _ ?_; first | exact (Below.refl _ _).drew | exact hb5 | exact Below.next hb5 hb6 | exact hb4 | exact Below.allocN hb4 _ | exact ((Below.refl _ _).alloc (Nat.le_refl _) _).drew | (go_split_ands; exact Below.allocN (by assumption) _)))
          (first
            | (obtain ⟨_, hI9, hB9⟩ := (by assumption : _ ∧ Ints _ a1 g Gk ∧ Below wr.heap.size wr _); refine step_appAll (by rfl) (.tmp 24) (.tmp 25) 22 3 (by rfl) (.int .i64 0) 8 Tryz.underlying22 infoInt (by rfl) wr.heap.size _ 0 0 [] (by rfl) (by first | exact hO | exact hO.alloc _ | exact hO2) a1 g c1 (Gk.map (Value.int .i64)) (by rfl) hpl1 (by simp [hGl]) (Ints.news hI9) (ints_oneCell _ _) (by omega) (by unfold maxLen; omega) (Below.size hB9) ?_; intro a4 c4 w4 hown4 hgr4 hap4; have hb4 : Below wr.heap.size wr w4 := Below.app (B := wr.heap.size) (e := 3) (xs := []) hB9 (by first | exact hO | exact hO.alloc _ | exact hO2) hgr4 (Nat.le_refl _) (Below.size hB9); rw [Nat.zero_add] at hown4 ⊢; rw [List.nil_append] at hown4; (first | (have hc4 := cell_grownApt (ad := ⟨wr.heap.size + 1, 0, none⟩) (v := .int .i64 z) hgr4 (cell_new' _ _ _ (by simp)) (.inr (by simp))) | (have hc4 := cell_grownApt (ad := ⟨wr.heap.size, 0, none⟩) (v := .int .i64 z) hgr4 (cell_box (cell_new' _ _ _ rfl) _) (.inr (by simp))) | skip))
            | (refine step_appAll (by rfl) (.tmp 26) (.tmp 31) 22 3 (by rfl) (.int .i64 0) 8 Tryz.underlying22 infoInt (by rfl) wr.heap.size a4 g c4 (Gk.map (Value.int .i64)) (by rfl) (by first | exact hown4 | exact hown4.alloc _) _ 1 1 [.int .i64 z] (by rfl) (fun _ => rfl) rfl (by intro j hj; obtain rfl : j = 0 := (by omega); first | exact cell_new' _ _ _ rfl | exact hc4) (by intro y hy; simp at hy; subst hy; rfl) (by omega) (by unfold maxLen; omega) (by first | exact hb4.size | exact (Below.allocN hb4 _).size) ?_; intro a5 c5 w5 hown5 hgr5 hap5; have hb5 : Below wr.heap.size wr w5 := (by first | exact Below.app (Below.allocN hb4 _) (hown4.alloc _) hgr5 (Nat.le_refl _) (Below.allocN hb4 _).size | exact Below.app hb4 hown4 hgr5 (Nat.le_refl _) hb4.size)))
        all_goals (go_wp2_with fail; go_meet; exact ⟨a5, c5, rfl, hown5, hb5⟩)
      obtain ⟨a5, c5, rfl, hown5, hb5⟩ := hcut
      generalize wc = V at *
      obtain ⟨q0, q1, q2⟩ := HS2.out V hb5
      have HOf2 := Lib.hid (HOf.out V a5 c5 hb5 hown5)
      have H5 := Lib.hid (And.intro hown5 hb5)
      clear hown5 hb5 HOf
      go_wp2_with fail
      refine HOf2.out.mono ?_
      rintro e w6 ⟨rfl, hb6⟩
      clear q0 q1 q2 HOf2
      have hbw6 := Below.next Hbr.out (Below.next H5.out.2 hb6)
      by_cases hr : r = g + 1
      · have hrr : ((r : Int) == (g : Int) + 1) = true := by rw [hr]; simp
        have HGn : Hid (G (k + 1) = Gk ++ [z]) := Hg1.out hgm hr
        clear hr
        go_wp2_with fail
        go_roundw
        case rel => exact ⟨k + 1, g + 1, a5, c5, by omega, by show _ = _; rw [HGn.out, List.length_append, hGl]; rfl, by go_num, rfl, by rw [HGn.out]; exact own_mono (own_keep (by simpa using H5.out.1) hb6) (Hbr.out.size), hbw6⟩
        case measure => simp [intOf] <;> omega
      · have hrr : ((r : Int) == (g : Int) + 1) = false := by simp; omega
        have HGn : Hid (G (k + 1) = Gk) := Hg2.out hr
        clear hr
        go_wp2_with fail
        go_roundw
        case rel => exact ⟨k + 1, g, a1, c1, by omega, by show _ = _; rw [HGn.out]; exact hGl, by go_num, rfl, by rw [HGn.out]; exact own_keep Hown.out (Below.next H5.out.2 hb6), hbw6⟩
        case measure => simp [intOf] <;> omega
    · have HGe : Hid (G no = G k) := by
        show _ = _
        by_cases hlt : k < no
        · exact HG3.out k hk (by rw [Hgl.out]; omega)
        · obtain rfl : k = no := by omega
          rfl
      have hgk : g ≤ 1000 := by have h := (Hgm.out k hk).2; rw [Hgl.out] at h; omega
      have hbwr := Below.next HbW.out hbr
      have Hso := Lib.hid (sorted25_any a1 g c1 (G k) wr (Ints.own hown).1 (by omega))
      have hsz := hbwr.size
      have Hbr := Lib.hid hbwr
      clear hown hbr hbwr
      by_cases hlt : k < no
      · have hgm : ¬ g < most := fun h => hcond ⟨hlt, h⟩
        clear hcond
        go_wp2_with fail
        refine Hso.out.mono ?_
        rintro e w7 ⟨a7, c7, rfl, hown7, hb7⟩
        have hF := Below.next Hbr.out hb7
        have hown8 := own_mono hown7 hsz
        clear hown7
        have HF := Lib.hid (And.intro hown8 hF)
        clear hown8 hF
        go_wp2_with fail
        go_ret
        rw [HGe.out, Hgl.out]
        exact ⟨a7, c7, rfl, HF.out.1, HF.out.2⟩
      · obtain rfl : k = no := by omega
        clear hcond
        go_wp2_with fail
        refine Hso.out.mono ?_
        rintro e w7 ⟨a7, c7, rfl, hown7, hb7⟩
        have hF := Below.next Hbr.out hb7
        have hown8 := own_mono hown7 hsz
        clear hown7
        have HF := Lib.hid (And.intro hown8 hF)
        clear hown8 hF
        go_wp2_with fail
        go_ret
        rw [Hgl.out]
        exact ⟨a7, c7, rfl, HF.out.1, HF.out.2⟩
end

/- The walks of codewrightref25.in and codewrightref10.Others. -/
section
open Go.RowKit

def inTo (l : List Int) (v : Int) (k : Nat) : Bool := decide (v ∈ l.take k)
theorem inTo_succ {l : List Int} {k : Nat} (v : Int) (h : k < l.length) : inTo l v (k + 1) = (inTo l v k || decide (nth l k = v)) := by
  unfold inTo
  rw [List.take_succ_eq_append_getElem h, nth_getElem h]
  simp only [List.mem_append, List.mem_singleton, Bool.decide_or]
  congr 1
  simp [eq_comm]
theorem inTo_all {l : List Int} {n : Nat} (v : Int) (h : l.length = n) : inTo l v n = decide (v ∈ l) := by
  unfold inTo
  rw [List.take_of_length_le (by omega)]

set_option maxRecDepth 100000 in
set_option maxHeartbeats 3200000 in
theorem rOthers10_any (a : Option Addr) (n c : Nat) (l : List Int) (m : Nat) (w : World) (h : Ints w a n l) (hm : m ≤ 1000) :
    Calls Tryz.prog 101 #[.slice a n c, .int .i64 m] w fun e w' => ∃ a1 c1, e = .returned (.slice a1 (frTo false l m).length c1) ∧
      w'.ownsRow w.heap.size 3 1 (.slice a1 (frTo false l m).length c1) (frTo false l m).length ((frTo false l m).map (Value.int .i64)) ∧ Below w.heap.size w w' := by
  have Hl := Lib.hid h.len
  have hpl := h.pl
  have hmax := h.max
  unfold maxLen at hmax
  obtain ⟨G, hG⟩ : ∃ G, frTo false l = G := ⟨_, rfl⟩
  have HG1 : Hid (∀ k : Nat, decide ((k : Int) ∈ l) = false → G (k + 1) = G k ++ [(k : Int)]) := fun k h => by rw [← hG, frTo, if_pos h]
  have HG2 : Hid (∀ k : Nat, decide ((k : Int) ∈ l) = true → G (k + 1) = G k) := fun k h => by rw [← hG, frTo, if_neg (by rw [h]; decide)]
  have HGl : Hid (∀ k, (G k).length ≤ k) := fun k => by rw [← hG]; exact frTo_len _ _ _
  have HG0 : Hid (G 0 = []) := by rw [← hG]; rfl
  rw [hG]
  clear hG
  go_enter Tryz.func101, Tryz.ntmps101
  go_wp2_with fail
  go_loopw [5, 6] (fun ov iv wr => ∃ (i g : Nat) (a1 : Option Addr) (c1 : Nat), i ≤ m ∧ iv = .int .i64 i ∧ Hid ((G i).length = g) ∧ ov = .slice a1 g c1 ∧ wr.ownsRow w.heap.size 3 1 (.slice a1 g c1) g ((G i).map (Value.int .i64)) ∧ Below w.heap.size w wr) (fun _ iv _ => m - (intOf iv).toNat)
  case atStart => exact ⟨0, 0, none, 0, Nat.zero_le _, rfl, by show _ = _; rw [HG0.out]; rfl, rfl, by rw [HG0.out]; exact own_none, Below.refl _ _⟩
  case round =>
    obtain ⟨i, g, a1, c1, hi, rfl, Hg, rfl, hown, hbr⟩ := hrel
    by_cases hlt : i < m
    · have hiW := h.keep hbr
      have hgi : g ≤ 1000 := by have h1 := HGl.out i; rw [Hg.out] at h1; omega
      generalize wr = X1 at *
      go_wp2_with fail
      go_loopw [7, 8] (fun bv kv ws => ∃ k : Nat, k ≤ n ∧ kv = .int .i64 k ∧ bv = .bool (inTo l i k) ∧ ws = X1) (fun _ kv _ => n - (intOf kv).toNat)
      case atStart => exact ⟨0, Nat.zero_le _, rfl, by simp [inTo], rfl⟩
      case round =>
        obtain ⟨k, hk, rfl, rfl, rfl⟩ := hrel
        by_cases hltk : k < n
        · have ck := hiW.cell k hltk
          have Hs := Lib.hid (inTo_succ (l := l) (i : Int) (show k < l.length by rw [Hl.out]; exact hltk))
          obtain ⟨b, hb⟩ : ∃ b, inTo l i k = b := ⟨_, rfl⟩
          rw [hb] at Hs ⊢
          clear hb
          cases b
          · by_cases he : nth l k = i
            · have he' : (nth l k == (i : Int)) = true := by rw [he]; simp
              have Hn : Hid (inTo l i (k + 1) = true) := by show _ = _; rw [Hs.out, decide_eq_true he]; rfl
              clear he
              go_wp2_with fail
              go_roundw
              case rel => exact ⟨k + 1, by omega, by go_num, by rw [Hn.out], by simp⟩
              case measure => simp [intOf] <;> omega
            · have he' : (nth l k == (i : Int)) = false := by simpa using he
              have Hn : Hid (inTo l i (k + 1) = false) := by show _ = _; rw [Hs.out, decide_eq_false he]; rfl
              clear he
              go_wp2_with fail
              go_roundw
              case rel => exact ⟨k + 1, by omega, by go_num, by rw [Hn.out], by simp⟩
              case measure => simp [intOf] <;> omega
          · have Hn : Hid (inTo l i (k + 1) = true) := by show _ = _; rw [Hs.out]; rfl
            go_wp2_with fail
            go_roundw
            case rel => exact ⟨k + 1, by omega, by go_num, by rw [Hn.out], by simp⟩
            case measure => simp [intOf] <;> omega
        · obtain rfl : k = n := by omega
          rw [inTo_all (i : Int) Hl.out]
          have hH1 := HG1.out i
          have hH2 := HG2.out i
          obtain ⟨b, hb⟩ : ∃ b, decide ((i : Int) ∈ l) = b := ⟨_, rfl⟩
          rw [hb] at hH1 hH2 ⊢
          clear hb
          cases b
          · have Hn := Lib.hid (hH1 rfl)
            clear hH1 hH2
            have hsz := hbr.size
            have hcn := cell_new wr (.int .i64 i) 3
            have hbn := below1 wr (.cells #[.int .i64 i] 3)
            go_wp2_with (at_builtin; refine wpList_push rfl _ _ 22 3 rfl (.int .i64 0) 8 Tryz.underlying22 infoInt rfl w.heap.size a1 g c1 _ rfl (hown.alloc _) ⟨wr.heap.size, 0, none⟩ 1 (.int .i64 i) rfl hcn rfl (by omega) (by unfold maxLen; omega) (by simp; omega) ?_; intro a5 c5 w5 hown5 hgr5 hap5)
            go_roundw
            case rel =>
              refine ⟨i + 1, g + 1, a5, c5, by omega, by go_num, by show _ = _; rw [Hn.out, List.length_append, Hg.out]; rfl, rfl, by rw [Hn.out]; simpa using hown5, Below.app (Below.allocN hbr _) (hown.alloc _) hgr5 (Nat.le_refl _) (Below.allocN hbr _).size⟩
            case measure => simp [intOf] <;> omega
          · have Hn := Lib.hid (hH2 rfl)
            clear hH1 hH2
            go_wp2_with fail
            go_roundw
            case rel => exact ⟨i + 1, g, a1, c1, by omega, by go_num, by show _ = _; rw [Hn.out]; exact Hg.out, rfl, by rw [Hn.out]; exact hown, hbr⟩
            case measure => simp [intOf] <;> omega
    · obtain rfl : i = m := by omega
      have HF := Lib.hid (And.intro hown hbr)
      clear hown hbr
      go_wp2_with fail
      go_ret
      rw [Hg.out]
      exact ⟨a1, c1, rfl, HF.out.1, HF.out.2⟩
end

/- The walks of in, with, kids of the reference's exclusion. -/
section
open Go.RowKit

theorem rIn26_any (a : Option Addr) (n c : Nat) (l : List Int) (v : Int) (w : World) (h : Ints w a n l) :
    Calls Tryz.prog 156 #[.slice a n c, .int .i64 v] w fun e w' => e = .returned (.bool (decide (v ∈ l))) ∧ w' = w := by
  have Hl := Lib.hid h.len
  have hpl := h.pl
  have hmax := h.max
  unfold maxLen at hmax
  go_enter Tryz.func156, Tryz.ntmps156
  go_wp2_with fail
  go_loopw [5] (fun iv wr => ∃ k : Nat, k ≤ n ∧ iv = .int .i64 k ∧ Hid (inTo l v k = false) ∧ wr = w) (fun i _ => n - (intOf i).toNat)
  case atStart => exact ⟨0, Nat.zero_le _, rfl, by show _ = _; simp [inTo], rfl⟩
  case round =>
    obtain ⟨k, hk, rfl, hno, rfl⟩ := hrel
    by_cases hlt : k < n
    · have c1 := h.cell k hlt
      have Hs := Lib.hid (inTo_succ (l := l) v (show k < l.length by rw [Hl.out]; exact hlt))
      by_cases he : nth l k = v
      · have he' : (nth l k == v) = true := by rw [he]; simp
        have Hm : Hid (decide (v ∈ l) = true) := by show _ = _; rw [← he]; simpa using nth_mem (show k < l.length by rw [Hl.out]; exact hlt)
        clear he
        go_wp2_with fail
        go_ret
        exact ⟨ret_bool Hm.out.symm, rfl⟩
      · have he' : (nth l k == v) = false := by simpa using he
        have Hn2 : Hid (inTo l v (k + 1) = false) := by show _ = _; rw [Hs.out, hno.out, decide_eq_false he]; rfl
        clear he
        go_wp2_with fail
        go_roundw
        case rel => exact ⟨k + 1, by omega, by go_num, Hn2.out, by simp⟩
        case measure => simp [intOf] <;> omega
    · obtain rfl : k = n := by omega
      have Hm : Hid (decide (v ∈ l) = false) := by show _ = _; rw [← inTo_all v Hl.out]; exact hno.out
      go_wp2_with fail
      go_ret
      exact ⟨ret_bool Hm.out.symm, rfl⟩


theorem ints_one (l : List Int) : ∀ u ∈ l.map (Value.int .i64), u.oneCell' = true := fun u hu => by
  obtain ⟨x, _, rfl⟩ := List.mem_map.1 hu
  rfl
set_option maxRecDepth 100000 in
set_option maxHeartbeats 1600000 in
theorem rWith26_any (a : Option Addr) (n c : Nat) (l : List Int) (b : Option Addr) (m cb : Nat) (l2 : List Int) (w : World) (ha : Ints w a n l) (hb : Ints w b m l2) (hn : n ≤ 1000000) (hm : m ≤ 1000000) :
    Calls Tryz.prog 99 #[.slice a n c, .slice b m cb] w fun e w' => ∃ a2 c2, e = .returned (.slice a2 (n + m) c2) ∧ w'.ownsRow w.heap.size 3 1 (.slice a2 (n + m) c2) (n + m) ((l ++ l2).map (Value.int .i64)) ∧ Below w.heap.size w w' := by
  have hb1 := below1 w (.cells #[] 3)
  have ha1 := ha.keep hb1
  have hb2 := hb.keep hb1
  have hal := ha.len
  have hbl := hb.len
  have hO := own_emp w 3
  go_enter Tryz.func99, Tryz.ntmps99
  go_wp2_with (at_builtin; first
    | (refine wpList_appAll rfl _ _ 22 3 rfl (.int .i64 0) 8 Tryz.underlying22 infoInt rfl w.heap.size _ 0 0 [] rfl hO a n c (l.map (Value.int .i64)) rfl ha1.pl (by simp [hal]) (Ints.news ha1) (ints_one l) (by omega) (by unfold maxLen; omega) hb1.size ?_; intro a1 c1 w1 hown1 hgr1 hap1; rw [Nat.zero_add] at hown1 ⊢; rw [List.nil_append] at hown1; have hbw1 : Below w.heap.size w w1 := Below.app hb1 hO hgr1 (Nat.le_refl _) hb1.size; have hb3 := hb.keep hbw1)
    | (refine wpList_appAll rfl _ _ 22 3 rfl (.int .i64 0) 8 Tryz.underlying22 infoInt rfl w.heap.size a1 n c1 (l.map (Value.int .i64)) rfl hown1 b m cb (l2.map (Value.int .i64)) rfl hb3.pl (by simp [hbl]) (Ints.news hb3) (ints_one l2) (by omega) (by unfold maxLen; omega) hbw1.size ?_; intro a2 c2 w2 hown2 hgr2 hap2))
  go_ret
  exact ⟨a2, c2, rfl, by rw [List.map_append]; exact hown2, Below.app hbw1 hown1 hgr2 (Nat.le_refl _) hbw1.size⟩

/-- a claim of the reference -/
def rclV (P M : Int) (am : Option Addr) (mn cm : Nat) (m : Nat) (a : Option Addr) (n c : Nat) (ay : Option Addr) (ny cy : Nat) (C : Clm) : Value :=
  .agg #[.int .i64 P, .int .i64 M, .slice am mn cm, .int .i64 m, .slice a n c, .int .i64 C.M, .int .i64 C.W, .slice ay ny cy, .bool C.cos]
set_option maxRecDepth 100000 in
set_option maxHeartbeats 3200000 in
theorem rKids26_any (P M : Int) (am : Option Addr) (mn cm : Nat) (m : Nat) (a : Option Addr) (n c : Nat) (ay : Option Addr) (ny cy : Nat) (C : Clm) (sa : Option Addr) (ns cs : Nat) (s : List Int) (az : Option Addr) (nz cz : Nat) (z : List Int) (at' : Option Addr) (nt ct : Nat) (t : List Int) (w : World)
    (hs : Ints w sa ns s) (hz : Ints w az nz z) (ht : Ints w at' nt t) (hnt : nt ≤ 1000000) :
    Calls Tryz.prog 104 #[rclV P M am mn cm m a n c ay ny cy C, .slice sa ns cs, .slice az nz cz, .slice at' nt ct] w (NewInts w (kidsS C s z t)) := by
  have Htl := Lib.hid ht.len
  have Hsl := Lib.hid hs.len
  have hplt := ht.pl
  obtain ⟨K, hK⟩ : ∃ K, kidsS C s z t = K := ⟨_, rfl⟩
  rw [hK]
  have HK := Lib.hid hK
  unfold rclV
  clear hK
  go_enter Tryz.func104, Tryz.ntmps104
  go_wp2_with fail
  obtain ⟨U, hU⟩ : ∃ U : World, U = w.alloc (.cells #[.int .i64 P, .int .i64 M, .slice am mn cm, .int .i64 m, .slice a n c, .int .i64 C.M, .int .i64 C.W, .slice ay ny cy, .bool C.cos] 89) := ⟨_, rfl⟩
  rw [← hU]
  have hbU : Below w.heap.size w U := by rw [hU]; exact below1 _ _
  have x0 : Box U w.heap.size [.int .i64 P, .int .i64 M, .slice am mn cm, .int .i64 m, .slice a n c, .int .i64 C.M, .int .i64 C.W, .slice ay ny cy, .bool C.cos] := by rw [hU]; exact Box.new _ _ _ rfl
  have HX := Lib.hid x0
  have hsU : w.heap.size < U.heap.size := x0.1
  clear hU x0
  go_loopw [9, 10] (fun qv iv wr => ∃ (k : Nat) (aq : Option Addr) (cq : Nat) (out : List Int), k ≤ nt ∧ iv = .int .i64 k ∧ qv = .slice aq out.length cq ∧ Hid (K = out ++ (if s.length < C.W then (t.drop k).filter (fun x => decide (¬ x ∈ z)) else [])) ∧ out.length ≤ k ∧
      wr.ownsRow U.heap.size 3 1 (.slice aq out.length cq) out.length (out.map (Value.int .i64)) ∧ Below U.heap.size U wr)
    (fun _ iv _ => nt - (intOf iv).toNat)
  case atStart => exact ⟨0, none, 0, [], Nat.zero_le _, rfl, rfl, (show _ = _ by rw [← HK.out, kidsS, List.drop_zero, List.nil_append]), Nat.zero_le _, own_none, Below.refl _ _⟩
  case round =>
    obtain ⟨k, aq, cq, out, hk, rfl, rfl, hst, hln, hop, hbr⟩ := hrel
    generalize wr = V at *
    have c6 := (HX.out.keep hbr).cell 6 rfl
    by_cases hlt : k < nt
    · by_cases hW : ns < C.W
      · have d1 : decide ((ns : Int) < (C.W : Int)) = true := by simp; omega
        have ck := (ht.keep (Below.next hbU hbr)).cell k hlt
        have hktl : k < t.length := by rw [Htl.out]; exact hlt
        have Hdk := Lib.hid (show t.drop k = nth t k :: t.drop (k + 1) by rw [nth_getElem hktl]; exact List.drop_eq_getElem_cons hktl)
        have HI := Lib.hid (rIn26_any az nz cz z (nth t k) V (hz.keep (Below.next hbU hbr)))
        have hlsW : s.length < C.W := by rw [Hsl.out]; exact hW
        by_cases hm1 : nth t k ∈ z
        · have hmd : decide (nth t k ∈ z) = true := by simpa using hm1
          rw [hmd] at HI
          have Hst : Hid (K = out ++ (if s.length < C.W then (t.drop (k + 1)).filter (fun x => decide (¬ x ∈ z)) else [])) := by
            show _ = _
            rw [hst.out, Hdk.out, if_pos hlsW, if_pos hlsW, List.filter_cons_of_neg (by simpa using hm1)]
          clear hm1 hmd hlsW
          go_wp2_with fail
          refine HI.out.mono ?_
          rintro e w6 ⟨rfl, rfl⟩
          go_wp2_with fail
          go_roundw
          case rel => exact ⟨k + 1, aq, cq, out, by omega, by go_num, rfl, Hst.out, by omega, hop, hbr⟩
          case measure => simp [intOf] <;> omega
        · have hmd : decide (nth t k ∈ z) = false := by simpa using hm1
          rw [hmd] at HI
          have Hst : Hid (K = (out ++ [nth t k]) ++ (if s.length < C.W then (t.drop (k + 1)).filter (fun x => decide (¬ x ∈ z)) else [])) := by
            show _ = _
            rw [hst.out, Hdk.out, if_pos hlsW, if_pos hlsW, List.filter_cons_of_pos (by simpa using hm1), List.append_assoc]; rfl
          obtain ⟨x, hx⟩ : ∃ x, nth t k = x := ⟨_, rfl⟩
          rw [hx] at ck Hst HI
          have hcn := cell_new V (.int .i64 x) 3
          have hbn := below1 V (.cells #[.int .i64 x] 3)
          have hszV := hbr.size
          clear hm1 hmd hlsW hx
          go_wp2_with fail
          refine HI.out.mono ?_
          rintro e w6 ⟨rfl, rfl⟩
          go_wp2_with (at_builtin; refine wpList_push rfl _ _ 22 3 rfl (.int .i64 0) 8 Tryz.underlying22 infoInt rfl U.heap.size aq out.length cq _ rfl (hop.alloc _) ⟨w6.heap.size, 0, none⟩ 1 (.int .i64 x) rfl hcn rfl (by omega) (by unfold maxLen; omega) (by simp; omega) ?_; intro a5 c5 w5 hown5 hgr5 hap5)
          go_roundw
          case rel =>
            have hb5 : Below U.heap.size U w5 := Below.app (Below.trans hbr (hbn.mono hszV)) (hop.alloc _) hgr5 (Nat.le_refl _) (Nat.le_trans hszV hbn.size)
            exact ⟨k + 1, a5, c5, out ++ [x], by omega, by go_num, by simp, Hst.out, by simp; omega, by simpa using hown5, hb5⟩
          case measure => simp [intOf] <;> omega
      · have d1 : decide ((ns : Int) < (C.W : Int)) = false := by simp; omega
        have Ho : Hid (K = out) := by show _ = _; rw [hst.out, if_neg (by rw [Hsl.out]; exact hW), List.append_nil]
        have hop2 := own_mono hop hbU.size
        have hF := Below.next hbU hbr
        go_wp2_with fail
        go_ret
        exact ⟨aq, cq, by rw [Ho.out]; rfl, by rw [Ho.out]; exact hop2, hF⟩
    · obtain rfl : k = nt := by omega
      have Ho : Hid (K = out) := by
        show _ = _
        rw [hst.out, List.drop_of_length_le (by rw [Htl.out]; exact Nat.le_refl _)]
        split <;> simp
      have hop2 := own_mono hop hbU.size
      have hF := Below.next hbU hbr
      go_wp2_with fail
      go_ret
      exact ⟨aq, cq, by rw [Ho.out]; rfl, by rw [Ho.out]; exact hop2, hF⟩
end

end Go.Proofs.YtapjcccpokhhhaaGreat
