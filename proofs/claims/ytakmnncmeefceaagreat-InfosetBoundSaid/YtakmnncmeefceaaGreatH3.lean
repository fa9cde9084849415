/- The walk of codewrightref25.Greedy. -/
import Derived.Test.YtakmnncmeefceaaGreatG26
import Derived.Test.YtakmnncmeefceaaGreatH2
import Derived.Test.YtakmnncmeefceaaGreatH1
import Derived.Test.YtakmnncmeefceaaGreatG30
import Derived.Test.YtakmnncmeefceaaGreatG20
import Derived.Test.YtakmnncmeefceaaGreatG22
import Derived.Test.YtakmnncmeefceaaGreatG27
namespace Go.Proofs.YtakmnncmeefceaaGreat
set_option linter.unusedVariables false
set_option linter.unusedSimpArgs false
set_option linter.unusedSectionVars false

/- The walks of the references: Keep of layer 13, Of of layer 25. -/
section
open Go.RowKit

set_option maxRecDepth 100000 in
set_option maxHeartbeats 4000000 in
theorem rKeep_any (m : Nat) (a : Option Addr) (n c : Nat) (L : List (List Int)) (ao : Option Addr) (no co : Nat) (Q : List Int) (w : World) (hi : Mat w a n L) (hq : Ints w ao no Q) (hL : ∀ r ∈ L, r.length = m) (hQ : InN m Q) (hn : n ≤ 1000000) (hno : no ≤ 1000000) :
    Calls Tryz.prog 47 #[.slice a n c, .slice ao no co] w fun e w' => ∃ a1 c1 R, e = .returned (.slice a1 n c1) ∧ OMat w' w.heap.size a1 n c1 R (L.map (pickL Q)) ∧ Below w.heap.size w w' := by
  have Hlen := Lib.hid hi.len
  have hpla := hi.pl
  have HLl := Lib.hid hL
  have HQ := Lib.hid hQ
  obtain ⟨L2, hL2⟩ : ∃ L2, L.map (pickL Q) = L2 := ⟨_, rfl⟩
  have hl2 : L2.length = n := by rw [← hL2, List.length_map]; exact Hlen.out
  have Hl2 := Lib.hid hl2
  have HLk : Hid (∀ k, k < n → nthR L2 k = pickL Q (nthR L k)) := fun k hk => by rw [← hL2]; exact nthR_map _ L (by rw [Hlen.out]; exact hk)
  rw [hL2]
  clear hL2 hl2 hL hQ
  go_enter Tryz.func47, Tryz.ntmps47
  go_wp2_with fail
  go_loopw [5, 6] (fun sv iv wr => ∃ (k : Nat) (a1 : Option Addr) (c1 : Nat), k ≤ n ∧ iv = .int .i64 k ∧ sv = .slice a1 k c1 ∧ (∃ R, OMat wr w.heap.size a1 k c1 R (L2.take k)) ∧ Below w.heap.size w wr) (fun _ iv _ => n - (intOf iv).toNat)
  case atStart => exact ⟨0, none, 0, Nat.zero_le _, rfl, rfl, ⟨[], by simpa using OMat.empty w w.heap.size⟩, Below.refl _ _⟩
  case round =>
    obtain ⟨k, a1, c1, hk, rfl, rfl, ⟨R, hO⟩, hbr⟩ := hrel
    by_cases hlt : k < n
    · obtain ⟨ra, rn, rc, hcell, hrow⟩ := (hi.keep hbr).cell k hlt
      have hkL : k < L.length := by rw [Hlen.out]; exact hlt
      have hrl : rn = m := by rw [← hrow.len, nthR_getElem hkL]; exact HLl.out _ (List.getElem_mem hkL)
      have Htk : Hid (L2.take (k + 1) = L2.take k ++ [pickL Q (nthR L k)]) := by show _ = _; rw [List.take_succ_eq_append_getElem (by rw [Hl2.out]; exact hlt), ← HLk.out k hlt, nthR_getElem (by rw [Hl2.out]; exact hlt)]
      obtain ⟨l, hl⟩ : ∃ l, nthR L k = l := ⟨_, rfl⟩
      rw [hl] at Htk hrow
      have hpk := rPick_any ra rn rc l ao no co Q wr hrow (hq.keep hbr) (by rw [hrl]; exact HQ.out) hno
      have hsz := hbr.size
      clear hl hrl
      go_wp2_with fail
      refine hpk.mono ?_
      rintro e w3 ⟨a3, c3, rfl, hown3, hb3⟩
      have hO3 := hO.keep (Below.next hb3 (below1 w3 (.cells #[.slice a3 (pickL Q l).length c3] 22)))
      have hs3 : w.heap.size ≤ (w3.alloc (.cells #[.slice a3 (pickL Q l).length c3] 22)).heap.size := by have h1 := hb3.size; simp; omega
      clear hpk
      go_wp2_with (at_builtin; refine wpList_push rfl _ _ 25 22 rfl (.slice none 0 0) 24 Tryz.underlying25 infoInts rfl w.heap.size a1 k c1 _ rfl hO3.own ⟨w3.heap.size, 0, none⟩ 1 (.slice a3 (pickL Q l).length c3) rfl (cell_new w3 _ _) rfl (by omega) (by unfold maxLen; omega) hs3 ?_; intro a5 c5 w5 hown5 hgr5 hap5)
      go_roundw
      case rel =>
        have hb4 : Below wr.heap.size wr (w3.alloc (.cells #[.slice a3 (pickL Q l).length c3] 22)) := Below.next hb3 (below1 _ _)
        have hown4 : (w3.alloc (.cells #[.slice a3 (pickL Q l).length c3] 22)).ownsRow w.heap.size 3 1 (.slice a3 (pickL Q l).length c3) (pickL Q l).length ((pickL Q l).map (Value.int .i64)) :=
          own_mono (own_keep hown3 (below1 _ _)) hsz
        have hra : a3 ≠ none → ¬ OIn a1 R (ablk a3) := fun h0 hI => by
          have h1 := (own_ne hown3 h0).1
          have h2 := (hO.lt _ hI).2
          omega
        have hP := OMat.push hO3 hown4 hra hown5 hgr5 hap5
        have hb5 : Below w.heap.size w w5 := Below.app (Below.next hbr hb4) hO3.own hgr5 (Nat.le_refl _) (Nat.le_trans hsz hb4.size)
        exact ⟨k + 1, a5, c5, by omega, by go_num, rfl, ⟨_, by rw [Htk.out]; exact hP⟩, hb5⟩
      case measure => simp [intOf] <;> omega
    · obtain rfl : k = n := by omega
      rw [List.take_of_length_le (by rw [Hl2.out]; exact Nat.le_refl _)] at hO
      have HO := Lib.hid hO
      clear hO
      go_wp2_with fail
      go_ret
      exact ⟨a1, c1, R, rfl, HO.out, hbr⟩

set_option maxRecDepth 100000 in
set_option maxHeartbeats 4000000 in
theorem rOf25_any (P M : Int) (am : Option Addr) (mn cm : Nat) (mod : List Int) (m : Nat) (a : Option Addr) (n c : Nat) (L : List (List Int)) (ao : Option Addr) (no co : Nat) (Q : List Int) (w : World) (hmod : Ints w am mn mod) (hi : Mat w a n L) (hq : Ints w ao no Q)
    (hE : codeE P M mod m L = 0) (hQ : InN m Q) (hno : no ≤ 1000000) :
    Calls Tryz.prog 76 #[.agg #[.int .i64 P, .int .i64 M, .slice am mn cm], .slice a n c, .slice ao no co] w fun e w' => e = .returned (.int .i64 (grS (tblOf P M.toNat mod).ops L Q).length) ∧ Below w.heap.size w w' := by
  have hql := hq.len
  obtain ⟨N', em, hm1, hm64, F, hR⟩ := codeE_fld hE
  obtain rfl : m = N' := by omega
  have hn : n ≤ 256 := by rw [← hi.len]; exact (codeE_rws hE).choose_spec.2.2.2.1
  have hB := (codeE_zero hE).1
  have hinv := hinv_all (P := P) (M := M) (mod := mod) (by rw [fieldRB_eq]; exact hB)
  have hgr := elim_gr F hR hQ
  have hpr := pick_rws hR hQ
  rw [hql] at hgr hpr
  obtain ⟨k, rfl, hel, _, hF, hA, _⟩ := eq_ops hB
  obtain ⟨k', e2, hrf, hmods⟩ := fieldRB_rf (by rw [fieldRB_eq]; exact hB)
  obtain rfl : k = k' := by omega
  rw [Int.toNat_natCast] at hgr hpr hinv hR ⊢
  have hag := (elimTo_agr hA hF.cl (by rw [hel]; exact hpr) no (Nat.le_refl _)).1
  rw [hag] at hgr
  rw [← hel] at hpr
  have HKp : Hid (∀ V, Below w.heap.size w V → Calls Tryz.prog 47 #[.slice a n c, .slice ao no co] V fun e w' => Below V.heap.size V w' ∧ ∃ a1 c1, e = .returned (.slice a1 n c1) ∧ Mat w' a1 n (L.map (pickL Q))) := fun V hV => by
    refine (rKeep_any m a n c L ao no co Q V (hi.keep hV) (hq.keep hV) (fun r hr => (hR r hr).1) hQ (by omega) hno).mono ?_
    rintro e w' ⟨a1, c1, R, rfl, hO, hb⟩
    exact ⟨hb, a1, c1, rfl, hO.mat⟩
  have HCn : Hid (∀ V a1 c1, Below w.heap.size w V → Mat V a1 n (L.map (pickL Q)) → ∀ V2, Below V.heap.size V V2 → Calls Tryz.prog 111 #[.agg #[.int .i64 P, .int .i64 k, .slice am mn cm], .slice a1 n c1, .int .i64 no] V2 fun e w' =>
      Below V2.heap.size V2 w' ∧ ∃ v ap cp, e = .returned (.tuple #[v, .slice ap (grS (tblOf P k mod).ops L Q).length cp])) := fun V a1 c1 hV hM V2 hV2 => by
    refine (rCanon_any P k am mn cm mod a1 n c1 no (L.map (pickL Q)) V2 ⟨hrf, hmods V2 am mn (hmod.keep (Below.next hV hV2))⟩ (hM.keep hV2) hpr hno (by omega) hinv).mono ?_
    rintro e w' ⟨a4, c4, ap, cp, rfl, _, _, hb⟩
    exact ⟨hb, _, ap, cp, by rw [← hgr]⟩
  obtain ⟨r, hr⟩ : ∃ r, (grS (tblOf P k mod).ops L Q).length = r := ⟨_, rfl⟩
  rw [hr] at HCn ⊢
  clear hE em F hR hB hinv hgr hpr hel hF hA e2 hrf hmods hag hr hQ hql hmod hi hq
  go_enter Tryz.func76, Tryz.ntmps76
  go_upto_region 1 with fail
  obtain ⟨W, hW⟩ : ∃ W : World, W = w.alloc (.cells #[.int .i64 P, .int .i64 k, .slice am mn cm] 24) := ⟨_, rfl⟩
  rw [← hW]
  have hbW : Below w.heap.size w W := by rw [hW]; exact below1 _ _
  have x0 : Box W w.heap.size [.int .i64 P, .int .i64 k, .slice am mn cm] := by rw [hW]; exact Box.new _ _ _ rfl
  have hS : ∀ V, Below W.heap.size W V → V.cell? ⟨w.heap.size, 0, none⟩ = some (.int .i64 P) ∧ V.cell? ⟨w.heap.size, 1, none⟩ = some (.int .i64 k) ∧ V.cell? ⟨w.heap.size, 2, none⟩ = some (.slice am mn cm) ∧ Below W.heap.size W V := fun V hV => by
    have x1 := x0.keep hV
    exact ⟨x1.cell 0 rfl, x1.cell 1 rfl, x1.cell 2 rfl, hV⟩
  have HS := Lib.hid hS
  have HbW := Lib.hid hbW
  clear hW x0 hS hbW
  go_region_held3 (fun V => V.cell? ⟨w.heap.size, 0, none⟩ = some (.int .i64 P) ∧ V.cell? ⟨w.heap.size, 1, none⟩ = some (.int .i64 k) ∧ V.cell? ⟨w.heap.size, 2, none⟩ = some (.slice am mn cm) ∧ Below W.heap.size W V)
    ((refine HS.out _ ?_; first | exact (Below.refl _ _).drew | (go_split_ands; exact Below.next (by assumption) (by assumption))))
    (first
      | (go_at_call 47; ((with_reducible refine (HKp.out _ (Below.next HbW.out (by go_split_ands; assumption))).mono ?_); rintro e w6 ⟨hb6, a6, c6, rfl, hM6⟩; have hb7 : Below W.heap.size W w6 := (by go_split_ands; exact Below.next (by assumption) hb6); have Hr2 := Lib.hid (HCn.out w6 a6 c6 (Below.next HbW.out hb7) hM6); clear hM6))
      | (go_at_call 111; ((with_reducible refine (Hr2.out _ (by first | exact Below.refl _ _ | exact hb4)).mono ?_); rintro e w8 ⟨hb8, v8, ap8, cp8, rfl⟩)))
  all_goals (
    go_wp2_with fail
    go_ret
    exact ⟨rfl, Below.next HbW.out (by go_split_ands; assumption)⟩)
end

/- The walk of codewrightref25.Sorted. -/
section
open Go.RowKit

set_option maxRecDepth 100000 in
set_option maxHeartbeats 4000000 in
theorem sorted25_any (a : Option Addr) (n c : Nat) (Q : List Int) (w : World) (hi : Ints w a n Q) (hn : n ≤ 1000000) :
    Calls Tryz.prog 38 #[.slice a n c] w fun e w' => ∃ a1 c1, e = .returned (.slice a1 n c1) ∧ w'.ownsRow w.heap.size 3 1 (.slice a1 n c1) n ((sortL Q).map (Value.int .i64)) ∧ Below w.heap.size w w' := by
  have Hlen := Lib.hid hi.len
  have hO := own_emp w 3
  have hal := Lib.hid ((Below.refl w.heap.size w).alloc (Nat.le_refl _) (.cells #[] 3))
  go_enter Tryz.func38, Tryz.ntmps38
  go_upto_region 1 with fail
  iterate 7 go_step
  have hbal := hal.out
  generalize w.alloc (.cells #[] 3) = W0 at *
  have hiW := hi.keep hbal
  refine wpList_appAll (by rfl) (.tmp 6) (.tmp 7) 22 3 (by rfl) (.int .i64 0) 8 Tryz.underlying22 infoInt (by rfl) w.heap.size _ 0 0 [] (by rfl) hO a n c (Q.map (Value.int .i64)) (by rfl) hiW.pl (by simp [Hlen.out]) (Ints.news hiW) (ints_oneCell _ _) (by omega) (by unfold maxLen; omega) (Below.size hbal) ?_
  intro a3 c3 w3 hown3 hgr3 hap3
  have hb3 : Below w.heap.size w w3 := Below.app (B := w.heap.size) (e := 3) (xs := []) hbal hO hgr3 (Nat.le_refl _) (Below.size hbal)
  rw [Nat.zero_add] at hown3 ⊢
  rw [List.nil_append] at hown3
  clear hgr3 hap3 hiW hbal hO hal hi
  have H3 := Lib.hid hown3
  clear hown3
  go_wp2_with fail
  go_loopw [4] (fun iv wr => ∃ (i : Nat) (X : List Int), 1 ≤ i ∧ i ≤ n + 1 ∧ iv = .int .i64 i ∧ Hid (X.Perm Q ∧ SrtK X i) ∧ wr.ownsRow w.heap.size 3 1 (.slice a3 n c3) n (X.map (Value.int .i64)) ∧ Below w.heap.size w wr) (fun iv _ => n + 1 - (intOf iv).toNat)
  case atStart => exact ⟨1, Q, Nat.le_refl _, by omega, rfl, ⟨List.Perm.refl _, fun p q h1 h2 => by omega⟩, H3.out, hb3⟩
  case round =>
    clear H3 hb3
    obtain ⟨i, X, hi1, hin, rfl, hX, hown, hbr⟩ := hrel
    have hi1' : (1 : Int) ≤ i := by omega
    by_cases hlt : i < n
    · have hlt' : (i : Int) < n := by omega
      go_wp2_with fail
      go_loopw [5] (fun jv wr2 => ∃ (j : Nat) (Y : List Int), j ≤ i ∧ jv = .int .i64 j ∧ Hid (Y.Perm Q ∧ SrtJ Y i j) ∧ wr2.ownsRow w.heap.size 3 1 (.slice a3 n c3) n (Y.map (Value.int .i64)) ∧ Below w.heap.size w wr2) (fun jv _ => (intOf jv).toNat)
      case atStart => exact ⟨i, X, Nat.le_refl _, rfl, ⟨hX.out.1, hX.out.2.start⟩, hown, hbr⟩
      case round =>
        clear hown hbr hX
        obtain ⟨j, Y, hji, rfl, hY, hown, hbr⟩ := hrel
        obtain ⟨hints, hmine⟩ := Ints.own hown
        have hpl := hints.pl
        have HYl := Lib.hid hints.len
        by_cases hj0 : j = 0
        · have d3 : decide (0 < j) = false := by simp; omega
          have Hd : Hid (Y.Perm Q ∧ SrtK Y (i + 1)) := ⟨hY.out.1, hY.out.2.done hji (.inl hj0)⟩
          clear hj0 hints hmine
          have hown2 := fun m => own_keep hown (Drawn.below (Drawn.drewN (Drawn.refl wr) m))
          have hbr2 := fun m => Below.next hbr (Drawn.below (Drawn.drewN (Drawn.refl wr) m))
          have Hn := Lib.hid (And.intro hown2 hbr2)
          clear hown2 hbr2
          go_wp2_with fail
          go_quiet (fail)
          go_wp2
          go_roundw
          case rel => exact ⟨i + 1, Y, by omega, by omega, by go_num, Hd, Hn.out.1 _, Hn.out.2 _⟩
          case measure => simp [intOf] <;> omega
        · have d3 : decide (0 < j) = true := by simp; omega
          have d4 : (0 : Int) ≤ (j : Int) - 1 := by omega
          have d5 : (1 : Int) ≤ (j : Int) := by omega
          have d6 : (j : Int) - 1 < n := by omega
          have d7 : (j : Int) < n := by omega
          have e1 : ((j : Int) - 1).toNat = j - 1 := by omega
          have kw : IntKind.i64.wrap ((j : Int) - 1) = (j : Int) - 1 := IntWalk.i64_in _ (by omega)
          have cj := hints.cell j (by omega)
          have cp := hints.cell (j - 1) (by omega)
          have hown2 := fun m => own_keep hown (Drawn.below (Drawn.drewN (Drawn.refl wr) m))
          have hbr2 := fun m => Below.next hbr (Drawn.below (Drawn.drewN (Drawn.refl wr) m))
          have Hn := Lib.hid (And.intro hown2 hbr2)
          clear hown2 hbr2
          by_cases h2 : nth Y j < nth Y (j - 1)
          · have h2' : decide (nth Y j < nth Y (j - 1)) = true := by simpa using h2
            have hjY : j < Y.length := by rw [HYl.out]; omega
            have Hd : Hid ((swp Y j).Perm Q ∧ SrtJ (swp Y j) i (j - 1)) := ⟨(swp_perm (by omega) hjY).trans hY.out.1, hY.out.2.step (by omega) hji hjY h2⟩
            clear hj0 hints hmine h2 hjY
            go_wp2_with fail
            go_quiet (fail)
            have hown2 := Hn.out.1 nq
            have hbr2 := Hn.out.2 nq
            clear Hn hown hbr cj cp h2'
            generalize wr.drewN nq = W2 at *
            obtain ⟨hints, hmine⟩ := Ints.own hown2
            have cj := hints.cell j (by omega)
            have cp := hints.cell (j - 1) (by omega)
            have fj := (hmine (by omega)).2 j (by omega)
            have fp := (hmine (by omega)).2 (j - 1) (by omega)
            have hB := (hmine (by omega)).1
            have k3 : (W2.setCell ⟨ablk a3, aoff a3 + j, none⟩ (.int .i64 (nth Y (j - 1)))).cell? ⟨ablk a3, aoff a3 + (j - 1), none⟩ = some (.int .i64 (nth Y (j - 1))) := by
              rw [World.cell?_setCell_other _ _ _ _ (by simp <;> omega)]; exact cp
            have hown3 := own_set (own_set hown2 j (by omega) (.int .i64 (nth Y (j - 1)))) (j - 1) (by omega) (.int .i64 (nth Y j))
            rw [← List.map_set, ← List.map_set] at hown3
            have hbr3 := (hbr2.setCell (p := ⟨ablk a3, aoff a3 + j, none⟩) hB (.int .i64 (nth Y (j - 1)))).setCell (p := ⟨ablk a3, aoff a3 + (j - 1), none⟩) hB (.int .i64 (nth Y j))
            have Hn := Lib.hid (And.intro hown3 hbr3)
            clear hown3 hbr3 hints hmine hown2 hbr2
            go_wp2_with fail
            go_region
            go_wp2_with fail
            go_roundw
            case rel => exact ⟨j - 1, swp Y j, by omega, by go_num, Hd, own_keep Hn.out.1 (Below.refl _ _).drew, Below.next Hn.out.2 (Below.refl _ _).drew⟩
            case measure => simp [intOf] <;> omega
          · have h2' : decide (nth Y j < nth Y (j - 1)) = false := by simpa using h2
            have Hd : Hid (Y.Perm Q ∧ SrtK Y (i + 1)) := ⟨hY.out.1, hY.out.2.done hji (.inr (by omega))⟩
            clear hj0 hints hmine h2
            go_wp2_with fail
            go_quiet (fail)
            go_wp2
            go_roundw
            case rel => exact ⟨i + 1, Y, by omega, by omega, by go_num, Hd, Hn.out.1 _, Hn.out.2 _⟩
            case measure => simp [intOf] <;> omega
    · have hXl := (Ints.own hown).1.len
      have He : Hid (X = sortL Q) := hX.out.2.sort (by omega) hX.out.1
      have hF := Lib.hid (And.intro hown hbr)
      clear hXl hown hbr
      go_wp2_with fail
      go_ret
      exact ⟨a3, c3, rfl, by rw [← He.out]; exact hF.out.1, hF.out.2⟩
end

/- The walk of codewrightref25.sets. -/
section
open Go.RowKit

def setsC (P M : Int) (mod : List Int) (N : Int) (L : List (List Int)) (S : List (List Int)) : Int := if codeE P M mod N L = 0 then setsE N S else codeE P M mod N L
theorem setsC_one (P M : Int) (mod : List Int) (N : Int) (L : List (List Int)) (Q : List Int) : setsC P M mod N L [Q] = rankE P M mod N L Q := rfl
theorem setsC_two (P M : Int) (mod : List Int) (N : Int) (L : List (List Int)) (A B : List Int) : setsC P M mod N L [A, B] = rk2E P M mod N L A B := rfl
theorem rCheck_any (P M : Int) (am : Option Addr) (mn cm : Nat) (mod : List Int) (N : Int) (a : Option Addr) (n c : Nat) (L : List (List Int)) (w : World) (hmod : Ints w am mn mod) (hi : Mat w a n L) :
    Calls Tryz.prog 35 #[.agg #[.int .i64 P, .int .i64 M, .slice am mn cm, .int .i64 N, .slice a n c]] w fun e w' => e = .returned (.int .i64 (codeE P M mod N L)) ∧ Below w.heap.size w w' := by
  rw [← rcodeE_eq]
  exact rCodeCheck_any P M am mn cm mod N a n c L w hmod hi hinv_all

set_option maxRecDepth 100000 in
set_option maxHeartbeats 3200000 in
theorem rSets_any (P M : Int) (am : Option Addr) (mn cm : Nat) (mod : List Int) (N : Int) (a : Option Addr) (n c : Nat) (L : List (List Int)) (sa : Option Addr) (ns cs : Nat) (S : List (List Int)) (w : World) (hmod : Ints w am mn mod) (hi : Mat w a n L) (hs : Mat w sa ns S) :
    Calls Tryz.prog 75 #[.agg #[.int .i64 P, .int .i64 M, .slice am mn cm, .int .i64 N, .slice a n c], .slice sa ns cs] w fun e w' => e = .returned (.int .i64 (setsC P M mod N L S)) ∧ Below w.heap.size w w' := by
  have Hlen := Lib.hid hs.len
  have hpl := hs.pl
  have hmax := hs.max
  unfold maxLen at hmax
  have HE : Hid (codeE P M mod N L ≠ 0 → setsC P M mod N L S = codeE P M mod N L) := fun h => by rw [setsC, if_neg h]
  have HZ : Hid (codeE P M mod N L = 0 → setsC P M mod N L S = setsE N S) := fun h => by rw [setsC, if_pos h]
  have HC0 : Hid (∀ V, Below w.heap.size w V → Calls Tryz.prog 35 #[.agg #[.int .i64 P, .int .i64 M, .slice am mn cm, .int .i64 N, .slice a n c]] V fun e w' => e = .returned (.int .i64 (codeE P M mod N L)) ∧ Below V.heap.size V w') :=
    fun V hV => rCheck_any P M am mn cm mod N a n c L V (hmod.keep hV) (hi.keep hV)
  obtain ⟨x, hx⟩ : ∃ x, codeE P M mod N L = x := ⟨_, rfl⟩
  rw [hx] at HE HZ HC0
  obtain ⟨y, hy⟩ : ∃ y, setsC P M mod N L S = y := ⟨_, rfl⟩
  rw [hy] at HE HZ ⊢
  clear hx hy hmod hi
  go_enter Tryz.func75, Tryz.ntmps75
  go_wp2_with fail
  obtain ⟨W, hW⟩ : ∃ W : World, W = w.alloc (.cells #[.int .i64 P, .int .i64 M, .slice am mn cm, .int .i64 N, .slice a n c] 27) := ⟨_, rfl⟩
  rw [← hW]
  have hbW : Below w.heap.size w W := by rw [hW]; exact below1 _ _
  have x0 : Box W w.heap.size [.int .i64 P, .int .i64 M, .slice am mn cm, .int .i64 N, .slice a n c] := by rw [hW]; exact Box.new _ _ _ rfl
  have hS : ∀ V, Below W.heap.size W V → V.cell? ⟨w.heap.size, 3, none⟩ = some (.int .i64 N) ∧ Below W.heap.size W V := fun V hV => ⟨(x0.keep hV).cell 3 rfl, hV⟩
  have HS := Lib.hid hS
  have HbW := Lib.hid hbW
  have hsW := hs.keep hbW
  have HC := Lib.hid (HC0.out W hbW)
  have c0 := x0.cell 0 rfl
  have c1 := x0.cell 1 rfl
  have c2 := x0.cell 2 rfl
  have c3 := x0.cell 3 rfl
  have c4 := x0.cell 4 rfl
  clear hW x0 hS hs HC0
  go_wp2_with fail
  refine HC.out.mono ?_
  rintro e w1 ⟨rfl, hb1⟩
  clear c0 c1 c2 c3 c4 HC
  go_wp2_with fail
  go_loopw [5, 6] (fun ev iv wr => ∃ k : Nat, k ≤ ns ∧ iv = .int .i64 k ∧ Below W.heap.size W wr ∧ ((ev = .int .i64 0 ∧ Hid (x = 0 ∧ (S.take k).all (okSet N) = true)) ∨ (ev = .int .i64 y ∧ y ≠ 0))) (fun _ iv _ => ns - (intOf iv).toNat)
  case atStart =>
    refine ⟨0, Nat.zero_le _, rfl, hb1, ?_⟩
    by_cases h0 : x = 0
    · exact .inl ⟨by rw [h0], ⟨h0, by simp⟩⟩
    · exact .inr ⟨by rw [HE.out h0], by rw [HE.out h0]; exact h0⟩
  case round =>
    obtain ⟨k, hk, rfl, hbr, ⟨rfl, hall⟩ | ⟨rfl, hne⟩⟩ := hrel
    · by_cases hlt : k < ns
      · obtain ⟨ra, rn, rc, hcell, hrow⟩ := (hsW.keep hbr).cell k hlt
        have hkS : k < S.length := by rw [Hlen.out]; exact hlt
        have Hng : Hid (nthR S k = S[k]) := nthR_getElem hkS
        obtain ⟨z, hz⟩ : ∃ z, okSet N (nthR S k) = z := ⟨_, rfl⟩
        have HR : Hid (∀ V, Below wr.heap.size wr V → Calls Tryz.prog 50 #[.slice ra rn rc, .int .i64 N] V fun e w' => e = .returned (.bool z) ∧ Below V.heap.size V w') := fun V hV => by
          refine (rising_any N ra rn rc _ V (hrow.keep hV)).mono ?_
          rintro e w' ⟨rfl, hd⟩
          exact ⟨by rw [hz], hd.below⟩
        have HS2 : Hid (∀ V, Below wr.heap.size wr V → V.cell? ⟨w.heap.size, 3, none⟩ = some (.int .i64 N) ∧ V.cell? ⟨ablk sa, aoff sa + k, none⟩ = some (.slice ra rn rc) ∧ Below wr.heap.size wr V) := fun V hV => by
          exact ⟨(HS.out V (Below.next hbr hV)).1, (hV.cell (World.block_lt_of_cell? wr _ hcell)).trans hcell, hV⟩
        have Hz : Hid (okSet N S[k] = z) := by show _ = _; rw [← Hng.out]; exact hz
        have Hbr := Lib.hid hbr
        clear hz hrow hbr Hng
        go_wp2_with fail
        cases z
        · have Hy : Hid (y = 6) := by show _ = _; rw [HZ.out hall.out.1, setsE, if_neg (by rw [all_false_at hkS Hz.out]; simp)]
          go_region_held3 (fun V => V.cell? ⟨w.heap.size, 3, none⟩ = some (.int .i64 N) ∧ V.cell? ⟨ablk sa, aoff sa + k, none⟩ = some (.slice ra rn rc) ∧ Below wr.heap.size wr V)
            ((refine HS2.out _ ?_; first | exact (Below.refl _ _).drew | (go_split_ands; exact Below.next (by assumption) (by assumption))))
            (first
              | (go_at_call 50; ((with_reducible refine (HR.out _ (by go_split_ands; assumption)).mono ?_); rintro e w6 ⟨rfl, hb6⟩)))
          all_goals (
            go_wp2_with fail
            go_roundw
            case rel => exact ⟨k + 1, by omega, by go_num, Below.next Hbr.out (by go_split_ands; assumption), .inr ⟨by rw [Hy.out], by rw [Hy.out]; omega⟩⟩
            case measure => simp [intOf] <;> omega)
        · go_region_held3 (fun V => V.cell? ⟨w.heap.size, 3, none⟩ = some (.int .i64 N) ∧ V.cell? ⟨ablk sa, aoff sa + k, none⟩ = some (.slice ra rn rc) ∧ Below wr.heap.size wr V)
            ((refine HS2.out _ ?_; first | exact (Below.refl _ _).drew | (go_split_ands; exact Below.next (by assumption) (by assumption))))
            (first
              | (go_at_call 50; ((with_reducible refine (HR.out _ (by go_split_ands; assumption)).mono ?_); rintro e w6 ⟨rfl, hb6⟩)))
          all_goals (
            go_wp2_with fail
            go_roundw
            case rel => exact ⟨k + 1, by omega, by go_num, Below.next Hbr.out (by go_split_ands; assumption), .inl ⟨rfl, ⟨hall.out.1, all_take_succ hkS hall.out.2 Hz.out⟩⟩⟩
            case measure => simp [intOf] <;> omega)
      · obtain rfl : k = ns := by omega
        have Hy : Hid (y = 0) := by
          have h := hall.out.2
          rw [List.take_of_length_le (by rw [Hlen.out]; exact Nat.le_refl _)] at h
          show _ = _; rw [HZ.out hall.out.1, setsE, if_pos h]
        have hF := Below.next HbW.out hbr
        go_wp2_with fail
        go_ret
        exact ⟨ret_int Hy.out.symm, hF⟩
    · have hne' : (y == 0) = false := by simpa using hne
      have hF := Below.next HbW.out hbr
      clear hne
      by_cases hlt : k < ns
      · go_wp2_with fail
        go_ret
        exact ⟨rfl, hF⟩
      · obtain rfl : k = ns := by omega
        go_wp2_with fail
        go_ret
        exact ⟨rfl, hF⟩
end

/- The walks of codewrightref25: info, Rank, Is. -/
section
open Go.RowKit

theorem set_in {m : Nat} {Q : List Int} (h : okSet m Q = true) : InN m Q := fun j hj => ⟨(okSet_at h hj).1, (okSet_at h hj).2.1⟩
theorem rankE_z {P M : Int} {mod : List Int} {N : Int} {L : List (List Int)} {Q : List Int} (h : rankE P M mod N L Q = 0) : codeE P M mod N L = 0 ∧ okSet N Q = true := by
  unfold rankE at h
  by_cases h1 : codeE P M mod N L = 0
  · refine ⟨h1, ?_⟩
    rw [if_pos h1, setsE_one] at h
    by_cases h2 : okSet N Q = true
    · exact h2
    · rw [if_neg h2] at h; omega
  · rw [if_neg h1] at h; exact absurd h h1
theorem isV_of {P M : Int} {mod : List Int} {N : Int} {L : List (List Int)} {Q : List Int} (h : rankE P M mod N L Q = 0) : isV P M mod N L Q = isB (tblOf P M.toNat mod).ops L Q := by
  unfold isV isB
  rw [h]
  by_cases h1 : (grS (tblOf P M.toNat mod).ops L Q).length = Q.length
  · rw [h1]; simp
  · simp [h1]
theorem isV_no {P M : Int} {mod : List Int} {N : Int} {L : List (List Int)} {Q : List Int} (h : rankE P M mod N L Q ≠ 0) : isV P M mod N L Q = false := by
  unfold isV
  rw [decide_eq_false h]; rfl

set_option maxRecDepth 100000 in
set_option maxHeartbeats 3200000 in
theorem rInfo_any (P M : Int) (am : Option Addr) (mn cm : Nat) (mod : List Int) (m : Nat) (a : Option Addr) (n c : Nat) (L : List (List Int)) (ao : Option Addr) (no co : Nat) (Q : List Int) (w : World) (hmod : Ints w am mn mod) (hi : Mat w a n L) (hq : Ints w ao no Q)
    (hE : codeE P M mod m L = 0) (hQ : InN m Q) (hno : no ≤ 1000000) :
    Calls Tryz.prog 77 #[.agg #[.int .i64 P, .int .i64 M, .slice am mn cm, .int .i64 m, .slice a n c], .slice ao no co] w fun e w' => e = .returned (.bool (isB (tblOf P M.toNat mod).ops L Q)) ∧ Below w.heap.size w w' := by
  have HO : Hid (∀ V, Below w.heap.size w V → Calls Tryz.prog 76 #[.agg #[.int .i64 P, .int .i64 M, .slice am mn cm], .slice a n c, .slice ao no co] V fun e w' => e = .returned (.int .i64 (grS (tblOf P M.toNat mod).ops L Q).length) ∧ Below V.heap.size V w') :=
    fun V hV => rOf25_any P M am mn cm mod m a n c L ao no co Q V (hmod.keep hV) (hi.keep hV) (hq.keep hV) hE hQ hno
  have HB : Hid (isB (tblOf P M.toNat mod).ops L Q = (decide (no = n) && decide ((grS (tblOf P M.toNat mod).ops L Q).length = no))) := by show _ = _; unfold isB; rw [hq.len, hi.len]
  obtain ⟨r, hr⟩ : ∃ r, (grS (tblOf P M.toNat mod).ops L Q).length = r := ⟨_, rfl⟩
  obtain ⟨z, hz⟩ : ∃ z, isB (tblOf P M.toNat mod).ops L Q = z := ⟨_, rfl⟩
  rw [hr] at HO HB
  rw [hz] at HB ⊢
  clear hr hz hmod hi hq hE hQ
  go_enter Tryz.func77, Tryz.ntmps77
  go_upto_region 1 with fail
  obtain ⟨W, hW⟩ : ∃ W : World, W = w.alloc (.cells #[.int .i64 P, .int .i64 M, .slice am mn cm, .int .i64 m, .slice a n c] 27) := ⟨_, rfl⟩
  rw [← hW]
  have hbW : Below w.heap.size w W := by rw [hW]; exact below1 _ _
  have x0 : Box W w.heap.size [.int .i64 P, .int .i64 M, .slice am mn cm, .int .i64 m, .slice a n c] := by rw [hW]; exact Box.new _ _ _ rfl
  have hS : ∀ V, Below W.heap.size W V → V.cell? ⟨w.heap.size, 0, none⟩ = some (.int .i64 P) ∧ V.cell? ⟨w.heap.size, 1, none⟩ = some (.int .i64 M) ∧ V.cell? ⟨w.heap.size, 2, none⟩ = some (.slice am mn cm) ∧ V.cell? ⟨w.heap.size, 4, none⟩ = some (.slice a n c) ∧ Below W.heap.size W V := fun V hV => by
    have x1 := x0.keep hV
    exact ⟨x1.cell 0 rfl, x1.cell 1 rfl, x1.cell 2 rfl, x1.cell 4 rfl, hV⟩
  have HS := Lib.hid hS
  have HbW := Lib.hid hbW
  clear hW x0 hS hbW
  by_cases hl : no = n
  · subst hl
    have Hz : Hid (z = decide (r = no)) := by show _ = _; rw [HB.out]; simp
    have hrr : ((r : Int) == no) = decide (r = no) := by
     by_cases h : r = no
     · simp [h]
     · simp only [h, decide_false]; simp; omega
    go_region_held3 (fun V => V.cell? ⟨w.heap.size, 0, none⟩ = some (.int .i64 P) ∧ V.cell? ⟨w.heap.size, 1, none⟩ = some (.int .i64 M) ∧ V.cell? ⟨w.heap.size, 2, none⟩ = some (.slice am mn cm) ∧ V.cell? ⟨w.heap.size, 4, none⟩ = some (.slice a no c) ∧ Below W.heap.size W V)
      ((refine HS.out _ ?_; first | exact (Below.refl _ _).drew | (go_split_ands; exact Below.next (by assumption) (by assumption))))
      (first
        | (go_at_call 76; ((with_reducible refine (HO.out _ (Below.next HbW.out (by go_split_ands; assumption))).mono ?_); rintro e w6 ⟨rfl, hb6⟩)))
    all_goals (
      go_wp2_with fail
      go_ret
      exact ⟨ret_bool (by rw [Hz.out]), Below.next HbW.out (by go_split_ands; assumption)⟩)
  · have hl1 : ((no : Int) == (n : Int)) = false := by simp; omega
    have Hz : Hid (z = false) := by show _ = _; rw [HB.out, decide_eq_false hl]; rfl
    obtain ⟨c0, c1, c2, c4, _⟩ := HS.out W (Below.refl _ _)
    clear hl
    go_quiet (fail)
    go_wp2
    go_ret
    exact ⟨ret_bool Hz.out.symm, below_drewN HbW.out _⟩

set_option maxRecDepth 100000 in
set_option maxHeartbeats 3200000 in
theorem rRank25_any (P M : Int) (am : Option Addr) (mn cm : Nat) (mod : List Int) (N : Int) (a : Option Addr) (n c : Nat) (L : List (List Int)) (ao : Option Addr) (no co : Nat) (Q : List Int) (w : World) (hmod : Ints w am mn mod) (hi : Mat w a n L) (hq : Ints w ao no Q) :
    Calls Tryz.prog 27 #[.agg #[.int .i64 P, .int .i64 M, .slice am mn cm, .int .i64 N, .slice a n c], .slice ao no co] w (RankPost P M mod N L Q w) := by
  have HS1 : Hid (∀ V b, Below w.heap.size w V → V.heap.size = b → Calls Tryz.prog 75 #[.agg #[.int .i64 P, .int .i64 M, .slice am mn cm, .int .i64 N, .slice a n c], .slice (some ⟨b, 0, none⟩) 1 1] (V.alloc (.cells #[.slice ao no co] 22)) fun e w' => e = .returned (.int .i64 (rankE P M mod N L Q)) ∧ Below V.heap.size V w') := fun V b hV hbb => by
    subst hbb
    have hb := Below.next hV (below1 V (.cells #[.slice ao no co] 22))
    refine (rSets_any P M am mn cm mod N a n c L _ 1 1 [Q] _ (hmod.keep hb) (hi.keep hb) (mat_one (c := co) V (hq.keep hV))).mono ?_
    rintro e w' ⟨rfl, h1⟩
    exact ⟨by rw [setsC_one], Below.next (below1 _ _) h1⟩
  have HO1 : Hid (rankE P M mod N L Q = 0 → ∀ V, Below w.heap.size w V → Calls Tryz.prog 76 #[.agg #[.int .i64 P, .int .i64 M, .slice am mn cm], .slice a n c, .slice ao no co] V fun e w' => e = .returned (.int .i64 (grS (tblOf P M.toNat mod).ops L Q).length) ∧ Below V.heap.size V w') := fun hz V hV => by
    obtain ⟨h1, h2⟩ := rankE_z hz
    obtain ⟨m, rfl, hm1, hm64, _, _⟩ := codeE_rws h1
    have h3 := okSet_len h2 (by omega)
    rw [hq.len] at h3
    exact rOf25_any P M am mn cm mod m a n c L ao no co Q V (hmod.keep hV) (hi.keep hV) (hq.keep hV) h1 (set_in h2) (by omega)
  obtain ⟨x, hx⟩ : ∃ x, rankE P M mod N L Q = x := ⟨_, rfl⟩
  obtain ⟨r, hr⟩ : ∃ r, (grS (tblOf P M.toNat mod).ops L Q).length = r := ⟨_, rfl⟩
  unfold RankPost
  rw [hx, hr]
  rw [hx] at HS1
  rw [hx, hr] at HO1
  clear hx hr hmod hi hq
  go_enter Tryz.func27, Tryz.ntmps27
  go_wp2_with fail
  obtain ⟨W, hW⟩ : ∃ W : World, W = w.alloc (.cells #[.int .i64 P, .int .i64 M, .slice am mn cm, .int .i64 N, .slice a n c] 27) := ⟨_, rfl⟩
  rw [← hW]
  have hbW : Below w.heap.size w W := by rw [hW]; exact below1 _ _
  have x0 : Box W w.heap.size [.int .i64 P, .int .i64 M, .slice am mn cm, .int .i64 N, .slice a n c] := by rw [hW]; exact Box.new _ _ _ rfl
  have hWs : W.heap.size = w.heap.size + 1 := by rw [hW]; simp
  have HX := Lib.hid x0
  have c0 := x0.cell 0 rfl
  have c1 := x0.cell 1 rfl
  have c2 := x0.cell 2 rfl
  have c3 := x0.cell 3 rfl
  have c4 := x0.cell 4 rfl
  clear hW x0
  refine (HS1.out W _ hbW hWs).mono ?_
  clear hWs
  rintro e w1 ⟨rfl, hb1⟩
  have x1 := HX.out.keep hb1
  have hbw1 := Below.next hbW hb1
  clear c0 c1 c2 c3 c4
  have c0 := x1.cell 0 rfl
  have c1 := x1.cell 1 rfl
  have c2 := x1.cell 2 rfl
  have c4 := x1.cell 4 rfl
  clear x1
  by_cases hz : x = 0
  · have hz' : (x != 0) = false := by simpa using hz
    have H0 := Lib.hid hz
    clear hz
    go_wp2_with fail
    refine (HO1.out H0.out w1 hbw1).mono ?_
    rintro e w2 ⟨rfl, hb2⟩
    have hbw2 := Below.next hbw1 hb2
    go_wp2_with fail
    go_ret2
    exact ⟨hbw2, .inr ⟨H0.out, rfl⟩⟩
  · have hz' : (x != 0) = true := by simpa using hz
    have H0 := Lib.hid hz
    clear hz
    go_wp2_with fail
    go_ret2
    exact ⟨hbw1, .inl ⟨H0.out, rfl⟩⟩

set_option maxRecDepth 100000 in
set_option maxHeartbeats 3200000 in
theorem rIs25_any (P M : Int) (am : Option Addr) (mn cm : Nat) (mod : List Int) (N : Int) (a : Option Addr) (n c : Nat) (L : List (List Int)) (ao : Option Addr) (no co : Nat) (Q : List Int) (w : World) (hmod : Ints w am mn mod) (hi : Mat w a n L) (hq : Ints w ao no Q) :
    Calls Tryz.prog 29 #[.agg #[.int .i64 P, .int .i64 M, .slice am mn cm, .int .i64 N, .slice a n c], .slice ao no co] w fun e w' => e = .returned (.tuple #[.bool (isV P M mod N L Q), .int .i64 (rankE P M mod N L Q)]) ∧ Below w.heap.size w w' := by
  have HS1 : Hid (∀ V b, Below w.heap.size w V → V.heap.size = b → Calls Tryz.prog 75 #[.agg #[.int .i64 P, .int .i64 M, .slice am mn cm, .int .i64 N, .slice a n c], .slice (some ⟨b, 0, none⟩) 1 1] (V.alloc (.cells #[.slice ao no co] 22)) fun e w' => e = .returned (.int .i64 (rankE P M mod N L Q)) ∧ Below V.heap.size V w') := fun V b hV hbb => by
    subst hbb
    have hb := Below.next hV (below1 V (.cells #[.slice ao no co] 22))
    refine (rSets_any P M am mn cm mod N a n c L _ 1 1 [Q] _ (hmod.keep hb) (hi.keep hb) (mat_one (c := co) V (hq.keep hV))).mono ?_
    rintro e w' ⟨rfl, h1⟩
    exact ⟨by rw [setsC_one], Below.next (below1 _ _) h1⟩
  have HO1 : Hid (rankE P M mod N L Q = 0 → ∀ V, Below w.heap.size w V → Calls Tryz.prog 77 #[.agg #[.int .i64 P, .int .i64 M, .slice am mn cm, .int .i64 N, .slice a n c], .slice ao no co] V fun e w' => e = .returned (.bool (isV P M mod N L Q)) ∧ Below V.heap.size V w') := fun hz V hV => by
    rw [isV_of hz]
    obtain ⟨h1, h2⟩ := rankE_z hz
    obtain ⟨m, rfl, hm1, hm64, _, _⟩ := codeE_rws h1
    have h3 := okSet_len h2 (by omega)
    rw [hq.len] at h3
    exact rInfo_any P M am mn cm mod m a n c L ao no co Q V (hmod.keep hV) (hi.keep hV) (hq.keep hV) h1 (set_in h2) (by omega)
  have HN : Hid (rankE P M mod N L Q ≠ 0 → isV P M mod N L Q = false) := isV_no
  obtain ⟨x, hx⟩ : ∃ x, rankE P M mod N L Q = x := ⟨_, rfl⟩
  obtain ⟨r, hr⟩ : ∃ r, isV P M mod N L Q = r := ⟨_, rfl⟩
  rw [hx, hr]
  rw [hx] at HS1
  rw [hx, hr] at HO1 HN
  clear hx hr hmod hi hq
  go_enter Tryz.func29, Tryz.ntmps29
  go_wp2_with fail
  obtain ⟨W, hW⟩ : ∃ W : World, W = w.alloc (.cells #[.int .i64 P, .int .i64 M, .slice am mn cm, .int .i64 N, .slice a n c] 27) := ⟨_, rfl⟩
  rw [← hW]
  have hbW : Below w.heap.size w W := by rw [hW]; exact below1 _ _
  have x0 : Box W w.heap.size [.int .i64 P, .int .i64 M, .slice am mn cm, .int .i64 N, .slice a n c] := by rw [hW]; exact Box.new _ _ _ rfl
  have hWs : W.heap.size = w.heap.size + 1 := by rw [hW]; simp
  have HX := Lib.hid x0
  have c0 := x0.cell 0 rfl
  have c1 := x0.cell 1 rfl
  have c2 := x0.cell 2 rfl
  have c3 := x0.cell 3 rfl
  have c4 := x0.cell 4 rfl
  clear hW x0
  refine (HS1.out W _ hbW hWs).mono ?_
  clear hWs
  rintro e w1 ⟨rfl, hb1⟩
  have x1 := HX.out.keep hb1
  have hbw1 := Below.next hbW hb1
  clear c0 c1 c2 c3 c4
  have c0 := x1.cell 0 rfl
  have c1 := x1.cell 1 rfl
  have c2 := x1.cell 2 rfl
  have c3 := x1.cell 3 rfl
  have c4 := x1.cell 4 rfl
  clear x1
  by_cases hz : x = 0
  · have hz' : (x != 0) = false := by simpa using hz
    have H0 := Lib.hid hz
    clear hz
    go_wp2_with fail
    refine (HO1.out H0.out w1 hbw1).mono ?_
    rintro e w2 ⟨rfl, hb2⟩
    have hbw2 := Below.next hbw1 hb2
    go_wp2_with fail
    go_ret2
    exact ⟨by rw [H0.out]; rfl, hbw2⟩
  · have hz' : (x != 0) = true := by simpa using hz
    have H0 : Hid (r = false) := HN.out hz
    clear hz
    go_wp2_with fail
    go_ret2
    exact ⟨by rw [H0.out]; rfl, hbw1⟩
end

/- The walk of codewrightref25.Pick. -/
section
open Go.RowKit

theorem rgTo_len (rk : List Int → Nat) (Q : List Int) (most : Nat) : ∀ k, (rgTo rk Q most k).length ≤ k
  | 0 => Nat.le_refl _
  | k + 1 => by
    have ih := rgTo_len rk Q most k
    rw [rgTo]
    split
    · rw [List.length_append]; simp; omega
    · omega
theorem rgTo_mem (rk : List Int → Nat) (Q : List Int) (most : Nat) : ∀ k, k ≤ Q.length → ∀ x ∈ rgTo rk Q most k, x ∈ Q
  | 0, _, x, hx => by simp [rgTo] at hx
  | k + 1, hk, x, hx => by
    rw [rgTo] at hx
    split at hx
    · rcases List.mem_append.1 hx with h | h
      · exact rgTo_mem rk Q most k (by omega) x h
      · rw [List.mem_singleton.1 h]; exact nth_mem (by omega)
    · exact rgTo_mem rk Q most k (by omega) x hx
theorem inN_mem {m : Nat} {Q : List Int} (h : InN m Q) {x : Int} (hx : x ∈ Q) : 0 ≤ x ∧ x < m := by
  obtain ⟨j, hj, rfl⟩ := List.mem_iff_getElem.1 hx
  rw [← nth_getElem hj]; exact h j hj
theorem inN_of {m : Nat} {Q : List Int} (h : ∀ x ∈ Q, 0 ≤ x ∧ x < (m : Int)) : InN m Q := fun j hj => h _ (nth_mem hj)

set_option maxRecDepth 100000 in
set_option maxHeartbeats 4000000 in
theorem rPick25_any (P M : Int) (am : Option Addr) (mn cm : Nat) (mod : List Int) (m : Nat) (a : Option Addr) (n c : Nat) (L : List (List Int)) (ao : Option Addr) (no co : Nat) (Q : List Int) (most : Nat) (w : World) (hmod : Ints w am mn mod) (hi : Mat w a n L) (hq : Ints w ao no Q)
    (hE : codeE P M mod m L = 0) (hQ : InN m Q) (hno : no ≤ 1000) :
    Calls Tryz.prog 81 #[.agg #[.int .i64 P, .int .i64 M, .slice am mn cm], .slice a n c, .slice ao no co, .int .i64 most] w fun e w' =>
      ∃ a1 c1, e = .returned (.slice a1 (rgTo (rkQ (tblOf P M.toNat mod).ops L) Q most no).length c1) ∧ w'.ownsRow w.heap.size 3 1 (.slice a1 (rgTo (rkQ (tblOf P M.toNat mod).ops L) Q most no).length c1) (rgTo (rkQ (tblOf P M.toNat mod).ops L) Q most no).length ((sortL (rgTo (rkQ (tblOf P M.toNat mod).ops L) Q most no)).map (Value.int .i64)) ∧ Below w.heap.size w w' := by
  have Hql := Lib.hid hq.len
  have hplo := hq.pl
  obtain ⟨rk, hrk⟩ : ∃ rk, rkQ (tblOf P M.toNat mod).ops L = rk := ⟨_, rfl⟩
  have HO : Hid (∀ V a5 c5 l, Below w.heap.size w V → V.ownsRow w.heap.size 3 1 (.slice a5 l.length c5) l.length (l.map (Value.int .i64)) → l.length ≤ 2000 → InN m l →
      Calls Tryz.prog 76 #[.agg #[.int .i64 P, .int .i64 M, .slice am mn cm], .slice a n c, .slice a5 l.length c5] V fun e w' => e = .returned (.int .i64 (rk l)) ∧ Below V.heap.size V w') := fun V a5 c5 l hV ho hl hil => by
    have h := rOf25_any P M am mn cm mod m a n c L a5 l.length c5 l V (hmod.keep hV) (hi.keep hV) (Ints.own ho).1 hE hil (by omega)
    rw [← hrk]; exact h
  rw [hrk]
  obtain ⟨G, hG⟩ : ∃ G, rgTo rk Q most = G := ⟨_, rfl⟩
  have Hgm : Hid (∀ k, k ≤ no → InN m (G k) ∧ (G k).length ≤ k) := fun k hk => by
    rw [← hG]
    exact ⟨inN_of fun x hx => inN_mem hQ (rgTo_mem rk Q most k (by rw [Hql.out]; exact hk) x hx), rgTo_len rk Q most k⟩
  have HG1 : Hid (∀ k, (G k).length < most → rk (G k ++ [nth Q k]) = (G k).length + 1 → G (k + 1) = G k ++ [nth Q k]) := fun k h1 h2 => by rw [← hG] at h1 h2 ⊢; rw [rgTo, if_pos ⟨h1, h2⟩]
  have HG2 : Hid (∀ k, rk (G k ++ [nth Q k]) ≠ (G k).length + 1 → G (k + 1) = G k) := fun k h2 => by rw [← hG] at h2 ⊢; rw [rgTo, if_neg fun h => h2 h.2]
  have HG3 : Hid (∀ k, k ≤ no → most ≤ (G k).length → G no = G k) := fun k h1 h2 => by rw [← hG] at h2 ⊢; exact rgTo_stop h1 h2
  have HG0 : Hid (G 0 = []) := by rw [← hG]; rfl
  have HQ := Lib.hid hQ
  rw [hG]
  clear hG hrk hmod hi hE hQ
  go_enter Tryz.func81, Tryz.ntmps81
  go_wp2_with fail
  obtain ⟨W, hW⟩ : ∃ W : World, W = w.alloc (.cells #[.int .i64 P, .int .i64 M, .slice am mn cm] 24) := ⟨_, rfl⟩
  rw [← hW]
  have hbW : Below w.heap.size w W := by rw [hW]; exact below1 _ _
  have x0 : Box W w.heap.size [.int .i64 P, .int .i64 M, .slice am mn cm] := by rw [hW]; exact Box.new _ _ _ rfl
  have hqW := hq.keep hbW
  have HS : Hid (∀ V, Below W.heap.size W V → V.cell? ⟨w.heap.size, 0, none⟩ = some (.int .i64 P) ∧ V.cell? ⟨w.heap.size, 1, none⟩ = some (.int .i64 M) ∧ V.cell? ⟨w.heap.size, 2, none⟩ = some (.slice am mn cm)) := fun V hV => by
    have x1 := x0.keep hV
    exact ⟨x1.cell 0 rfl, x1.cell 1 rfl, x1.cell 2 rfl⟩
  have HbW := Lib.hid hbW
  clear hW x0 hbW hq
  go_loopw [9, 10] (fun ov iv wr => ∃ (k g : Nat) (a1 : Option Addr) (c1 : Nat), k ≤ no ∧ Hid ((G k).length = g) ∧ iv = .int .i64 k ∧ ov = .slice a1 g c1 ∧ wr.ownsRow W.heap.size 3 1 (.slice a1 g c1) g ((G k).map (Value.int .i64)) ∧ Below W.heap.size W wr) (fun _ iv _ => no - (intOf iv).toNat)
  case atStart => exact ⟨0, 0, none, 0, Nat.zero_le _, by show _ = _; rw [HG0.out]; rfl, rfl, rfl, by rw [HG0.out]; exact ⟨rfl, .inl ⟨rfl, rfl⟩⟩, Below.refl _ _⟩
  case round =>
    obtain ⟨k, g, a1, c1, hk, Hgl, rfl, rfl, hown, hbr⟩ := hrel
    by_cases hcond : k < no ∧ g < most
    · obtain ⟨hlt, hgm⟩ := hcond
      have hgk : g ≤ 1000 := by have h := (Hgm.out k hk).2; rw [Hgl.out] at h; omega
      have hcx := (hqW.keep hbr).cell k hlt
      obtain ⟨z, hz⟩ : ∃ z, nth Q k = z := ⟨_, rfl⟩
      have hzm : 0 ≤ z ∧ z < m := by rw [← hz]; exact HQ.out k (by rw [Hql.out]; exact hlt)
      have hg1 := HG1.out k
      have hg2 := HG2.out k
      rw [hz] at hcx hg1 hg2
      rw [Hgl.out] at hg1 hg2
      have hin := (Hgm.out k hk).1
      have hinz : InN m (G k ++ [z]) := inN_of fun x hx => by
        rcases List.mem_append.1 hx with h | h
        · exact inN_mem hin h
        · rw [List.mem_singleton.1 h]; exact hzm
      have hpl1 := (Ints.own hown).1.pl
      have hbwr := Below.next HbW.out hbr
      have HOf : Hid (∀ V a5 c5, Below wr.heap.size wr V → V.ownsRow wr.heap.size 3 1 (.slice a5 (g + 1) c5) (g + 1) ((G k).map (Value.int .i64) ++ [.int .i64 z]) →
          Calls Tryz.prog 76 #[.agg #[.int .i64 P, .int .i64 M, .slice am mn cm], .slice a n c, .slice a5 (g + 1) c5] V fun e w' => e = .returned (.int .i64 (rk (G k ++ [z]))) ∧ Below V.heap.size V w') := fun V a5 c5 hV ho => by
        have hl : (G k ++ [z]).length = g + 1 := by rw [List.length_append, Hgl.out]; rfl
        have h1 := HO.out V a5 c5 (G k ++ [z]) (Below.next hbwr hV) (by rw [hl]; exact own_mono (by simpa using ho) (by have := hbwr.size; omega)) (by omega) hinz
        rw [hl] at h1
        exact h1
      have HS2 : Hid (∀ V, Below wr.heap.size wr V → V.cell? ⟨w.heap.size, 0, none⟩ = some (.int .i64 P) ∧ V.cell? ⟨w.heap.size, 1, none⟩ = some (.int .i64 M) ∧ V.cell? ⟨w.heap.size, 2, none⟩ = some (.slice am mn cm)) := fun V hV => HS.out V (Below.next hbr hV)
      have HS4 : Hid (∀ V, Below wr.heap.size wr V → V.cell? ⟨ablk ao, aoff ao + k, none⟩ = some (.int .i64 z) ∧ Ints V a1 g (G k) ∧ Below wr.heap.size wr V) := fun V hV => by
        refine ⟨?_, (Ints.own (own_keep hown hV)).1, hV⟩
        have h := ((hqW.keep hbr).keep hV).cell k hlt
        rwa [hz] at h
      have Hbr := Lib.hid hbr
      have Hown := Lib.hid hown
      have hGl := Hgl.out
      have Hg1 := Lib.hid hg1
      have Hg2 := Lib.hid hg2
      obtain ⟨Gk, hGk⟩ : ∃ Gk, G k = Gk := ⟨_, rfl⟩
      rw [hGk] at HOf HS4 Hown hGl Hg1 Hg2 hinz hin Hgl
      obtain ⟨r, hr⟩ : ∃ r, rk (Gk ++ [z]) = r := ⟨_, rfl⟩
      rw [hr] at HOf Hg1 Hg2
      have HGk := Lib.hid hGk
      clear hr hz hcx hown hbr hg1 hg2 hin hinz hGk hbwr hzm
      go_wp2_with fail
      go_cut [11] (fun v wx => ∃ a5 c5, v = .slice a5 (g + 1) c5 ∧ wx.ownsRow wr.heap.size 3 1 (.slice a5 (g + 1) c5) (g + 1) (Gk.map (Value.int .i64) ++ [.int .i64 z]) ∧ Below wr.heap.size wr wx)
      case first =>
        have hO := own_emp wr 3
        have hO2 : ((wr.alloc (.cells #[.int .i64 z] 3)).alloc (.cells #[] 3)).ownsRow wr.heap.size 3 1 (.slice (some ⟨wr.heap.size + 1, 0, none⟩) 0 0) 0 [] := by
          have h := own_mono (own_emp (wr.alloc (.cells #[.int .i64 z] 3)) 3) (B' := wr.heap.size) (by simp)
          rwa [World.size_alloc] at h
        go_region_held3 (fun V => V.cell? ⟨ablk ao, aoff ao + k, none⟩ = some (.int .i64 z) ∧ Ints V a1 g Gk ∧ Below wr.heap.size wr V)
          ((refine HS4.out _ ?_; first | exact (Below.refl _ _).drew | exact hb5 | exact Below.next hb5 hb6 | exact hb4 | exact Below.allocN hb4 _ | exact ((Below.refl _ _).alloc (Nat.le_refl _) _).drew | (go_split_ands; exact Below.allocN (by assumption) _)))
          (first
            | (obtain ⟨_, hI9, hB9⟩ := (by assumption : _ ∧ Ints _ a1 g Gk ∧ Below wr.heap.size wr _); refine step_appAll (by rfl) (.tmp 24) (.tmp 25) 22 3 (by rfl) (.int .i64 0) 8 Tryz.underlying22 infoInt (by rfl) wr.heap.size _ 0 0 [] (by rfl) (by first | exact hO | exact hO.alloc _ | exact hO2) a1 g c1 (Gk.map (Value.int .i64)) (by rfl) hpl1 (by simp [hGl]) (Ints.news hI9) (ints_oneCell _ _) (by omega) (by unfold maxLen; omega) (Below.size hB9) ?_; intro a4 c4 w4 hown4 hgr4 hap4; have hb4 : Below wr.heap.size wr w4 := Below.app (B := wr.heap.size) (e := 3) (xs := []) hB9 (by first | exact hO | exact hO.alloc _ | exact hO2) hgr4 (Nat.le_refl _) (Below.size hB9); rw [Nat.zero_add] at hown4 ⊢; rw [List.nil_append] at hown4; (first | (have hc4 := cell_grownApt (ad := ⟨wr.heap.size + 1, 0, none⟩) (v := .int .i64 z) hgr4 (cell_new' _ _ _ (by simp)) (.inr (by simp))) | (have hc4 := cell_grownApt (ad := ⟨wr.heap.size, 0, none⟩) (v := .int .i64 z) hgr4 (cell_box (cell_new' _ _ _ rfl) _) (.inr (by simp))) | skip))
            | (refine step_appAll (by rfl) (.tmp 26) (.tmp 31) 22 3 (by rfl) (.int .i64 0) 8 Tryz.underlying22 infoInt (by rfl) wr.heap.size a4 g c4 (Gk.map (Value.int .i64)) (by rfl) (by first | exact hown4 | exact hown4.alloc _) _ 1 1 [.int .i64 z] (by rfl) (fun _ => rfl) rfl (by intro j hj; obtain rfl : j = 0 := (by omega); first | exact cell_new' _ _ _ rfl | exact hc4) (by intro y hy; simp at hy; subst hy; rfl) (by omega) (by unfold maxLen; omega) (by first | exact hb4.size | exact (Below.allocN hb4 _).size) ?_; intro a5 c5 w5 hown5 hgr5 hap5; have hb5 : Below wr.heap.size wr w5 := (by first | exact Below.app (Below.allocN hb4 _) (hown4.alloc _) hgr5 (Nat.le_refl _) (Below.allocN hb4 _).size | exact Below.app hb4 hown4 hgr5 (Nat.le_refl _) hb4.size)))
        all_goals (go_wp2_with fail; go_meet; exact ⟨a5, c5, rfl, hown5, hb5⟩)
      obtain ⟨a5, c5, rfl, hown5, hb5⟩ := hcut
      generalize wc = V at *
      obtain ⟨q0, q1, q2⟩ := HS2.out V hb5
      have HOf2 := Lib.hid (HOf.out V a5 c5 hb5 hown5)
      have H5 := Lib.hid (And.intro hown5 hb5)
      clear hown5 hb5 HOf
      go_wp2_with fail
      refine HOf2.out.mono ?_
      rintro e w6 ⟨rfl, hb6⟩
      clear q0 q1 q2 HOf2
      have hbw6 := Below.next Hbr.out (Below.next H5.out.2 hb6)
      by_cases hr : r = g + 1
      · have hrr : ((r : Int) == (g : Int) + 1) = true := by rw [hr]; simp
        have HGn : Hid (G (k + 1) = Gk ++ [z]) := Hg1.out hgm hr
        clear hr
        go_wp2_with fail
        go_roundw
        case rel => exact ⟨k + 1, g + 1, a5, c5, by omega, by show _ = _; rw [HGn.out, List.length_append, hGl]; rfl, by go_num, rfl, by rw [HGn.out]; exact own_mono (own_keep (by simpa using H5.out.1) hb6) (Hbr.out.size), hbw6⟩
        case measure => simp [intOf] <;> omega
      · have hrr : ((r : Int) == (g : Int) + 1) = false := by simp; omega
        have HGn : Hid (G (k + 1) = Gk) := Hg2.out hr
        clear hr
        go_wp2_with fail
        go_roundw
        case rel => exact ⟨k + 1, g, a1, c1, by omega, by show _ = _; rw [HGn.out]; exact hGl, by go_num, rfl, by rw [HGn.out]; exact own_keep Hown.out (Below.next H5.out.2 hb6), hbw6⟩
        case measure => simp [intOf] <;> omega
    · have HGe : Hid (G no = G k) := by
        show _ = _
        by_cases hlt : k < no
        · exact HG3.out k hk (by rw [Hgl.out]; omega)
        · obtain rfl : k = no := by omega
          rfl
      have hgk : g ≤ 1000 := by have h := (Hgm.out k hk).2; rw [Hgl.out] at h; omega
      have hbwr := Below.next HbW.out hbr
      have Hso := Lib.hid (sorted25_any a1 g c1 (G k) wr (Ints.own hown).1 (by omega))
      have hsz := hbwr.size
      have Hbr := Lib.hid hbwr
      clear hown hbr hbwr
      by_cases hlt : k < no
      · have hgm : ¬ g < most := fun h => hcond ⟨hlt, h⟩
        clear hcond
        go_wp2_with fail
        refine Hso.out.mono ?_
        rintro e w7 ⟨a7, c7, rfl, hown7, hb7⟩
        have hF := Below.next Hbr.out hb7
        have hown8 := own_mono hown7 hsz
        clear hown7
        have HF := Lib.hid (And.intro hown8 hF)
        clear hown8 hF
        go_wp2_with fail
        go_ret
        rw [HGe.out, Hgl.out]
        exact ⟨a7, c7, rfl, HF.out.1, HF.out.2⟩
      · obtain rfl : k = no := by omega
        clear hcond
        go_wp2_with fail
        refine Hso.out.mono ?_
        rintro e w7 ⟨a7, c7, rfl, hown7, hb7⟩
        have hF := Below.next Hbr.out hb7
        have hown8 := own_mono hown7 hsz
        clear hown7
        have HF := Lib.hid (And.intro hown8 hF)
        clear hown8 hF
        go_wp2_with fail
        go_ret
        rw [Hgl.out]
        exact ⟨a7, c7, rfl, HF.out.1, HF.out.2⟩
end

/- The walk of codewrightref25.Greedy. -/
section
open Go.RowKit

theorem greE_z {P M : Int} {mod : List Int} {N : Int} {L : List (List Int)} {Q : List Int} (h : greE P M mod N L Q = 0) : ∃ m : Nat, N = m ∧ m ≤ 64 ∧ codeE P M mod m L = 0 ∧ InN m Q ∧ Q.length ≤ m := by
  obtain ⟨h1, h2⟩ := rankE_z h
  obtain ⟨m, rfl, hm1, hm64, _, _⟩ := codeE_rws h1
  have h3 := okSet_len h2 (by omega)
  rw [sortL_len] at h3
  exact ⟨m, rfl, hm64, h1, okSet_mem h2, by omega⟩
theorem gre_rg {P M : Int} {mod : List Int} {m : Nat} {L : List (List Int)} {Q : List Int} (hE : codeE P M mod m L = 0) (hQ : Q.length ≤ m) : rgTo (rkQ (tblOf P M.toNat mod).ops L) Q m Q.length = grS (tblOf P M.toNat mod).ops L Q := by
  obtain ⟨N', em, hm1, hm64, F, hR⟩ := codeE_fld hE
  exact gr_rg F hR Q (fun k hk => by have := grTo_len (tblOf P M.toNat mod).ops L Q k; omega) _ (Nat.le_refl _)

set_option maxRecDepth 100000 in
set_option maxHeartbeats 3200000 in
theorem rGreedy25_any (P M : Int) (am : Option Addr) (mn cm : Nat) (mod : List Int) (N : Int) (a : Option Addr) (n c : Nat) (L : List (List Int)) (ao : Option Addr) (no co : Nat) (Q : List Int) (w : World) (hmod : Ints w am mn mod) (hi : Mat w a n L) (hq : Ints w ao no Q) (hno : no ≤ 1000000) :
    Calls Tryz.prog 31 #[.agg #[.int .i64 P, .int .i64 M, .slice am mn cm, .int .i64 N, .slice a n c], .slice ao no co] w (GrePost P M mod N L Q w) := by
  have HSo : Hid (∀ V, Below w.heap.size w V → Calls Tryz.prog 38 #[.slice ao no co] V fun e w' => Below V.heap.size V w' ∧ ∃ a1 c1, e = .returned (.slice a1 no c1) ∧ Ints w' a1 no (sortL Q)) := fun V hV => by
    refine (sorted25_any ao no co Q V (hq.keep hV) hno).mono ?_
    rintro e w' ⟨a1, c1, rfl, hown, hb⟩
    exact ⟨hb, a1, c1, rfl, (Ints.own hown).1⟩
  have HS1 : Hid (∀ V a1 c1, Below w.heap.size w V → Ints V a1 no (sortL Q) → Calls Tryz.prog 75 #[.agg #[.int .i64 P, .int .i64 M, .slice am mn cm, .int .i64 N, .slice a n c], .slice (some ⟨V.heap.size, 0, none⟩) 1 1] (V.alloc (.cells #[.slice a1 no c1] 22)) fun e w' => e = .returned (.int .i64 (greE P M mod N L Q)) ∧ Below V.heap.size V w') := fun V a1 c1 hV h1 => by
    have hb := Below.next hV (below1 V (.cells #[.slice a1 no c1] 22))
    refine (rSets_any P M am mn cm mod N a n c L _ 1 1 [sortL Q] _ (hmod.keep hb) (hi.keep hb) (mat_one (c := c1) V h1)).mono ?_
    rintro e w' ⟨rfl, h1⟩
    exact ⟨rfl, Below.next (below1 _ _) h1⟩
  have HO1 : Hid (greE P M mod N L Q = 0 → ∀ V, Below w.heap.size w V → Calls Tryz.prog 81 #[.agg #[.int .i64 P, .int .i64 M, .slice am mn cm], .slice a n c, .slice ao no co, .int .i64 N] V fun e w' =>
      ∃ a1 c1, e = .returned (.slice a1 (grS (tblOf P M.toNat mod).ops L Q).length c1) ∧ w'.ownsRow V.heap.size 3 1 (.slice a1 (grS (tblOf P M.toNat mod).ops L Q).length c1) (grS (tblOf P M.toNat mod).ops L Q).length ((sortL (grS (tblOf P M.toNat mod).ops L Q)).map (Value.int .i64)) ∧ Below V.heap.size V w') := fun hz V hV => by
    obtain ⟨m, rfl, hm64, hE, hQ, hl⟩ := greE_z hz
    have h := rPick25_any P M am mn cm mod m a n c L ao no co Q m V (hmod.keep hV) (hi.keep hV) (hq.keep hV) hE hQ (by rw [← hq.len]; omega)
    rw [← hq.len, gre_rg hE hl, hq.len] at h
    exact h
  unfold GrePost
  obtain ⟨x, hx⟩ : ∃ x, greE P M mod N L Q = x := ⟨_, rfl⟩
  obtain ⟨r, hr⟩ : ∃ r, grS (tblOf P M.toNat mod).ops L Q = r := ⟨_, rfl⟩
  rw [hx, hr]
  rw [hx] at HS1
  rw [hx, hr] at HO1
  clear hx hr hmod hi hq
  go_enter Tryz.func31, Tryz.ntmps31
  go_upto_region 1 with fail
  obtain ⟨W, hW⟩ : ∃ W : World, W = w.alloc (.cells #[.int .i64 P, .int .i64 M, .slice am mn cm, .int .i64 N, .slice a n c] 27) := ⟨_, rfl⟩
  rw [← hW]
  have hbW : Below w.heap.size w W := by rw [hW]; exact below1 _ _
  have x0 : Box W w.heap.size [.int .i64 P, .int .i64 M, .slice am mn cm, .int .i64 N, .slice a n c] := by rw [hW]; exact Box.new _ _ _ rfl
  have HbW := Lib.hid hbW
  have HS : Hid (∀ V, Below W.heap.size W V → V.cell? ⟨w.heap.size, 0, none⟩ = some (.int .i64 P) ∧ V.cell? ⟨w.heap.size, 1, none⟩ = some (.int .i64 M) ∧ V.cell? ⟨w.heap.size, 2, none⟩ = some (.slice am mn cm) ∧ V.cell? ⟨w.heap.size, 3, none⟩ = some (.int .i64 N) ∧ V.cell? ⟨w.heap.size, 4, none⟩ = some (.slice a n c) ∧ Below W.heap.size W V) := fun V hV => by
    have x1 := x0.keep hV
    exact ⟨x1.cell 0 rfl, x1.cell 1 rfl, x1.cell 2 rfl, x1.cell 3 rfl, x1.cell 4 rfl, hV⟩
  clear hW x0 hbW
  go_cut [6] (fun v wx => v = .int .i64 x ∧ Below W.heap.size W wx)
  case first =>
    go_region_held3 (fun V => V.cell? ⟨w.heap.size, 0, none⟩ = some (.int .i64 P) ∧ V.cell? ⟨w.heap.size, 1, none⟩ = some (.int .i64 M) ∧ V.cell? ⟨w.heap.size, 2, none⟩ = some (.slice am mn cm) ∧ V.cell? ⟨w.heap.size, 3, none⟩ = some (.int .i64 N) ∧ V.cell? ⟨w.heap.size, 4, none⟩ = some (.slice a n c) ∧ Below W.heap.size W V)
      ((refine HS.out _ ?_; first | exact (Below.refl _ _).drew | (go_split_ands; exact Below.next (by assumption) (by assumption)) | (go_split_ands; exact Below.next hb7 (below1 _ _)) | exact Below.next hb7 hb8))
      (first
        | (go_at_call 38; ((with_reducible refine (HSo.out _ (Below.next HbW.out (by go_split_ands; assumption))).mono ?_); rintro e w6 ⟨hb6, a6, c6, rfl, hI6⟩; have hb7 : Below W.heap.size W w6 := (by go_split_ands; exact Below.next (by assumption) hb6); have Hr2 := Lib.hid (HS1.out w6 a6 c6 (Below.next HbW.out hb7) hI6); clear hI6))
        | (go_at_call 75; ((with_reducible refine (Hr2.out).mono ?_); rintro e w8 ⟨rfl, hb8⟩)))
    all_goals (go_wp2_with fail; go_meet; exact ⟨rfl, Below.next hb7 hb8⟩)
  obtain ⟨rfl, hb1⟩ := hcut
  generalize wc = w1 at *
  obtain ⟨c0, c1, c2, c3, c4, _⟩ := HS.out w1 hb1
  have hbw1 := Below.next HbW.out hb1
  by_cases hz : x = 0
  · have hz' : (x != 0) = false := by simpa using hz
    have H0 := Lib.hid hz
    clear hz
    go_wp2_with fail
    refine (HO1.out H0.out w1 hbw1).mono ?_
    rintro e w2 ⟨a2, c2', rfl, hown2, hb2⟩
    have hbw2 := Below.next hbw1 hb2
    have hown3 := own_mono hown2 hbw1.size
    have HF := Lib.hid (And.intro hown3 hbw2)
    clear hown2 hown3 hbw2 c0 c1 c2 c3 c4
    go_wp2_with fail
    go_ret2
    exact ⟨HF.out.2, .inr ⟨H0.out, a2, c2', rfl, HF.out.1⟩⟩
  · have hz' : (x != 0) = true := by simpa using hz
    have H0 := Lib.hid hz
    clear hz
    go_wp2_with fail
    go_ret2
    exact ⟨hbw1, .inl ⟨H0.out, rfl⟩⟩
end

end Go.Proofs.YtakmnncmeefceaaGreat
