/- The walk of codewrightref25.sets. -/
import Derived.Test.YtapjcccpokhhhaaGreatG22
import Derived.Test.YtapjcccpokhhhaaGreatG21
import Derived.Test.YtapjcccpokhhhaaGreatG23
import Derived.Test.YtapjcccpokhhhaaGreatG17
import Derived.Test.YtapjcccpokhhhaaGreatG20
namespace Go.Proofs.YtapjcccpokhhhaaGreat
set_option linter.unusedVariables false
set_option linter.unusedSimpArgs false
set_option linter.unusedSectionVars false

/- The walks of the references: Keep of layer 13, Of of layer 25. -/
section
open Go.RowKit

set_option maxRecDepth 100000 in
set_option maxHeartbeats 4000000 in
theorem rKeep_any (m : Nat) (a : Option Addr) (n c : Nat) (L : List (List Int)) (ao : Option Addr) (no co : Nat) (Q : List Int) (w : World) (hi : Mat w a n L) (hq : Ints w ao no Q) (hL : ∀ r ∈ L, r.length = m) (hQ : InN m Q) (hn : n ≤ 1000000) (hno : no ≤ 1000000) :
    Calls Tryz.prog 39 #[.slice a n c, .slice ao no co] w fun e w' => ∃ a1 c1 R, e = .returned (.slice a1 n c1) ∧ OMat w' w.heap.size a1 n c1 R (L.map (pickL Q)) ∧ Below w.heap.size w w' := by
  have Hlen := Lib.hid hi.len
  have hpla := hi.pl
  have HLl := Lib.hid hL
  have HQ := Lib.hid hQ
  obtain ⟨L2, hL2⟩ : ∃ L2, L.map (pickL Q) = L2 := ⟨_, rfl⟩
  have hl2 : L2.length = n := by rw [← hL2, List.length_map]; exact Hlen.out
  have Hl2 := Lib.hid hl2
  have HLk : Hid (∀ k, k < n → nthR L2 k = pickL Q (nthR L k)) := fun k hk => by rw [← hL2]; exact nthR_map _ L (by rw [Hlen.out]; exact hk)
  rw [hL2]
  clear hL2 hl2 hL hQ
  go_enter Tryz.func39, Tryz.ntmps39
  go_wp2_with fail
  go_loopw [5, 6] (fun sv iv wr => ∃ (k : Nat) (a1 : Option Addr) (c1 : Nat), k ≤ n ∧ iv = .int .i64 k ∧ sv = .slice a1 k c1 ∧ (∃ R, OMat wr w.heap.size a1 k c1 R (L2.take k)) ∧ Below w.heap.size w wr) (fun _ iv _ => n - (intOf iv).toNat)
  case atStart => exact ⟨0, none, 0, Nat.zero_le _, rfl, rfl, ⟨[], by simpa using OMat.empty w w.heap.size⟩, Below.refl _ _⟩
  case round =>
    obtain ⟨k, a1, c1, hk, rfl, rfl, ⟨R, hO⟩, hbr⟩ := hrel
    by_cases hlt : k < n
    · obtain ⟨ra, rn, rc, hcell, hrow⟩ := (hi.keep hbr).cell k hlt
      have hkL : k < L.length := by rw [Hlen.out]; exact hlt
      have hrl : rn = m := by rw [← hrow.len, nthR_getElem hkL]; exact HLl.out _ (List.getElem_mem hkL)
      have Htk : Hid (L2.take (k + 1) = L2.take k ++ [pickL Q (nthR L k)]) := by show _ = _; rw [List.take_succ_eq_append_getElem (by rw [Hl2.out]; exact hlt), ← HLk.out k hlt, nthR_getElem (by rw [Hl2.out]; exact hlt)]
      obtain ⟨l, hl⟩ : ∃ l, nthR L k = l := ⟨_, rfl⟩
      rw [hl] at Htk hrow
      have hpk := rPick_any ra rn rc l ao no co Q wr hrow (hq.keep hbr) (by rw [hrl]; exact HQ.out) hno
      have hsz := hbr.size
      clear hl hrl
      go_wp2_with fail
      refine hpk.mono ?_
      rintro e w3 ⟨a3, c3, rfl, hown3, hb3⟩
      have hO3 := hO.keep (Below.next hb3 (below1 w3 (.cells #[.slice a3 (pickL Q l).length c3] 22)))
      have hs3 : w.heap.size ≤ (w3.alloc (.cells #[.slice a3 (pickL Q l).length c3] 22)).heap.size := by have h1 := hb3.size; simp; omega
      clear hpk
      go_wp2_with (at_builtin; refine wpList_push rfl _ _ 25 22 rfl (.slice none 0 0) 24 Tryz.underlying25 infoInts rfl w.heap.size a1 k c1 _ rfl hO3.own ⟨w3.heap.size, 0, none⟩ 1 (.slice a3 (pickL Q l).length c3) rfl (cell_new w3 _ _) rfl (by omega) (by unfold maxLen; omega) hs3 ?_; intro a5 c5 w5 hown5 hgr5 hap5)
      go_roundw
      case rel =>
        have hb4 : Below wr.heap.size wr (w3.alloc (.cells #[.slice a3 (pickL Q l).length c3] 22)) := Below.next hb3 (below1 _ _)
        have hown4 : (w3.alloc (.cells #[.slice a3 (pickL Q l).length c3] 22)).ownsRow w.heap.size 3 1 (.slice a3 (pickL Q l).length c3) (pickL Q l).length ((pickL Q l).map (Value.int .i64)) :=
          own_mono (own_keep hown3 (below1 _ _)) hsz
        have hra : a3 ≠ none → ¬ OIn a1 R (ablk a3) := fun h0 hI => by
          have h1 := (own_ne hown3 h0).1
          have h2 := (hO.lt _ hI).2
          omega
        have hP := OMat.push hO3 hown4 hra hown5 hgr5 hap5
        have hb5 : Below w.heap.size w w5 := Below.app (Below.next hbr hb4) hO3.own hgr5 (Nat.le_refl _) (Nat.le_trans hsz hb4.size)
        exact ⟨k + 1, a5, c5, by omega, by go_num, rfl, ⟨_, by rw [Htk.out]; exact hP⟩, hb5⟩
      case measure => simp [intOf] <;> omega
    · obtain rfl : k = n := by omega
      rw [List.take_of_length_le (by rw [Hl2.out]; exact Nat.le_refl _)] at hO
      have HO := Lib.hid hO
      clear hO
      go_wp2_with fail
      go_ret
      exact ⟨a1, c1, R, rfl, HO.out, hbr⟩

set_option maxRecDepth 100000 in
set_option maxHeartbeats 4000000 in
theorem rOf25_any (P M : Int) (am : Option Addr) (mn cm : Nat) (mod : List Int) (m : Nat) (a : Option Addr) (n c : Nat) (L : List (List Int)) (ao : Option Addr) (no co : Nat) (Q : List Int) (w : World) (hmod : Ints w am mn mod) (hi : Mat w a n L) (hq : Ints w ao no Q)
    (hE : codeE P M mod m L = 0) (hQ : InN m Q) (hno : no ≤ 1000000) :
    Calls Tryz.prog 122 #[.agg #[.int .i64 P, .int .i64 M, .slice am mn cm], .slice a n c, .slice ao no co] w fun e w' => e = .returned (.int .i64 (grS (tblOf P M.toNat mod).ops L Q).length) ∧ Below w.heap.size w w' := by
  have hql := hq.len
  obtain ⟨N', em, hm1, hm64, F, hR⟩ := codeE_fld hE
  obtain rfl : m = N' := by omega
  have hn : n ≤ 256 := by rw [← hi.len]; exact (codeE_rws hE).choose_spec.2.2.2.1
  have hB := (codeE_zero hE).1
  have hinv := hinv_all (P := P) (M := M) (mod := mod) (by rw [fieldRB_eq]; exact hB)
  have hgr := elim_gr F hR hQ
  have hpr := pick_rws hR hQ
  rw [hql] at hgr hpr
  obtain ⟨k, rfl, hel, _, hF, hA, _⟩ := eq_ops hB
  obtain ⟨k', e2, hrf, hmods⟩ := fieldRB_rf (by rw [fieldRB_eq]; exact hB)
  obtain rfl : k = k' := by omega
  rw [Int.toNat_natCast] at hgr hpr hinv hR ⊢
  have hag := (elimTo_agr hA hF.cl (by rw [hel]; exact hpr) no (Nat.le_refl _)).1
  rw [hag] at hgr
  rw [← hel] at hpr
  have HKp : Hid (∀ V, Below w.heap.size w V → Calls Tryz.prog 39 #[.slice a n c, .slice ao no co] V fun e w' => Below V.heap.size V w' ∧ ∃ a1 c1, e = .returned (.slice a1 n c1) ∧ Mat w' a1 n (L.map (pickL Q))) := fun V hV => by
    refine (rKeep_any m a n c L ao no co Q V (hi.keep hV) (hq.keep hV) (fun r hr => (hR r hr).1) hQ (by omega) hno).mono ?_
    rintro e w' ⟨a1, c1, R, rfl, hO, hb⟩
    exact ⟨hb, a1, c1, rfl, hO.mat⟩
  have HCn : Hid (∀ V a1 c1, Below w.heap.size w V → Mat V a1 n (L.map (pickL Q)) → ∀ V2, Below V.heap.size V V2 → Calls Tryz.prog 134 #[.agg #[.int .i64 P, .int .i64 k, .slice am mn cm], .slice a1 n c1, .int .i64 no] V2 fun e w' =>
      Below V2.heap.size V2 w' ∧ ∃ v ap cp, e = .returned (.tuple #[v, .slice ap (grS (tblOf P k mod).ops L Q).length cp])) := fun V a1 c1 hV hM V2 hV2 => by
    refine (rCanon_any P k am mn cm mod a1 n c1 no (L.map (pickL Q)) V2 ⟨hrf, hmods V2 am mn (hmod.keep (Below.next hV hV2))⟩ (hM.keep hV2) hpr hno (by omega) hinv).mono ?_
    rintro e w' ⟨a4, c4, ap, cp, rfl, _, _, hb⟩
    exact ⟨hb, _, ap, cp, by rw [← hgr]⟩
  obtain ⟨r, hr⟩ : ∃ r, (grS (tblOf P k mod).ops L Q).length = r := ⟨_, rfl⟩
  rw [hr] at HCn ⊢
  clear hE em F hR hB hinv hgr hpr hel hF hA e2 hrf hmods hag hr hQ hql hmod hi hq
  go_enter Tryz.func122, Tryz.ntmps122
  go_upto_region 1 with fail
  obtain ⟨W, hW⟩ : ∃ W : World, W = w.alloc (.cells #[.int .i64 P, .int .i64 k, .slice am mn cm] 24) := ⟨_, rfl⟩
  rw [← hW]
  have hbW : Below w.heap.size w W := by rw [hW]; exact below1 _ _
  have x0 : Box W w.heap.size [.int .i64 P, .int .i64 k, .slice am mn cm] := by rw [hW]; exact Box.new _ _ _ rfl
  have hS : ∀ V, Below W.heap.size W V → V.cell? ⟨w.heap.size, 0, none⟩ = some (.int .i64 P) ∧ V.cell? ⟨w.heap.size, 1, none⟩ = some (.int .i64 k) ∧ V.cell? ⟨w.heap.size, 2, none⟩ = some (.slice am mn cm) ∧ Below W.heap.size W V := fun V hV => by
    have x1 := x0.keep hV
    exact ⟨x1.cell 0 rfl, x1.cell 1 rfl, x1.cell 2 rfl, hV⟩
  have HS := Lib.hid hS
  have HbW := Lib.hid hbW
  clear hW x0 hS hbW
  go_region_held3 (fun V => V.cell? ⟨w.heap.size, 0, none⟩ = some (.int .i64 P) ∧ V.cell? ⟨w.heap.size, 1, none⟩ = some (.int .i64 k) ∧ V.cell? ⟨w.heap.size, 2, none⟩ = some (.slice am mn cm) ∧ Below W.heap.size W V)
    ((refine HS.out _ ?_; first | exact (Below.refl _ _).drew | (go_split_ands; exact Below.next (by assumption) (by assumption))))
    (first
      | (go_at_call 39; ((with_reducible refine (HKp.out _ (Below.next HbW.out (by go_split_ands; assumption))).mono ?_); rintro e w6 ⟨hb6, a6, c6, rfl, hM6⟩; have hb7 : Below W.heap.size W w6 := (by go_split_ands; exact Below.next (by assumption) hb6); have Hr2 := Lib.hid (HCn.out w6 a6 c6 (Below.next HbW.out hb7) hM6); clear hM6))
      | (go_at_call 134; ((with_reducible refine (Hr2.out _ (by first | exact Below.refl _ _ | exact hb4)).mono ?_); rintro e w8 ⟨hb8, v8, ap8, cp8, rfl⟩)))
  all_goals (
    go_wp2_with fail
    go_ret
    exact ⟨rfl, Below.next HbW.out (by go_split_ands; assumption)⟩)
end

/- The walks of codewrightref09: Unit, square, Rank. -/
section
open Go.RowKit

set_option maxRecDepth 100000 in
set_option maxHeartbeats 3200000 in
theorem rUnit09_any (k : Nat) (w : World) (hk1000 : k ≤ 1000) :
    Calls Tryz.prog 40 #[.int .i64 k] w fun e w' => ∃ a1 c1 R, e = .returned (.slice a1 k c1) ∧ OMat w' w.heap.size a1 k c1 R (unitL k) ∧ Below w.heap.size w w' := by
  go_enter Tryz.func40, Tryz.ntmps40
  go_wp2_with fail
  go_loopw [3, 4] (fun ov iv wr => ∃ (i : Nat) (a1 : Option Addr) (c1 : Nat), i ≤ k ∧ iv = .int .i64 i ∧ ov = .slice a1 i c1 ∧ (∃ R, OMat wr w.heap.size a1 i c1 R ((unitL k).take i)) ∧ Below w.heap.size w wr) (fun _ iv _ => k - (intOf iv).toNat)
  case atStart => exact ⟨0, none, 0, Nat.zero_le _, rfl, rfl, ⟨[], by simpa using OMat.empty w w.heap.size⟩, Below.refl _ _⟩
  case round =>
    obtain ⟨i, a1, c1, hi, rfl, rfl, ⟨R, hO⟩, hbr⟩ := hrel
    by_cases hlt : i < k
    · have Htk : Hid ((unitL k).take (i + 1) = (unitL k).take i ++ [unitR k i]) := by
        show _ = _
        rw [List.take_succ_eq_append_getElem (by rw [unitL_len]; exact hlt), ← nthR_getElem (by rw [unitL_len]; exact hlt), nthR_unit hlt]
      have hsz := hbr.size
      have hlt2 : (i : Int) < k := by omega
      go_upto_region 7 with (at_make; refine wpList_mk rfl _ _ 22 3 rfl (.int .i64 0) 8 Tryz.underlying22 infoInt rfl k rfl rfl (by omega) (by unfold maxLen; omega) ?_; intro a5 w5 hown5 hbel5 hge5 hlt5; have hown6 : w5.ownsRow wr.heap.size 3 1 (.slice a5 k k) k ((List.replicate k (0 : Int)).map (Value.int .i64)) := (by rw [List.map_replicate]; exact hown5); obtain ⟨hints, hmine⟩ := Ints.own hown6; have hpl5 := hints.pl; have cz := hints.cell i hlt; have fz := (hmine (by omega)).2 i hlt; have hBz := (hmine (by omega)).1)
      have hown7 := own_set hown6 i hlt (.int .i64 1)
      rw [← List.map_set] at hown7
      have hbY := hbel5.setCell (p := ⟨ablk a5, aoff a5 + i, none⟩) hBz (.int .i64 1)
      obtain ⟨Y, hY⟩ : ∃ Y, w5.setCell ⟨ablk a5, aoff a5 + i, none⟩ (.int .i64 1) = Y := ⟨_, rfl⟩
      rw [hY] at hown7 hbY ⊢
      have hown8 : Y.ownsRow wr.heap.size 3 1 (.slice a5 (unitR k i).length k) (unitR k i).length ((unitR k i).map (Value.int .i64)) := by rw [unitR_len]; exact hown7
      have hul := unitR_len k i
      clear hY hown5 hown6 hints hmine cz fz hBz hown7 hbel5 hge5 hlt5 hpl5
      have hO3 := hO.keep (Below.next hbY (below1 Y (.cells #[.slice a5 k k] 22)))
      have hs3 : w.heap.size ≤ (Y.alloc (.cells #[.slice a5 k k] 22)).heap.size := by have h1 := hbY.size; simp; omega
      go_wp2_with (at_builtin; refine wpList_push rfl _ _ 25 22 rfl (.slice none 0 0) 24 Tryz.underlying25 infoInts rfl w.heap.size a1 i c1 _ rfl hO3.own ⟨Y.heap.size, 0, none⟩ 1 (.slice a5 k k) rfl (cell_new Y _ _) rfl (by omega) (by unfold maxLen; omega) hs3 ?_; intro a6 c6 w6 hown6 hgr6 hap6)
      go_roundw
      case rel =>
        have hb4 : Below wr.heap.size wr (Y.alloc (.cells #[.slice a5 k k] 22)) := Below.next hbY (below1 _ _)
        have hown4 : (Y.alloc (.cells #[.slice a5 k k] 22)).ownsRow w.heap.size 3 1 (.slice a5 (unitR k i).length k) (unitR k i).length ((unitR k i).map (Value.int .i64)) :=
          own_mono (own_keep hown8 (below1 _ _)) hsz
        have hra : a5 ≠ none → ¬ OIn a1 R (ablk a5) := fun h0 hI => by
          have h1 := (own_ne hown8 h0).1
          have h2 := (hO.lt _ hI).2
          omega
        have hP := OMat.push hO3 hown4 hra (by rw [hul]; exact hown6) hgr6 hap6
        have hb5 : Below w.heap.size w w6 := Below.app (Below.next hbr hb4) hO3.own hgr6 (Nat.le_refl _) (Nat.le_trans hsz hb4.size)
        exact ⟨i + 1, a6, c6, by omega, by go_num, rfl, ⟨_, by rw [Htk.out]; exact hP⟩, hb5⟩
      case measure => simp [intOf] <;> omega
    · obtain rfl : i = k := by omega
      rw [List.take_of_length_le (by rw [unitL_len]; exact Nat.le_refl _)] at hO
      have HO := Lib.hid hO
      clear hO
      go_wp2_with fail
      go_ret
      exact ⟨a1, c1, R, rfl, HO.out, hbr⟩
end

/- The walk of infoset.Greedy. -/
section
open Go.RowKit

/-- the error of a code and an order -/
def greE (P M : Int) (mod : List Int) (N : Int) (L : List (List Int)) (Q : List Int) : Int := rankE P M mod N L (sortL Q)
theorem okSet_mem {N : Int} {l : List Int} (h : okSet N (sortL l) = true) : ∀ k, k < l.length → 0 ≤ nth l k ∧ nth l k < N := fun k hk => by
  have h1 : nth l k ∈ sortL l := (sortL_perm l).mem_iff.2 (nth_mem hk)
  obtain ⟨j, hj, e⟩ := List.mem_iff_getElem.1 h1
  have h2 := okSet_at h hj
  rw [nth_getElem hj, e] at h2
  exact ⟨h2.1, h2.2.1⟩

theorem valuesB_any (a : Option Addr) (len cap : Nat) (w : World) :
    Calls Tryz.prog 110 #[.slice a len cap] w fun e w' => ∃ B, e = .returned (.func (.func 160) #[] #[.pointer (some ⟨B, 0, none⟩)]) ∧ B < w'.heap.size ∧ w'.cell? ⟨B, 0, none⟩ = some (.slice a len cap) ∧ Below w.heap.size w w' := by
  refine (values_any a len cap w).mono ?_
  rintro e w' ⟨rfl, rfl⟩
  exact ⟨w.heap.size, rfl, by simp, cell_alloc_at _ _ _ rfl 0, below1 _ _⟩
theorem mat_one {a : Option Addr} {n c : Nat} {l : List Int} (w : World) (h : Ints w a n l) : Mat (w.alloc (.cells #[.slice a n c] 22)) (some ⟨w.heap.size, 0, none⟩) 1 [l] :=
  ⟨rfl, fun _ => rfl, by unfold maxLen; omega, fun i hi => by
    obtain rfl : i = 0 := by omega
    exact ⟨a, n, c, cell_new' _ _ _ rfl, h.keep (below1 _ _)⟩⟩

def GrePost (P M : Int) (mod : List Int) (N : Int) (L : List (List Int)) (Q : List Int) (w : World) (e : Ending) (w' : World) : Prop :=
  Below w.heap.size w w' ∧ ((greE P M mod N L Q ≠ 0 ∧ e = .returned (.tuple #[.slice none 0 0, .int .i64 (greE P M mod N L Q)])) ∨
    (greE P M mod N L Q = 0 ∧ ∃ a c, e = .returned (.tuple #[.slice a (grS (tblOf P M.toNat mod).ops L Q).length c, .int .i64 0]) ∧
      w'.ownsRow w.heap.size 3 1 (.slice a (grS (tblOf P M.toNat mod).ops L Q).length c) (grS (tblOf P M.toNat mod).ops L Q).length ((sortL (grS (tblOf P M.toNat mod).ops L Q)).map (Value.int .i64))))

set_option maxRecDepth 100000 in
set_option maxHeartbeats 4000000 in
theorem infGreedy_any (P M : Int) (am : Option Addr) (mn cm : Nat) (mod : List Int) (N : Int) (a : Option Addr) (n c : Nat) (L : List (List Int)) (ao : Option Addr) (no co : Nat) (Q : List Int) (w : World)
    (hmod : Ints w am mn mod) (hi : Mat w a n L) (hq : Ints w ao no Q) (hno : no ≤ 1000000) :
    Calls Tryz.prog 62 #[.agg #[.int .i64 P, .int .i64 M, .slice am mn cm, .int .i64 N, .slice a n c], .slice ao no co] w (GrePost P M mod N L Q w) := by
  have Hql := Lib.hid hq.len
  have Hil := Lib.hid hi.len
  go_enter Tryz.func62, Tryz.ntmps62
  go_wp2_with fail
  obtain ⟨W, hW⟩ : ∃ W : World, W = w.alloc (.cells #[.int .i64 P, .int .i64 M, .slice am mn cm, .int .i64 N, .slice a n c] 27) := ⟨_, rfl⟩
  rw [← hW]
  have hbW : Below w.heap.size w W := by rw [hW]; exact below1 _ _
  have x0 : Box W w.heap.size [.int .i64 P, .int .i64 M, .slice am mn cm, .int .i64 N, .slice a n c] := by rw [hW]; exact Box.new _ _ _ rfl
  have HX := Lib.hid x0
  clear hW x0
  refine (infOpen_any P M am mn cm mod N a n c L W (hmod.keep hbW) (hi.keep hbW)).mono ?_
  rintro e w1 ⟨hb1, ⟨hE, rfl⟩ | ⟨hE, b, rfl, hG⟩⟩
  · have hbw1 := Below.next hbW hb1
    have HE : Hid (greE P M mod N L Q = codeE P M mod N L) := by show _ = _; rw [greE, rankE, if_neg hE]
    have He := Lib.hid hE
    have hE1 : (codeE P M mod N L == 0) = false := by simpa using hE
    have hE2 : (codeE P M mod N L != 0) = true := by simpa using hE
    clear hE
    go_wp2_with fail
    go_ret2
    exact ⟨hbw1, .inl ⟨by rw [HE.out]; exact He.out, by rw [HE.out]; rfl⟩⟩
  · have hbw1 := Below.next hbW hb1
    have HE : Hid (greE P M mod N L Q = setsE N [sortL Q]) := by show _ = _; rw [greE, rankE, if_pos hE]
    have Hrw := Lib.hid (codeE_rws hE)
    have xU := HX.out.keep hb1
    have b0 := xU.cell 0 rfl
    have b1 := xU.cell 1 rfl
    have b2 := xU.cell 2 rfl
    have b3 := xU.cell 3 rfl
    have b4 := xU.cell 4 rfl
    have hq1 := (hq.keep hbW).keep hb1
    clear xU hE
    go_wp2_with fail
    have HS : Hid (∀ V, Below w1.heap.size w1 V → V.cell? ⟨w.heap.size, 0, none⟩ = some (.int .i64 P) ∧ V.cell? ⟨w.heap.size, 1, none⟩ = some (.int .i64 M) ∧ V.cell? ⟨w.heap.size, 2, none⟩ = some (.slice am mn cm) ∧ V.cell? ⟨w.heap.size, 3, none⟩ = some (.int .i64 N) ∧ V.cell? ⟨w.heap.size, 4, none⟩ = some (.slice a n c)) := fun V hV => by
      have xU := HX.out.keep (Below.next hb1 hV)
      exact ⟨xU.cell 0 rfl, xU.cell 1 rfl, xU.cell 2 rfl, xU.cell 3 rfl, xU.cell 4 rfl⟩
    go_cut [7] (fun v wx => v = .int .i64 (setsE N [sortL Q]) ∧ Below w1.heap.size w1 wx)
    case first =>
      go_region_law ((first
        | (go_simp; go_at_call 110; ((with_reducible refine (valuesB_any ao no co _).mono ?_); rintro e w2 ⟨B, rfl, hB1, hB2, hbv⟩; have hbv1 : Below w1.heap.size w1 w2 := Below.next (Below.refl _ _).drew hbv; obtain ⟨b0, b1, b2, b3, b4⟩ := HS.out w2 hbv1))
        | (go_simp; go_at_call 109; ((with_reducible refine (sorted_any B ao no co Q hno _ hB1 hB2 (hq1.keep hbv1)).mono ?_); rintro e w3 ⟨a4, c4, rfl, hown4, hb3⟩; have hb13 := Below.next hbv1 hb3; obtain ⟨b0, b1, b2, b3, b4⟩ := HS.out w3 hb13; obtain ⟨d0, d1, d2, d3, d4⟩ := HS.out _ (Below.next hb13 (below1 w3 (.cells #[.slice a4 no c4] 22)))))
        | (go_simp; go_at_call 90; ((with_reducible refine (sets_any P M am mn cm N a n c (some ⟨w3.heap.size, 0, none⟩) 1 1 [sortL Q] _ ?_).mono ?_); (first | exact mat_one w3 (Ints.own hown4).1 | exact (mat_one w3 (Ints.own hown4).1).keep (Below.refl _ _).drew | skip); rintro e w5 ⟨rfl, hb5⟩))))
      all_goals (
        go_wp2_with fail
        go_meet
        exact ⟨rfl, Below.next (Below.next hb13 (below1 _ _)) hb5⟩)
    obtain ⟨rfl, hb3'⟩ := hcut
    generalize wc = w2 at *
    have hbw2 := Below.next hbw1 hb3'
    rw [setsE_one] at HE ⊢
    by_cases hok : okSet N (sortL Q) = true
    · have HE2 : Hid (greE P M mod N L Q = 0) := by show _ = _; rw [HE.out, if_pos hok]
      rw [if_pos hok]
      obtain ⟨m, hm, hm1, hm2, hLl, hRw⟩ := Hrw.out
      subst hm
      have hlen := okSet_mem hok
      have hQk : ∀ k, k < no → 0 ≤ nth Q k ∧ nth Q k < m := fun k hk => hlen k (by rw [Hql.out]; exact hk)
      have hn : n ≤ 1000000 := by rw [← Hil.out]; omega
      have HQk := Lib.hid hQk
      have HRw := Lib.hid hRw
      have xU := (HX.out.keep hb1).keep hb3'
      clear b0 b1 b2 b3 b4
      have b0 := xU.cell 0 rfl
      have b1 := xU.cell 1 rfl
      have b2 := xU.cell 2 rfl
      have b3 := xU.cell 3 rfl
      have b4 := xU.cell 4 rfl
      have hq2 := hq1.keep hb3'
      have hi2 := ((hi.keep hbW).keep hb1).keep hb3'
      have hG2 := hG.keep hb3'
      clear hok hlen hQk hRw xU
      go_wp2_with fail
      refine (greedy_any P M am mn cm m a n c L m ao no co Q hG2 hi2 HRw.out hq2 HQk.out hn hno).mono ?_
      rintro e w4 ⟨a5, c5, rfl, hown5, hb4⟩
      have HS := Lib.hid (sort_any w2.heap.size a5 _ c5 _ w4 hown5 hb4.size (Nat.le_trans (grS_len _ _ _) (by rw [Hql.out]; exact hno)))
      have hbw4 := Below.next hbw2 hb4
      have hsz := hbw2.size
      have HE3 : Hid (∀ w5, w5.ownsRow w2.heap.size 3 1 (.slice a5 (grS (tblOf P M.toNat mod).ops L Q).length c5) (grS (tblOf P M.toNat mod).ops L Q).length ((sortL (grS (tblOf P M.toNat mod).ops L Q)).map (Value.int .i64)) → Below w2.heap.size w4 w5 →
          GrePost P M mod m L Q w (.returned (.tuple #[.slice a5 (grS (tblOf P M.toNat mod).ops L Q).length c5, .int .i64 0])) w5) := fun w5 h5 hb5 =>
        ⟨hbw4.trans (hb5.mono hsz), .inr ⟨HE2.out, a5, c5, rfl, own_mono h5 hsz⟩⟩
      clear hown5
      generalize (grS (tblOf P M.toNat mod).ops L Q).length = k at *
      generalize sortL (grS (tblOf P M.toNat mod).ops L Q) = out at *
      go_wp2_with fail
      refine HS.out.mono ?_
      rintro e w5 ⟨rfl, h5, _, hb5⟩
      have hF := Lib.hid (HE3.out w5 h5 hb5)
      clear h5
      go_wp2_with fail
      go_ret2
      exact hF.out
    · have HE2 : Hid (greE P M mod N L Q = 6) := by show _ = _; rw [HE.out, if_neg hok]
      rw [if_neg hok]
      clear hok b0 b1 b2 b3 b4
      go_wp2_with fail
      go_ret2
      exact ⟨hbw2, .inl ⟨by rw [HE2.out]; omega, by rw [HE2.out]; rfl⟩⟩
end

/- The walk of codewrightref10.Rising. -/
section
open Go.RowKit

set_option maxRecDepth 100000 in
set_option maxHeartbeats 3200000 in
theorem rising_any (N : Int) (a : Option Addr) (n c : Nat) (l : List Int) (w : World) (hi : Ints w a n l) :
    Calls Tryz.prog 121 #[.slice a n c, .int .i64 N] w (QuietBool w (okSet N l)) := by
  have Hlen := Lib.hid hi.len
  have hpl := hi.pl
  have hmax := hi.max
  unfold maxLen at hmax
  go_enter Tryz.func121, Tryz.ntmps121
  go_wp2_with fail
  go_loopw [5] (fun iv wr => ∃ k : Nat, k ≤ n ∧ iv = .int .i64 k ∧ Hid (okTo N l k = true) ∧ Drawn w wr) (fun iv _ => n - (intOf iv).toNat)
  case atStart => exact ⟨0, Nat.zero_le _, rfl, by show _ = _; simp [okTo], Drawn.refl _⟩
  case round =>
    obtain ⟨j, hj, rfl, hok, hd⟩ := hrel
    have hir := hi.drawn hd
    by_cases hlt2 : j < n
    · have cj := hir.cell j hlt2
      have hjj : (j : Int) < n := by omega
      have hbad : okAt N l j = false → okSet N l = false := fun hb => okTo_no (by rw [Hlen.out]; exact hlt2) hb
      have Hbad := Lib.hid hbad
      clear hbad
      by_cases h0 : 0 ≤ nth l j
      · have d1 : decide (nth l j < 0) = false := by simp; omega
        by_cases h1 : nth l j < N
        · have d2 : decide (N ≤ nth l j) = false := by simp; omega
          by_cases hj0 : j = 0
          · have Hgood : Hid (okAt N l j = true) := by show _ = _; unfold okAt; rw [decide_eq_true h0, decide_eq_true h1]; simp [hj0]
            have d3 : decide (0 < j) = false := by simp; omega
            clear hj0
            go_wp2_with fail
            go_quiet (fail)
            go_wp2
            go_roundw
            case rel => exact ⟨j + 1, by omega, by go_num, okTo_succ hok.out Hgood.out, hd.drewN _⟩
            case measure => simp [intOf] <;> omega
          · have cp := hir.cell (j - 1) (by omega)
            have e1 : ((j : Int) - 1).toNat = j - 1 := by omega
            have d3 : decide (0 < j) = true := by simp; omega
            have d4 : (0 : Int) ≤ (j : Int) - 1 := by omega
            have d5 : (1 : Int) ≤ (j : Int) := by omega
            have d6 : (j : Int) - 1 < n := by omega
            have kw : IntKind.i64.wrap ((j : Int) - 1) = (j : Int) - 1 := IntWalk.i64_in _ (by omega)
            by_cases h2 : nth l (j - 1) < nth l j
            · have Hgood : Hid (okAt N l j = true) := by show _ = _; unfold okAt; simp [h0, h1, h2]
              have h2' : decide (nth l j ≤ nth l (j - 1)) = false := by simp; omega
              clear hj0
              go_wp2_with fail
              go_quiet (fail)
              go_wp2
              go_roundw
              case rel => exact ⟨j + 1, by omega, by go_num, okTo_succ hok.out Hgood.out, hd.drewN _⟩
              case measure => simp [intOf] <;> omega
            · have Hb : Hid (okSet N l = false) := Hbad.out (by unfold okAt; simp [h2, hj0])
              have h2' : decide (nth l j ≤ nth l (j - 1)) = true := by simp; omega
              clear hj0
              go_wp2_with fail
              go_quiet (fail)
              go_wp2
              go_ret
              exact ⟨by rw [Hb.out]; rfl, hd.drewN _⟩
        · have Hb : Hid (okSet N l = false) := Hbad.out (by unfold okAt; simp [h1])
          have d2 : decide (N ≤ nth l j) = true := by simp; omega
          go_wp2_with fail
          go_quiet (fail)
          go_wp2
          go_ret
          exact ⟨by rw [Hb.out]; rfl, hd.drewN _⟩
      · have Hb : Hid (okSet N l = false) := Hbad.out (by unfold okAt; simp [h0])
        have d1 : decide (nth l j < 0) = true := by simp; omega
        go_wp2_with fail
        go_quiet (fail)
        go_wp2
        go_ret
        exact ⟨by rw [Hb.out]; rfl, hd.drewN _⟩
    · obtain rfl : j = n := by omega
      have Hg : Hid (okSet N l = true) := by show _ = _; rw [okSet, Hlen.out]; exact hok.out
      go_wp2_with fail
      go_ret
      exact ⟨by rw [Hg.out]; rfl, hd⟩
end

/- The first entry with a property; slices.Index. -/
section
open Go.RowKit

theorem find_at (p : Int → Bool) : ∀ (l : List Int) (k : Nat), k < l.length → (∀ j, j < k → p (nth l j) = false) → p (nth l k) = true → l.find? p = some (nth l k)
  | [], k, h, _, _ => by simp at h
  | x :: l, 0, _, _, h => by
    have h' : p x = true := by simpa [nth] using h
    rw [List.find?_cons_of_pos h']; simp [nth]
  | x :: l, k + 1, hk, h0, h => by
    have hx : p x = false := by simpa [nth] using h0 0 (by omega)
    rw [List.find?_cons_of_neg (by rw [hx]; decide)]
    have := find_at p l k (by simpa using hk) (fun j hj => by simpa [nth] using h0 (j + 1) (by omega)) (by simpa [nth] using h)
    rw [this]; simp [nth]
theorem find_no (p : Int → Bool) (l : List Int) (h : ∀ j, j < l.length → p (nth l j) = false) : l.find? p = none := by
  rw [List.find?_eq_none]
  intro x hx
  obtain ⟨j, hj, rfl⟩ := List.mem_iff_getElem.1 hx
  have := h j hj
  rw [nth_getElem hj] at this
  rw [this]; decide

/-- where a list has an entry, or -1 -/
def ixV (l : List Int) (v : Int) : Int := if v ∈ l then ((l.findIdx fun x => x == v : Nat) : Int) else -1
theorem ix_at {v : Int} : ∀ (l : List Int) (k : Nat), k < l.length → (∀ j, j < k → nth l j ≠ v) → nth l k = v → (l.findIdx fun x => x == v) = k
  | [], k, h, _, _ => by simp at h
  | x :: l, 0, _, _, h => by
    have h' : x = v := by simpa [nth] using h
    simp [List.findIdx_cons, h']
  | x :: l, k + 1, hk, h0, h => by
    have hx : x ≠ v := by simpa [nth] using h0 0 (by omega)
    have := ix_at l k (by simpa using hk) (fun j hj => by simpa [nth] using h0 (j + 1) (by omega)) (by simpa [nth] using h)
    have hb : (x == v) = false := by simpa using hx
    simp [List.findIdx_cons, this, hb]
theorem ix_in {l : List Int} {v : Int} (h : v ∈ l) : ∃ k : Nat, ixV l v = k ∧ k < l.length ∧ nth l k = v := by
  have h1 : (l.findIdx fun x => x == v) < l.length := List.findIdx_lt_length_of_exists ⟨v, h, by simp⟩
  refine ⟨_, by rw [ixV, if_pos h], h1, ?_⟩
  rw [nth_getElem h1]
  have := List.findIdx_getElem (w := h1)
  simpa using this

set_option maxHeartbeats 1600000 in
theorem indexV_any (a : Option Addr) (n c : Nat) (l : List Int) (v : Int) (w : World) (h : Ints w a n l) :
    Calls Tryz.prog 114 #[.slice a n c, .int .i64 v] w fun e w' => e = .returned (.int .i64 (ixV l v)) ∧ w' = w := by
  have Hl := Lib.hid h.len
  have hpl := h.pl
  have hmax := h.max
  unfold maxLen at hmax
  go_enter Tryz.func114, Tryz.ntmps114
  go_wp2_with fail
  go_loopw [8] (fun iv wr => ∃ k : Nat, k ≤ n ∧ iv = .int .i64 k ∧ Hid (∀ j, j < k → nth l j ≠ v) ∧ wr = w) (fun i _ => n - (intOf i).toNat)
  case atStart => exact ⟨0, Nat.zero_le _, rfl, fun j hj => by omega, rfl⟩
  case round =>
    obtain ⟨k, hk, rfl, hno, rfl⟩ := hrel
    by_cases hlt : k < n
    · have c1 := h.cell k hlt
      by_cases he : nth l k = v
      · have he' : (v == nth l k) = true := by rw [he]; simp
        have Hm : Hid (ixV l v = k) := by
          show _ = _
          rw [ixV, if_pos (by rw [← he]; exact nth_mem (by rw [Hl.out]; exact hlt)), ix_at l k (by rw [Hl.out]; exact hlt) hno.out he]
        clear he
        go_wp2_with fail
        go_ret
        exact ⟨ret_int Hm.out.symm, rfl⟩
      · have he' : (v == nth l k) = false := by simpa using fun e => he e.symm
        have Hn2 : Hid (∀ j, j < k + 1 → nth l j ≠ v) := fun j hj => by
          by_cases e : j = k
          · subst e; exact he
          · exact hno.out j (by omega)
        clear he
        go_wp2_with fail
        go_roundw
        case rel => exact ⟨k + 1, by omega, by go_num, Hn2.out, by simp⟩
        case measure => simp [intOf] <;> omega
    · obtain rfl : k = n := by omega
      have Hm : Hid (ixV l v = -1) := by
        show _ = _
        rw [ixV, if_neg]
        intro hm
        obtain ⟨j, hj, e⟩ := List.mem_iff_getElem.1 hm
        rw [← nth_getElem hj] at e
        exact hno.out j (by have := Hl.out; omega) e
      go_wp2_with fail
      go_ret
      exact ⟨ret_int Hm.out.symm, rfl⟩
end

/- The walk of infoset.Exchange. -/
section
open Go.RowKit

/-- the information sets by the greedy choice -/
def isB (O : FOps) (L : List (List Int)) (Q : List Int) : Bool := decide (Q.length = L.length) && decide ((grS O L Q).length = Q.length)
/-- whether an entry can be put at a place -/
def exP (O : FOps) (L : List (List Int)) (A : List Int) (at' : Nat) (j : Int) : Bool := decide (¬ j ∈ A) && isB O L (A.set at' j)
def rk2E (P M : Int) (mod : List Int) (N : Int) (L : List (List Int)) (A B : List Int) : Int := if codeE P M mod N L = 0 then setsE N [A, B] else codeE P M mod N L
def exV (P M : Int) (mod : List Int) (N : Int) (L : List (List Int)) (A B : List Int) (i : Int) : Int × Int :=
  if rk2E P M mod N L A B ≠ 0 then (0, rk2E P M mod N L A B)
  else if (isB (tblOf P M.toNat mod).ops L A && isB (tblOf P M.toNat mod).ops L B) = false then (0, 9)
  else if ¬ i ∈ A then (0, 11)
  else match B.find? (exP (tblOf P M.toNat mod).ops L A (A.findIdx fun x => x == i)) with
    | some j => (j, 0)
    | none => (0, 11)
theorem InNs.set {m : Nat} {A : List Int} (hA : ∀ k, k < A.length → 0 ≤ nth A k ∧ nth A k < m) {t : Nat} (ht : t < A.length) {j : Int} (hj : 0 ≤ j ∧ j < m) : ∀ k, k < A.length → 0 ≤ nth (A.set t j) k ∧ nth (A.set t j) k < m := fun k hk => by
  rw [nth_set _ _ _ _ ht]
  split
  · exact hj
  · exact hA k hk

set_option maxRecDepth 100000 in
set_option maxHeartbeats 8000000 in
theorem exchange_any (P M : Int) (am : Option Addr) (mn cm : Nat) (mod : List Int) (N : Int) (a : Option Addr) (n c : Nat) (L : List (List Int)) (aa : Option Addr) (na ca : Nat) (A : List Int) (ab : Option Addr) (nb cb : Nat) (B : List Int) (i : Int) (w : World)
    (hmod : Ints w am mn mod) (hi : Mat w a n L) (hA : Ints w aa na A) (hB : Ints w ab nb B) :
    Calls Tryz.prog 64 #[.agg #[.int .i64 P, .int .i64 M, .slice am mn cm, .int .i64 N, .slice a n c], .slice aa na ca, .slice ab nb cb, .int .i64 i] w
      fun e w' => e = .returned (.tuple #[.int .i64 (exV P M mod N L A B i).1, .int .i64 (exV P M mod N L A B i).2]) ∧ Below w.heap.size w w' := by
  have Hal := Lib.hid hA.len
  have Hbl := Lib.hid hB.len
  have Hil := Lib.hid hi.len
  have hplb := hB.pl
  go_enter Tryz.func64, Tryz.ntmps64
  go_wp2_with fail
  obtain ⟨W, hW⟩ : ∃ W : World, W = w.alloc (.cells #[.int .i64 P, .int .i64 M, .slice am mn cm, .int .i64 N, .slice a n c] 27) := ⟨_, rfl⟩
  rw [← hW]
  have hbW : Below w.heap.size w W := by rw [hW]; exact below1 _ _
  have x0 : Box W w.heap.size [.int .i64 P, .int .i64 M, .slice am mn cm, .int .i64 N, .slice a n c] := by rw [hW]; exact Box.new _ _ _ rfl
  have hS : ∀ V, Below W.heap.size W V → V.cell? ⟨w.heap.size, 0, none⟩ = some (.int .i64 P) ∧ V.cell? ⟨w.heap.size, 1, none⟩ = some (.int .i64 M) ∧ V.cell? ⟨w.heap.size, 2, none⟩ = some (.slice am mn cm) ∧ V.cell? ⟨w.heap.size, 3, none⟩ = some (.int .i64 N) ∧ V.cell? ⟨w.heap.size, 4, none⟩ = some (.slice a n c) := fun V hV => by
    have x1 := x0.keep hV
    exact ⟨x1.cell 0 rfl, x1.cell 1 rfl, x1.cell 2 rfl, x1.cell 3 rfl, x1.cell 4 rfl⟩
  have HS := Lib.hid hS
  have HbW := Lib.hid hbW
  clear hW x0 hS
  refine (infOpen_any P M am mn cm mod N a n c L W (hmod.keep hbW) (hi.keep hbW)).mono ?_
  rintro e w1 ⟨hb1, ⟨hE, rfl⟩ | ⟨hE, b, rfl, hG⟩⟩
  · have hbw1 := Below.next hbW hb1
    have HE : Hid (exV P M mod N L A B i = (0, codeE P M mod N L)) := by
      show _ = _
      have h1 : rk2E P M mod N L A B = codeE P M mod N L := by rw [rk2E, if_neg hE]
      rw [exV, h1, if_pos hE]
    have hE1 : (codeE P M mod N L == 0) = false := by simpa using hE
    have hE2 : (codeE P M mod N L != 0) = true := by simpa using hE
    clear hE
    go_wp2_with fail
    go_ret2
    exact ⟨by rw [HE.out]; rfl, hbw1⟩
  have hbw1 := Below.next hbW hb1
  obtain ⟨m, hm, hm1, hm2, hLl, hRw⟩ := codeE_rws hE
  subst hm
  have hn : n ≤ 1000000 := by rw [← Hil.out]; omega
  have HE : Hid (rk2E P M mod m L A B = setsE m [A, B]) := by show _ = _; rw [rk2E, if_pos hE]
  have hbl := below1 w1 (.cells #[.slice aa na ca, .slice ab nb cb] 22)
  have hMs : Mat (w1.alloc (.cells #[.slice aa na ca, .slice ab nb cb] 22)) (some ⟨w1.heap.size, 0, none⟩) 2 [A, B] := ⟨rfl, fun _ => rfl, by unfold maxLen; omega, fun k hk => by
    have h2 := cell_alloc_at w1 #[.slice aa na ca, .slice ab nb cb] 22 rfl k
    match k, hk with
    | 0, _ => exact ⟨aa, na, ca, h2, (hA.keep hbw1).keep hbl⟩
    | 1, _ => exact ⟨ab, nb, cb, h2, (hB.keep hbw1).keep hbl⟩⟩
  have HMs := Lib.hid (sets_any P M am mn cm m a n c _ 2 2 [A, B] _ hMs)
  obtain ⟨c0, c1, c2, c3, c4⟩ := HS.out w1 hb1
  have Hbl2 := Lib.hid hbl
  clear hE hMs hbl
  go_wp2_with fail
  refine HMs.out.mono ?_
  rintro e w2 ⟨rfl, hb2⟩
  have hb12 : Below w1.heap.size w1 w2 := Below.next Hbl2.out hb2
  have hbw2 := Below.next hbw1 hb12
  clear c0 c1 c2 c3 c4 HMs
  have hse : setsE m [A, B] = if okSet m A = true ∧ okSet m B = true then 0 else 6 := by simp [setsE]
  rw [hse] at HE ⊢
  by_cases hok : okSet m A = true ∧ okSet m B = true
  rotate_left
  · have HV : Hid (exV P M mod m L A B i = (0, 6)) := by
      show _ = _
      have h1 : rk2E P M mod m L A B = 6 := by rw [HE.out, if_neg hok]
      rw [exV, h1, if_pos (by decide)]
    rw [if_neg hok]
    clear hok hse
    go_wp2_with fail
    go_ret2
    exact ⟨by rw [HV.out]; rfl, hbw2⟩
  have HE2 : Hid (rk2E P M mod m L A B = 0) := by show _ = _; rw [HE.out, if_pos hok]
  rw [if_pos hok]
  obtain ⟨hokA, hokB⟩ := hok
  have hAk : ∀ k, k < A.length → 0 ≤ nth A k ∧ nth A k < m := fun k hk => ⟨(okSet_at hokA hk).1, (okSet_at hokA hk).2.1⟩
  have hBk : ∀ k, k < B.length → 0 ≤ nth B k ∧ nth B k < m := fun k hk => ⟨(okSet_at hokB hk).1, (okSet_at hokB hk).2.1⟩
  have hna : na ≤ 1000000 := by have := okSet_len hokA (by omega); rw [← Hal.out]; omega
  have hnb : nb ≤ 1000000 := by have := okSet_len hokB (by omega); rw [← Hbl.out]; omega
  have HisQ : Hid (∀ V Q aq nq cq, Below w1.heap.size w1 V → Ints V aq nq Q → (∀ k, k < Q.length → 0 ≤ nth Q k ∧ nth Q k < m) → nq ≤ 1000000 →
      Calls Tryz.prog 113 #[.pointer (some ⟨b, 0, none⟩), .agg #[.int .i64 P, .int .i64 M, .slice am mn cm, .int .i64 m, .slice a n c], .slice aq nq cq] V
        fun e w' => e = .returned (.bool (isB (tblOf P M.toNat mod).ops L Q)) ∧ Below V.heap.size V w') := fun V Q aq nq cq hV hq hQ hnq =>
    infis_any P M am mn cm m a n c L m aq nq cq Q (hG.keep hV) (hi.keep (Below.next hbw1 hV)) hRw hq (fun k hk => hQ k (by rw [hq.len]; exact hk)) hn hnq
  have HAk := Lib.hid hAk
  have HBk := Lib.hid hBk
  obtain ⟨O, hO⟩ : ∃ O, (tblOf P M.toNat mod).ops = O := ⟨_, rfl⟩
  rw [hO] at HisQ
  have HexV : Hid (exV P M mod m L A B i = if (isB O L A && isB O L B) = false then ((0, 9) : Int × Int) else if ¬ i ∈ A then (0, 11) else match B.find? (exP O L A (A.findIdx fun x => x == i)) with | some j => (j, 0) | none => (0, 11)) := by
    show _ = _
    rw [exV, HE2.out, hO, if_neg (by decide)]
  have hbW2 := Below.next hb1 hb12
  obtain ⟨c0, c1, c2, c3, c4⟩ := HS.out w2 hbW2
  have HiA := Lib.hid (HisQ.out w2 A aa na ca hb12 (hA.keep hbw2) hAk hna)
  clear hAk hBk hokA hokB hse hRw hG hO HE HE2
  go_wp2_with fail
  refine HiA.out.mono ?_
  rintro e w3 ⟨rfl, hb3⟩
  have hb13 := Below.next hb12 hb3
  have hbW3 := Below.next hbW2 hb3
  clear c0 c1 c2 c3 c4 HiA
  by_cases hiA : isB O L A = true
  rotate_left
  · have hiA' : isB O L A = false := by simpa using hiA
    have HV : Hid (exV P M mod m L A B i = (0, 9)) := by show _ = _; rw [HexV.out, hiA']; rfl
    have hF := Below.next HbW.out hbW3
    rw [hiA']
    clear hiA hiA'
    go_wp2_with fail
    go_ret2
    exact ⟨by rw [HV.out]; rfl, hF⟩
  obtain ⟨c0, c1, c2, c3, c4⟩ := HS.out w3 hbW3
  have HiB := Lib.hid (HisQ.out w3 B ab nb cb hb13 (hB.keep (Below.next HbW.out hbW3)) HBk.out hnb)
  rw [hiA]
  go_wp2_with fail
  refine HiB.out.mono ?_
  rintro e w4 ⟨rfl, hb4⟩
  have hb14 := Below.next hb13 hb4
  have hbW4 := Below.next hbW3 hb4
  clear c0 c1 c2 c3 c4 HiB
  by_cases hiB : isB O L B = true
  rotate_left
  · have hiB' : isB O L B = false := by simpa using hiB
    have HV : Hid (exV P M mod m L A B i = (0, 9)) := by show _ = _; rw [HexV.out, hiA, hiB']; rfl
    have hF := Below.next HbW.out hbW4
    rw [hiB']
    clear hiB hiB' hiA
    go_wp2_with fail
    go_ret2
    exact ⟨by rw [HV.out]; rfl, hF⟩
  have HexV2 : Hid (exV P M mod m L A B i = if ¬ i ∈ A then ((0, 11) : Int × Int) else match B.find? (exP O L A (A.findIdx fun x => x == i)) with | some j => (j, 0) | none => (0, 11)) := by
    show _ = _
    rw [HexV.out, hiA, hiB, if_neg (by decide)]
  rw [hiB]
  have hA4 := hA.keep (Below.next HbW.out hbW4)
  clear hiA hiB HexV
  go_wp2_with fail
  refine (indexV_any aa na ca A i w4 hA4).mono ?_
  rintro e w5 ⟨rfl, rfl⟩
  by_cases hin : i ∈ A
  rotate_left
  · have HV : Hid (exV P M mod m L A B i = (0, 11)) := by show _ = _; rw [HexV2.out, if_pos hin]
    have hix : ixV A i = -1 := by rw [ixV, if_neg hin]
    have hF := Below.next HbW.out hbW4
    rw [hix]
    clear hin hix
    go_wp2_with fail
    go_ret2
    exact ⟨by rw [HV.out]; rfl, hF⟩
  obtain ⟨t, hix, htl, _⟩ := ix_in hin
  have htx : (A.findIdx fun x => x == i) = t := by rw [ixV, if_pos hin] at hix; omega
  have HexV3 : Hid (exV P M mod m L A B i = match B.find? (exP O L A t) with | some j => (j, 0) | none => (0, 11)) := by
    show _ = _
    rw [HexV2.out, if_neg (by simpa using hin), htx]
  have htn : t < na := by rw [← Hal.out]; exact htl
  rw [hix]
  have ht0 : decide ((t : Int) < 0) = false := by simp
  clear hin hix htx HexV2 htl
  generalize w5 = U at *
  go_wp2_with fail
  go_loopw [50] (fun iv wr => ∃ k : Nat, k ≤ nb ∧ iv = .int .i64 k ∧ Hid (∀ j, j < k → exP O L A t (nth B j) = false) ∧ Below U.heap.size U wr) (fun iv _ => nb - (intOf iv).toNat)
  case atStart => exact ⟨0, Nat.zero_le _, rfl, fun j hj => by omega, Below.refl _ _⟩
  case round =>
    obtain ⟨k, hk, rfl, hno, hbr⟩ := hrel
    have hb1r := Below.next hb14 hbr
    have hbWr := Below.next hbW4 hbr
    have hbwr := Below.next HbW.out hbWr
    by_cases hlt : k < nb
    · have cb' := (hB.keep hbwr).cell k hlt
      have hAr := hA.keep hbwr
      have hBkk := HBk.out k (by rw [Hbl.out]; exact hlt)
      have Hno := fun (h : exP O L A t (nth B k) = false) => Lib.hid (show ∀ j, j < k + 1 → exP O L A t (nth B j) = false from fun j hj => by
        by_cases e : j = k
        · subst e; exact h
        · exact hno.out j (by omega))
      have Hyes := fun (h : exP O L A t (nth B k) = true) => Lib.hid (show exV P M mod m L A B i = (nth B k, 0) by
        rw [HexV3.out, find_at _ B k (by rw [Hbl.out]; exact hlt) hno.out h])
      by_cases hm : nth B k ∈ A
      · have Hn := Hno (by unfold exP; simp [hm])
        have hmd : decide (nth B k ∈ A) = true := by simpa using hm
        have HcA := Lib.hid (contains_any aa na ca A (nth B k) wr hAr)
        rw [hmd] at HcA
        clear hm hmd Hno Hyes hno
        go_wp2_with fail
        refine HcA.out.mono ?_
        rintro e w6 ⟨rfl, rfl⟩
        go_wp2_with fail
        go_roundw
        case rel => exact ⟨k + 1, by omega, by go_num, Hn.out, hbr⟩
        case measure => simp [intOf] <;> omega
      · have hmd : decide (nth B k ∈ A) = false := by simpa using hm
        have HcA := Lib.hid (contains_any aa na ca A (nth B k) wr hAr)
        rw [hmd] at HcA
        have hex : exP O L A t (nth B k) = isB O L (A.set t (nth B k)) := by unfold exP; simp [hm]
        have HSk := Lib.hid (InNs.set HAk.out (show t < A.length by rw [Hal.out]; exact htn) hBkk)
        have Hex := Lib.hid hex
        clear hm hmd hno hex
        go_wp2_with fail
        refine HcA.out.mono ?_
        rintro e w6 ⟨rfl, rfl⟩
        go_wp2_with fail
        refine (clone1_any aa na ca A hAr hna).mono ?_
        rintro e w7 ⟨a7, c7, rfl, hown7, hb7⟩
        rw [Hal.out] at hown7 ⊢
        obtain ⟨hints, hmine⟩ := Ints.own hown7
        have hpl7 := hints.pl
        have cz := hints.cell t htn
        have fz := (hmine (by omega)).2 t htn
        have hBz := (hmine (by omega)).1
        have hown8 := own_set hown7 t htn (.int .i64 (nth B k))
        rw [← List.map_set] at hown8
        have hb8 : Below w6.heap.size w6 (w7.setCell ⟨ablk a7, aoff a7 + t, none⟩ (.int .i64 (nth B k))) := hb7.setCell hBz _
        have H8 := Lib.hid (Ints.own hown8).1
        have hb18 := Below.next hb1r hb8
        obtain ⟨c0, c1, c2, c3, c4⟩ := HS.out _ (Below.next hbWr hb8)
        have HiS := Lib.hid (HisQ.out _ (A.set t (nth B k)) a7 na c7 hb18 H8.out (by rw [List.length_set]; exact HSk.out) hna)
        clear hown7 hown8 hints hmine H8 HcA
        go_wp2_with fail
        refine HiS.out.mono ?_
        rintro e w9 ⟨rfl, hb9⟩
        have hbr9 := Below.next hbr (Below.next hb8 hb9)
        have hF9 := Below.next hbwr (Below.next hb8 hb9)
        clear c0 c1 c2 c3 c4
        by_cases hs : isB O L (A.set t (nth B k)) = true
        · have HV := Hyes (by rw [Hex.out]; exact hs)
          rw [hs]
          clear hs Hno Hyes HiS
          go_wp2_with fail
          go_ret2
          exact ⟨by rw [HV.out]; rfl, hF9⟩
        · have hs' : isB O L (A.set t (nth B k)) = false := by simpa using hs
          have Hn := Hno (by rw [Hex.out]; exact hs')
          rw [hs']
          clear hs hs' Hno Hyes HiS
          go_wp2_with fail
          go_roundw
          case rel => exact ⟨k + 1, by omega, by go_num, Hn.out, hbr9⟩
          case measure => simp [intOf] <;> omega
    · obtain rfl : k = nb := by omega
      have HV : Hid (exV P M mod m L A B i = (0, 11)) := by
        show _ = _
        rw [HexV3.out, find_no _ B (by rw [Hbl.out]; exact hno.out)]
      clear hno
      go_wp2_with fail
      go_ret2
      exact ⟨by rw [HV.out]; rfl, hbwr⟩
end

/- The walk of codewrightref25.sets. -/
section
open Go.RowKit

def setsC (P M : Int) (mod : List Int) (N : Int) (L : List (List Int)) (S : List (List Int)) : Int := if codeE P M mod N L = 0 then setsE N S else codeE P M mod N L
theorem setsC_one (P M : Int) (mod : List Int) (N : Int) (L : List (List Int)) (Q : List Int) : setsC P M mod N L [Q] = rankE P M mod N L Q := rfl
theorem rCheck_any (P M : Int) (am : Option Addr) (mn cm : Nat) (mod : List Int) (N : Int) (a : Option Addr) (n c : Nat) (L : List (List Int)) (w : World) (hmod : Ints w am mn mod) (hi : Mat w a n L) :
    Calls Tryz.prog 41 #[.agg #[.int .i64 P, .int .i64 M, .slice am mn cm, .int .i64 N, .slice a n c]] w fun e w' => e = .returned (.int .i64 (codeE P M mod N L)) ∧ Below w.heap.size w w' := by
  rw [← rcodeE_eq]
  exact rCodeCheck_any P M am mn cm mod N a n c L w hmod hi hinv_all

set_option maxRecDepth 100000 in
set_option maxHeartbeats 3200000 in
theorem rSets_any (P M : Int) (am : Option Addr) (mn cm : Nat) (mod : List Int) (N : Int) (a : Option Addr) (n c : Nat) (L : List (List Int)) (sa : Option Addr) (ns cs : Nat) (S : List (List Int)) (w : World) (hmod : Ints w am mn mod) (hi : Mat w a n L) (hs : Mat w sa ns S) :
    Calls Tryz.prog 71 #[.agg #[.int .i64 P, .int .i64 M, .slice am mn cm, .int .i64 N, .slice a n c], .slice sa ns cs] w fun e w' => e = .returned (.int .i64 (setsC P M mod N L S)) ∧ Below w.heap.size w w' := by
  have Hlen := Lib.hid hs.len
  have hpl := hs.pl
  have hmax := hs.max
  unfold maxLen at hmax
  have HE : Hid (codeE P M mod N L ≠ 0 → setsC P M mod N L S = codeE P M mod N L) := fun h => by rw [setsC, if_neg h]
  have HZ : Hid (codeE P M mod N L = 0 → setsC P M mod N L S = setsE N S) := fun h => by rw [setsC, if_pos h]
  have HC0 : Hid (∀ V, Below w.heap.size w V → Calls Tryz.prog 41 #[.agg #[.int .i64 P, .int .i64 M, .slice am mn cm, .int .i64 N, .slice a n c]] V fun e w' => e = .returned (.int .i64 (codeE P M mod N L)) ∧ Below V.heap.size V w') :=
    fun V hV => rCheck_any P M am mn cm mod N a n c L V (hmod.keep hV) (hi.keep hV)
  obtain ⟨x, hx⟩ : ∃ x, codeE P M mod N L = x := ⟨_, rfl⟩
  rw [hx] at HE HZ HC0
  obtain ⟨y, hy⟩ : ∃ y, setsC P M mod N L S = y := ⟨_, rfl⟩
  rw [hy] at HE HZ ⊢
  clear hx hy hmod hi
  go_enter Tryz.func71, Tryz.ntmps71
  go_wp2_with fail
  obtain ⟨W, hW⟩ : ∃ W : World, W = w.alloc (.cells #[.int .i64 P, .int .i64 M, .slice am mn cm, .int .i64 N, .slice a n c] 27) := ⟨_, rfl⟩
  rw [← hW]
  have hbW : Below w.heap.size w W := by rw [hW]; exact below1 _ _
  have x0 : Box W w.heap.size [.int .i64 P, .int .i64 M, .slice am mn cm, .int .i64 N, .slice a n c] := by rw [hW]; exact Box.new _ _ _ rfl
  have hS : ∀ V, Below W.heap.size W V → V.cell? ⟨w.heap.size, 3, none⟩ = some (.int .i64 N) ∧ Below W.heap.size W V := fun V hV => ⟨(x0.keep hV).cell 3 rfl, hV⟩
  have HS := Lib.hid hS
  have HbW := Lib.hid hbW
  have hsW := hs.keep hbW
  have HC := Lib.hid (HC0.out W hbW)
  have c0 := x0.cell 0 rfl
  have c1 := x0.cell 1 rfl
  have c2 := x0.cell 2 rfl
  have c3 := x0.cell 3 rfl
  have c4 := x0.cell 4 rfl
  clear hW x0 hS hs HC0
  go_wp2_with fail
  refine HC.out.mono ?_
  rintro e w1 ⟨rfl, hb1⟩
  clear c0 c1 c2 c3 c4 HC
  go_wp2_with fail
  go_loopw [5, 6] (fun ev iv wr => ∃ k : Nat, k ≤ ns ∧ iv = .int .i64 k ∧ Below W.heap.size W wr ∧ ((ev = .int .i64 0 ∧ Hid (x = 0 ∧ (S.take k).all (okSet N) = true)) ∨ (ev = .int .i64 y ∧ y ≠ 0))) (fun _ iv _ => ns - (intOf iv).toNat)
  case atStart =>
    refine ⟨0, Nat.zero_le _, rfl, hb1, ?_⟩
    by_cases h0 : x = 0
    · exact .inl ⟨by rw [h0], ⟨h0, by simp⟩⟩
    · exact .inr ⟨by rw [HE.out h0], by rw [HE.out h0]; exact h0⟩
  case round =>
    obtain ⟨k, hk, rfl, hbr, ⟨rfl, hall⟩ | ⟨rfl, hne⟩⟩ := hrel
    · by_cases hlt : k < ns
      · obtain ⟨ra, rn, rc, hcell, hrow⟩ := (hsW.keep hbr).cell k hlt
        have hkS : k < S.length := by rw [Hlen.out]; exact hlt
        have Hng : Hid (nthR S k = S[k]) := nthR_getElem hkS
        obtain ⟨z, hz⟩ : ∃ z, okSet N (nthR S k) = z := ⟨_, rfl⟩
        have HR : Hid (∀ V, Below wr.heap.size wr V → Calls Tryz.prog 121 #[.slice ra rn rc, .int .i64 N] V fun e w' => e = .returned (.bool z) ∧ Below V.heap.size V w') := fun V hV => by
          refine (rising_any N ra rn rc _ V (hrow.keep hV)).mono ?_
          rintro e w' ⟨rfl, hd⟩
          exact ⟨by rw [hz], hd.below⟩
        have HS2 : Hid (∀ V, Below wr.heap.size wr V → V.cell? ⟨w.heap.size, 3, none⟩ = some (.int .i64 N) ∧ V.cell? ⟨ablk sa, aoff sa + k, none⟩ = some (.slice ra rn rc) ∧ Below wr.heap.size wr V) := fun V hV => by
          exact ⟨(HS.out V (Below.next hbr hV)).1, (hV.cell (World.block_lt_of_cell? wr _ hcell)).trans hcell, hV⟩
        have Hz : Hid (okSet N S[k] = z) := by show _ = _; rw [← Hng.out]; exact hz
        have Hbr := Lib.hid hbr
        clear hz hrow hbr Hng
        go_wp2_with fail
        cases z
        · have Hy : Hid (y = 6) := by show _ = _; rw [HZ.out hall.out.1, setsE, if_neg (by rw [all_false_at hkS Hz.out]; simp)]
          go_region_held3 (fun V => V.cell? ⟨w.heap.size, 3, none⟩ = some (.int .i64 N) ∧ V.cell? ⟨ablk sa, aoff sa + k, none⟩ = some (.slice ra rn rc) ∧ Below wr.heap.size wr V)
            ((refine HS2.out _ ?_; first | exact (Below.refl _ _).drew | (go_split_ands; exact Below.next (by assumption) (by assumption))))
            (first
              | (go_at_call 121; ((with_reducible refine (HR.out _ (by go_split_ands; assumption)).mono ?_); rintro e w6 ⟨rfl, hb6⟩)))
          all_goals (
            go_wp2_with fail
            go_roundw
            case rel => exact ⟨k + 1, by omega, by go_num, Below.next Hbr.out (by go_split_ands; assumption), .inr ⟨by rw [Hy.out], by rw [Hy.out]; omega⟩⟩
            case measure => simp [intOf] <;> omega)
        · go_region_held3 (fun V => V.cell? ⟨w.heap.size, 3, none⟩ = some (.int .i64 N) ∧ V.cell? ⟨ablk sa, aoff sa + k, none⟩ = some (.slice ra rn rc) ∧ Below wr.heap.size wr V)
            ((refine HS2.out _ ?_; first | exact (Below.refl _ _).drew | (go_split_ands; exact Below.next (by assumption) (by assumption))))
            (first
              | (go_at_call 121; ((with_reducible refine (HR.out _ (by go_split_ands; assumption)).mono ?_); rintro e w6 ⟨rfl, hb6⟩)))
          all_goals (
            go_wp2_with fail
            go_roundw
            case rel => exact ⟨k + 1, by omega, by go_num, Below.next Hbr.out (by go_split_ands; assumption), .inl ⟨rfl, ⟨hall.out.1, all_take_succ hkS hall.out.2 Hz.out⟩⟩⟩
            case measure => simp [intOf] <;> omega)
      · obtain rfl : k = ns := by omega
        have Hy : Hid (y = 0) := by
          have h := hall.out.2
          rw [List.take_of_length_le (by rw [Hlen.out]; exact Nat.le_refl _)] at h
          show _ = _; rw [HZ.out hall.out.1, setsE, if_pos h]
        have hF := Below.next HbW.out hbr
        go_wp2_with fail
        go_ret
        exact ⟨ret_int Hy.out.symm, hF⟩
    · have hne' : (y == 0) = false := by simpa using hne
      have hF := Below.next HbW.out hbr
      clear hne
      by_cases hlt : k < ns
      · go_wp2_with fail
        go_ret
        exact ⟨rfl, hF⟩
      · obtain rfl : k = ns := by omega
        go_wp2_with fail
        go_ret
        exact ⟨rfl, hF⟩
end

end Go.Proofs.YtapjcccpokhhhaaGreat
