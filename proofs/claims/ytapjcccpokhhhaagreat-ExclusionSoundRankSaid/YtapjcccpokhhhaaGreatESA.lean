/- ExclusionSoundRank: the statement. -/
import Derived.Test.YtapjcccpokhhhaaGreatG29
import Derived.Test.YtapjcccpokhhhaaGreatG28
import Derived.Test.YtapjcccpokhhhaaGreatG16
import Derived.Test.YtapjcccpokhhhaaGreatG30
namespace Go.Proofs.YtapjcccpokhhhaaGreat
set_option linter.unusedVariables false
set_option linter.unusedSimpArgs false
set_option linter.unusedSectionVars false

/- The walks of ExclusionSoundRank and ExclusionSound. -/
section
open Go.RowKit

theorem okTo_frm {N : Int} {l : List Int} : ∀ k, (∀ i, i < k → okAt N l i = true) → okTo N l k = true
  | 0, _ => rfl
  | k + 1, h => okTo_succ (okTo_frm k fun i hi => h i (by omega)) (h k (by omega))
theorem okSet_frTo (b : Bool) (U : List Int) (m : Nat) : okSet m (frTo b U m) = true := by
  unfold okSet
  refine okTo_frm _ fun i hi => ?_
  have h1 := (mem_frTo m).1 (nth_mem hi)
  obtain ⟨j, hj, e, _⟩ := h1
  have hp := frTo_pair b U m
  rw [List.pairwise_iff_getElem] at hp
  unfold okAt
  have h2 : 0 < i → nth (frTo b U m) (i - 1) < nth (frTo b U m) i := fun h0 => by
    rw [nth_getElem hi, nth_getElem (show i - 1 < _ by omega)]
    exact hp (i - 1) i (by omega) hi (by omega)
  rw [e] at h2 ⊢
  simp
  omega
theorem frTo_drop {U : List Int} {i : Nat} (h : ∀ x ∈ U, x < (i : Int)) : ∀ k, k ≤ i → frTo false (U ++ [(i : Int)]) k = frTo false U k
  | 0, _ => rfl
  | k + 1, hk => by
    have e : decide ((k : Int) ∈ U ++ [(i : Int)]) = decide ((k : Int) ∈ U) := by
      have : ¬ (k : Int) = (i : Int) := by omega
      simp [this]
    rw [frTo, frTo, e, frTo_drop h k (by omega)]

set_option maxRecDepth 100000 in
set_option maxHeartbeats 8000000 in
theorem exLawSoundRank_any (P M : Int) (am : Option Addr) (mn cm : Nat) (mod : List Int) (N : Int) (a : Option Addr) (n c : Nat) (L : List (List Int)) (zw : Int) (ax : Option Addr) (nx cx : Nat) (ts : List (List Int)) (z1 z2 : Int) (w : World)
    (hmod : Ints w am mn mod) (hi : Mat w a n L) (hts : Mat w ax nx ts) (hnc : nx ≤ cx) (hz1 : 0 ≤ z1 ∧ z1 < 4294967296) (hz2 : 0 ≤ z2 ∧ z2 < 4294967296) :
    Calls Tryz.prog 11 #[.agg #[.int .i64 P, .int .i64 M, .slice am mn cm, .int .i64 N, .slice a n c], .agg #[.int .i64 zw, .slice ax nx cx], .agg #[.int .u32 z1, .int .u32 z2]] w fun e w' => e = .returned (.bool true) ∧ Below w.heap.size w w' := by
  have HF : Hid (∀ V, Below w.heap.size w V → Calls Tryz.prog 15 #[.agg #[.int .i64 P, .int .i64 M, .slice am mn cm, .int .i64 N, .slice a n c]] V (SomeBool V)) :=
    fun V hV => few26_any P M am mn cm N a n c L V (hi.keep hV)
  have HF2 : Hid (∀ V, Below w.heap.size w V → Calls Tryz.prog 16 #[.agg #[.slice ax nx cx]] V (SomeBool V)) :=
    fun V hV => rFew26_any ax nx cx ts V (hts.keep hV)
  have HCk := Lib.hid (fun V (hV : Below w.heap.size w V) => rCheck_any P M am mn cm mod N a n c L V (hmod.keep hV) (hi.keep hV))
  have Hil := Lib.hid hi.len
  go_enter Tryz.func11, Tryz.ntmps11
  go_wp2_with fail
  obtain ⟨W, hW⟩ : ∃ W : World, W = ((w.alloc (.cells #[.int .i64 P, .int .i64 M, .slice am mn cm, .int .i64 N, .slice a n c] 27)).alloc (.cells #[.int .i64 zw, .slice ax nx cx] 46)).alloc (.cells #[.int .u32 z1, .int .u32 z2] 73) := ⟨_, rfl⟩
  rw [← hW]
  have hbW : Below w.heap.size w W := by rw [hW]; exact below3 _ _ _ _
  have x0 : Box W w.heap.size [.int .i64 P, .int .i64 M, .slice am mn cm, .int .i64 N, .slice a n c] := by rw [hW]; exact ((Box.new _ _ _ rfl).alloc _).alloc _
  have y0 : Box W (w.heap.size + 1) [.int .i64 zw, .slice ax nx cx] := by rw [hW]; exact (Box.new _ _ _ (by simp)).alloc _
  have t0 : Box W (w.heap.size + 1 + 1) [.int .u32 z1, .int .u32 z2] := by rw [hW]; exact Box.new _ _ _ (by simp)
  have HS : Hid (∀ V, Below W.heap.size W V → V.cell? ⟨w.heap.size, 0, none⟩ = some (.int .i64 P) ∧ V.cell? ⟨w.heap.size, 1, none⟩ = some (.int .i64 M) ∧ V.cell? ⟨w.heap.size, 2, none⟩ = some (.slice am mn cm) ∧ V.cell? ⟨w.heap.size, 3, none⟩ = some (.int .i64 N) ∧ V.cell? ⟨w.heap.size, 4, none⟩ = some (.slice a n c) ∧
      V.cell? ⟨w.heap.size + 1, 0, none⟩ = some (.int .i64 zw) ∧ V.cell? ⟨w.heap.size + 1, 1, none⟩ = some (.slice ax nx cx) ∧ V.cell? ⟨w.heap.size + 1 + 1, 0, none⟩ = some (.int .u32 z1) ∧ V.cell? ⟨w.heap.size + 1 + 1, 1, none⟩ = some (.int .u32 z2)) := fun V hV => by
    have x1 := x0.keep hV
    have y1 := y0.keep hV
    have t1 := t0.keep hV
    exact ⟨x1.cell 0 rfl, x1.cell 1 rfl, x1.cell 2 rfl, x1.cell 3 rfl, x1.cell 4 rfl, y1.cell 0 rfl, y1.cell 1 rfl, t1.cell 0 rfl, t1.cell 1 rfl⟩
  have HbW := Lib.hid hbW
  have Hz1 := Lib.hid hz1
  have Hz2 := Lib.hid hz2
  clear hW x0 hbW y0 t0 hz1 hz2
  refine (awake26_any W).mono ?_
  rintro e w1 ⟨rfl, hb1⟩
  obtain ⟨c0, c1, c2, c3, c4, d0, d1, f0, f1⟩ := HS.out w1 hb1
  go_wp2_with fail
  refine (HF.out w1 (Below.next HbW.out hb1)).mono ?_
  rintro e w2 ⟨z, rfl, hb2⟩
  have hB2 := Below.next hb1 hb2
  clear c0 c1 c2 c3 c4 d0 d1 f0 f1 HF
  cases z
  · go_wp2_with fail
    refine (awake26_any w2).mono ?_
    rintro e w3 ⟨rfl, hb3⟩
    have hF := Below.next HbW.out (Below.next hB2 hb3)
    go_wp2_with fail
    go_ret
    exact ⟨rfl, hF⟩
  obtain ⟨c0, c1, c2, c3, c4, d0, d1, f0, f1⟩ := HS.out w2 hB2
  go_wp2_with fail
  refine (HF2.out w2 (Below.next HbW.out hB2)).mono ?_
  rintro e w4 ⟨z, rfl, hb4⟩
  have hB4 := Below.next hB2 hb4
  clear c0 c1 c2 c3 c4 d0 d1 f0 f1 HF2
  cases z
  · go_wp2_with fail
    refine (awake26_any w4).mono ?_
    rintro e w3 ⟨rfl, hb3⟩
    have hF := Below.next HbW.out (Below.next hB4 hb3)
    go_wp2_with fail
    go_ret
    exact ⟨rfl, hF⟩
  obtain ⟨c0, c1, c2, c3, c4, d0, d1, f0, f1⟩ := HS.out w4 hB4
  have Hck := Lib.hid (HCk.out w4 (Below.next HbW.out hB4))
  go_wp2_with fail
  refine Hck.out.mono ?_
  rintro e w5 ⟨rfl, hb5⟩
  have hB5 := Below.next hB4 hb5
  clear c0 c1 c2 c3 c4 d0 d1 f0 f1 Hck HCk hb1 hb2 hb4
  by_cases hE : codeE P M mod N L = 0
  rotate_left
  · have hE2 : (codeE P M mod N L != 0) = true := by simpa using hE
    clear hE
    generalize codeE P M mod N L = er at *
    go_wp2_with fail
    refine (awake26_any w5).mono ?_
    rintro e w3 ⟨rfl, hb3⟩
    have hF := Below.next HbW.out (Below.next hB5 hb3)
    go_wp2_with fail
    go_ret
    exact ⟨rfl, hF⟩
  obtain ⟨m, rfl, hm1, hm64, F, hR⟩ := codeE_fld hE
  have hn256 : n ≤ 256 := by rw [← Hil.out]; exact (codeE_rws hE).choose_spec.2.2.2.1
  have kw1 : IntKind.i64.wrap ((n : Int) + 1) = (n : Int) + 1 := IntWalk.i64_in _ (by omega)
  have hz1a := Hz1.out
  have kw2 : IntKind.i64.wrap z1 = z1 := IntWalk.i64_in _ (by omega)
  have kn0 : ((n : Int) + 1) ≠ 0 := by omega
  have kn0' : (((n : Int) + 1) == 0) = false := by simp; omega
  obtain ⟨u, hu⟩ : ∃ u, z1 % ((n : Int) + 1) = u := ⟨_, rfl⟩
  have hu0 : 0 ≤ u := by rw [← hu]; exact Int.emod_nonneg _ (by omega)
  have hu1 : u ≤ n := by have h := Int.emod_lt_of_pos z1 (show 0 < ((n : Int) + 1) by omega); omega
  have kr : z1.tmod ((n : Int) + 1) = u := by rw [← hu]; exact IntWalk.rem_in _ _ (by omega)
  have kw3 : IntKind.i64.wrap u = u := IntWalk.i64_in _ (by omega)
  obtain ⟨r, hr⟩ : ∃ r, chkRE P M mod m L u zw ts = r := ⟨_, rfl⟩
  have HCr : Hid (∀ V, Below w.heap.size w V → Calls Tryz.prog 17 #[.agg #[.int .i64 P, .int .i64 M, .slice am mn cm, .int .i64 m, .slice a n c], .int .i64 u, .int .i64 zw, .agg #[.slice ax nx cx]] V fun e w' => e = .returned (.int .i64 r) ∧ Below V.heap.size V w') := fun V hV => by
    rw [← hr]; exact exCheckRank_any P M am mn cm mod m a n c L u zw ax nx cx ts V (hmod.keep hV) (hi.keep hV) (hts.keep hV)
  have HRk : Hid (∀ V (T : List Int) (aq : Option Addr) (nq cq : Nat), Below w.heap.size w V → Ints V aq nq (frTo false T m) → Calls Tryz.prog 46 #[.agg #[.int .i64 P, .int .i64 M, .slice am mn cm, .int .i64 m, .slice a n c], .slice aq nq cq] V fun e w' => e = .returned (.tuple #[.int .i64 (grS (tblOf P M.toNat mod).ops L (frTo false T m)).length, .int .i64 0]) ∧ Below V.heap.size V w') := fun V T aq nq cq hV hq => by
    refine (rank_any P M am mn cm mod m a n c L aq nq cq _ V (hmod.keep hV) (hi.keep hV) hq).mono ?_
    have h0 : rankE P M mod m L (frTo false T m) = 0 := by rw [rankE, if_pos hE, setsE_one, if_pos (okSet_frTo false T m)]
    rintro e w' ⟨hb, ⟨h1, _⟩ | ⟨_, rfl⟩⟩
    · exact absurd h0 h1
    · exact ⟨rfl, hb⟩
  have HLaw : Hid (r = 0 → 0 ≤ zw ∧ ∀ T : List Int, (T.length : Int) ≤ zw → u ≤ (grS (tblOf P M.toNat mod).ops L (frTo false T m)).length) := fun h => by
    rw [h] at hr
    refine ⟨(chk_prov hr).2.2.2.1, fun T hT => rank_law hr hT fun x h0 h1 h2 => ?_⟩
    exact (mem_frTo m).2 ⟨x.toNat, by omega, by omega, by rw [Int.toNat_of_nonneg h0]; simpa using h2⟩
  rw [hE]
  obtain ⟨c0, c1, c2, c3, c4, d0, d1, f0, f1⟩ := HS.out w5 hB5
  clear hE hr hR F hu hmod hi hts
  go_wp2_with fail
  refine (HCr.out w5 (Below.next HbW.out hB5)).mono ?_
  rintro e w6 ⟨rfl, hb6⟩
  have hB6 := Below.next hB5 hb6
  clear c0 c1 c2 c3 c4 d0 d1 f0 f1 HCr
  by_cases hr0 : r = 0
  rotate_left
  · have hr2 : (r != 0) = true := by simpa using hr0
    have hF := Below.next HbW.out hB6
    clear hr0
    go_wp2_with fail
    go_ret
    exact ⟨rfl, hF⟩
  subst hr0
  obtain ⟨hzw, hlaw⟩ := HLaw.out rfl
  have Hlaw := Lib.hid hlaw
  clear HLaw hlaw
  obtain ⟨c0, c1, c2, c3, c4, d0, d1, f0, f1⟩ := HS.out w6 hB6
  go_wp2_with fail
  go_loopw [8, 9, 50] (fun rv ov iv wr => ∃ (i : Nat) (T : List Int) (ar : Option Addr) (cr : Nat), i ≤ m ∧ iv = .int .i64 i ∧ ov = .int .i64 T.length ∧ rv = .slice ar (frTo false T i).length cr ∧ wr.ownsRow w6.heap.size 3 1 (.slice ar (frTo false T i).length cr) (frTo false T i).length ((frTo false T i).map (Value.int .i64)) ∧
      Hid ((T.length : Int) ≤ zw ∧ T.length ≤ i ∧ ∀ x ∈ T, x < (i : Int)) ∧ Below w6.heap.size w6 wr) (fun _ _ iv _ => m - (intOf iv).toNat)
  case atStart => exact ⟨0, [], none, 0, Nat.zero_le _, rfl, rfl, rfl, by simpa [frTo] using own_none, ⟨by simpa using hzw, Nat.le_refl _, fun x hx => by simp at hx⟩, Below.refl _ _⟩
  case round =>
    clear c0 c1 c2 c3 c4 d0 d1 f0 f1
    obtain ⟨i, T, ar, cr, him, rfl, rfl, rfl, hown, hT, hbr⟩ := hrel
    generalize wr = U at *
    have hBU := Below.next hB6 hbr
    obtain ⟨c0, c1, c2, c3, c4, d0, d1, f0, f1⟩ := HS.out U hBU
    by_cases hlt : i < m
    · have hfl := frTo_len false T i
      have hTl := hT.out.2.1
      obtain ⟨Rs, hRs⟩ : ∃ Rs, frTo false T i = Rs := ⟨_, rfl⟩
      have Hdrop : Hid (frTo false (T ++ [(i : Int)]) (i + 1) = Rs) := by
        show _ = _
        rw [frTo_step, if_neg (by simp), frTo_drop hT.out.2.2 i (Nat.le_refl _), hRs]
      have Hkeep : Hid (frTo false T (i + 1) = Rs ++ [(i : Int)]) := by
        show _ = _
        rw [frTo_step, if_pos (decide_eq_false fun h => by have := hT.out.2.2 _ h; omega), hRs]
      rw [hRs] at hown hfl ⊢
      clear hRs
      have hcn := cell_new U (.int .i64 i) 3
      have hbn := below1 U (.cells #[.int .i64 i] 3)
      have hszU := hbr.size
      by_cases h32 : i < 32
      · have d32 : decide ((i : Int) < 32) = true := by simp; omega
        by_cases hbit : bits .and .u32 (z2 / 2 ^ i) 1 = 1
        · have e1 : (bits .and .u32 (z2 / 2 ^ i) 1 == 1) = true := by simpa using hbit
          by_cases hw : (T.length : Int) < zw
          · have dw : decide ((T.length : Int) < zw) = true := by simpa using hw
            have Hnx : Hid (((T ++ [(i : Int)]).length : Int) ≤ zw ∧ (T ++ [(i : Int)]).length ≤ i + 1 ∧ ∀ x ∈ T ++ [(i : Int)], x < ((i + 1 : Nat) : Int)) := by
              refine ⟨by rw [List.length_append, List.length_singleton]; omega, by rw [List.length_append, List.length_singleton]; omega, fun x hx => ?_⟩
              rcases List.mem_append.1 hx with hx | hx
              · have := hT.out.2.2 x hx; omega
              · rw [List.mem_singleton.1 hx]; omega
            clear hbit hw
            go_wp2_with fail
            go_roundw
            case rel => exact ⟨i + 1, T ++ [(i : Int)], ar, cr, by omega, by go_num, by rw [List.length_append, List.length_singleton]; go_num, by rw [Hdrop.out], by rw [Hdrop.out]; exact hown, Hnx.out, hbr⟩
            case measure => simp [intOf] <;> omega
          · have dw : decide ((T.length : Int) < zw) = false := by simpa using hw
            clear hbit hw
            go_wp2_with (at_builtin; refine wpList_push rfl _ _ 22 3 rfl (.int .i64 0) 8 Tryz.underlying22 infoInt rfl w6.heap.size ar Rs.length cr _ rfl (hown.alloc _) ⟨U.heap.size, 0, none⟩ 1 (.int .i64 i) rfl hcn rfl (by omega) (by unfold maxLen; omega) (by simp; omega) ?_; intro a5 c5 w5' hown5 hgr5 hap5)
            go_roundw
            case rel =>
              have hb5' : Below w6.heap.size w6 w5' := Below.app (Below.trans hbr (hbn.mono hszU)) (hown.alloc _) hgr5 (Nat.le_refl _) (Nat.le_trans hszU hbn.size)
              refine ⟨i + 1, T, a5, c5, by omega, by go_num, rfl, by rw [Hkeep.out, List.length_append]; rfl, ?_, ⟨hT.out.1, by omega, fun x hx => by have := hT.out.2.2 x hx; omega⟩, hb5'⟩
              rw [Hkeep.out, List.length_append]
              simpa using hown5
            case measure => simp [intOf] <;> omega
        · have e1 : (bits .and .u32 (z2 / 2 ^ i) 1 == 1) = false := by simpa using hbit
          clear hbit
          go_wp2_with (at_builtin; refine wpList_push rfl _ _ 22 3 rfl (.int .i64 0) 8 Tryz.underlying22 infoInt rfl w6.heap.size ar Rs.length cr _ rfl (hown.alloc _) ⟨U.heap.size, 0, none⟩ 1 (.int .i64 i) rfl hcn rfl (by omega) (by unfold maxLen; omega) (by simp; omega) ?_; intro a5 c5 w5' hown5 hgr5 hap5)
          go_roundw
          case rel =>
            have hb5' : Below w6.heap.size w6 w5' := Below.app (Below.trans hbr (hbn.mono hszU)) (hown.alloc _) hgr5 (Nat.le_refl _) (Nat.le_trans hszU hbn.size)
            refine ⟨i + 1, T, a5, c5, by omega, by go_num, rfl, by rw [Hkeep.out, List.length_append]; rfl, ?_, ⟨hT.out.1, by omega, fun x hx => by have := hT.out.2.2 x hx; omega⟩, hb5'⟩
            rw [Hkeep.out, List.length_append]
            simpa using hown5
          case measure => simp [intOf] <;> omega
      · have d32 : decide ((i : Int) < 32) = false := by simp; omega
        clear h32
        go_wp2_with (at_builtin; refine wpList_push rfl _ _ 22 3 rfl (.int .i64 0) 8 Tryz.underlying22 infoInt rfl w6.heap.size ar Rs.length cr _ rfl (hown.alloc _) ⟨U.heap.size, 0, none⟩ 1 (.int .i64 i) rfl hcn rfl (by omega) (by unfold maxLen; omega) (by simp; omega) ?_; intro a5 c5 w5' hown5 hgr5 hap5)
        go_roundw
        case rel =>
          have hb5' : Below w6.heap.size w6 w5' := Below.app (Below.trans hbr (hbn.mono hszU)) (hown.alloc _) hgr5 (Nat.le_refl _) (Nat.le_trans hszU hbn.size)
          refine ⟨i + 1, T, a5, c5, by omega, by go_num, rfl, by rw [Hkeep.out, List.length_append]; rfl, ?_, ⟨hT.out.1, by omega, fun x hx => by have := hT.out.2.2 x hx; omega⟩, hb5'⟩
          rw [Hkeep.out, List.length_append]
          simpa using hown5
        case measure => simp [intOf] <;> omega
    · obtain rfl : i = m := by omega
      have hla := Hlaw.out T hT.out.1
      have hrk := HRk.out U T ar (frTo false T i).length cr (Below.next HbW.out hBU) (Ints.own hown).1
      obtain ⟨g, hg⟩ : ∃ g, (grS (tblOf P M.toNat mod).ops L (frTo false T i)).length = g := ⟨_, rfl⟩
      rw [hg] at hla hrk
      have Hrk := Lib.hid hrk
      have dg : decide (u ≤ (g : Int)) = true := by simpa using hla
      clear hla hrk hg hown
      go_wp2_with fail
      refine Hrk.out.mono ?_
      rintro e w8 ⟨rfl, hb8⟩
      have hF := Below.next HbW.out (Below.next hBU hb8)
      clear c0 c1 c2 c3 c4 d0 d1 f0 f1
      go_wp2_with fail
      go_ret
      exact ⟨rfl, hF⟩
end

/- ExclusionSoundRank: the statement. -/
section
open Go.ChangeShapes Go.WideShapes Go.ChangeAt Go.RowKit

set_option maxRecDepth 100000 in
theorem exSoundRank_lifted (os : Os) (started : os.Started) (H : Type) (enc : TypeId × Value → H) :
    ReturnsInHanded {} Tryz.checked os 11 .any (Rows.exclusionSoundRankSpec.pre6 enc Tryz.prog Tryz.f11 Rows.exclusionSoundRankRow.domain false) (Rows.exclusionSoundRankSpec.post enc Tryz.prog Tryz.f11 false true false false) := by
  refine returnsInHanded_of_change (C := Tryz.checked) Tryz.own started (by kernel_rfl) Tryz.func11
    (ChangeSpec.witness6 (enc := enc) (C := Tryz.checked) false ⟨#[], #[.agg #[.int .i64 0, .int .i64 0, .slice none 0 0, .int .i64 0, .slice none 0 0], .agg #[.int .i64 0, .slice none 0 0], .agg #[.int .u32 0, .int .u32 0]], []⟩ 8 (by kernel_rfl) (by kernel_rfl) (by kernel_rfl) (by kernel_rfl)) ?_
  intro W base args ds gs before hval0 hW hcnd _
  have hval : ∀ (j : Nat) t v, Tryz.f11.params[j]? = some t → args[j]? = some v → Value.okWide Tryz.prog W .any base t v := hval0
  have hW' := hW
  obtain ⟨p, q, hA0, hV, rfl, hfz, hnd⟩ := hW
  have hA : DataW.TrodAll enc Tryz.prog W 0 (fun _ => true) true Tryz.f11.params.toList args.toList ds p := hA0
  rw [Tryz.params11] at hA hval
  obtain ⟨v0, vs0, d0, ds0, p0, q0, hargs, rfl, rfl, h0, r0⟩ := trodAll_cons hA
  obtain ⟨v1, vs1, d1, ds1, p1, q1, rfl, rfl, rfl, h1, r1⟩ := trodAll_cons r0
  obtain ⟨v2, vs2, d2, ds2, p2, q2, rfl, rfl, rfl, h2, r2⟩ := trodAll_cons r1
  obtain ⟨rfl, rfl, rfl⟩ := trodAll_nil r2
  obtain rfl : args = #[v0, v1, v2] := by cases args; simp_all
  obtain ⟨rfl, rfl⟩ := trodVars_none hV
  have k0 := h0
  have k1 := h1
  have k2 := h2
  have lt0 : ∀ x ∈ p0, x.block < W.heap.size := by obtain ⟨m, hm⟩ := k0; exact DataW.trod_lt m _ _ _ hm
  have lt1 : ∀ x ∈ p1, x.block < W.heap.size := by obtain ⟨m, hm⟩ := k1; exact DataW.trod_lt m _ _ _ hm
  have lt2 : ∀ x ∈ p2, x.block < W.heap.size := by obtain ⟨m, hm⟩ := k2; exact DataW.trod_lt m _ _ _ hm
  obtain ⟨P, M, am, mn, cm, mod, N, a, n, c, L, rfl, hI0, hM0⟩ := arg_code (hval 0 _ v0 rfl rfl) h0
  obtain ⟨z1w, a1x, n1x, c1x, T1, rfl, hT1, hc1⟩ := arg_proof (hval 1 _ v1 rfl rfl) h1
  obtain ⟨z2x, z2y, rfl, wx2, wy2⟩ := arg_pair32 (hval 2 _ v2 rfl rfl) h2
  clear hA0 hval0
  refine (exLawSoundRank_any P M am mn cm mod N a n c L z1w a1x n1x c1x T1 z2x z2y W hI0 hM0 hT1 hc1 wx2 wy2).mono fun e W' ⟨he, bel⟩ => ?_
  subst he
  exact ⟨_, rfl, _, _, _, [], _, [], hW', trodAll_mk1 (shut_bool Tryz.underlying4 _), (trodAll_cons_mk (Below.trod Tryz.laid (by kernel_rfl) (of_decide_eq_true (by kernel_rfl)) k0 bel lt0) (trodAll_cons_mk (Below.trod Tryz.laid (by kernel_rfl) (of_decide_eq_true (by kernel_rfl)) k1 bel lt1) (trodAll_cons_mk (Below.trod Tryz.laid (by kernel_rfl) (of_decide_eq_true (by kernel_rfl)) k2 bel lt2) trodAll_mk0))), rfl, bel.frame _, fun h => by cases h⟩

theorem exSoundRank_over : Rows.exclusionSoundRankRow.holds Tryz.pinned (OpenSpec.ofChange Rows.exclusionSoundRankSpec) :=
  OpenClaim.holds_of_wide 11 Tryz.f11 rfl rfl rfl rfl rfl rfl rfl ⟨rfl, rfl, rfl, rfl, rfl⟩ rfl rfl rfl rfl rfl (by kernel_rfl) Tryz.func11 exSoundRank_joined
    (of_decide_eq_true (by kernel_rfl)) (by unfold Func.isWrapper; first | (rw [if_pos (by decide +kernel)]; kernel_rfl) | (rw [if_neg (by decide +kernel)]; exact ⟨rfl, rfl⟩))
    (fun os started H enc _ => exSoundRank_lifted os started H enc)

theorem exSoundRank_holds : Rows.ExclusionSoundRankSaid := exSoundRank_over
#print axioms exSoundRank_holds
end

end Go.Proofs.YtapjcccpokhhhaaGreat
