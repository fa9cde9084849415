/- InfosetFamily: the statement. -/
import Derived.Test.YtakmnncmeefceaaGreatH4
import Derived.Test.YtakmnncmeefceaaGreatH3
import Derived.Test.YtakmnncmeefceaaGreatG28
import Derived.Test.YtakmnncmeefceaaGreatG30
import Derived.Test.YtakmnncmeefceaaGreatG29
import Derived.Test.YtakmnncmeefceaaGreatRows
namespace Go.Proofs.YtakmnncmeefceaaGreat
set_option linter.unusedVariables false
set_option linter.unusedSimpArgs false
set_option linter.unusedSectionVars false

/- The walk of codewrightref25.Family. -/
section
open Go.RowKit

theorem in_fresh {m : Nat} {U : List Int} {z : Int} (hz : 0 ≤ z ∧ z < (m : Int)) : decide (z ∈ frTo false U m) = decide (¬ z ∈ U) := by
  have h : z ∈ frTo false U m ↔ ¬ z ∈ U := by
    rw [mem_frTo]
    constructor
    · rintro ⟨j, _, rfl, h⟩; simpa using h
    · intro h
      refine ⟨z.toNat, by omega, by omega, ?_⟩
      rw [show ((z.toNat : Nat) : Int) = z by omega]
      simpa using h
  simp [h]

set_option maxRecDepth 100000 in
set_option maxHeartbeats 16000000 in
theorem rFamily25_any (P M : Int) (am : Option Addr) (mn cm : Nat) (mod : List Int) (N : Int) (a : Option Addr) (n c : Nat) (L : List (List Int)) (w : World) (hmod : Ints w am mn mod) (hi : Mat w a n L) :
    Calls Tryz.prog 40 #[.agg #[.int .i64 P, .int .i64 M, .slice am mn cm, .int .i64 N, .slice a n c]] w (FamPost P M mod N L w) := by
  have HCk := Lib.hid (fun V (hV : Below w.heap.size w V) => rCheck_any P M am mn cm mod N a n c L V (hmod.keep hV) (hi.keep hV))
  go_enter Tryz.func40, Tryz.ntmps40
  go_wp2_with fail
  obtain ⟨W, hW⟩ : ∃ W : World, W = w.alloc (.cells #[.int .i64 P, .int .i64 M, .slice am mn cm, .int .i64 N, .slice a n c] 27) := ⟨_, rfl⟩
  rw [← hW]
  have hbW : Below w.heap.size w W := by rw [hW]; exact below1 _ _
  have x0 : Box W w.heap.size [.int .i64 P, .int .i64 M, .slice am mn cm, .int .i64 N, .slice a n c] := by rw [hW]; exact Box.new _ _ _ rfl
  have HX := Lib.hid x0
  have HbW := Lib.hid hbW
  have Hc := Lib.hid (HCk.out W hbW)
  clear hW x0 HCk
  refine Hc.out.mono ?_
  rintro e w1 ⟨rfl, hb1⟩
  have hbw1 := Below.next hbW hb1
  clear Hc
  by_cases hE : codeE P M mod N L = 0
  rotate_left
  · have HP : Hid (FamPost P M mod N L w (.returned (.tuple #[.slice none 0 0, .int .i64 (codeE P M mod N L)])) w1) := ⟨hbw1, .inl ⟨hE, rfl⟩⟩
    have hE2 : (codeE P M mod N L != 0) = true := by simpa using hE
    clear hE
    generalize codeE P M mod N L = er at *
    go_wp2_with fail
    go_ret2
    exact HP.out
  obtain ⟨m, hm, hm1, hm64, hL256, hR⟩ := codeE_rws hE
  subst hm
  have HP : Hid (∀ k a' c' R T w', T = famL (tblOf P M.toNat mod).ops L m → Below w.heap.size w w' → OSt w' w.heap.size a' k c' R T → FamPost P M mod m L w (.returned (.tuple #[.slice a' k c', .int .i64 0])) w') := fun k a' c' R T w' h1 h2 h3 =>
    ⟨h2, .inr ⟨hE, m, rfl, k, a', c', R, T, h1, rfl, h3⟩⟩
  have HPk0 : Hid (∀ V aq cq U, Below w.heap.size w V → Ints V aq m (ordF m U) → Calls Tryz.prog 81 #[.agg #[.int .i64 P, .int .i64 M, .slice am mn cm], .slice a n c, .slice aq m cq, .int .i64 m] V fun e w' =>
      ∃ a1 c1, e = .returned (.slice a1 (choF (tblOf P M.toNat mod).ops L m U).length c1) ∧ w'.ownsRow V.heap.size 3 1 (.slice a1 (choF (tblOf P M.toNat mod).ops L m U).length c1) (choF (tblOf P M.toNat mod).ops L m U).length ((sortL (choF (tblOf P M.toNat mod).ops L m U)).map (Value.int .i64)) ∧ Below V.heap.size V w') := fun V aq cq U hV hq => by
    have h := rPick25_any P M am mn cm mod m a n c L aq m cq (ordF m U) m V (hmod.keep hV) (hi.keep hV) hq hE (ordF_in m U) (by omega)
    have e := gre_rg (Q := ordF m U) hE (by rw [ordF_len]; exact Nat.le_refl _)
    rw [ordF_len] at e
    rw [e] at h
    exact h
  have Hcl : Hid (∀ U, (choF (tblOf P M.toNat mod).ops L m U).length ≤ m) := fun U => by
    have := grS_len (tblOf P M.toNat mod).ops L (ordF m U)
    rw [ordF_len] at this
    exact this
  obtain ⟨O, hO⟩ : ∃ O, (tblOf P M.toNat mod).ops = O := ⟨_, rfl⟩
  rw [hO] at HP HPk0 Hcl
  have HC : Hid (∀ V, Below w1.heap.size w1 V → V.cell? ⟨w.heap.size, 0, none⟩ = some (.int .i64 P) ∧ V.cell? ⟨w.heap.size, 1, none⟩ = some (.int .i64 M) ∧ V.cell? ⟨w.heap.size, 2, none⟩ = some (.slice am mn cm) ∧ V.cell? ⟨w.heap.size, 3, none⟩ = some (.int .i64 m) ∧ V.cell? ⟨w.heap.size, 4, none⟩ = some (.slice a n c)) := fun V hV => by
    have x1 := HX.out.keep (Below.next hb1 hV)
    exact ⟨x1.cell 0 rfl, x1.cell 1 rfl, x1.cell 2 rfl, x1.cell 3 rfl, x1.cell 4 rfl⟩
  have Hbw1 := Lib.hid hbw1
  have hO0 := OSt.start w1 w1.heap.size
  rw [hE]
  clear hE hR hO hL256 hmod hi hbw1 hb1 hbW
  go_wp2_with fail
  go_loopw [5, 6] (fun ov uv wr => ∃ (k : Nat) (T : List (List Int × Int)) (ao : Option Addr) (co : Nat) (R : List (Option Addr × Nat)) (U : List Int) (au : Option Addr) (cu : Nat), k ≤ m ∧ ov = .slice ao k co ∧ uv = .slice au U.length cu ∧ OSt wr w1.heap.size ao k co R T ∧
      wr.ownsRow w1.heap.size 3 1 (.slice au U.length cu) U.length (U.map (Value.int .i64)) ∧ Hid ((ao ≠ none → Apt au (ablk ao)) ∧ (∀ r ∈ R, r.1 ≠ none → Apt au (ablk r.1))) ∧ Below w1.heap.size w1 wr ∧ Hid (famL O L m = famGo O L m (m + 1 - k) U T) ∧
      k + (frTo false U m).length ≤ m ∧ Hid (U.Nodup ∧ ∀ x ∈ U, 0 ≤ x ∧ x < (m : Int))) (fun ov _ _ => m + 1 - lenV ov)
  case atStart => exact ⟨0, [], none, 0, [], [], none, 0, Nat.zero_le _, rfl, rfl, hO0, own_none, ⟨fun h => absurd rfl h, fun r hr => by simp at hr⟩, Below.refl _ _, rfl, by have := frTo_len false [] m; omega, ⟨List.nodup_nil, fun x hx => by simp at hx⟩⟩
  case round =>
    clear hO0
    obtain ⟨k, T, ao, co, R, U, au, cu, hk, rfl, rfl, hOS, hU, hsep, hbr, hfam, hfr, hUn⟩ := hrel
    generalize wr = V0 at *
    have hUl := used_len hUn.out.1 hUn.out.2
    have hfl := frTo_two U m
    have hus := used_sort hUn.out.1 hUn.out.2
    have hfresh := fun z hz => in_fresh (m := m) (U := U) (z := z) hz
    have hord : frTo false U m ++ sortL U = ordF m U := by rw [ordF, hus]
    have hul2 : (frTo false U m).length + U.length = m := by rw [← hus, sortL_len] at hfl; exact hfl
    have Hord := Lib.hid hord
    have Hfresh := Lib.hid hfresh
    obtain ⟨Un, hUnn⟩ : ∃ Un, U.length = Un := ⟨_, rfl⟩
    have HUl := Lib.hid hUnn
    rw [hUnn] at hU hUl hul2 ⊢
    have hIU := (Ints.own hU).1
    have hot := rOthers10_any au Un cu U m V0 hIU (by omega)
    have hfr2 := hfr
    obtain ⟨f, hf⟩ : ∃ f, frTo false U m = f := ⟨_, rfl⟩
    rw [hf] at hot Hord Hfresh hul2 hfr2
    obtain ⟨g, hg⟩ : ∃ g, f.length = g := ⟨_, rfl⟩
    rw [hg] at hot hul2 hfr2
    have Hg := Lib.hid hg
    have Hot := Lib.hid hot
    have Hul2 := Lib.hid hul2
    have hg64 : g ≤ 64 := by omega
    have hUn64 : Un ≤ 64 := by omega
    obtain ⟨_, _, _, c3, _⟩ := HC.out V0 hbr
    clear hf hg hot hUnn hfl hus hfresh hord hul2 hUl
    go_wp2_with fail
    refine Hot.out.mono ?_
    rintro e V1 ⟨af, cf, rfl, hownf, hb01⟩
    have hbV1 := Below.next hbr hb01
    have hIf := (Ints.own hownf).1
    have hplf := hIf.pl
    have HIf := Lib.hid hIf
    have hSl := Hcl.out U
    have hfam2 : newF U (choF O L m U) (choF O L m U).length = 0 → famL O L m = T := fun h => by rw [hfam.out, show m + 1 - k = m - k + 1 by omega, famGo, if_pos h]
    have hfam3 : newF U (choF O L m U) (choF O L m U).length ≠ 0 → famL O L m = famGo O L m (m - k) (U ++ sortL (choF O L m U)) (T ++ [(sortL (choF O L m U), newF U (choF O L m U) (choF O L m U).length)]) := fun h => by rw [hfam.out, show m + 1 - k = m - k + 1 by omega, famGo, if_neg h]
    have hless : newF U (choF O L m U) (choF O L m U).length ≠ 0 → (frTo false (U ++ sortL (choF O L m U)) m).length < (frTo false U m).length := fun h => fam_less h
    have hSin : ∀ x ∈ sortL (choF O L m U), 0 ≤ x ∧ x < (m : Int) := fun x hx => by
      obtain ⟨j, hj, rfl⟩ := choF_in ((sortL_perm _).mem_iff.1 hx)
      omega
    have hso := newF_sort U (choF O L m U)
    have hSs := sortL_len (choF O L m U)
    have hPk := fun V aq cq => HPk0.out V aq cq U
    obtain ⟨Sn, hSn⟩ : ∃ Sn, (choF O L m U).length = Sn := ⟨_, rfl⟩
    rw [hSn] at hfam2 hfam3 hless hSl hso hSs hPk
    rw [← hso] at hfam2 hfam3 hless
    obtain ⟨S, hS⟩ : ∃ S, sortL (choF O L m U) = S := ⟨_, rfl⟩
    rw [hS] at hfam2 hfam3 hless hSin hSs hPk
    have Hfam2 := Lib.hid hfam2
    have Hfam3 := Lib.hid hfam3
    have Hless := Lib.hid hless
    have HSin := Lib.hid hSin
    have HSs := Lib.hid hSs
    have hbw := Below.next Hbw1.out hbV1
    have HPk : Hid (∀ V a5 c5, Below V1.heap.size V1 V → V.ownsRow V1.heap.size 3 1 (.slice a5 (g + Un) c5) (g + Un) (f.map (Value.int .i64) ++ (sortL U).map (Value.int .i64)) → ∀ V2, Below V.heap.size V V2 →
        Calls Tryz.prog 81 #[.agg #[.int .i64 P, .int .i64 M, .slice am mn cm], .slice a n c, .slice a5 (g + Un) c5, .int .i64 m] V2 fun e w' => ∃ a1 c1, e = .returned (.slice a1 Sn c1) ∧ w'.ownsRow V2.heap.size 3 1 (.slice a1 Sn c1) Sn (S.map (Value.int .i64)) ∧ Below V2.heap.size V2 w') := fun V a5 c5 hV ho V2 hV2 => by
      rw [← List.map_append, Hord.out, Hul2.out] at ho
      rw [Hul2.out]
      exact hPk V2 a5 c5 (Below.next hbw (Below.next hV hV2)) ((Ints.own ho).1.keep hV2)
    have HSo : Hid (∀ V, Below V1.heap.size V1 V → Calls Tryz.prog 38 #[.slice au Un cu] V fun e w' => ∃ a6 c6, e = .returned (.slice a6 Un c6) ∧ Ints w' a6 Un (sortL U) ∧ (0 < Un → V.heap.size ≤ ablk a6) ∧ Below V.heap.size V w') := fun V hV => by
      refine (sorted25_any au Un cu U V (hIU.keep (Below.next hb01 hV)) (by omega)).mono ?_
      rintro e w' ⟨a6, c6, rfl, ho, hb⟩
      exact ⟨a6, c6, rfl, (Ints.own ho).1, fun h => (own_lt_pos ho h).1, hb⟩
    have HS : Hid (∀ V, Below V1.heap.size V1 V → V.cell? ⟨w.heap.size, 0, none⟩ = some (.int .i64 P) ∧ V.cell? ⟨w.heap.size, 1, none⟩ = some (.int .i64 M) ∧ V.cell? ⟨w.heap.size, 2, none⟩ = some (.slice am mn cm) ∧ V.cell? ⟨w.heap.size, 3, none⟩ = some (.int .i64 m) ∧ V.cell? ⟨w.heap.size, 4, none⟩ = some (.slice a n c) ∧ Ints V af g f ∧ Below V1.heap.size V1 V) := fun V hV => by
      obtain ⟨d0, d1, d2, d3, d4⟩ := HC.out V (Below.next hbV1 hV)
      exact ⟨d0, d1, d2, d3, d4, HIf.out.keep hV, hV⟩
    have hsl : (sortL U).length = Un := by rw [sortL_len]; exact HUl.out
    have hgl := Hg.out
    have HOS := Lib.hid (And.intro hOS hU)
    have Hb01 := Lib.hid (And.intro hb01 hbV1)
    clear hS hSn hfam2 hfam3 hless hSin hSs hso hPk HPk0 hIf hownf hIU hOS hU hb01 hbV1 hbr hbw c3 Hot hfam
    go_wp2_with fail
    go_cut [8] (fun v wx => ∃ a1 c1, v = .slice a1 Sn c1 ∧ wx.ownsRow V1.heap.size 3 1 (.slice a1 Sn c1) Sn (S.map (Value.int .i64)) ∧ Below V1.heap.size V1 wx)
    case first =>
      have hO := own_emp V1 3
      go_region_held3 (fun V => V.cell? ⟨w.heap.size, 0, none⟩ = some (.int .i64 P) ∧ V.cell? ⟨w.heap.size, 1, none⟩ = some (.int .i64 M) ∧ V.cell? ⟨w.heap.size, 2, none⟩ = some (.slice am mn cm) ∧ V.cell? ⟨w.heap.size, 3, none⟩ = some (.int .i64 m) ∧ V.cell? ⟨w.heap.size, 4, none⟩ = some (.slice a n c) ∧ Ints V af g f ∧ Below V1.heap.size V1 V)
        ((refine HS.out _ ?_; first | exact (Below.refl _ _).drew | exact hb8 | exact hb5 | exact hb4 | exact hb6 | exact Below.allocN hb6 _ | exact Below.allocN hb4 _ | exact ((Below.refl _ _).alloc (Nat.le_refl _) _).drew | (go_split_ands; exact Below.allocN (by assumption) _)))
        (first
          | (go_at_call 38; ((with_reducible refine (HSo.out _ (by go_split_ands; assumption)).mono ?_); rintro e w6 ⟨a6, c6, rfl, hI6, hne6, hb6'⟩; have hb6 : Below V1.heap.size V1 w6 := (by go_split_ands; exact Below.next (by assumption) hb6'); have hOs := own_mono (own_emp w6 3) hb6.size; have hpl6 := hI6.pl; (first | (have hOc := own_keep hO hb6') | skip); (first | (have hown4 := own_keep hown4 hb6'; have hb4 := hb6) | skip)))
          | (obtain ⟨_, _, _, _, _, hI9, hB9⟩ := (by assumption : _ ∧ _ ∧ _ ∧ _ ∧ _ ∧ Ints _ af g f ∧ Below V1.heap.size V1 _); refine step_appAll (by rfl) (.tmp 25) (.tmp 26) 22 3 (by rfl) (.int .i64 0) 8 Tryz.underlying22 infoInt (by rfl) V1.heap.size _ 0 0 [] (by rfl) (by first | exact hO | exact hO.alloc _ | exact hOs | exact hOc) af g cf (f.map (Value.int .i64)) (by rfl) hplf (by simp [hgl]) (Ints.news hI9) (ints_oneCell _ _) (by omega) (by unfold maxLen; omega) (Below.size hB9) ?_; intro a4 c4 w4 hown4 hgr4 hap4; have hb4 : Below V1.heap.size V1 w4 := Below.app (B := V1.heap.size) (e := 3) (xs := []) hB9 (by first | exact hO | exact hO.alloc _ | exact hOs | exact hOc) hgr4 (Nat.le_refl _) (Below.size hB9); rw [Nat.zero_add] at hown4 ⊢; rw [List.nil_append] at hown4; (first | (have hI64 := (hI6.keep (below1 _ _)).grownApt hgr4 (fun h => .inr (by have h1 := hI6.lt h; simp [ablk] at h1 ⊢; omega))) | (have hI64 := hI6.grownApt hgr4 (fun h => .inr (by have h1 := hne6 h; simp [ablk] at h1 ⊢; omega))) | skip))
          | (refine step_appAll (by rfl) (.tmp 27) (.tmp 29) 22 3 (by rfl) (.int .i64 0) 8 Tryz.underlying22 infoInt (by rfl) V1.heap.size a4 g c4 (f.map (Value.int .i64)) (by rfl) (by exact hown4) a6 Un c6 ((sortL U).map (Value.int .i64)) (by rfl) hpl6 (by simp [hsl]) (by first | exact Ints.news hI64 | exact Ints.news hI6) (ints_oneCell _ _) (by omega) (by unfold maxLen; omega) hb4.size ?_; intro a5 c5 w5 hown5 hgr5 hap5; have hb5 : Below V1.heap.size V1 w5 := Below.app hb4 hown4 hgr5 (Nat.le_refl _) hb4.size; have Hr2 := Lib.hid (HPk.out w5 a5 c5 hb5 hown5))
          | (go_at_call 81; ((with_reducible refine (Hr2.out _ (by first | exact Below.refl _ _ | assumption)).mono ?_); rintro e w8 ⟨a8, c8, rfl, hown8, hb8'⟩; have hb8 : Below V1.heap.size V1 w8 := Below.next hb5 hb8')))
      all_goals (go_wp2_with fail; go_meet; exact ⟨a8, c8, rfl, own_mono hown8 (by have := hb5.size; simp; omega), hb8⟩)
    obtain ⟨a8, c8, rfl, hown8, hb12⟩ := hcut
    generalize wc = V2 at *
    have hbV2 := Below.next Hb01.out.2 hb12
    have hIS := (Ints.own hown8).1
    have hplS := hIS.pl
    have hf2 := HIf.out.keep hb12
    go_wp2_with fail
    go_loopw [9, 10] (fun rv iv wr => ∃ j : Nat, j ≤ Sn ∧ iv = .int .i64 j ∧ rv = .int .i64 (newF U S j) ∧ wr = V2) (fun _ iv _ => Sn - (intOf iv).toNat)
    case atStart => exact ⟨0, Nat.zero_le _, rfl, rfl, rfl⟩
    case round =>
      obtain ⟨j, hj, rfl, rfl, rfl⟩ := hrel
      by_cases hlt : j < Sn
      · have cs := hIS.cell j hlt
        have hjS : j < S.length := by rw [HSs.out]; exact hlt
        have hzm := HSin.out _ (nth_mem hjS)
        have hst : newF U S (j + 1) = if nth S j ∈ U then newF U S j else newF U S j + 1 := rfl
        have hbd := newF_bd U S j
        obtain ⟨z, hz⟩ : ∃ z, nth S j = z := ⟨_, rfl⟩
        rw [hz] at cs hzm hst
        have hin := rIn25_any af g cf f z wr hf2
        rw [Hfresh.out z hzm] at hin
        obtain ⟨t, ht⟩ : ∃ t, newF U S j = t := ⟨_, rfl⟩
        rw [ht] at hst hbd ⊢
        clear hz hjS ht
        by_cases hzU : z ∈ U
        · rw [if_pos hzU] at hst
          rw [show decide (¬ z ∈ U) = false by simpa using hzU] at hin
          have Hst := Lib.hid hst
          have Hin := Lib.hid hin
          clear hzU hst hin hzm
          go_wp2_with fail
          refine Hin.out.mono ?_
          rintro e w5 ⟨rfl, rfl⟩
          go_wp2_with fail
          go_roundw
          case rel => exact ⟨j + 1, by omega, by go_num, by rw [Hst.out], by simp⟩
          case measure => simp [intOf] <;> omega
        · rw [if_neg hzU] at hst
          rw [show decide (¬ z ∈ U) = true by simpa using hzU] at hin
          have Hst := Lib.hid hst
          have Hin := Lib.hid hin
          have kz : IntKind.i64.wrap (t + 1) = t + 1 := IntWalk.i64_in _ (by omega)
          clear hzU hst hin hzm
          go_wp2_with fail
          refine Hin.out.mono ?_
          rintro e w5 ⟨rfl, rfl⟩
          go_wp2_with fail
          go_roundw
          case rel => exact ⟨j + 1, by omega, by go_num, by rw [Hst.out], by simp⟩
          case measure => simp [intOf] <;> omega
      · obtain rfl : j = Sn := by omega
        generalize wr = V2 at *
        obtain ⟨rk, hrk⟩ : ∃ rk, newF U S j = rk := ⟨_, rfl⟩
        rw [hrk] at Hfam2 Hfam3 Hless ⊢
        have HrkS : Hid (newF U S S.length = rk) := by show _ = _; rw [HSs.out]; exact hrk
        have hb02 := Below.next Hb01.out.1 hb12
        have hOS2 := HOS.out.1.keep hb02
        have hU2 := own_keep HOS.out.2 hb02
        by_cases hz : rk = 0
        · have hz' : (rk == 0) = true := by simpa using hz
          have HF := Lib.hid (HP.out k ao co R T V2 (Hfam2.out hz).symm (Below.next Hbw1.out hbV2) (hOS2.mono Hbw1.out.size))
          clear hz hrk Hfam2 Hfam3 Hless hOS2 hU2 hown8
          go_wp2_with fail
          go_ret2
          exact HF.out
        · have hz' : (rk == 0) = false := by simpa using hz
          have hfam3 := Hfam3.out hz
          have hls := Hless.out hz
          have hsz2 := hbV2.size
          have hb8 := below1 V2 (.cells #[.slice a8 j c8, .int .i64 rk] 60)
          have hOS8 := hOS2.keep hb8
          have hS8 : V1.heap.size ≤ V2.heap.size := hb12.size
          have hS1 := Hb01.out.2.size
          have hS0 := Hb01.out.1.size
          have hao : ao ≠ none → ablk ao < V0.heap.size := fun h0 => (HOS.out.1.blk h0).2
          have ha8 : a8 ≠ none → V1.heap.size ≤ ablk a8 ∧ ablk a8 < V2.heap.size := fun h0 => own_ne hown8 h0
          have hapo8 : a8 ≠ none → Apt ao (ablk a8) := fun h4 => by
            by_cases h0 : ao = none
            · exact .inl h0
            · exact .inr (by have := hao h0; have := (ha8 h4).1; omega)
          have hau : au ≠ none → ablk au < V0.heap.size := fun h0 => (own_ne HOS.out.2 h0).2
          have hapu8 : a8 ≠ none → Apt au (ablk a8) := fun h4 => by
            by_cases h0 : au = none
            · exact .inl h0
            · exact .inr (by have := hau h0; have := (ha8 h4).1; omega)
          have HIS8 := Lib.hid (hIS.keep hb8)
          clear hrk hz Hfam2 Hfam3 Hless
          go_wp2_with (at_builtin; refine wpList_push2 (by rfl) (.tmp 51) (.tmp 55) 54 60 (by rfl) (.agg #[.slice none 0 0, .int .i64 0]) 32 Tryz.underlying54 infoStepI (by rfl) w1.heap.size ao k co (stV R T) (by rfl) hOS8.own V2.heap.size 1 (.slice a8 j c8) (.int .i64 rk) (by rfl) (cell_alloc_at _ _ _ rfl 0) (cell_alloc_at _ _ _ rfl 1) (by rfl) (by rfl) (by omega) (by unfold maxLen; omega) (by simp; omega) ?_; intro a9 c9 V9 hown9 hgr9 hap9)
          have hSl2 := HSs.out
          have hpush : OSt V9 w1.heap.size a9 (k + 1) c9 (R ++ [(a8, c8)]) (T ++ [(S, rk)]) :=
            hOS8.push (by rw [hSl2]; exact HIS8.out) (fun h0 => ⟨by have := (ha8 h0).1; omega, by have := (ha8 h0).2; simp; omega⟩) hapo8 (by rw [hSl2]; exact hown9) hgr9 hap9
          have hapou : au ≠ none → Apt ao (ablk au) := fun h0 => by
            by_cases h1 : ao = none
            · exact .inl h1
            · have h2 := hsep.out.1 h1
              rcases h2 with h2 | h2
              · exact absurd h2 h0
              · exact .inr fun e => h2 e.symm
          have hU9 : V9.ownsRow w1.heap.size 3 1 (.slice au Un cu) Un (U.map (Value.int .i64)) := by
            by_cases h0 : au = none
            · subst h0
              rcases own_lt hU2 with ⟨_, h1, h2⟩ | ⟨h1, h2⟩
              · subst h1; subst h2
                have hx := own_len hU2
                rw [List.eq_nil_of_length_eq_zero hx]
                exact own_none
              · rcases hU2.2 with ⟨h3, h4⟩ | ⟨g', cap, cur, hv, _⟩
                · cases h3
                  have hx := own_len hU2
                  rw [List.eq_nil_of_length_eq_zero hx]
                  exact own_none
                · cases hv
            · exact own_grownApt (own_keep hU2 hb8) hgr9 (hapou h0)
          have hb29 : Below w1.heap.size w1 V9 := (Below.next hbV2 hb8).grown hgr9 (by simp; omega) fun j' hj' => by
            cases ao with
            | none => simp [Value.ownBlock] at hj'
            | some y => simp [Value.ownBlock] at hj'; rw [← hj']; exact (hOS8.blk (by simp)).1
          have hsep9 : (a9 ≠ none → Apt au (ablk a9)) ∧ (∀ r ∈ R ++ [(a8, c8)], r.1 ≠ none → Apt au (ablk r.1)) := by
            refine ⟨fun h0 => ?_, fun r hr h0 => ?_⟩
            · by_cases h1 : au = none
              · exact .inl h1
              · have h2 := hap9 (ablk au) (by have := hau h1; simp; omega) (hapou h1)
                rcases h2 with h2 | h2
                · exact absurd h2 h0
                · exact .inr fun e => h2 e.symm
            · rcases List.mem_append.1 hr with hr | hr
              · exact hsep.out.2 r hr h0
              · rw [List.mem_singleton] at hr; subst hr; exact hapu8 h0
          have Hnd : Hid (∀ q, q ≤ j → (addTo U S q).Nodup ∧ (addTo U S q).length ≤ m ∧ ∀ x ∈ addTo U S q, 0 ≤ x ∧ x < (m : Int)) := fun q hq => by
            have h1 := addTo_nodup (S := S) hUn.out.1 q
            have h2 : ∀ x ∈ addTo U S q, 0 ≤ x ∧ x < (m : Int) := fun x hx => by
              rcases (mem_addTo q (by rw [hSl2]; exact hq)).1 hx with h | h
              · exact hUn.out.2 x h
              · exact HSin.out x (List.mem_of_mem_take h)
            exact ⟨h1, used_len h1 h2, h2⟩
          have Hfin : Hid (famL O L m = famGo O L m (m + 1 - (k + 1)) (addTo U S j) (T ++ [(S, rk)]) ∧ k + 1 + (frTo false (addTo U S j) m).length ≤ m) := by
            have hme : ∀ x, x ∈ U ++ S ↔ x ∈ addTo U S j := fun x => by rw [← hSl2, addTo_all, List.mem_append]
            refine ⟨by rw [hfam3, show m + 1 - (k + 1) = m - k by omega]; exact famGo_ext _ hme _, ?_⟩
            rw [← frTo_ext hme]; omega
          have HU9 := Lib.hid (And.intro hpush (And.intro hU9 (And.intro hsep9 hb29)))
          clear hpush hU9 hsep9 hb29 hapou hfam3 hls hown9 hgr9 hap9 hOS8 hOS2 hU2 hown8 HOS hapu8 hapo8 ha8 hao hau hsep
          generalize V9 = V3 at *
          have Hua : Hid ((addTo U S 0).length = Un) := HUl.out
          go_wp2_with fail
          go_loopw [6, 11] (fun uv iv wr => ∃ (q un : Nat) (au : Option Addr) (cu : Nat), q ≤ j ∧ iv = .int .i64 q ∧ uv = .slice au un cu ∧ Hid ((addTo U S q).length = un) ∧ OSt wr w1.heap.size a9 (k + 1) c9 (R ++ [(a8, c8)]) (T ++ [(S, rk)]) ∧
            wr.ownsRow w1.heap.size 3 1 (.slice au un cu) un ((addTo U S q).map (Value.int .i64)) ∧ Hid ((a9 ≠ none → Apt au (ablk a9)) ∧ (∀ r ∈ R ++ [(a8, c8)], r.1 ≠ none → Apt au (ablk r.1))) ∧ Below w1.heap.size w1 wr) (fun _ iv _ => j - (intOf iv).toNat)
          case atStart => exact ⟨0, Un, au, cu, Nat.zero_le _, rfl, rfl, Hua.out, HU9.out.1, HU9.out.2.1, HU9.out.2.2.1, HU9.out.2.2.2⟩
          case round =>
            clear HU9
            obtain ⟨q, un, au, cu, hq, rfl, rfl, Hun, hOS, hU, hsep, hbr⟩ := hrel
            have hnd := Hnd.out q hq
            rw [Hun.out] at hnd
            have hunm := hnd.2.1
            by_cases hlt : q < j
            · have hIS9 : Ints wr a8 j S := by
                have h1 := (hOS.row ((a8, c8), (S, rk)) (by
                  rw [List.zip_append (by have h1 := hOS.rl; have h2 := hOS.tl; simp at h1 h2; omega)]
                  simp)).1
                rw [hSl2] at h1; exact h1
              have cs := hIS9.cell q hlt
              have hqS : q < S.length := by rw [hSl2]; exact hlt
              have hst : addTo U S (q + 1) = if nth S q ∈ addTo U S q then addTo U S q else addTo U S q ++ [nth S q] := rfl
              obtain ⟨z, hz⟩ : ∃ z, nth S q = z := ⟨_, rfl⟩
              rw [hz] at cs hst
              have hIu := (Ints.own hU).1
              have hin := rIn25_any au un cu _ z wr hIu
              obtain ⟨Uq, hUq⟩ : ∃ Uq, addTo U S q = Uq := ⟨_, rfl⟩
              rw [hUq] at hst hU hin
              have Hunq : Hid (Uq.length = un) := by show _ = _; rw [← hUq]; exact Hun.out
              clear hz hUq hnd hIu hIS9
              by_cases hzU : z ∈ Uq
              · rw [if_pos hzU] at hst
                rw [show decide (z ∈ Uq) = true by simpa using hzU] at hin
                have Hst := Lib.hid hst
                have Hin := Lib.hid hin
                clear hzU hst hin
                go_wp2_with fail
                refine Hin.out.mono ?_
                rintro e w5 ⟨rfl, rfl⟩
                go_wp2_with fail
                go_roundw
                case rel => exact ⟨q + 1, un, au, cu, by omega, by go_num, rfl, by show _ = _; rw [Hst.out]; exact Hunq.out, hOS, by rw [Hst.out]; exact hU, hsep.out, hbr⟩
                case measure => simp [intOf] <;> omega
              · rw [if_neg hzU] at hst
                rw [show decide (z ∈ Uq) = false by simpa using hzU] at hin
                have Hst := Lib.hid hst
                have Hin := Lib.hid hin
                have hszr := hbr.size
                have hcn := cell_new wr (.int .i64 z) 3
                have hOSn := hOS.keep (below1 wr (.cells #[.int .i64 z] 3))
                clear hzU hst hin
                go_wp2_with fail
                refine Hin.out.mono ?_
                rintro e w5 ⟨rfl, rfl⟩
                go_wp2_with (at_builtin; refine wpList_push rfl _ _ 22 3 rfl (.int .i64 0) 8 Tryz.underlying22 infoInt rfl w1.heap.size au un cu _ rfl (hU.alloc _) ⟨w5.heap.size, 0, none⟩ 1 (.int .i64 z) rfl hcn rfl (by omega) (by unfold maxLen; omega) (by simp; omega) ?_; intro a6 c6 w6 hown6 hgr6 hap6)
                go_roundw
                case rel =>
                  have hbF : Below w1.heap.size w1 w6 := Below.app (Below.allocN hbr _) (hU.alloc _) hgr6 (Nat.le_refl _) (Below.allocN hbr _).size
                  refine ⟨q + 1, un + 1, a6, c6, by omega, by go_num, rfl, by show _ = _; rw [Hst.out, List.length_append, Hunq.out]; rfl, hOSn.grown hgr6 hsep.out.1 hsep.out.2, by rw [Hst.out]; simpa using hown6, ⟨fun h0 => hap6 _ (hOSn.blk h0).2 (hsep.out.1 h0), fun r hr h0 => hap6 _ (hOSn.row_of hr h0).1.2 (hsep.out.2 r hr h0)⟩, hbF⟩
                case measure => simp [intOf] <;> omega
            · obtain rfl : q = j := by omega
              go_wp2_with fail
              go_roundw
              case rel =>
                have e := Hun.out
                refine ⟨k + 1, T ++ [(S, rk)], a9, c9, R ++ [(a8, c8)], addTo U S q, au, cu, by have := Hfin.out.2; omega, rfl, by rw [e], hOS, by rw [e]; exact hU, hsep.out, hbr, Hfin.out.1, Hfin.out.2, ⟨(Hnd.out q (Nat.le_refl _)).1, (Hnd.out q (Nat.le_refl _)).2.2⟩⟩
              case measure => simp [lenV] <;> omega
end

/- The walk of InfosetFamily. -/
section
open Go.RowKit

set_option maxRecDepth 100000 in
set_option maxHeartbeats 8000000 in
theorem infFamily_any (P M : Int) (am : Option Addr) (mn cm : Nat) (mod : List Int) (N : Int) (a : Option Addr) (n c : Nat) (L : List (List Int)) (w : World)
    (hmod : Ints w am mn mod) (hi : Mat w a n L) :
    Calls Tryz.prog 8 #[.agg #[.int .i64 P, .int .i64 M, .slice am mn cm, .int .i64 N, .slice a n c]] w fun e w' => e = .returned (.bool true) ∧ Below w.heap.size w w' := by
  have HF : Hid (∀ V, Below w.heap.size w V → Calls Tryz.prog 25 #[.agg #[.int .i64 P, .int .i64 M, .slice am mn cm, .int .i64 N, .slice a n c]] V (SomeBool V)) :=
    fun V hV => few25_any P M am mn cm N a n c L V (hi.keep hV)
  obtain ⟨T, k, HG1, HG2⟩ : ∃ (T : List (List Int × Int)) (k : Nat), Hid (∀ V, Below w.heap.size w V → Calls Tryz.prog 39 #[.agg #[.int .i64 P, .int .i64 M, .slice am mn cm, .int .i64 N, .slice a n c]] V fun e w' => ∃ a1 c1, e = .returned (.tuple #[.slice a1 k c1, .int .i64 (codeE P M mod N L)]) ∧ StR w' a1 k T ∧ Below V.heap.size V w') ∧
      Hid (∀ V, Below w.heap.size w V → Calls Tryz.prog 40 #[.agg #[.int .i64 P, .int .i64 M, .slice am mn cm, .int .i64 N, .slice a n c]] V fun e w' => ∃ a1 c1, e = .returned (.tuple #[.slice a1 k c1, .int .i64 (codeE P M mod N L)]) ∧ StR w' a1 k T ∧ Below V.heap.size V w') := by
    have key : ∃ (T : List (List Int × Int)) (k : Nat), ∀ V e w', FamPost P M mod N L V e w' → ∃ a1 c1, e = .returned (.tuple #[.slice a1 k c1, .int .i64 (codeE P M mod N L)]) ∧ StR w' a1 k T ∧ Below V.heap.size V w' := by
      by_cases h0 : codeE P M mod N L = 0
      · obtain ⟨m, rfl, _⟩ := codeE_rws h0
        refine ⟨famL (tblOf P M.toNat mod).ops L m, (famL (tblOf P M.toNat mod).ops L m).length, ?_⟩
        rintro V e w' ⟨hb, ⟨h1, _⟩ | ⟨h1, m', hm', k, a1, c1, R, T, hT, rfl, hO⟩⟩
        · exact absurd h0 h1
        · obtain rfl : m = m' := by omega
          subst hT
          obtain rfl := hO.tl
          exact ⟨a1, c1, by rw [h1], hO.str, hb⟩
      · refine ⟨[], 0, ?_⟩
        rintro V e w' ⟨hb, ⟨h1, rfl⟩ | ⟨h1, _⟩⟩
        · exact ⟨none, 0, rfl, ⟨rfl, fun h => by omega, by unfold maxLen; omega, fun i hi => by simp at hi⟩, hb⟩
        · exact absurd h1 h0
    obtain ⟨T, k, key⟩ := key
    exact ⟨T, k, fun V hV => (family_any P M am mn cm mod N a n c L V (hmod.keep hV) (hi.keep hV)).mono (key V), fun V hV => (rFamily25_any P M am mn cm mod N a n c L V (hmod.keep hV) (hi.keep hV)).mono (key V)⟩
  generalize codeE P M mod N L = er at *
  clear hmod hi
  go_enter Tryz.func8, Tryz.ntmps8
  go_wp2_with fail
  obtain ⟨W, hW⟩ : ∃ W : World, W = w.alloc (.cells #[.int .i64 P, .int .i64 M, .slice am mn cm, .int .i64 N, .slice a n c] 27) := ⟨_, rfl⟩
  rw [← hW]
  have hbW : Below w.heap.size w W := by rw [hW]; exact below1 _ _
  have x0 : Box W w.heap.size [.int .i64 P, .int .i64 M, .slice am mn cm, .int .i64 N, .slice a n c] := by rw [hW]; exact Box.new _ _ _ rfl
  have HS : Hid (∀ V, Below W.heap.size W V → V.cell? ⟨w.heap.size, 0, none⟩ = some (.int .i64 P) ∧ V.cell? ⟨w.heap.size, 1, none⟩ = some (.int .i64 M) ∧ V.cell? ⟨w.heap.size, 2, none⟩ = some (.slice am mn cm) ∧ V.cell? ⟨w.heap.size, 3, none⟩ = some (.int .i64 N) ∧ V.cell? ⟨w.heap.size, 4, none⟩ = some (.slice a n c)) := fun V hV => by
    have x1 := x0.keep hV
    exact ⟨x1.cell 0 rfl, x1.cell 1 rfl, x1.cell 2 rfl, x1.cell 3 rfl, x1.cell 4 rfl⟩
  have HbW := Lib.hid hbW
  clear hW x0 hbW
  refine (awake_any W).mono ?_
  rintro e w1 ⟨rfl, hb1⟩
  obtain ⟨c0, c1, c2, c3, c4⟩ := HS.out w1 hb1
  go_wp2_with fail
  refine (HF.out w1 (Below.next HbW.out hb1)).mono ?_
  rintro e w2 ⟨z, rfl, hb2⟩
  have hB2 := Below.next hb1 hb2
  clear c0 c1 c2 c3 c4 HF
  cases z
  · go_wp2_with fail
    refine (awake_any w2).mono ?_
    rintro e w3 ⟨rfl, hb3⟩
    have hF := Below.next HbW.out (Below.next hB2 hb3)
    go_wp2_with fail
    go_ret
    exact ⟨rfl, hF⟩
  obtain ⟨c0, c1, c2, c3, c4⟩ := HS.out w2 hB2
  go_wp2_with fail
  refine (HG1.out w2 (Below.next HbW.out hB2)).mono ?_
  rintro e w3 ⟨a1, k1, rfl, hI1, hb3⟩
  have hB3 := Below.next hB2 hb3
  clear c0 c1 c2 c3 c4 HG1 hb1 hb2
  obtain ⟨c0, c1, c2, c3, c4⟩ := HS.out w3 hB3
  go_wp2_with fail
  refine (HG2.out w3 (Below.next HbW.out hB3)).mono ?_
  rintro e w4 ⟨a2, k2, rfl, hI2, hb4⟩
  have hB4 := Below.next hB3 hb4
  have Hc := Lib.hid (sameSteps_any a1 k k1 a2 k k2 T _ (hI1.keep hb4) hI2)
  have e1 : (er == er) = true := by simp
  clear c0 c1 c2 c3 c4 HG2 hb3 hI1 hI2
  go_wp2_with fail
  refine Hc.out.mono ?_
  rintro e w9 ⟨rfl, hd9⟩
  have hF := Below.next HbW.out (Below.next hB4 hd9.below)
  go_wp2_with fail
  go_ret
  exact ⟨rfl, hF⟩
end

/- InfosetFamily: the statement. -/
section
open Go.ChangeShapes Go.WideShapes Go.ChangeAt Go.RowKit

set_option maxRecDepth 100000 in
theorem infFamily_lifted (os : Os) (started : os.Started) (H : Type) (enc : TypeId × Value → H) :
    ReturnsInHanded {} Tryz.checked os 8 .any (Rows.infosetFamilySpec.pre6 enc Tryz.prog Tryz.f8 Rows.infosetFamilyRow.domain false) (Rows.infosetFamilySpec.post enc Tryz.prog Tryz.f8 false true false false) := by
  refine returnsInHanded_of_change (C := Tryz.checked) Tryz.own started (by kernel_rfl) Tryz.func8
    (ChangeSpec.witness6 (enc := enc) (C := Tryz.checked) false ⟨#[], #[.agg #[.int .i64 0, .int .i64 0, .slice none 0 0, .int .i64 0, .slice none 0 0]], []⟩ 8 (by kernel_rfl) (by kernel_rfl) (by kernel_rfl) (by kernel_rfl)) ?_
  intro W base args ds gs before hval0 hW hcnd _
  have hval : ∀ (j : Nat) t v, Tryz.f8.params[j]? = some t → args[j]? = some v → Value.okWide Tryz.prog W .any base t v := hval0
  have hW' := hW
  obtain ⟨p, q, hA0, hV, rfl, hfz, hnd⟩ := hW
  have hA : DataW.TrodAll enc Tryz.prog W 0 (fun _ => true) true Tryz.f8.params.toList args.toList ds p := hA0
  rw [Tryz.params8] at hA hval
  obtain ⟨v0, vs0, d0, ds0, p0, q0, hargs, rfl, rfl, h0, r0⟩ := trodAll_cons hA
  obtain ⟨rfl, rfl, rfl⟩ := trodAll_nil r0
  obtain rfl : args = #[v0] := by cases args; simp_all
  obtain ⟨rfl, rfl⟩ := trodVars_none hV
  have k0 := h0
  have lt0 : ∀ x ∈ p0, x.block < W.heap.size := by obtain ⟨m, hm⟩ := k0; exact DataW.trod_lt m _ _ _ hm
  obtain ⟨P, M, am, mn, cm, mod, N, a, n, c, L, rfl, hI0, hM0⟩ := arg_code (hval 0 _ v0 rfl rfl) h0
  clear hA0 hval0
  refine (infFamily_any P M am mn cm mod N a n c L W hI0 hM0).mono fun e W' ⟨he, bel⟩ => ?_
  subst he
  exact ⟨_, rfl, _, _, _, [], _, [], hW', trodAll_mk1 (shut_bool Tryz.underlying4 _), (trodAll_cons_mk (Below.trod Tryz.laid (by kernel_rfl) (of_decide_eq_true (by kernel_rfl)) k0 bel lt0) trodAll_mk0), rfl, bel.frame _, fun h => by cases h⟩

theorem infFamily_over : Rows.infosetFamilyRow.holds Tryz.pinned (OpenSpec.ofChange Rows.infosetFamilySpec) :=
  OpenClaim.holds_of_wide 8 Tryz.f8 rfl rfl rfl rfl rfl rfl rfl ⟨rfl, rfl, rfl, rfl, rfl⟩ rfl rfl rfl rfl rfl (by kernel_rfl) Tryz.func8 (by kernel_rfl)
    (of_decide_eq_true (by kernel_rfl)) (by unfold Func.isWrapper; first | (rw [if_pos (by decide +kernel)]; kernel_rfl) | (rw [if_neg (by decide +kernel)]; exact ⟨rfl, rfl⟩))
    (fun os started H enc _ => infFamily_lifted os started H enc)

theorem infFamily_holds : Rows.InfosetFamilySaid := infFamily_over
#print axioms infFamily_holds
end

end Go.Proofs.YtakmnncmeefceaaGreat
