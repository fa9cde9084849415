/- OrderingReorders: the statement. -/
import Derived.Test.YtakmnncmeefceaaGreatF4
import Derived.Test.YtakmnncmeefceaaGreatF3
import Derived.Test.YtakmnncmeefceaaGreatC7
import Derived.Test.YtakmnncmeefceaaGreatRows
namespace Go.Proofs.YtakmnncmeefceaaGreat
set_option linter.unusedVariables false
set_option linter.unusedSimpArgs false
set_option linter.unusedSectionVars false

/- The walk of OrderingReorders. -/
section
open Go.RowKit

theorem mat_nil (w : World) (a : Option Addr) : Mat w a 0 [] := ⟨rfl, fun h => by omega, by unfold maxLen; omega, fun i hi => by omega⟩

set_option maxRecDepth 100000 in
set_option maxHeartbeats 8000000 in
theorem reorders_any (P M : Int) (am : Option Addr) (mn cm : Nat) (mod : List Int) (N : Int) (a : Option Addr) (n c : Nat) (L : List (List Int)) (ao : Option Addr) (no co : Nat) (Q : List Int) (ax : Option Addr) (nx cx : Nat) (x : List Int) (w : World)
    (hmod : Ints w am mn mod) (hi : Mat w a n L) (hq : Ints w ao no Q) (hx : Ints w ax nx x) :
    Calls Tryz.prog 4 #[.agg #[.int .i64 P, .int .i64 M, .slice am mn cm, .int .i64 N, .slice a n c], .slice ao no co, .slice ax nx cx] w fun e w' => e = .returned (.bool true) ∧ Below w.heap.size w w' := by
  have H1 : Hid (∀ V, Below w.heap.size w V → Calls Tryz.prog 17 #[.agg #[.int .i64 P, .int .i64 M, .slice am mn cm, .int .i64 N, .slice a n c], .slice ao no co] V (ReoPost P M mod N L Q V)) :=
    fun V hV => reorder_any P M am mn cm mod N a n c L ao no co Q V (hmod.keep hV) (hi.keep hV) (hq.keep hV)
  have H2 : Hid (∀ V, Below w.heap.size w V → Calls Tryz.prog 19 #[.agg #[.int .i64 P, .int .i64 M, .slice am mn cm, .int .i64 N, .slice a n c], .slice ao no co] V (ReoPost P M mod N L Q V)) :=
    fun V hV => rReorder48_any P M am mn cm mod N a n c L ao no co Q V (hmod.keep hV) (hi.keep hV) (hq.keep hV)
  have H3 : Hid (∀ V, Below w.heap.size w V → Calls Tryz.prog 21 #[.agg #[.int .i64 P, .int .i64 M, .slice am mn cm, .int .i64 N, .slice a n c], .slice ax nx cx] V (EncPost P M mod N L x V)) :=
    fun V hV => rEncode_any P M am mn cm mod N a n c L ax nx cx x V (hmod.keep hV) (hi.keep hV) (hx.keep hV)
  have HQ := Lib.hid hq
  clear hmod hi hx hq
  go_enter Tryz.func4, Tryz.ntmps4
  go_wp2_with fail
  obtain ⟨W, hW⟩ : ∃ W : World, W = w.alloc (.cells #[.int .i64 P, .int .i64 M, .slice am mn cm, .int .i64 N, .slice a n c] 27) := ⟨_, rfl⟩
  rw [← hW]
  have hbW : Below w.heap.size w W := by rw [hW]; exact below1 _ _
  have x0 : Box W w.heap.size [.int .i64 P, .int .i64 M, .slice am mn cm, .int .i64 N, .slice a n c] := by rw [hW]; exact Box.new _ _ _ rfl
  have hS : ∀ V, Below W.heap.size W V → V.cell? ⟨w.heap.size, 0, none⟩ = some (.int .i64 P) ∧ V.cell? ⟨w.heap.size, 1, none⟩ = some (.int .i64 M) ∧ V.cell? ⟨w.heap.size, 2, none⟩ = some (.slice am mn cm) ∧ V.cell? ⟨w.heap.size, 3, none⟩ = some (.int .i64 N) ∧ V.cell? ⟨w.heap.size, 4, none⟩ = some (.slice a n c) := by
    intro V hV
    have x2 := x0.keep hV
    exact ⟨x2.cell 0 rfl, x2.cell 1 rfl, x2.cell 2 rfl, x2.cell 3 rfl, x2.cell 4 rfl⟩
  have HS := Lib.hid hS
  have HbW := Lib.hid hbW
  clear hW x0 hS
  by_cases hO : ordE P M mod N L Q = 0
  · obtain ⟨hE, hB⟩ := ordE_zero hO
    obtain ⟨m, rfl, hm1, hm64, _, _⟩ := codeE_fld hE
    obtain ⟨hIn, hlen⟩ := ordB_in hB
    obtain rfl : no = m := by rw [← HQ.out.len]; exact hlen
    have HD1 : Hid (∀ V, Below w.heap.size w V → Calls Tryz.prog 17 #[.agg #[.int .i64 P, .int .i64 M, .slice am mn cm, .int .i64 no, .slice a n c], .slice ao no co] V fun e w' => Below V.heap.size V w' ∧ ∃ a1 c1 a2 c2, e = .returned (.tuple #[.agg #[.int .i64 P, .int .i64 M, .slice a1 mod.length c1, .int .i64 no, .slice a2 (reoL (tblOf P M.toNat mod).ops no Q L).length c2], .int .i64 0]) ∧
        Ints w' a1 mod.length mod ∧ Mat w' a2 (reoL (tblOf P M.toNat mod).ops no Q L).length (reoL (tblOf P M.toNat mod).ops no Q L)) := fun V hV => by
      refine (H1.out V hV).mono ?_
      rintro e w' ⟨hb, ⟨h0, _⟩ | ⟨_, m', a1, c1, a2, c2, hm', he, h1, h2⟩⟩
      · exact absurd hO h0
      · obtain rfl : no = m' := by omega
        exact ⟨hb, a1, c1, a2, c2, he, h1.ints, h2.mat⟩
    have HD2 : Hid (∀ V, Below w.heap.size w V → Calls Tryz.prog 19 #[.agg #[.int .i64 P, .int .i64 M, .slice am mn cm, .int .i64 no, .slice a n c], .slice ao no co] V fun e w' => Below V.heap.size V w' ∧ ∃ a1 c1 a2 c2, e = .returned (.tuple #[.agg #[.int .i64 P, .int .i64 M, .slice a1 mod.length c1, .int .i64 no, .slice a2 (reoL (tblOf P M.toNat mod).ops no Q L).length c2], .int .i64 0]) ∧
        Ints w' a1 mod.length mod ∧ Mat w' a2 (reoL (tblOf P M.toNat mod).ops no Q L).length (reoL (tblOf P M.toNat mod).ops no Q L)) := fun V hV => by
      refine (H2.out V hV).mono ?_
      rintro e w' ⟨hb, ⟨h0, _⟩ | ⟨_, m', a1, c1, a2, c2, hm', he, h1, h2⟩⟩
      · exact absurd hO h0
      · obtain rfl : no = m' := by omega
        exact ⟨hb, a1, c1, a2, c2, he, h1.ints, h2.mat⟩
    have hDE := reo_code hE hB
    have hpl : ∀ v, (pickL Q v).length = no := fun v => by simp [pickL, hlen]
    have HPk : Hid (∀ V wd aw cw, Below w.heap.size w V → Ints V aw no wd → Calls Tryz.prog 23 #[.slice aw no cw, .slice ao no co] V fun e w' => ∃ a1 c1, e = .returned (.slice a1 no c1) ∧ w'.ownsRow V.heap.size 3 1 (.slice a1 no c1) no ((pickL Q wd).map (Value.int .i64)) ∧ Below V.heap.size V w') := fun V wd aw cw hV hw => by
      have h := rPick_any aw no cw wd ao no co Q V hw (HQ.out.keep hV) hIn (by omega)
      refine h.mono ?_
      rintro e w' ⟨a1, c1, rfl, hown, hb⟩
      rw [hpl] at hown ⊢
      exact ⟨a1, c1, rfl, hown, hb⟩
    have HHs : Hid (encE P M mod no L x = 0 → ∀ V a1 c1 a2 c2 a6 c6, Ints V a1 mod.length mod → Mat V a2 (reoL (tblOf P M.toNat mod).ops no Q L).length (reoL (tblOf P M.toNat mod).ops no Q L) → Ints V a6 no (pickL Q (cmbTo (tblOf P M.toNat mod).ops no x L L.length)) →
        Calls Tryz.prog 22 #[.agg #[.int .i64 P, .int .i64 M, .slice a1 mod.length c1, .int .i64 no, .slice a2 (reoL (tblOf P M.toNat mod).ops no Q L).length c2], .slice a6 no c6] V fun e w' => e = .returned (.tuple #[.bool true, .int .i64 0]) ∧ Below V.heap.size V w') := fun hz V a1 c1 a2 c2 a6 c6 h1 h2 h6 => by
      obtain ⟨_, _, hxe⟩ := encE_zero hz
      obtain ⟨hv, h0⟩ := reo_has hE hB hxe
      exact codeHas_any P M a1 mod.length c1 mod no a2 _ c2 _ a6 c6 _ V h1 h2 h6 hDE hv h0
    obtain ⟨D, hD⟩ : ∃ D, reoL (tblOf P M.toNat mod).ops no Q L = D := ⟨_, rfl⟩
    rw [hD] at HD1 HD2 HHs
    obtain ⟨q, hqq⟩ : ∃ q, D.length = q := ⟨_, rfl⟩
    rw [hqq] at HD1 HD2 HHs
    clear H1 H2 hO hE hB hIn hlen hDE hpl hD hqq
    obtain ⟨c0, c1, c2, c3, c4⟩ := HS.out W (Below.refl _ _)
    go_wp2_with fail
    refine (HD1.out W hbW).mono ?_
    rintro e w1 ⟨hb1, a1, c1', a2, c2', rfl, hI1, hM1⟩
    have hb1a := below1 w1 (.cells #[.int .i64 P, .int .i64 M, .slice a1 mod.length c1', .int .i64 no, .slice a2 q c2'] 27)
    have x1 := Box.new w1 [.int .i64 P, .int .i64 M, .slice a1 mod.length c1', .int .i64 no, .slice a2 q c2'] 27 rfl
    have hbb1 := Below.next hb1 hb1a
    have HX1 := Lib.hid x1
    have HI1 := Lib.hid (And.intro hI1 hM1)
    clear c0 c1 c2 c3 c4 HD1 x1 hI1 hM1
    obtain ⟨c0, c1, c2, c3, c4⟩ := HS.out _ hbb1
    go_wp2_with fail
    refine (HD2.out _ (Below.next hbW hbb1)).mono ?_
    rintro e w2 ⟨hb2, a3, c3', a4, c4', rfl, hI2, hM2⟩
    have hb2a := below1 w2 (.cells #[.int .i64 P, .int .i64 M, .slice a3 mod.length c3', .int .i64 no, .slice a4 q c4'] 27)
    have x2 := Box.new w2 [.int .i64 P, .int .i64 M, .slice a3 mod.length c3', .int .i64 no, .slice a4 q c4'] 27 rfl
    have hbb2 := Below.next hbb1 (Below.next hb2 hb2a)
    have hk12 := Below.next hb2 hb2a
    have y1 := HX1.out.keep hk12
    clear c0 c1 c2 c3 c4 HD2
    have d0 := y1.cell 0 rfl
    have d1 := y1.cell 1 rfl
    have d2 := y1.cell 2 rfl
    have d3 := y1.cell 3 rfl
    have d4 := y1.cell 4 rfl
    have e0 := x2.cell 0 rfl
    have e1 := x2.cell 1 rfl
    have e2 := x2.cell 2 rfl
    have e3 := x2.cell 3 rfl
    have e4 := x2.cell 4 rfl
    have Hsm := Lib.hid (rSame12_any P M a1 mod.length c1' mod a3 mod.length c3' no a2 q c2' D a4 q c4' _ ((HI1.out.1.keep hb1a).keep hk12) (hI2.keep hb2a) ((HI1.out.2.keep hb1a).keep hk12) (hM2.keep hb2a))
    clear y1 x2 hI2 hM2
    go_wp2_with fail
    refine Hsm.out.mono ?_
    rintro e w3 ⟨rfl, hb3⟩
    clear d0 d1 d2 d3 d4 e0 e1 e2 e3 e4 Hsm
    go_wp2_with fail
    refine (alive_any w3).mono ?_
    rintro e w4 ⟨rfl, hb4⟩
    have hbb4 := Below.next (Below.next hbb2 hb3) hb4
    have hk14 := Below.next (Below.next hk12 hb3) hb4
    obtain ⟨c0, c1, c2, c3, c4⟩ := HS.out _ hbb4
    go_wp2_with fail
    refine (H3.out w4 (Below.next hbW hbb4)).mono ?_
    rintro e w5 ⟨hb5, ⟨hne, rfl⟩ | ⟨hz, m', hm', aw, cw, rfl, hIw⟩⟩
    · have hne' : (encE P M mod no L x != 0) = true := by simpa using hne
      have hF := Below.next HbW.out (Below.next hbb4 hb5)
      clear hne c0 c1 c2 c3 c4
      go_wp2_with fail
      go_ret
      exact ⟨rfl, hF⟩
    · obtain rfl : no = m' := by omega
      have hbb5 := Below.next hbb4 hb5
      have hk15 := Below.next hk14 hb5
      have HS2 : Hid (∀ V, Below w5.heap.size w5 V → V.cell? ⟨w1.heap.size, 0, none⟩ = some (.int .i64 P) ∧ V.cell? ⟨w1.heap.size, 1, none⟩ = some (.int .i64 M) ∧ V.cell? ⟨w1.heap.size, 2, none⟩ = some (.slice a1 mod.length c1') ∧ V.cell? ⟨w1.heap.size, 3, none⟩ = some (.int .i64 no) ∧ V.cell? ⟨w1.heap.size, 4, none⟩ = some (.slice a2 q c2') ∧ Below w5.heap.size w5 V) := fun V hV => by
        have y1 := HX1.out.keep (Below.next hk15 hV)
        exact ⟨y1.cell 0 rfl, y1.cell 1 rfl, y1.cell 2 rfl, y1.cell 3 rfl, y1.cell 4 rfl, hV⟩
      have Hpk : Hid (∀ V, Below w5.heap.size w5 V → Calls Tryz.prog 23 #[.slice aw no cw, .slice ao no co] V fun e w' => Below V.heap.size V w' ∧ ∃ a1 c1, e = .returned (.slice a1 no c1) ∧ Ints w' a1 no (pickL Q (cmbTo (tblOf P M.toNat mod).ops no x L L.length))) := fun V hV => by
        refine (HPk.out V _ aw cw (Below.next hbW (Below.next hbb5 hV)) (hIw.keep hV)).mono ?_
        rintro e w' ⟨a1, c1, rfl, hown, hb⟩
        exact ⟨hb, a1, c1, rfl, (Ints.own hown).1⟩
      have Hhs : Hid (∀ V a6 c6, Below w5.heap.size w5 V → Ints V a6 no (pickL Q (cmbTo (tblOf P M.toNat mod).ops no x L L.length)) → ∀ V2, Below V.heap.size V V2 →
          Calls Tryz.prog 22 #[.agg #[.int .i64 P, .int .i64 M, .slice a1 mod.length c1', .int .i64 no, .slice a2 q c2'], .slice a6 no c6] V2 fun e w' => e = .returned (.tuple #[.bool true, .int .i64 0]) ∧ Below V2.heap.size V2 w') := fun V a6 c6 hV h6 V2 hV2 =>
        HHs.out hz V2 a1 c1' a2 c2' a6 c6 ((HI1.out.1.keep hb1a).keep (Below.next hk15 (Below.next hV hV2))) ((HI1.out.2.keep hb1a).keep (Below.next hk15 (Below.next hV hV2))) (h6.keep hV2)
      have HF5 := Lib.hid (Below.next HbW.out hbb5)
      clear hIw HPk HHs HX1 HI1 c0 c1 c2 c3 c4 hz hm' hk12 hk14 hk15 hbb1 hbb2 hbb4 hbb5 hb1 hb1a hb2 hb2a hb3 hb4 hb5 hbW
      go_wp2_with fail
      go_region_held3 (fun V => V.cell? ⟨w1.heap.size, 0, none⟩ = some (.int .i64 P) ∧ V.cell? ⟨w1.heap.size, 1, none⟩ = some (.int .i64 M) ∧ V.cell? ⟨w1.heap.size, 2, none⟩ = some (.slice a1 mod.length c1') ∧ V.cell? ⟨w1.heap.size, 3, none⟩ = some (.int .i64 no) ∧ V.cell? ⟨w1.heap.size, 4, none⟩ = some (.slice a2 q c2') ∧ Below w5.heap.size w5 V)
        ((refine HS2.out _ ?_; first | exact (Below.refl _ _).drew | (go_split_ands; exact Below.next (by assumption) (by assumption))))
        (first
          | (go_at_call 23; ((with_reducible refine (Hpk.out _ (by go_split_ands; assumption)).mono ?_); rintro e w6 ⟨hb6, a6, c6, rfl, hI6⟩; have hb7 : Below w5.heap.size w5 w6 := (by go_split_ands; exact Below.next (by assumption) hb6); have Hr2 := Lib.hid (Hhs.out w6 a6 c6 hb7 hI6); clear hI6))
          | (go_at_call 22; ((with_reducible refine (Hr2.out _ (by first | exact Below.refl _ _ | exact hb4)).mono ?_); rintro e w8 ⟨rfl, hb8⟩)))
      all_goals (
        go_wp2_with fail
        go_ret
        exact ⟨rfl, Below.next HF5.out (by go_split_ands; assumption)⟩)
  · have hO' : (ordE P M mod N L Q != 0) = true := by simpa using hO
    have hOO : (ordE P M mod N L Q != ordE P M mod N L Q) = false := by simp
    have HD1 : Hid (∀ V, Below w.heap.size w V → Calls Tryz.prog 17 #[.agg #[.int .i64 P, .int .i64 M, .slice am mn cm, .int .i64 N, .slice a n c], .slice ao no co] V fun e w' => Below V.heap.size V w' ∧ e = .returned (.tuple #[.agg #[.int .i64 0, .int .i64 0, .slice none 0 0, .int .i64 0, .slice none 0 0], .int .i64 (ordE P M mod N L Q)])) := fun V hV => by
      refine (H1.out V hV).mono ?_
      rintro e w' ⟨hb, ⟨_, he⟩ | ⟨h0, _⟩⟩
      · exact ⟨hb, he⟩
      · exact absurd h0 hO
    have HD2 : Hid (∀ V, Below w.heap.size w V → Calls Tryz.prog 19 #[.agg #[.int .i64 P, .int .i64 M, .slice am mn cm, .int .i64 N, .slice a n c], .slice ao no co] V fun e w' => Below V.heap.size V w' ∧ e = .returned (.tuple #[.agg #[.int .i64 0, .int .i64 0, .slice none 0 0, .int .i64 0, .slice none 0 0], .int .i64 (ordE P M mod N L Q)])) := fun V hV => by
      refine (H2.out V hV).mono ?_
      rintro e w' ⟨hb, ⟨_, he⟩ | ⟨h0, _⟩⟩
      · exact ⟨hb, he⟩
      · exact absurd h0 hO
    have HD3 : Hid (∀ V, Below w.heap.size w V → Calls Tryz.prog 21 #[.agg #[.int .i64 P, .int .i64 M, .slice am mn cm, .int .i64 N, .slice a n c], .slice ax nx cx] V fun e w' => Below V.heap.size V w' ∧ ∃ v er, e = .returned (.tuple #[v, .int .i64 er])) := fun V hV => by
      refine (H3.out V hV).mono ?_
      rintro e w' ⟨hb, ⟨_, he⟩ | ⟨_, _, _, a1, c1, he, _⟩⟩
      · exact ⟨hb, _, _, he⟩
      · exact ⟨hb, _, _, he⟩
    clear H1 H2 H3 hO
    generalize ordE P M mod N L Q = oe at *
    obtain ⟨c0, c1, c2, c3, c4⟩ := HS.out W (Below.refl _ _)
    go_wp2_with fail
    refine (HD1.out W hbW).mono ?_
    rintro e w1 ⟨hb1, rfl⟩
    have hb1a := below1 w1 (.cells #[.int .i64 0, .int .i64 0, .slice none 0 0, .int .i64 0, .slice none 0 0] 27)
    have x1 := Box.new w1 [.int .i64 0, .int .i64 0, .slice none 0 0, .int .i64 0, .slice none 0 0] 27 rfl
    have hbb1 := Below.next hb1 hb1a
    have HX1 := Lib.hid x1
    clear c0 c1 c2 c3 c4 HD1 x1
    obtain ⟨c0, c1, c2, c3, c4⟩ := HS.out _ hbb1
    go_wp2_with fail
    refine (HD2.out _ (Below.next hbW hbb1)).mono ?_
    rintro e w2 ⟨hb2, rfl⟩
    have hb2a := below1 w2 (.cells #[.int .i64 0, .int .i64 0, .slice none 0 0, .int .i64 0, .slice none 0 0] 27)
    have x2 := Box.new w2 [.int .i64 0, .int .i64 0, .slice none 0 0, .int .i64 0, .slice none 0 0] 27 rfl
    have hbb2 := Below.next hbb1 (Below.next hb2 hb2a)
    have hk12 := Below.next hb2 hb2a
    have y1 := HX1.out.keep hk12
    clear c0 c1 c2 c3 c4 HD2
    have d0 := y1.cell 0 rfl
    have d1 := y1.cell 1 rfl
    have d2 := y1.cell 2 rfl
    have d3 := y1.cell 3 rfl
    have d4 := y1.cell 4 rfl
    have e0 := x2.cell 0 rfl
    have e1 := x2.cell 1 rfl
    have e2 := x2.cell 2 rfl
    have e3 := x2.cell 3 rfl
    have e4 := x2.cell 4 rfl
    clear y1 x2
    go_wp2_with fail
    refine (rSame12_any 0 0 none 0 0 [] none 0 0 0 none 0 0 [] none 0 0 _ (Ints.nil _ _) (Ints.nil _ _) (mat_nil _ _) (mat_nil _ _)).mono ?_
    rintro e w3 ⟨rfl, hb3⟩
    clear d0 d1 d2 d3 d4 e0 e1 e2 e3 e4
    go_wp2_with fail
    refine (alive_any w3).mono ?_
    rintro e w4 ⟨rfl, hb4⟩
    have hbb4 := Below.next (Below.next hbb2 hb3) hb4
    obtain ⟨c0, c1, c2, c3, c4⟩ := HS.out _ hbb4
    go_wp2_with fail
    refine (HD3.out w4 (Below.next hbW hbb4)).mono ?_
    rintro e w5 ⟨hb5, v, er, rfl⟩
    have hF := Below.next HbW.out (Below.next hbb4 hb5)
    clear c0 c1 c2 c3 c4
    go_wp2_with fail
    go_ret
    exact ⟨rfl, hF⟩
end

/- OrderingReorders: the statement. -/
section
open Go.ChangeShapes Go.WideShapes Go.ChangeAt Go.RowKit

set_option maxRecDepth 100000 in
theorem reorders_lifted (os : Os) (started : os.Started) (H : Type) (enc : TypeId × Value → H) :
    ReturnsInHanded {} Tryz.checked os 4 .any (Rows.orderingReordersSpec.pre6 enc Tryz.prog Tryz.f4 Rows.orderingReordersRow.domain false) (Rows.orderingReordersSpec.post enc Tryz.prog Tryz.f4 false true false false) := by
  refine returnsInHanded_of_change (C := Tryz.checked) Tryz.own started (by kernel_rfl) Tryz.func4
    (ChangeSpec.witness6 (enc := enc) (C := Tryz.checked) false ⟨#[], #[.agg #[.int .i64 0, .int .i64 0, .slice none 0 0, .int .i64 0, .slice none 0 0], .slice none 0 0, .slice none 0 0], []⟩ 8 (by kernel_rfl) (by kernel_rfl) (by kernel_rfl) (by kernel_rfl)) ?_
  intro W base args ds gs before hval0 hW hcnd _
  have hval : ∀ (j : Nat) t v, Tryz.f4.params[j]? = some t → args[j]? = some v → Value.okWide Tryz.prog W .any base t v := hval0
  have hW' := hW
  obtain ⟨p, q, hA0, hV, rfl, hfz, hnd⟩ := hW
  have hA : DataW.TrodAll enc Tryz.prog W 0 (fun _ => true) true Tryz.f4.params.toList args.toList ds p := hA0
  rw [Tryz.params4] at hA hval
  obtain ⟨v0, vs0, d0, ds0, p0, q0, hargs, rfl, rfl, h0, r0⟩ := trodAll_cons hA
  obtain ⟨v1, vs1, d1, ds1, p1, q1, rfl, rfl, rfl, h1, r1⟩ := trodAll_cons r0
  obtain ⟨v2, vs2, d2, ds2, p2, q2, rfl, rfl, rfl, h2, r2⟩ := trodAll_cons r1
  obtain ⟨rfl, rfl, rfl⟩ := trodAll_nil r2
  obtain rfl : args = #[v0, v1, v2] := by cases args; simp_all
  obtain ⟨rfl, rfl⟩ := trodVars_none hV
  have k0 := h0
  have k1 := h1
  have k2 := h2
  have lt0 : ∀ x ∈ p0, x.block < W.heap.size := by obtain ⟨m, hm⟩ := k0; exact DataW.trod_lt m _ _ _ hm
  have lt1 : ∀ x ∈ p1, x.block < W.heap.size := by obtain ⟨m, hm⟩ := k1; exact DataW.trod_lt m _ _ _ hm
  have lt2 : ∀ x ∈ p2, x.block < W.heap.size := by obtain ⟨m, hm⟩ := k2; exact DataW.trod_lt m _ _ _ hm
  obtain ⟨P, M, am, mn, cm, mod, N, a, n, c, L, rfl, hI0, hM0⟩ := arg_code (hval 0 _ v0 rfl rfl) h0
  obtain ⟨a1x, n1x, c1x, Q1, rfl, hQ1⟩ := arg_ints (hval 1 _ v1 rfl rfl) h1
  obtain ⟨a2x, n2x, c2x, Q2, rfl, hQ2⟩ := arg_ints (hval 2 _ v2 rfl rfl) h2
  clear hA0 hval0
  refine (reorders_any P M am mn cm mod N a n c L a1x n1x c1x Q1 a2x n2x c2x Q2 W hI0 hM0 hQ1 hQ2).mono fun e W' ⟨he, bel⟩ => ?_
  subst he
  exact ⟨_, rfl, _, _, _, [], _, [], hW', trodAll_mk1 (shut_bool Tryz.underlying4 _), (trodAll_cons_mk (Below.trod Tryz.laid (by kernel_rfl) (of_decide_eq_true (by kernel_rfl)) k0 bel lt0) (trodAll_cons_mk (Below.trod Tryz.laid (by kernel_rfl) (of_decide_eq_true (by kernel_rfl)) k1 bel lt1) (trodAll_cons_mk (Below.trod Tryz.laid (by kernel_rfl) (of_decide_eq_true (by kernel_rfl)) k2 bel lt2) trodAll_mk0))), rfl, bel.frame _, fun h => by cases h⟩

theorem reorders_over : Rows.orderingReordersRow.holds Tryz.pinned (OpenSpec.ofChange Rows.orderingReordersSpec) :=
  OpenClaim.holds_of_wide 4 Tryz.f4 rfl rfl rfl rfl rfl rfl rfl ⟨rfl, rfl, rfl, rfl, rfl⟩ rfl rfl rfl rfl rfl (by kernel_rfl) Tryz.func4 (by kernel_rfl)
    (of_decide_eq_true (by kernel_rfl)) (by unfold Func.isWrapper; first | (rw [if_pos (by decide +kernel)]; kernel_rfl) | (rw [if_neg (by decide +kernel)]; exact ⟨rfl, rfl⟩))
    (fun os started H enc _ => reorders_lifted os started H enc)

theorem reorders_holds : Rows.OrderingReordersSaid := reorders_over
#print axioms reorders_holds
end

end Go.Proofs.YtakmnncmeefceaaGreat
