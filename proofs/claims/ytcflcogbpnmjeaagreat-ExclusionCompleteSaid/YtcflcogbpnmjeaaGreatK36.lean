/- Plain: the solution of independent equations; a word of a coset that is 0 at independent positions. -/
import Derived.Test.YtcflcogbpnmjeaaGreatK29
import Derived.Test.YtcflcogbpnmjeaaGreatK33
import Derived.Test.YtcflcogbpnmjeaaGreatK34
import Derived.Test.YtcflcogbpnmjeaaGreatK35
import Derived.Test.YtcflcogbpnmjeaaGreatK24
namespace Go.Proofs.YtcflcogbpnmjeaaGreat
set_option linter.unusedVariables false
set_option linter.unusedSimpArgs false
set_option linter.unusedSectionVars false

/- The walk of ExclusionComplete. -/
section
open Go.RowKit

set_option maxRecDepth 100000 in
set_option maxHeartbeats 1600000 in
theorem small26_ok (P M : Int) (am : Option Addr) (mn cm : Nat) (N : Int) (a : Option Addr) (n c : Nat) (W : Int) (w : World) (hn6 : n ≤ 256) :
    Calls Tryz.prog 17 #[.agg #[.int .i64 P, .int .i64 M, .slice am mn cm, .int .i64 N, .slice a n c], .int .i64 W] w fun e w' => (∃ z, e = .returned (.bool z) ∧ (z = true → 0 ≤ W → W ≤ N → N ≤ 64 → bn n W.toNat ≤ 2000)) ∧ Below w.heap.size w w' := by
  go_enter Tryz.func17, Tryz.ntmps17
  go_upto_region 1 with fail
  obtain ⟨U, hU⟩ : ∃ U : World, U = w.alloc (.cells #[.int .i64 P, .int .i64 M, .slice am mn cm, .int .i64 N, .slice a n c] 27) := ⟨_, rfl⟩
  rw [← hU]
  have hbU : Below w.heap.size w U := by rw [hU]; exact below1 _ _
  have x0 : Box U w.heap.size [.int .i64 P, .int .i64 M, .slice am mn cm, .int .i64 N, .slice a n c] := by rw [hU]; exact Box.new _ _ _ rfl
  have c3 := x0.cell 3 rfl
  have c4 := x0.cell 4 rfl
  clear hU x0
  by_cases h1 : W < 0
  · have d1 : decide (W < 0) = true := by simpa using h1
    clear h1
    go_wp2_with fail
    go_ret
    exact ⟨⟨_, rfl, fun _ h _ _ => absurd h (by have := d1; simp at this; omega)⟩, hbU⟩
  have d1 : decide (W < 0) = false := by simpa using h1
  by_cases h2 : N < W
  · have d2 : decide (N < W) = true := by simpa using h2
    clear h1 h2
    go_wp2_with fail
    go_ret
    exact ⟨⟨_, rfl, fun _ _ h _ => absurd h (by have := d2; simp at this; omega)⟩, hbU⟩
  have d2 : decide (N < W) = false := by simpa using h2
  by_cases h3 : 64 < N
  · have d3 : decide (64 < N) = true := by simpa using h3
    clear h1 h2 h3
    go_wp2_with fail
    go_ret
    exact ⟨⟨_, rfl, fun _ _ _ h => absurd h (by have := d3; simp at this; omega)⟩, hbU⟩
  have d3 : decide (64 < N) = false := by simpa using h3
  obtain ⟨W', rfl⟩ : ∃ W' : Nat, W = W' := ⟨W.toNat, by omega⟩
  have HSm := Lib.hid (rSmall26_ok n W' hn6 (by omega) U)
  clear h1 h2 h3
  go_wp2_with fail
  refine HSm.out.mono ?_
  rintro e w1 ⟨z, rfl, hz, rfl⟩
  have Hz := Lib.hid hz
  clear hz
  go_wp2_with fail
  go_ret
  exact ⟨⟨z, rfl, fun h _ _ _ => by rw [Int.toNat_natCast]; exact Hz.out h⟩, hbU⟩

set_option maxRecDepth 100000 in
set_option maxHeartbeats 8000000 in
theorem exLawComplete_any (P M : Int) (am : Option Addr) (mn cm : Nat) (mod : List Int) (N : Int) (a : Option Addr) (n c : Nat) (L : List (List Int)) (x : Nat) (hx : x < 256) (w : World)
    (hmod : Ints w am mn mod) (hi : Mat w a n L) :
    Calls Tryz.prog 3 #[.agg #[.int .i64 P, .int .i64 M, .slice am mn cm, .int .i64 N, .slice a n c], .int .u8 x] w fun e w' => e = .returned (.bool true) ∧ Below w.heap.size w w' := by
  have HF : Hid (∀ V, Below w.heap.size w V → Calls Tryz.prog 15 #[.agg #[.int .i64 P, .int .i64 M, .slice am mn cm, .int .i64 N, .slice a n c]] V (SomeBool V)) :=
    fun V hV => few26_any P M am mn cm N a n c L V (hi.keep hV)
  have HCn : Hid (∀ V, Below w.heap.size w V → Calls Tryz.prog 16 #[.agg #[.int .i64 P, .int .i64 M, .slice am mn cm, .int .i64 N, .slice a n c], .int .i64 600] V fun e w' => e = .returned (.int .i64 (cntS P M mod N L)) ∧ Below V.heap.size V w') :=
    fun V hV => rCount12_any P M am mn cm mod N a n c L V (hmod.keep hV) (hi.keep hV)
  have Hil := Lib.hid hi.len
  go_enter Tryz.func3, Tryz.ntmps3
  go_wp2_with fail
  obtain ⟨W, hW⟩ : ∃ W : World, W = w.alloc (.cells #[.int .i64 P, .int .i64 M, .slice am mn cm, .int .i64 N, .slice a n c] 27) := ⟨_, rfl⟩
  rw [← hW]
  have hbW : Below w.heap.size w W := by rw [hW]; exact below1 _ _
  have x0 : Box W w.heap.size [.int .i64 P, .int .i64 M, .slice am mn cm, .int .i64 N, .slice a n c] := by rw [hW]; exact Box.new _ _ _ rfl
  have HS : Hid (∀ V, Below W.heap.size W V → V.cell? ⟨w.heap.size, 0, none⟩ = some (.int .i64 P) ∧ V.cell? ⟨w.heap.size, 1, none⟩ = some (.int .i64 M) ∧ V.cell? ⟨w.heap.size, 2, none⟩ = some (.slice am mn cm) ∧ V.cell? ⟨w.heap.size, 3, none⟩ = some (.int .i64 N) ∧ V.cell? ⟨w.heap.size, 4, none⟩ = some (.slice a n c)) := fun V hV => by
    have x1 := x0.keep hV
    exact ⟨x1.cell 0 rfl, x1.cell 1 rfl, x1.cell 2 rfl, x1.cell 3 rfl, x1.cell 4 rfl⟩
  have HbW := Lib.hid hbW
  clear hW x0 hbW
  refine (awake26_any W).mono ?_
  rintro e w1 ⟨rfl, hb1⟩
  obtain ⟨c0, c1, c2, c3, c4⟩ := HS.out w1 hb1
  go_wp2_with fail
  refine (HF.out w1 (Below.next HbW.out hb1)).mono ?_
  rintro e w2 ⟨z, rfl, hb2⟩
  have hB2 := Below.next hb1 hb2
  clear c0 c1 c2 c3 c4 HF
  cases z
  · go_wp2_with fail
    refine (awake26_any w2).mono ?_
    rintro e w3 ⟨rfl, hb3⟩
    have hF := Below.next HbW.out (Below.next hB2 hb3)
    go_wp2_with fail
    go_ret
    exact ⟨rfl, hF⟩
  obtain ⟨c0, c1, c2, c3, c4⟩ := HS.out w2 hB2
  go_wp2_with fail
  refine (HCn.out w2 (Below.next HbW.out hB2)).mono ?_
  rintro e w4 ⟨rfl, hb4⟩
  have hB4 := Below.next hB2 hb4
  clear c0 c1 c2 c3 c4 hb1 hb2 hb4
  by_cases h0 : cntS P M mod N L = 0
  · have hd : (cntS P M mod N L == 0) = true := by simpa using h0
    clear h0
    generalize cntS P M mod N L = er at *
    go_wp2_with fail
    refine (awake26_any w4).mono ?_
    rintro e w3 ⟨rfl, hb3⟩
    have hF := Below.next HbW.out (Below.next hB4 hb3)
    go_wp2_with fail
    go_ret
    exact ⟨rfl, hF⟩
  obtain ⟨hE, h600, hcnt⟩ := cntS_ne h0
  obtain ⟨m, hm, hm1, hm64, F, hR⟩ := codeE_fld hE
  subst hm
  have hd : (cntS P M mod (m : Int) L == 0) = false := by simpa using h0
  obtain ⟨c0, c1, c2, c3, c4⟩ := HS.out w4 hB4
  have Hcnt := Lib.hid hcnt
  clear hcnt h0
  generalize cntS P M mod (m : Int) L = er at *
  have hm0 : (m : Int) + 1 ≠ 0 := by omega
  have hr0 : 0 ≤ (x : Int) % ((m : Int) + 1) := Int.emod_nonneg _ hm0
  have hr1 : (x : Int) % ((m : Int) + 1) ≤ m := by have := Int.emod_lt_of_pos (x : Int) (show (0 : Int) < (m : Int) + 1 by omega); omega
  go_wp2_with fail
  generalize (x : Int) % ((m : Int) + 1) = r at *
  have hn256 : n ≤ 256 := by rw [← Hil.out]; exact (codeE_rws hE).choose_spec.2.2.2.1
  refine (small26_ok P M am mn cm m a n c _ w4 hn256).mono ?_
  rintro e w5 ⟨⟨z, rfl, hz⟩, hb5⟩
  have hB5 := Below.next hB4 hb5
  clear c0 c1 c2 c3 c4 hb5
  cases z
  · have hF := Below.next HbW.out hB5
    clear hz
    go_wp2_with fail
    go_ret
    exact ⟨rfl, hF⟩
  have Hbn : Hid (bn L.length (1 + r - 1).toNat ≤ 2000) := by
    show _ ≤ _
    have h1 := hz rfl (by omega) (by omega) (by omega)
    rw [Hil.out]
    first | exact h1 | (rw [show 1 + r - 1 = r by omega]; exact h1)
  clear hz
  obtain ⟨NN, hNN⟩ : ∃ NN, (tblOf P M.toNat mod).q ^ n = NN := ⟨_, rfl⟩
  rw [Hil.out, hNN] at h600
  have Hcn : Hid (er = (NN : Nat)) := by show _ = _; rw [Hcnt.out, Hil.out, hNN]
  have hw := words_any P M am mn cm mod m a n c L w5 NN hE (hmod.keep (Below.next HbW.out hB5)) (hi.keep (Below.next HbW.out hB5)) hNN (by omega)
  have Hw := Lib.hid hw
  have Hq : Hid (1 ≤ (tblOf P M.toNat mod).q) := by show _ ≤ _; have := (q_order hE).2.1; omega
  have hlen : (wlkS (tblOf P M.toNat mod).ops (tblOf P M.toNat mod).q L (List.replicate m 0)).length = NN := by rw [wlkS_length, Hil.out, hNN]
  obtain ⟨c0, c1, c2, c3, c4⟩ := HS.out w5 hB5
  clear hw hNN
  go_wp2_with fail
  refine Hw.out.mono ?_
  rintro e w6 ⟨ao, co, rfl, hM6, hb6⟩
  have hB6 := Below.next hB5 hb6
  clear c0 c1 c2 c3 c4 Hw hb6
  obtain ⟨c0, c1, c2, c3, c4⟩ := HS.out w6 hB6
  go_wp2_with fail
  refine (HCn.out w6 (Below.next HbW.out hB6)).mono ?_
  rintro e w7 ⟨rfl, hb7⟩
  have hB7 := Below.next hB6 hb7
  have hM7 := hM6.keep hb7
  rw [Hcn.out]
  clear c0 c1 c2 c3 c4 hb7 hM6 h600
  obtain ⟨R, hR0⟩ : ∃ R, wlkS (tblOf P M.toNat mod).ops (tblOf P M.toNat mod).q L (List.replicate m 0) = R := ⟨_, rfl⟩
  rw [hR0] at hM7 hlen
  have HR0 := Lib.hid hR0
  have Hlen := Lib.hid hlen
  have hplR := hM7.pl
  have HM7 := Lib.hid hM7
  have hmaxR := hM7.max
  unfold maxLen at hmaxR
  clear hR0 hlen hM7
  go_wp2_with fail
  go_loopw [8, 53] (fun bv iv wr => ∃ (i : Nat) (z : Bool), i ≤ NN ∧ bv = .bool z ∧ iv = .int .i64 i ∧ Hid (z = true ↔ ∀ j, j < i → j = 0 ∨ (1 + r) ≤ (wtL (nthR R j) : Int)) ∧ wr = w7) (fun _ iv _ => NN - (intOf iv).toNat)
  case atStart => exact ⟨0, true, Nat.zero_le _, rfl, rfl, ⟨fun _ j hj => absurd hj (by omega), fun _ => rfl⟩, rfl⟩
  case round =>
    obtain ⟨i, z, hiN, rfl, rfl, hcl, rfl⟩ := hrel
    by_cases hlt : i < NN
    · obtain ⟨bx, mx, cx, hcx, hix⟩ := HM7.out.cell i hlt
      have hwx := Lib.hid (rWeight25_any bx mx cx _ wr hix)
      clear hix
      cases z
      · have hcl2 : Hid (false = true ↔ ∀ j, j < i + 1 → j = 0 ∨ (1 + r) ≤ (wtL (nthR R j) : Int)) := ⟨fun h => absurd h (by decide), fun h => hcl.out.2 fun j hj => h j (by omega)⟩
        go_wp2_with fail
        go_roundw
        case rel => exact ⟨i + 1, false, by omega, rfl, by go_num, hcl2, by first | rfl | trivial⟩
        case measure => simp [intOf] <;> omega
      · by_cases hi0 : i = 0
        · have hi1 : ((i : Int) == 0) = true := by simp; omega
          have hcl2 : Hid (true = true ↔ ∀ j, j < i + 1 → j = 0 ∨ (1 + r) ≤ (wtL (nthR R j) : Int)) := ⟨fun _ j hj => .inl (by omega), fun _ => rfl⟩
          have Hi0 := Lib.hid hi0
          clear hi0
          go_wp2_with fail
          go_roundw
          case rel => exact ⟨i + 1, true, by omega, rfl, by go_num, hcl2, by first | rfl | trivial⟩
          case measure => simp [intOf] <;> omega
        · have hi1 : ((i : Int) == 0) = false := by simp; omega
          obtain ⟨t, ht⟩ : ∃ t : Int, (wtL (nthR R i) : Int) = t := ⟨_, rfl⟩
          have hX : Hid (1 + r ≤ t ↔ ∀ j, j < i + 1 → j = 0 ∨ (1 + r) ≤ (wtL (nthR R j) : Int)) := by
            refine ⟨fun h j hj => ?_, fun h => ?_⟩
            · by_cases e : j = i
              · subst e; rw [ht]; exact .inr h
              · exact hcl.out.1 rfl j (by omega)
            · have := (h i (by omega)).resolve_left hi0
              rw [ht] at this; exact this
          rw [ht] at hwx
          clear ht
          go_wp2_with fail
          refine hwx.out.mono ?_
          rintro e w8 ⟨rfl, rfl⟩
          by_cases hge : 1 + r ≤ t
          · have hge' : decide (1 + r ≤ t) = true := by simpa using hge
            have HX := Lib.hid (hX.out.1 hge)
            go_wp2_with fail
            go_roundw
            case rel => exact ⟨i + 1, true, by omega, rfl, by go_num, ⟨fun _ => HX.out, fun _ => rfl⟩, by first | rfl | trivial⟩
            case measure => simp [intOf] <;> omega
          · have hge' : decide (1 + r ≤ t) = false := by simpa using hge
            have hcl2 : Hid (false = true ↔ ∀ j, j < i + 1 → j = 0 ∨ (1 + r) ≤ (wtL (nthR R j) : Int)) := ⟨fun h => absurd h (by decide), fun h => absurd (hX.out.2 h) hge⟩
            go_wp2_with fail
            go_roundw
            case rel => exact ⟨i + 1, false, by omega, rfl, by go_num, hcl2, by first | rfl | trivial⟩
            case measure => simp [intOf] <;> omega
    · obtain rfl : i = NN := by omega
      have hbw := Below.next HbW.out hB7
      obtain ⟨c0, c1, c2, c3, c4⟩ := HS.out wr hB7
      have hE7 := hE
      have hlaw := complete_law hE (d := 1 + r) (by omega) (by omega) (Nat.le_trans Hbn.out (by decide))
      have hall : (∀ j, j < i → j = 0 ∨ (1 + r) ≤ (wtL (nthR R j) : Int)) ↔ ∀ v : List Int, v.length = L.length → (∀ x ∈ v, (tblOf P M.toNat mod).El x) → wtL v = 0 ∨ (1 + r) ≤ (wtL (cmbTo (tblOf P M.toNat mod).ops m v L L.length) : Int) := by
        have h1 := wlk_all (O := (tblOf P M.toNat mod).ops) (m := m) (L := L) Hq.out (p := fun y => (1 + r) ≤ (wtL y : Int))
        rw [HR0.out, Hlen.out] at h1
        exact h1
      have hlaw2 : ((bldRE P M mod m L n (wtD m (1 + r))).1 = 0 ∨ (bldRE P M mod m L n (wtD m (1 + r))).1 = 11) ∧ ((bldRE P M mod m L n (wtD m (1 + r))).1 = 0 ↔ ∀ j, j < i → j = 0 ∨ (1 + r) ≤ (wtL (nthR R j) : Int)) := by
        rw [← Hil.out]
        exact ⟨hlaw.1, hlaw.2.trans hall.symm⟩
      have hB := (exBuildDistance_any P M am mn cm mod m a n c L (1 + r) wr (hmod.keep hbw) (hi.keep hbw)).mono fun e w' h => ExBldPost.bldP h
      have hCk : (bldRE P M mod m L n (wtD m (1 + r))).1 = 0 → ∀ V ax nx cx, Below wr.heap.size wr V → Mat V ax nx (if (bldRE P M mod m L n (wtD m (1 + r))).1 = 0 then (bldRE P M mod m L n (wtD m (1 + r))).2 else []) → Calls Tryz.prog 21 #[.agg #[.int .i64 P, .int .i64 M, .slice am mn cm, .int .i64 m, .slice a n c], .int .i64 (1 + r), .agg #[.slice ax nx cx]] V fun e w' => e = .returned (.int .i64 0) ∧ Below V.heap.size V w' := by
        intro h V ax nx cx hV hM
        rw [if_pos h] at hM
        have h2 := exCheckDistance_any P M am mn cm mod m a n c L (1 + r) ax nx cx _ V (hmod.keep (Below.next hbw hV)) (hi.keep (Below.next hbw hV)) hM
        rw [bld_chk h] at h2
        exact h2
      have hT : (bldRE P M mod m L n (wtD m (1 + r))).1 ≠ 0 → (if (bldRE P M mod m L n (wtD m (1 + r))).1 = 0 then (bldRE P M mod m L n (wtD m (1 + r))).2 else []) = [] := fun h => if_neg h
      generalize (if (bldRE P M mod m L n (wtD m (1 + r))).1 = 0 then (bldRE P M mod m L n (wtD m (1 + r))).2 else []) = T at *
      generalize (bldRE P M mod m L n (wtD m (1 + r))).1 = ER at *
      have HCk := Lib.hid hCk
      have HT := Lib.hid hT
      have HB := Lib.hid hB
      have HS8 : Hid (∀ V, Below wr.heap.size wr V → Below W.heap.size W V) := fun V hV => Below.next hB7 hV
      cases z
      · have hER : ER = 11 := hlaw2.1.resolve_left fun h0 => absurd (hcl.out.2 (hlaw2.2.1 h0)) (by decide)
        have hT0 := HT.out (by omega)
        subst hT0
        subst hER
        clear hlaw hall hB hCk hT hlaw2
        go_upto_region 16 with (go_at_call 20; refine HB.out.mono ?_; rintro e w8 ⟨av, nv, cv, R8, rfl, hO, hb8⟩)
        have hnv : nv = 0 := by have := hO.ll; simpa using this.symm
        subst hnv
        obtain ⟨W8, hW8⟩ : ∃ W8 : World, W8 = w8.alloc (.cells #[.slice av 0 cv] 37) := ⟨_, rfl⟩
        rw [← hW8]
        have hb88 : Below w8.heap.size w8 W8 := by rw [hW8]; exact below1 _ _
        have t8 : Box W8 w8.heap.size [.slice av 0 cv] := by rw [hW8]; exact Box.new _ _ _ rfl
        have d0 := t8.cell 0 rfl
        have hF := Below.next HbW.out (Below.next hB7 (Below.next hb8 hb88))
        clear hW8 t8 c0 c1 c2 c3 c4
        go_wp2_with fail
        go_ret
        exact ⟨rfl, hF⟩
      · have hER : ER = 0 := hlaw2.2.2 (hcl.out.1 rfl)
        subst hER
        clear hlaw hall hB hCk hT hlaw2
        go_upto_region 16 with (go_at_call 20; refine HB.out.mono ?_; rintro e w8 ⟨av, nv, cv, R8, rfl, hO, hb8⟩)
        obtain ⟨W8, hW8⟩ : ∃ W8 : World, W8 = w8.alloc (.cells #[.slice av nv cv] 37) := ⟨_, rfl⟩
        rw [← hW8]
        have hb88 : Below w8.heap.size w8 W8 := by rw [hW8]; exact below1 _ _
        have t8 : Box W8 w8.heap.size [.slice av nv cv] := by rw [hW8]; exact Box.new _ _ _ rfl
        have d0 := t8.cell 0 rfl
        have hb78 := Below.next hb8 hb88
        have hM8 : Mat W8 av nv T := hO.mat.keep hb88
        have hF := Below.next hB7 hb78
        clear hW8 t8 c0 c1 c2 c3 c4
        obtain ⟨c0, c1, c2, c3, c4⟩ := HS.out W8 hF
        have HFF := Lib.hid (Below.next HbW.out hF)
        have HC8 := Lib.hid (HCk.out (by first | exact rfl | trivial) W8 av nv cv hb78 hM8)
        go_wp2_with (go_at_call 21; refine HC8.out.mono ?_; rintro e w9 ⟨rfl, hb9⟩)
        go_ret
        exact ⟨rfl, Below.next HFF.out hb9⟩

theorem exLawComplete_z (P M : Int) (am : Option Addr) (mn cm : Nat) (mod : List Int) (N : Int) (a : Option Addr) (n c : Nat) (L : List (List Int)) (z : Int) (w : World)
    (hmod : Ints w am mn mod) (hi : Mat w a n L) (hz : 0 ≤ z ∧ z ≤ 255) :
    Calls Tryz.prog 3 #[.agg #[.int .i64 P, .int .i64 M, .slice am mn cm, .int .i64 N, .slice a n c], .int .u8 z] w fun e w' => e = .returned (.bool true) ∧ Below w.heap.size w w' := by
  obtain ⟨x, rfl⟩ : ∃ x : Nat, z = x := ⟨z.toNat, by omega⟩
  exact exLawComplete_any P M am mn cm mod N a n c L x (by omega) w hmod hi
end

/- Plain: what light counts, and what an accepted tree proves of a coset. -/
section
open Go.RowKit

variable {O : FOps} {El : Int → Prop} {m : Nat} {L : List (List Int)}

/-- entries of a cleared row -/
theorem nth_clrV (F : Fld O El) {v r : List Int} {i x : Nat} (hv : Vc El m v) (hr : Vc El m r) (hi : i < m) (hx : x < m) : nth (clrS O v i r) x = O.add (nth v x) (O.neg (O.mul (nth r x) (nth v i))) := by
  by_cases h0 : nth v i = 0
  · have e : clrS O v i r = v := by unfold clrS; rw [if_pos h0]
    rw [e, h0, F.mzero (hr.at hx), F.nzero, F.add_zero _ (hv.at hx)]
  · rw [nth_clrS O v i r x (by rw [hr.1, hv.1]) (by rw [hv.1]; exact hx) h0]
    split
    · rename_i h1
      rw [h1, F.zmul (hv.at hi), F.nzero, F.add_zero _ (hv.at hx)]
    · rw [F.mul_comm _ _ (hv.at hi) (hr.at hx)]
theorem clr_vc (F : Fld O El) {v r : List Int} {i : Nat} (hv : Vc El m v) (hr : Vc El m r) (hi : i < m) : Vc El m (clrS O v i r) :=
  ⟨by rw [clrS_length _ _ _ _ (by rw [hr.1, hv.1])]; exact hv.1, clrS_el F.cl hv.2 hr.2 (by rw [hr.1, hv.1]) (by rw [hv.1]; exact hi)⟩
theorem nthR_clr (O : FOps) (t i : Nat) (L : List (List Int)) : ∀ l, l ≤ L.length → ∀ j, nthR (clrTo O t i L l) j = if j < l ∧ t < j then clrS O (nthR L j) i (nthR L t) else nthR L j
  | 0, _, j => by rw [clrTo, if_neg (by omega)]
  | l + 1, hl, j => by
    have ih := nthR_clr O t i L l (by omega)
    rw [clrTo]
    by_cases htl : t < l
    · rw [if_pos htl, nthR_set _ _ _ _ (by rw [clrTo_length]; omega)]
      by_cases e : j = l
      · subst e; rw [if_pos rfl, ih j, ih t, if_neg (by omega), if_neg (by omega), if_pos ⟨by omega, htl⟩]
      · rw [if_neg e, ih j]
        by_cases h : j < l ∧ t < j
        · rw [if_pos h, if_pos ⟨by omega, h.2⟩]
        · rw [if_neg h, if_neg fun hh => h ⟨by omega, hh.2⟩]
    · rw [if_neg htl, ih j]
      by_cases h : j < l ∧ t < j
      · rw [if_pos h, if_pos ⟨by omega, h.2⟩]
      · rw [if_neg h, if_neg fun hh => h ⟨by omega, hh.2⟩]
/-- the rows behind a step -/
theorem nthR_lgt (O : FOps) {L : List (List Int)} {t k : Nat} (i : Nat) (ht : t < L.length) (hk : k < L.length) (htk : t ≤ k) {j : Nat} (hj : j < L.length) :
    nthR (lgtPiv O L t k i) j = if t < j then clrS O (nthR L (flipN t k j)) i ((nthR L k).map (O.mul (O.inv (nth (nthR L k) i)))) else if j = t then (nthR L k).map (O.mul (O.inv (nth (nthR L k) i))) else nthR L j := by
  have hft : flipN t k t = k := by
    unfold flipN
    by_cases e : t = k
    · rw [if_pos e]; exact e
    · rw [if_neg e, if_pos rfl]
  unfold lgtPiv
  rw [nthR_swap _ _ _ _ ht hk, hft, nthR_clr _ _ _ _ _ (by rw [List.length_set, swapRow_length]; exact Nat.le_refl _)]
  rw [nthR_set _ _ _ _ (by rw [swapRow_length]; exact ht), nthR_set _ _ _ _ (by rw [swapRow_length]; exact ht), if_pos rfl, nthR_swap _ _ _ _ ht hk]
  by_cases h : t < j
  · rw [if_pos ⟨hj, h⟩, if_pos h, if_neg (by omega)]
  · rw [if_neg fun hh => h hh.2, if_neg h]
    by_cases e : j = t
    · rw [if_pos e, if_pos e]
    · rw [if_neg e, if_neg e]
      have hf : flipN t k j = j := by unfold flipN; rw [if_neg (by omega), if_neg e]
      rw [hf]
structure LInv (O : FOps) (El : Int → Prop) (m : Nat) (L : List (List Int)) (y t : List Int) (k : Nat) (st : LS) : Prop where
  rws : Rws El m st.rows
  len : st.rows.length = L.length
  vc : Vc El m st.sum
  top : st.top = k
  kl : k ≤ L.length
  sup : RSub O El m L st.rows
  sub : RSub O El m st.rows L
  cos : ∃ f, RS O El m L f ∧ (∀ x, x < m → El (f x)) ∧ ∀ x, x < m → nth st.sum x = O.add (nth y x) (f x)
  one : ∀ i, i < k → nth (nthR st.rows i) (nth t i).toNat = 1
  zero : ∀ j i, j < k → j < i → i < L.length → nth (nthR st.rows i) (nth t j).toNat = 0
  sz : ∀ j, j < k → nth st.sum (nth t j).toNat = 0

/-- a column that is 0 from the k-th row on depends on the columns ahead -/
theorem tri_clo (F : Fld O El) {R : List (List Int)} {t : List Int} {k : Nat} (hR : Rws El m R) (hk : k ≤ R.length) (hone : ∀ i, i < k → nth (nthR R i) (nth t i).toNat = 1) (hzero : ∀ j i, j < k → j < i → i < R.length → nth (nthR R i) (nth t j).toNat = 0)
    {x : Nat} (hx : ∀ i, k ≤ i → i < R.length → nth (nthR R i) x = 0) : clV O El R.length (colS R) (grL t k) x := by
  intro φ hφ h0
  have hc := colS_vc hR F.zero
  have hu : ∀ j, j < k → φ (unitR R.length j) = 0 := by
    intro j
    induction j using Nat.strongRecOn with
    | ind j ih =>
      intro hj
      have h1 := h0 (nth t j).toNat ((mem_grL t _ k).2 ⟨j, hj, rfl⟩)
      rw [form_unit F hφ (hc _)] at h1
      have hel := hφ.el _ (unitR_vc F R.length j)
      have h2 : ∀ p, p < R.length → nth (colS R (nth t j).toNat) p = nth (nthR R p) (nth t j).toNat := fun p hp => nth_colS R _ p hp
      rw [dotN_one F (x := j) (by
        show El (O.mul (φ (unitR R.length j)) (nth (colS R (nth t j).toNat) j))
        rw [h2 j (by omega), hone j hj, F.mone hel]; exact hel) R.length (fun p hp hpj => by
        show O.mul (φ (unitR R.length p)) (nth (colS R (nth t j).toNat) p) = 0
        rw [h2 p hp]
        by_cases e : p < j
        · rw [ih p e (by omega), ← h2 p hp, F.zmul ((hc _).at hp)]
        · rw [hzero j p hj (by omega) hp, F.mzero (hφ.el _ (unitR_vc F _ p))]), if_pos (by omega)] at h1
      have h3 : O.mul (φ (unitR R.length j)) (nth (colS R (nth t j).toNat) j) = 0 := h1
      rw [h2 j (by omega), hone j hj, F.mone hel] at h3
      exact h3
  rw [form_unit F hφ (hc _)]
  refine dotN_zero F _ fun p hp => ?_
  show O.mul (φ (unitR R.length p)) (nth (colS R x) p) = 0
  by_cases e : p < k
  · rw [hu p e, F.zmul ((hc _).at hp)]
  · rw [nth_colS R _ p hp, hx p (by omega) hp, F.mzero (hφ.el _ (unitR_vc F _ p))]

theorem gA_take {t : List Int} {k : Nat} (hk : k ≤ t.length) {y : Nat} (h : y ∈ grL t k) : y ∈ gA (t.take k) := by
  obtain ⟨j, hj, rfl⟩ := (mem_grL t _ k).1 h
  refine mem_gA.2 ⟨nth t j, ?_, rfl⟩
  rw [nth_getElem (show j < t.length by omega)]
  rw [List.mem_take_iff_getElem]
  exact ⟨j, by omega, rfl⟩
/-- no entry of an independent list depends on those ahead -/
theorem ind_step (F : Fld O El) (hL : Rws El m L) {t : List Int} (ht : rkQ O L t = t.length) {k : Nat} (hk : k < t.length) : ¬ clV O El L.length (colS L) (gA (t.take k)) (nth t k).toNat := fun hc => by
  have h1 : rkQ O L (t.take (k + 1)) = (t.take (k + 1)).length := ind_left F hL (A := t.drop (k + 1)) (by rw [List.take_append_drop]; exact ht)
  have h2 := rkQ_le O L (t.take k)
  have h3 := rkQ_rk F hL (t.take k ++ [nth t k])
  rw [gA_snoc] at h3
  have h4 := h3.uniq (Rk.dep _ hc (rkQ_rk F hL (t.take k)))
  have e : t.take (k + 1) = t.take k ++ [nth t k] := by rw [List.take_succ_eq_append_getElem hk, nth_getElem hk]
  rw [e] at h1
  rw [List.length_append, List.length_take, List.length_singleton] at h1
  rw [List.length_take] at h2
  omega

theorem lgt_next (F : Fld O El) (hL : Rws El m L) {y t : List Int} (hT : InN m t) (ht : rkQ O L t = t.length) {k : Nat} (hk : k < t.length) {st : LS} (h : LInv O El m L y t k st) (hy : Vc El m y) : LInv O El m L y t (k + 1) (lgtStep O st (nth t k).toNat) := by
  have hi0 := hT k hk
  have hi : (nth t k).toNat < m := by omega
  obtain ⟨i, hie⟩ : ∃ i, (nth t k).toNat = i := ⟨_, rfl⟩
  have htop := h.top
  have hlen := h.len
  have hkl : k ≤ st.rows.length := by rw [hlen]; exact h.kl
  have hfound : findRow st.rows i st.top ≠ st.rows.length := fun hf => by
    refine ind_step F hL ht hk ?_
    have h1 : clV O El st.rows.length (colS st.rows) (grL t k) i := tri_clo F h.rws hkl h.one (fun j i' h1 h2 h3 => h.zero j i' h1 h2 (by omega)) fun p hp hpl => by
      refine findTo_zero st.rows i (st.rows.length - st.top) st.top p (by omega) ?_
      unfold findRow at hf
      omega
    have h2 := RSub.cl h.sup (fun z hz => by
      obtain ⟨j, hj, rfl⟩ := (mem_grL t _ k).1 hz
      have := hT j (by omega)
      omega) (by omega) h1
    rw [hie]
    exact (col_clo F hL).sub (fun z hz => gA_take (by omega) hz) h2
  obtain ⟨a1, a2, a3⟩ := find_lt (by omega) hfound
  have hq : ∃ q, findRow st.rows i st.top = q := ⟨_, rfl⟩
  obtain ⟨q, hqe⟩ := hq
  rw [hqe] at a1 a2 a3 hfound
  have hkn : k < st.rows.length := by omega
  rw [hie] at hi ⊢
  have hstep : lgtStep O st i = ⟨lgtPiv O st.rows st.top q i, clrS O st.sum i (nthR (lgtPiv O st.rows st.top q i) st.top), st.top + 1⟩ := by
    unfold lgtStep
    rw [hqe, if_neg hfound]
  rw [hstep, htop]
  rw [htop] at a1
  -- the new row
  have hrq := h.rws.row (i := q) a2
  have hp : El (nth (nthR st.rows q) i) := Vc.at hrq hi
  have hpi := F.cl.inv _ hp a3
  obtain ⟨N, hN⟩ : ∃ N, (nthR st.rows q).map (O.mul (O.inv (nth (nthR st.rows q) i))) = N := ⟨_, rfl⟩
  have hNv : Vc El m N := by rw [← hN]; exact Vc.scl F hrq hpi
  have hNx : ∀ x, x < m → nth N x = O.mul (O.inv (nth (nthR st.rows q) i)) (nth (nthR st.rows q) x) := fun x hx => by rw [← hN]; exact nth_scl O _ _ (by rw [hrq.1]; exact hx)
  have hNi : nth N i = 1 := by rw [hNx i hi, F.mul_comm _ _ hpi hp, F.mul_inv _ hp a3]
  obtain ⟨R', hR'⟩ : ∃ R', lgtPiv O st.rows k q i = R' := ⟨_, rfl⟩
  have hrow : ∀ j, j < st.rows.length → nthR R' j = if k < j then clrS O (nthR st.rows (flipN k q j)) i N else if j = k then N else nthR st.rows j := fun j hj => by
    rw [← hR', nthR_lgt O i hkn a2 a1 hj, hN]
  have hR'l : R'.length = st.rows.length := by rw [← hR', lgtPiv_length]
  have hR'r : Rws El m R' := by rw [← hR']; exact lgtPiv_rws F.cl h.rws hkn a2 hi a3
  have hrk : nthR R' k = N := by rw [hrow k hkn, if_neg (by omega), if_pos rfl]
  have hfl : ∀ j, j < st.rows.length → flipN k q j < st.rows.length := fun j hj => flipN_lt hkn a2 hj
  have hclx : ∀ j x, j < st.rows.length → k < j → x < m → nth (nthR R' j) x = O.add (nth (nthR st.rows (flipN k q j)) x) (O.neg (O.mul (nth N x) (nth (nthR st.rows (flipN k q j)) i))) := fun j x hj hkj hx => by
    rw [hrow j hj, if_pos hkj]
    exact nth_clrV F (h.rws.row (hfl j hj)) hNv hi hx
  have hNrs : RS O El m st.rows (fun x => nth N x) := ((RS.row F a2).smul F hpi).congr fun x hx => hNx x hx
  have hsub' : RSub O El m R' st.rows := fun j hj => by
    rw [hR'l] at hj
    by_cases h1 : k < j
    · exact ((RS.row F (hfl j hj)).comb F hNrs (Vc.at (h.rws.row (hfl j hj)) hi)).congr fun x hx => hclx j x hj h1 hx
    · by_cases h2 : j = k
      · subst h2
        rw [hrk]; exact hNrs
      · rw [hrow j hj, if_neg h1, if_neg h2]
        exact RS.row F hj
  have hkR : k < R'.length := by omega
  have hsup' : RSub O El m st.rows R' := fun j hj => by
    by_cases h1 : j < k
    · refine (RS.row F (i := j) (by omega)).congr fun x hx => ?_
      rw [hrow j hj, if_neg (by omega), if_neg (by omega)]
    · by_cases h2 : j = q
      · subst h2
        refine ((RS.row F hkR).smul F hp).congr fun x hx => ?_
        have hx1 : El (nth (nthR st.rows j) x) := Vc.at hrq hx
        rw [hrk, hNx x hx, ← F.mul_assoc _ _ _ hp hpi hx1, F.mul_inv _ hp a3, F.one_mul _ hx1]
      · obtain ⟨j', hj', hkj, hfj⟩ : ∃ j', j' < st.rows.length ∧ k < j' ∧ flipN k q j' = j := by
          by_cases h3 : j = k
          · refine ⟨q, a2, by omega, ?_⟩
            unfold flipN
            rw [if_pos rfl, h3]
          · refine ⟨j, hj, by omega, ?_⟩
            unfold flipN
            rw [if_neg h2, if_neg h3]
        have hs : El (nth (nthR st.rows j) i) := Vc.at (h.rws.row hj) hi
        refine ((RS.row F (i := j') (by omega)).comb F (RS.row F hkR) (F.cl.neg _ hs)).congr fun x hx => ?_
        have hx2 : El (nth (nthR st.rows j) x) := Vc.at (h.rws.row hj) hx
        have hq := F.cl.mul _ _ (hNv.at hx) hs
        rw [hclx j' x hj' hkj hx, hfj, hrk, F.mul_neg (hNv.at hx) hs, F.neg_neg hq, F.add_assoc _ _ _ hx2 (F.cl.neg _ hq) hq, F.negadd hq, F.add_zero _ hx2]
  rw [hR', hrk]
  -- zeros of the rows from k on
  have hlow : ∀ j p, j < k → k ≤ p → p < st.rows.length → nth (nthR st.rows p) (nth t j).toNat = 0 := fun j p h1 h2 h3 => h.zero j p h1 (by omega) (by omega)
  have hNj : ∀ j, j < k → nth N (nth t j).toNat = 0 := fun j hj => by
    have := hT j (by omega)
    rw [hNx _ (by omega), hlow j q hj a1 a2, F.mzero hpi]
  refine ⟨hR'r, (show R'.length = L.length by omega), clr_vc F h.vc hNv hi, rfl, by omega, h.sup.trans hsup', hsub'.trans h.sub, ?_, ?_, ?_, ?_⟩
  · obtain ⟨f, hf, hfe, hfx⟩ := h.cos
    have hs := h.vc.at hi
    refine ⟨_, hf.comb F (h.sub.rs hNrs) hs, fun x hx => F.cl.add _ _ (hfe x hx) (F.cl.neg _ (F.cl.mul _ _ (hNv.at hx) hs)), fun x hx => ?_⟩
    have hq := F.cl.neg _ (F.cl.mul _ _ (hNv.at hx) hs)
    show nth (clrS O st.sum i N) x = _
    rw [nth_clrV F h.vc hNv hi hx, hfx x hx, F.add_assoc _ _ _ (hy.at hx) (hfe x hx) hq]
  · intro i' hi'
    show nth (nthR R' i') _ = 1
    by_cases e : i' = k
    · subst e
      rw [hrk, hie]; exact hNi
    · rw [hrow i' (by omega), if_neg (by omega), if_neg e]
      exact h.one i' (by omega)
  · intro j i' hj hji hil
    show nth (nthR R' i') _ = 0
    have htj := hT j (by omega)
    by_cases e : j = k
    · subst e
      rw [hie, hclx i' i (by omega) hji hi, hNi]
      have hv : El (nth (nthR st.rows (flipN j q i')) i) := Vc.at (h.rws.row (hfl i' (by omega))) hi
      rw [F.one_mul _ hv, F.add_neg _ hv]
    · by_cases e2 : k < i'
      · rw [hclx i' _ (by omega) e2 (by omega), hNj j (by omega)]
        have hv : El (nth (nthR st.rows (flipN k q i')) i) := Vc.at (h.rws.row (hfl i' (by omega))) hi
        have hfk : k ≤ flipN k q i' := by unfold flipN; split <;> (try split) <;> omega
        rw [hlow j _ (by omega) hfk (hfl i' (by omega)), F.zmul hv, F.nzero, F.add_zero _ F.zero]
      · by_cases e3 : i' = k
        · subst e3
          rw [hrk]; exact hNj j (by omega)
        · rw [hrow i' (by omega), if_neg e2, if_neg e3]
          exact h.zero j i' (by omega) hji hil
  · intro j hj
    show nth (clrS O st.sum i N) _ = 0
    have htj := hT j (by omega)
    have hs := h.vc.at hi
    by_cases e : j = k
    · subst e
      rw [hie, nth_clrV F h.vc hNv hi hi, hNi, F.one_mul _ hs, F.add_neg _ hs]
    · rw [nth_clrV F h.vc hNv hi (by omega), hNj j (by omega), h.sz j (by omega), F.zmul hs, F.nzero, F.add_zero _ F.zero]
theorem lgt_inv (F : Fld O El) (hL : Rws El m L) {y t : List Int} (hT : InN m t) (ht : rkQ O L t = t.length) (hy : Vc El m y) : ∀ k, k ≤ t.length → LInv O El m L y t k (lgtTo O L y t k)
  | 0, _ => by
    refine ⟨hL, rfl, hy, rfl, Nat.zero_le _, RSub.refl F L, RSub.refl F L, ?_, fun i hi => by omega, fun j i hj => by omega, fun j hj => by omega⟩
    refine ⟨fun _ => 0, ?_, fun x _ => F.zero, fun x hx => by show nth y x = _; rw [F.add_zero _ (hy.at hx)]⟩
    exact RS.nul F fun _ _ => rfl
  | k + 1, hk => by
    rw [lgtTo]
    exact lgt_next F hL hT ht (by omega) (lgt_inv F hL hT ht hy k (by omega)) hy

/-- a word of the coset of y -/
def Cos (O : FOps) (El : Int → Prop) (m : Nat) (L : List (List Int)) (y X : List Int) : Prop := Vc El m X ∧ ∃ f, RS O El m L f ∧ (∀ x, x < m → El (f x)) ∧ ∀ x, x < m → nth X x = O.add (nth y x) (f x)
/-- words of a coset that are 0 at columns which span are equal there -/
theorem cos_uniq (F : Fld O El) (hL : Rws El m L) {y X X' t Q : List Int} (hy : Vc El m y) (hX : Cos O El m L y X) (hX' : Cos O El m L y X') (hT : InN m t) (ht : rkQ O L Q ≤ rkQ O L t) (hQ : ∀ x ∈ t, x ∈ Q)
    (h0 : ∀ x ∈ t, nth X x.toNat = 0) (h0' : ∀ x ∈ t, nth X' x.toNat = 0) {x : Int} (hx : x ∈ Q) (hxm : x.toNat < m) : nth X x.toNat = nth X' x.toNat := by
  obtain ⟨hXv, f, ⟨e, he, hfe⟩, hfel, hfx⟩ := hX
  obtain ⟨hXv', f', ⟨e', he', hfe'⟩, hfel', hfx'⟩ := hX'
  have hone := F.one
  have hc : clV O El L.length (colS L) (gA t) x.toNat := by
    refine Classical.byContradiction fun hn => ?_
    have h1 := rkQ_out F hL (Q := t) (x := x) hn
    have h2 := rkQ_mono F hL (Q := t ++ [x]) (Q' := Q) fun z hz => by
      rcases List.mem_append.1 hz with hz | hz
      · exact hQ z hz
      · rw [List.mem_singleton.1 hz]; exact hx
    omega
  have hd := hc _ (he.comb F he' hone) fun z hz => by
    obtain ⟨p, hp, rfl⟩ := mem_gA.1 hz
    obtain ⟨j, hj, rfl⟩ := List.mem_iff_getElem.1 hp
    have hb := hT j hj
    rw [nth_getElem hj] at hb
    show O.add (e (colS L (t[j]).toNat)) (O.neg (O.mul (e' (colS L (t[j]).toNat)) 1)) = 0
    have k1 := h0 _ hp
    have k2 := h0' _ hp
    rw [hfx _ (by omega)] at k1
    rw [hfx' _ (by omega)] at k2
    have yv := hy.at (i := (t[j]).toNat) (by omega)
    have q1 := F.neg_of yv (hfel _ (by omega)) k1
    have q2 := F.neg_of yv (hfel' _ (by omega)) k2
    rw [← hfe _ (by omega), ← hfe' _ (by omega), q1, q2, F.mone (F.cl.neg _ yv), F.add_neg _ (F.cl.neg _ yv)]
  have hd' : O.add (e (colS L x.toNat)) (O.neg (O.mul (e' (colS L x.toNat)) 1)) = 0 := hd
  rw [← hfe _ hxm, ← hfe' _ hxm, F.mone (hfel' _ hxm)] at hd'
  have q := F.neg_of (hfel _ hxm) (F.cl.neg _ (hfel' _ hxm)) hd'
  have q2 := congrArg O.neg q
  rw [F.neg_neg (hfel' _ hxm), F.neg_neg (hfel _ hxm)] at q2
  rw [hfx _ hxm, hfx' _ hxm, q2]

/-! ### weights -/
theorem wt_split (s v : List Int) : ∀ k, (List.range k).countP (fun j => decide (nth v j ≠ 0)) = cntTo s v k + (List.range k).countP fun j => decide (nth v j ≠ 0 ∧ (j : Int) ∈ s)
  | 0 => by simp [cntTo]
  | k + 1 => by
    have ih := wt_split s v k
    have hc : cntTo s v (k + 1) = cntTo s v k + if nth v k ≠ 0 ∧ ¬ (k : Int) ∈ s then 1 else 0 := by rw [cntTo]; split <;> rfl
    rw [List.range_succ, List.countP_append, List.countP_append, hc]
    simp only [List.countP_singleton]
    by_cases h1 : nth v k = 0
    · simp [h1] at ih ⊢
      omega
    · by_cases h2 : (k : Int) ∈ s
      · simp [h1, h2] at ih ⊢
        omega
      · simp [h1, h2] at ih ⊢
        omega
theorem cntTo_congr {s v v' : List Int} : ∀ k : Nat, (∀ j : Nat, j < k → ¬ (j : Int) ∈ s → nth v j = nth v' j) → cntTo s v k = cntTo s v' k
  | 0, _ => rfl
  | k + 1, h => by
    have ih := cntTo_congr k fun j hj => h j (by omega)
    rw [cntTo, cntTo, ih]
    by_cases h2 : (k : Int) ∈ s
    · rw [if_neg fun hh => hh.2 h2, if_neg fun hh => hh.2 h2]
    · rw [h k (by omega) h2]
theorem wt_ge {s X : List Int} {m : Nat} (hX : X.length = m) (hn : s.Nodup) (hs : ∀ x ∈ s, x ∈ supp X m) : s.length + cntTo s X m ≤ wtL X := by
  have h1 := wt_split s X m
  have h2 : wtL X = (List.range m).countP fun j => decide (nth X j ≠ 0) := by
    rw [← supp_len hX, supp, List.length_map, ← List.countP_eq_length_filter]
  have h3 := wtU_add X m s [] hn fun x hx => by
    obtain ⟨j, hj, _, rfl⟩ := mem_supp.1 (hs x hx)
    omega
  have h4 : s.countP (fun x => decide (nth X x.toNat ≠ 0 ∧ ¬ x ∈ ([] : List Int))) = s.length := by
    rw [List.countP_eq_length]
    intro x hx
    obtain ⟨j, hj, h5, rfl⟩ := mem_supp.1 (hs x hx)
    simpa using h5
  have h5 : wtU X [] m = 0 := by simp [wtU]
  rw [List.nil_append, h4, h5] at h3
  unfold wtU at h3
  omega
/-- what light counts: any word of the coset that is 0 at the set -/
theorem light_cnt (F : Fld O El) (hL : Rws El m L) {y s t X : List Int} (hy : Vc El m y) (hT : InN m t) (ht : rkQ O L t = t.length) (hr : rkQ O L (frTo false s m) = t.length) (hts : ∀ x ∈ t, ¬ x ∈ s) (hX : Cos O El m L y X) (h0 : ∀ x ∈ t, nth X x.toNat = 0) :
    lightS O L y s t = cntTo s X m := by
  have h := lgt_inv F hL hT ht hy t.length (Nat.le_refl _)
  unfold lightS
  rw [h.vc.1]
  refine cntTo_congr m fun j hj hjs => ?_
  have hZ : Cos O El m L y (lgtTo O L y t t.length).sum := ⟨h.vc, h.cos⟩
  refine cos_uniq F hL hy hZ hX hT (Q := frTo false s m) (by omega) (fun x hx => ?_) (fun x hx => ?_) h0 (x := (j : Int)) ((mem_frTo m).2 ⟨j, hj, rfl, by simpa using hjs⟩) (by simpa using hj)
  · obtain ⟨q, hq, rfl⟩ := List.mem_iff_getElem.1 hx
    have hb := hT q hq
    rw [nth_getElem hq] at hb
    exact (mem_frTo m).2 ⟨(t[q]).toNat, by omega, by omega, by rw [Int.toNat_of_nonneg hb.1]; simpa using hts _ hx⟩
  · obtain ⟨q, hq, rfl⟩ := List.mem_iff_getElem.1 hx
    have := h.sz q hq
    rwa [nth_getElem hq] at this
/-- an accepted coset claim -/
theorem prov_coset (F : Fld O El) (hL : Rws El m L) {C : Clm} (hc : C.cos = true) (hy : Vc El m C.y) {ts : List (List Int)} (h : provS O L m C ts = 0) {X : List Int} (hX : Cos O El m L C.y X) : C.W < wtL X := by
  refine Classical.byContradiction fun hw => ?_
  have hXl := hX.1.1
  obtain ⟨s, t, hr, hn, hs, ht⟩ := prov_node h (supp X m) (by rw [supp_len hXl]; omega)
  obtain ⟨hok, hts⟩ := right_ok hr
  obtain ⟨h1, h2⟩ := right_len hr
  have hT : InN m t := fun j hj => okSet_rng hok j hj
  unfold sizK at h1
  rw [if_pos hc] at h1
  unfold rightS at hr
  rw [Bool.and_eq_true, Bool.and_eq_true, if_pos hc, Bool.and_eq_true, decide_eq_true_eq, decide_eq_true_eq, decide_eq_true_eq] at hr
  have h3 := hr.2.2.2
  have h4 := light_cnt F hL hy hT h2 h1.symm hts hX fun x hx => by
    refine Classical.byContradiction fun hne => ?_
    obtain ⟨q, hq, rfl⟩ := List.mem_iff_getElem.1 hx
    have hb := hT q hq
    rw [nth_getElem hq] at hb
    refine ht _ hx (mem_supp.2 ⟨(t[q]).toNat, by omega, hne, by omega⟩)
  have h5 := wt_ge hXl hn hs
  omega
end

/- AddTo of the reference, over the field of a code; the sum of a word and a combination is a word of the coset. -/
section
open Go.RowKit

theorem rAddC_any {P M : Int} {am : Option Addr} {mn cm : Nat} {mod : List Int} {m : Nat} {L : List (List Int)} (hE : codeE P M mod m L = 0) (av : Option Addr) (cv : Nat) (v : List Int) (s : Int) (au : Option Addr) (cu : Nat) (u : List Int) (w : World)
    (hmod : Ints w am mn mod) (hi : Ints w av m v) (hu : Ints w au m u) (hv : Vc (tblOf P M.toNat mod).El m v) (hs : (tblOf P M.toNat mod).El s) (hue : Vc (tblOf P M.toNat mod).El m u) :
    Calls Tryz.prog 23 #[.agg #[.int .i64 P, .int .i64 M, .slice am mn cm], .slice av m cv, .int .i64 s, .slice au m cu] w fun e w' => ∃ a1 c1, e = .returned (.slice a1 m c1) ∧ Ints w' a1 m (addRow (tblOf P M.toNat mod).ops v s u) ∧ Below w.heap.size w w' := by
  obtain ⟨k, hk, hel, hq, hF, hA, _⟩ := eq_ops (codeE_zero hE).1
  subst hk
  obtain ⟨k', e2, hrf, hmods⟩ := fieldRB_rf (P := P) (M := (k : Int)) (mod := mod) (by rw [fieldRB_eq]; exact (codeE_zero hE).1)
  obtain rfl : k = k' := by omega
  obtain ⟨_, _, hm64, _⟩ := codeE_zero hE
  rw [Int.toNat_natCast] at hv hs hue ⊢
  rw [← hel] at hv hs hue
  have h := rAddTo_any P k am mn cm mod av m cv v s au cu u w ⟨hrf, hmods w am mn hmod⟩ hs hi hu hv.2 hue.2 (by omega)
  rw [← addRow_agr hA hF.cl v u s hv.2 hue.2 hs] at h
  refine h.mono ?_
  rintro e w' ⟨a1, c1, rfl, hown, hb⟩
  have hl : (addRow (tblOf P k mod).ops v s u).length = m := by rw [addRow_length _ _ _ _ (by rw [hue.1, hv.1])]; exact hv.1
  rw [hl] at hown ⊢
  exact ⟨a1, c1, rfl, (Ints.own hown).1, hb⟩

section
variable {P M : Int} {mod : List Int} {m : Nat} {L : List (List Int)}
theorem cosE_zero {y : List Int} {W : Int} (h : cosE P M mod m L y W = 0) : codeE P M mod m L = 0 ∧ Vc (tblOf P M.toNat mod).El m y ∧ elsQ (tblOf P M.toNat mod).q y = true ∧ 0 ≤ W ∧ W ≤ m := by
  unfold cosE at h
  by_cases hE : codeE P M mod m L = 0
  · rw [if_pos hE] at h
    by_cases h1 : (y.length : Int) ≠ m
    · rw [if_pos h1] at h; cases h
    · rw [if_neg h1] at h
      by_cases h2 : elsQ (tblOf P M.toNat mod).q y = false
      · rw [if_pos h2] at h; cases h
      · rw [if_neg h2] at h
        have h2' : elsQ (tblOf P M.toNat mod).q y = true := by simpa using h2
        by_cases h3 : W < 0 ∨ (m : Int) < W
        · rw [if_pos h3] at h; cases h
        · exact ⟨hE, ⟨by omega, elsQ_els h2'⟩, h2', by omega, by omega⟩
  · rw [if_neg hE] at h; exact absurd h hE
/-- y and a combination -/
theorem cos_cmb (hE : codeE P M mod m L = 0) {y v : List Int} (hy : Vc (tblOf P M.toNat mod).El m y) (hv : ∀ k, k < L.length → (tblOf P M.toNat mod).El (nth v k)) :
    Cos (tblOf P M.toNat mod).ops (tblOf P M.toNat mod).El m L y (addRow (tblOf P M.toNat mod).ops y 1 (cmbTo (tblOf P M.toNat mod).ops m v L L.length)) := by
  obtain ⟨N', e, hm1, hm64, F, hR⟩ := codeE_fld hE
  obtain rfl : m = N' := by omega
  obtain ⟨c1, c2⟩ := cmb_rs F hR hv L.length (Nat.le_refl _)
  have hl : (cmbTo (tblOf P M.toNat mod).ops m v L L.length).length = y.length := by rw [c1.1, hy.1]
  refine ⟨⟨by rw [addRow_length _ _ _ _ hl]; exact hy.1, addRow_el F.cl hy.2 c1.2 F.one⟩, _, c2, fun x hx => c1.at hx, fun x hx => ?_⟩
  rw [nth_addRow _ _ _ _ _ hl (by rw [hy.1]; exact hx)]
  split
  · rename_i h0
    rw [h0, F.add_zero _ (hy.at hx)]
  · rw [F.one_mul _ (c1.at hx)]
theorem cos_law {y : List Int} {W : Int} {ts : List (List Int)} (h : chkCE P M mod m L y W ts = 0) {v : List Int} (hv : ∀ k, k < L.length → (tblOf P M.toNat mod).El (nth v k)) :
    W < (wtL (addRow (tblOf P M.toNat mod).ops y 1 (cmbTo (tblOf P M.toNat mod).ops m v L L.length)) : Int) := by
  unfold chkCE at h
  by_cases h0 : cosE P M mod m L y W = 0
  · rw [if_pos h0, Int.toNat_natCast] at h
    obtain ⟨hE, hy, _, hW0, hWm⟩ := cosE_zero h0
    obtain ⟨N', e, hm1, hm64, F, hR⟩ := codeE_fld hE
    obtain rfl : m = N' := by omega
    have h1 := prov_coset F hR (C := ⟨0, W.toNat, true, y⟩) rfl hy h (cos_cmb hE hy hv)
    have h2 : W.toNat < wtL (addRow (tblOf P M.toNat mod).ops y 1 (cmbTo (tblOf P M.toNat mod).ops m v L L.length)) := h1
    omega
  · rw [if_neg h0] at h; exact absurd h h0
end
end

/- Plain: the solution of independent equations; a word of a coset that is 0 at independent positions. -/
section
open Go.RowKit

/-- rows, each continued by an entry -/
def augL (A : List (List Int)) (b : List Int) : List (List Int) := List.zipWith (fun r x => r ++ [x]) A b
def solTo (k : Nat) (E : List (List Int)) (P : List Int) : Nat → List Int
  | 0 => List.replicate k 0
  | j + 1 => (solTo k E P j).set (nth P j).toNat (nth (nthR E j) k)
def solL (O : FOps) (A : List (List Int)) (b : List Int) (k : Nat) : List Int := solTo k (elimTo O (augL A b) k).1 (elimTo O (augL A b) k).2 (elimTo O (augL A b) k).2.length
theorem solTo_len (k : Nat) (E : List (List Int)) (P : List Int) : ∀ j, (solTo k E P j).length = k
  | 0 => by simp [solTo]
  | j + 1 => by rw [solTo, List.length_set]; exact solTo_len k E P j
theorem augL_len {A : List (List Int)} {b : List Int} (h : b.length = A.length) : (augL A b).length = A.length := by simp [augL, h]
theorem nthR_aug {A : List (List Int)} {b : List Int} (h : b.length = A.length) {i : Nat} (hi : i < A.length) : nthR (augL A b) i = nthR A i ++ [nth b i] := by
  rw [nthR_getElem (show i < (augL A b).length by rw [augL_len h]; exact hi), nthR_getElem hi, nth_getElem (show i < b.length by omega)]
  simp [augL]

section
variable {O : FOps} {El : Int → Prop} {m k : Nat}
theorem aug_rws {A : List (List Int)} {b : List Int} (hA : Rws El k A) (h : b.length = A.length) (hb : ∀ x ∈ b, El x) : Rws El (k + 1) (augL A b) := fun r hr => by
  obtain ⟨i, hi, rfl⟩ := List.mem_iff_getElem.1 hr
  rw [augL_len h] at hi
  rw [← nthR_getElem, nthR_aug h hi]
  have h1 := hA.row hi
  refine ⟨by rw [List.length_append, h1.1]; rfl, fun y hy => ?_⟩
  rcases List.mem_append.1 hy with hy | hy
  · exact h1.2 y hy
  · rw [List.mem_singleton.1 hy]
    exact hb _ (nth_mem (by omega))
theorem aug_take {A : List (List Int)} {b : List Int} (hA : Rws El k A) (h : b.length = A.length) : (augL A b).map (List.take k) = A := by
  refine List.ext_getElem (by rw [List.length_map, augL_len h]) fun i h1 h2 => ?_
  rw [List.getElem_map, ← nthR_getElem (show i < (augL A b).length by rw [augL_len h]; exact h2), nthR_aug h h2, ← nthR_getElem h2]
  have h3 := (hA.row h2).1
  rw [List.take_append_of_le_length (by omega), List.take_of_length_le (by omega)]
theorem nth_app {l : List Int} {x : Int} {i : Nat} (h : i < l.length) : nth (l ++ [x]) i = nth l i := by
  unfold nth; simp only [List.getD_eq_getElem?_getD]; rw [List.getElem?_append_left h]
theorem nth_app_end {l : List Int} {x : Int} : nth (l ++ [x]) l.length = x := by
  unfold nth; simp [List.getD_eq_getElem?_getD]

/-- independent columns as rows: each row is a pivot's -/
theorem row_rank (F : Fld O El) {L : List (List Int)} (hL : Rws El m L) {t : List Int} (hT : InN m t) (ht : rkQ O L t = t.length) : (elimTo O (t.map fun q => colS L q.toNat) L.length).2.length = t.length := by
  obtain ⟨A, hA⟩ : ∃ A, (t.map fun q => colS L q.toNat) = A := ⟨_, rfl⟩
  have hAl : A.length = t.length := by rw [← hA, List.length_map]
  have hAi : ∀ i, i < t.length → nthR A i = colS L (nth t i).toNat := fun i hi => by
    rw [nthR_getElem (by omega), nth_getElem hi]
    simp [← hA]
  have hAr : Rws El L.length A := fun r hr => by
    rw [← hA] at hr
    obtain ⟨q, _, rfl⟩ := List.mem_map.1 hr
    exact colS_vc hL F.zero _
  rw [hA]
  obtain ⟨h1, h2, h3⟩ := elim_inv F hAr L.length (Nat.le_refl _)
  have hEr := elim_rws F hAr L.length (Nat.le_refl _)
  have hEl : (elimTo O A L.length).1.length = A.length := elimTo_length _ _ _
  have hle := h1.le
  rw [hEl, hAl] at hle
  refine Nat.le_antisymm hle ?_
  obtain ⟨E, hE⟩ : ∃ E, (elimTo O A L.length).1 = E := ⟨_, rfl⟩
  obtain ⟨p, hp⟩ : ∃ p, (elimTo O A L.length).2.length = p := ⟨_, rfl⟩
  have hzero := h1.zero
  rw [hE] at hEr hEl h3 hzero
  rw [hp] at hzero ⊢
  -- the columns of L and the rows of E as one family
  let c : Nat → List Int := fun i => if i < m then colS L i else if i - m < p ∧ i - m < E.length then nthR E (i - m) else colS L 0
  have hc : ∀ i, Vc El L.length (c i) := fun i => by
    show Vc El L.length (if i < m then colS L i else if i - m < p ∧ i - m < E.length then nthR E (i - m) else colS L 0)
    split
    · exact colS_vc hL F.zero _
    · split
      · rename_i h; exact hEr.row h.2
      · exact colS_vc hL F.zero _
  have hcm : ∀ i, i < m → c i = colS L i := fun i hi => if_pos hi
  have hr1 := Rk.map (cl' := clV O El L.length c) (fun i => i < m) id (fun l x hl hx => by
    rw [List.map_id]
    constructor
    · intro h φ hφ h0
      show φ (c x) = 0
      rw [hcm x hx]
      exact h φ hφ fun y hy => by rw [← hcm y (hl y hy)]; exact h0 y hy
    · intro h φ hφ h0
      have h4 : φ (c x) = 0 := h φ hφ fun y hy => by rw [hcm y (hl y hy)]; exact h0 y hy
      rwa [hcm x hx] at h4) (rkQ_rk F hL t) fun y hy => by
    obtain ⟨z, hz, rfl⟩ := mem_gA.1 hy
    obtain ⟨j, hj, rfl⟩ := List.mem_iff_getElem.1 hz
    have := hT j hj
    rw [nth_getElem hj] at this
    omega
  rw [List.map_id, ht] at hr1
  obtain ⟨n2, hr2⟩ := Rk.ex (clV O El L.length c) ((List.range p).map (m + ·))
  have hn2 := hr2.len
  rw [List.length_map, List.length_range] at hn2
  refine Nat.le_trans (Rk.le (clV_clo F hc) hr1 hr2 fun x hx => ?_) hn2
  obtain ⟨z, hz, rfl⟩ := mem_gA.1 hx
  obtain ⟨i, hi, rfl⟩ := List.mem_iff_getElem.1 hz
  have hti := hT i hi
  rw [nth_getElem hi] at hti
  intro ψ hψ h0
  rw [hcm _ (by omega)]
  have hAi' := hAi i hi
  rw [nth_getElem hi] at hAi'
  obtain ⟨e, he, hx⟩ := h3 i (by omega)
  have hr : ∀ q, q < L.length → El (ψ (unitR L.length q)) := fun q hq => hψ.el _ (unitR_vc F _ q)
  have hz := form_dot F hEr he (r := fun q => ψ (unitR L.length q)) hr fun j hj => by
    by_cases hjp : j < p
    · have h4 := h0 (m + j) (List.mem_map.2 ⟨j, List.mem_range.2 hjp, rfl⟩)
      have h5 : c (m + j) = nthR E j := by
        show (if m + j < m then colS L (m + j) else if m + j - m < p ∧ m + j - m < E.length then nthR E (m + j - m) else colS L 0) = _
        rw [if_neg (by omega), if_pos (by omega), show m + j - m = j by omega]
      rw [h5, form_unit F hψ (hEr.row hj)] at h4
      exact h4
    · refine dotN_zero F _ fun q hq => ?_
      show O.mul (ψ (unitR L.length q)) (nth (nthR E j) q) = 0
      rw [hzero j q (by omega) hj hq, F.mzero (hr q hq)]
  rw [form_unit F hψ (colS_vc hL F.zero _)]
  rw [← hz]
  refine dotN_congr _ fun q hq => ⟨rfl, ?_⟩
  rw [← hAi']
  exact hx q hq

theorem dotN_set (F : Fld O El) {f : Nat → Int} {x : List Int} {v : Int} {p : Nat} (hf : ∀ q, q < k → El (f q)) (hx : ∀ q, q < k → El (nth x q)) (hv : El v) (hp : p < k) (hk : x.length = k) (h0 : nth x p = 0) : ∀ t, t ≤ k →
    dotN O f (fun q => nth (x.set p v) q) t = if p < t then O.add (dotN O f (fun q => nth x q) t) (O.mul (f p) v) else dotN O f (fun q => nth x q) t
  | 0, _ => by rw [if_neg (by omega)]; rfl
  | t + 1, ht => by
    have ih := dotN_set F hf hx hv hp hk h0 t (by omega)
    have hd := dotN_el F (O := O) (a := f) (b := fun q => nth x q) t (fun q hq => hf q (by omega)) fun q hq => hx q (by omega)
    have hs : ∀ q, q < k → nth (x.set p v) q = if q = p then v else nth x q := fun q hq => by
      unfold nth
      simp only [List.getD_eq_getElem?_getD, List.getElem?_set]
      by_cases e : p = q
      · subst e; rw [if_pos rfl, if_pos (by omega), if_pos rfl]; rfl
      · rw [if_neg e, if_neg fun e2 => e e2.symm]
    have hst : dotN O f (fun q => nth (x.set p v) q) (t + 1) = O.add (dotN O f (fun q => nth (x.set p v) q) t) (O.mul (f t) (nth (x.set p v) t)) := rfl
    have hst2 : dotN O f (fun q => nth x q) (t + 1) = O.add (dotN O f (fun q => nth x q) t) (O.mul (f t) (nth x t)) := rfl
    rw [hst, hst2, ih, hs t (by omega)]
    by_cases e : t = p
    · subst e
      rw [if_neg (by omega), if_pos rfl, if_pos (by omega), h0, F.mzero (hf t (by omega)), F.add_zero _ hd]
    · rw [if_neg e]
      by_cases e2 : p < t
      · rw [if_pos e2, if_pos (by omega)]
        have h1 := F.cl.mul _ _ (hf p hp) hv
        have h2 := F.cl.mul _ _ (hf t (by omega)) (hx t (by omega))
        rw [F.add_assoc _ _ _ hd h1 h2, F.add_comm _ _ h1 h2, F.add_assoc _ _ _ hd h2 h1]
      · rw [if_neg e2, if_neg (by omega)]
theorem nth_rep0 (k q : Nat) : nth (List.replicate k (0 : Int)) q = 0 := by
  unfold nth
  simp only [List.getD_eq_getElem?_getD, List.getElem?_replicate]
  split <;> rfl
theorem sol_el (F : Fld O El) {E : List (List Int)} {P : List Int} (hE : Rws El (k + 1) E) (hle : P.length ≤ E.length) : ∀ j, j ≤ P.length → ∀ q, q < k → El (nth (solTo k E P j) q)
  | 0, _, q, _ => by rw [solTo, nth_rep0]; exact F.zero
  | j + 1, hj, q, hq => by
    have ih := sol_el F hE hle j (by omega) q hq
    rw [solTo]
    unfold nth
    simp only [List.getD_eq_getElem?_getD, List.getElem?_set]
    split
    · split
      · exact Vc.at (hE.row (i := j) (by omega)) (by omega)
      · exact F.zero
    · unfold nth at ih
      simpa only [List.getD_eq_getElem?_getD] using ih
theorem sol_out {E : List (List Int)} {P : List Int} {q : Nat} : ∀ j, (∀ i, i < j → (nth P i).toNat ≠ q) → nth (solTo k E P j) q = 0
  | 0, _ => by rw [solTo, nth_rep0]
  | j + 1, h => by
    have ih : nth (solTo k E P j) q = 0 := sol_out j fun i hi => h i (by omega)
    rw [solTo]
    unfold nth at ih ⊢
    simp only [List.getD_eq_getElem?_getD, List.getElem?_set] at ih ⊢
    have h1 := h j (by omega)
    unfold nth at h1
    simp only [List.getD_eq_getElem?_getD] at h1
    rw [if_neg h1]
    exact ih
/-- the sum with the solution's entries, by the pivots -/
theorem sol_dot (F : Fld O El) {E : List (List Int)} {P : List Int} {f : Nat → Int} (hf : ∀ q, q < k → El (f q)) (hE : Rws El (k + 1) E) (hle : P.length ≤ E.length) (hP : ∀ j, j < P.length → 0 ≤ nth P j ∧ nth P j < k) (ha : ∀ i j, i < j → j < P.length → nth P i < nth P j) :
    ∀ j, j ≤ P.length → dotN O f (fun q => nth (solTo k E P j) q) k = dotN O (fun i => f (nth P i).toNat) (fun i => nth (nthR E i) k) j
  | 0, _ => by
    refine dotN_zero F _ fun q hq => ?_
    show O.mul (f q) (nth (solTo k E P 0) q) = 0
    rw [solTo, nth_rep0, F.mzero (hf q hq)]
  | j + 1, hj => by
    have ih := sol_dot F hf hE hle hP ha j (by omega)
    have hpj := hP j (by omega)
    have h0 : nth (solTo k E P j) (nth P j).toNat = 0 := sol_out j fun i hi => by
      have := ha i j hi (by omega)
      have := hP i (by omega)
      omega
    have h := dotN_set F (f := f) (x := solTo k E P j) (v := nth (nthR E j) k) (p := (nth P j).toNat) hf (sol_el F hE hle j (by omega)) (Vc.at (hE.row (i := j) (by omega)) (by omega)) (by omega) (solTo_len _ _ _ _) h0 k (Nat.le_refl _)
    rw [if_pos (by omega)] at h
    show dotN O f (fun q => nth ((solTo k E P j).set (nth P j).toNat (nth (nthR E j) k)) q) k = _
    rw [h, ih]
    rfl
/-- the solution solves -/
theorem sol_solves (F : Fld O El) {A : List (List Int)} {b : List Int} (hA : Rws El k A) (hb : b.length = A.length) (hbe : ∀ x ∈ b, El x) (hr : (elimTo O A k).2.length = A.length) :
    (∀ q, q < k → El (nth (solL O A b k) q)) ∧ (elimTo O (augL A b) k).2.length = A.length ∧ ∀ i, i < A.length → dotN O (fun q => nth (nthR A i) q) (fun q => nth (solL O A b k) q) k = nth b i := by
  have hJ := aug_rws hA hb hbe
  have htk := (elimTo_take (O := O) (k := k) (J := augL A b) k (Nat.le_refl _)).2
  rw [aug_take hA hb] at htk
  rw [htk] at hr
  obtain ⟨h1, _, h3⟩ := elim_inv F hJ k (by omega)
  have hLd := elim_lead F hJ k (by omega)
  have hEr := elim_rws F hJ k (by omega)
  have hEl : (elimTo O (augL A b) k).1.length = A.length := by rw [elimTo_length, augL_len hb]
  unfold solL
  refine ⟨sol_el F hEr (by omega) _ (Nat.le_refl _), hr, fun i hi => ?_⟩
  obtain ⟨e, he, hx⟩ := h3 i (by rw [augL_len hb]; exact hi)
  rw [nthR_aug hb hi] at hx
  have hx : ∀ x, x < k + 1 → nth (nthR A i ++ [nth b i]) x = e (colS (elimTo O (augL A b) k).1 x) := fun x h => hx x h
  have hAi := hA.row hi
  have hxa : ∀ q, q < k → nth (nthR A i) q = e (colS (elimTo O (augL A b) k).1 q) := fun q hq => by
    rw [← hx q (by omega), nth_app (by rw [hAi.1]; exact hq)]
  have hxb : nth b i = e (colS (elimTo O (augL A b) k).1 k) := by
    rw [← hx k (by omega)]
    have h4 := hAi.1
    rw [← h4, nth_app_end]
  rw [sol_dot F (f := fun q => nth (nthR A i) q) (fun q hq => Vc.at hAi hq) hEr (by omega) (fun j hj => by have := h1.lt j hj; omega) hLd.asc _ (Nat.le_refl _), hxb, form_unit F he (colS_vc hEr F.zero k), hEl, hr]
  refine dotN_congr _ fun j hj => ⟨?_, ?_⟩
  · have hpj := h1.lt j (by omega)
    show nth (nthR A i) (nth (elimTo O (augL A b) k).2 j).toNat = _
    rw [hxa _ (by omega)]
    congr 1
    refine nth_ext (by rw [colS_length, unitR_len]; exact hEl) fun q hq => ?_
    rw [colS_length] at hq
    rw [nth_colS _ _ q hq, nth_unitR (by omega)]
    exact h1.one j q (by omega) hq
  · rw [nth_colS _ _ j (by omega)]

/-- the sum of y and a word that is 0 at the positions t -/
def vanX (O : FOps) (L : List (List Int)) (y t : List Int) : List Int := solL O (t.map fun q => colS L q.toNat) (t.map fun q => O.neg (nth y q.toNat)) L.length
def vanL (O : FOps) (m : Nat) (L : List (List Int)) (y t : List Int) : List Int := addRow O y 1 (cmbTo O m (vanX O L y t) L L.length)
theorem van_els (F : Fld O El) {L : List (List Int)} (hL : Rws El m L) {y t : List Int} (hy : Vc El m y) (hT : InN m t) : Rws El L.length (t.map fun q => colS L q.toNat) ∧ ∀ x ∈ (t.map fun q => O.neg (nth y q.toNat)), El x := by
  refine ⟨fun r hr => ?_, fun x hx => ?_⟩
  · obtain ⟨q, _, rfl⟩ := List.mem_map.1 hr
    exact colS_vc hL F.zero _
  · obtain ⟨q, hq, rfl⟩ := List.mem_map.1 hx
    obtain ⟨j, hj, rfl⟩ := List.mem_iff_getElem.1 hq
    have := hT j hj
    rw [nth_getElem hj] at this
    exact F.cl.neg _ (hy.at (by omega))
theorem van_cos (F : Fld O El) {L : List (List Int)} (hL : Rws El m L) {y t : List Int} (hy : Vc El m y) (hT : InN m t) (ht : rkQ O L t = t.length) :
    Cos O El m L y (vanL O m L y t) ∧ (∀ x ∈ t, nth (vanL O m L y t) x.toNat = 0) ∧ (∀ q, q < L.length → El (nth (vanX O L y t) q)) ∧ (elimTo O (augL (t.map fun q => colS L q.toNat) (t.map fun q => O.neg (nth y q.toNat))) L.length).2.length = t.length := by
  obtain ⟨hA, hb⟩ := van_els F hL hy hT
  obtain ⟨hxe, hpl, hsol⟩ := sol_solves F hA (b := t.map fun q => O.neg (nth y q.toNat)) (by simp) hb (by rw [row_rank F hL hT ht, List.length_map])
  rw [List.length_map] at hpl
  have hxe' : ∀ q, q < L.length → El (nth (vanX O L y t) q) := hxe
  obtain ⟨c1, c2⟩ := cmb_rs F hL hxe' L.length (Nat.le_refl _)
  have hl : (cmbTo O m (vanX O L y t) L L.length).length = y.length := by rw [c1.1, hy.1]
  have hat : ∀ x, x < m → nth (vanL O m L y t) x = O.add (nth y x) (nth (cmbTo O m (vanX O L y t) L L.length) x) := fun x hx => by
    unfold vanL
    rw [nth_addRow _ _ _ _ _ hl (by rw [hy.1]; exact hx)]
    split
    · rename_i h0
      rw [h0, F.add_zero _ (hy.at hx)]
    · rw [F.one_mul _ (c1.at hx)]
  refine ⟨⟨⟨by unfold vanL; rw [addRow_length _ _ _ _ hl]; exact hy.1, by unfold vanL; exact addRow_el F.cl hy.2 c1.2 F.one⟩, _, c2, fun x hx => c1.at hx, hat⟩, fun x hx => ?_, hxe', hpl⟩
  obtain ⟨i, hi, rfl⟩ := List.mem_iff_getElem.1 hx
  have hti := hT i hi
  rw [nth_getElem hi] at hti
  have hi2 : i < (t.map fun q => colS L q.toNat).length := by rw [List.length_map]; exact hi
  have h := hsol i hi2
  have e1 : nth (t.map fun q => O.neg (nth y q.toNat)) i = O.neg (nth y (t[i]).toNat) := by
    rw [nth_getElem (by rw [List.length_map]; exact hi)]; simp
  have e2 : nthR (t.map fun q => colS L q.toNat) i = colS L (t[i]).toNat := by
    rw [nthR_getElem hi2]; simp
  rw [e1, e2] at h
  rw [hat _ (by omega), cmb_dot F hL hxe' (by omega) _ (Nat.le_refl _)]
  have e3 : dotN O (fun q => nth (vanX O L y t) q) (fun q => nth (nthR L q) (t[i]).toNat) L.length = O.neg (nth y (t[i]).toNat) := by
    rw [← h, dotN_comm F _ (fun q hq => hxe' q hq) fun q hq => Vc.at (hL.row hq) (by omega)]
    exact dotN_congr _ fun q hq => ⟨(nth_colS L _ q hq).symm, rfl⟩
  rw [e3, F.add_neg _ (hy.at (by omega))]
end
end

end Go.Proofs.YtcflcogbpnmjeaaGreat
