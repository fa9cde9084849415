/- The walks of short, OrderingAccepts, OrderingSound. -/
import Derived.Test.YtnielheglicbmaaE4
import Derived.Test.YtnielheglicbmaaA9
import Derived.Test.YtnielheglicbmaaE2
import Derived.Test.YtnielheglicbmaaC7
namespace Go.Proofs.Ytnielheglicbmaa
set_option linter.unusedVariables false
set_option linter.unusedSimpArgs false
set_option linter.unusedSectionVars false

/- The walk of ordering.Check. -/
section
open Go.RowKit

/-- what Check answers -/
def ordChk (P M : Int) (mod : List Int) (N : Int) (L : List (List Int)) (Q T : List Int) : Int :=
  if codeE P M mod N L = 0 then (if 12 < N then 8 else if ordB N Q = true then
    (if T = tabL (dimS (tblOf P M.toNat mod).ops L N.toNat) N.toNat (2 ^ N.toNat) ∧ nth T (2 ^ N.toNat - 1) = wdTo (dimS (tblOf P M.toNat mod).ops L N.toNat) Q N.toNat then 0 else 13) else 5)
  else codeE P M mod N L

set_option maxRecDepth 100000 in
set_option maxHeartbeats 4000000 in
theorem ordCheck_any (P M : Int) (am : Option Addr) (mn cm : Nat) (mod : List Int) (N : Int) (a : Option Addr) (n c : Nat) (L : List (List Int)) (ao : Option Addr) (no co : Nat) (Q : List Int) (at' : Option Addr) (nt ct : Nat) (T : List Int) (w : World)
    (hmod : Ints w am mn mod) (hi : Mat w a n L) (hq : Ints w ao no Q) (ht : Ints w at' nt T) :
    Calls Try.prog 21 #[.agg #[.int .i64 P, .int .i64 M, .slice am mn cm, .int .i64 N, .slice a n c], .slice ao no co, .slice at' nt ct] w
      fun e w' => e = .returned (.int .i64 (ordChk P M mod N L Q T)) ∧ Below w.heap.size w w' := by
  have Htl := Lib.hid ht.len
  go_enter Try.func21, Try.ntmps21
  go_wp2_with fail
  obtain ⟨W, hW⟩ : ∃ W : World, W = w.alloc (.cells #[.int .i64 P, .int .i64 M, .slice am mn cm, .int .i64 N, .slice a n c] 27) := ⟨_, rfl⟩
  rw [← hW]
  have hbW : Below w.heap.size w W := by rw [hW]; exact below1 _ _
  have x0 : Box W w.heap.size [.int .i64 P, .int .i64 M, .slice am mn cm, .int .i64 N, .slice a n c] := by rw [hW]; exact Box.new _ _ _ rfl
  have hS : ∀ V, Below W.heap.size W V → V.cell? ⟨w.heap.size, 0, none⟩ = some (.int .i64 P) ∧ V.cell? ⟨w.heap.size, 1, none⟩ = some (.int .i64 M) ∧ V.cell? ⟨w.heap.size, 2, none⟩ = some (.slice am mn cm) ∧ V.cell? ⟨w.heap.size, 3, none⟩ = some (.int .i64 N) ∧ V.cell? ⟨w.heap.size, 4, none⟩ = some (.slice a n c) := by
    intro V hV
    have x2 := x0.keep hV
    exact ⟨x2.cell 0 rfl, x2.cell 1 rfl, x2.cell 2 rfl, x2.cell 3 rfl, x2.cell 4 rfl⟩
  have HS := Lib.hid hS
  clear hW x0 hS
  have Hcc := Lib.hid (codeCheck_any P M am mn cm mod N a n c L W (hmod.keep hbW) (hi.keep hbW))
  refine Hcc.out.mono ?_
  rintro e w1 ⟨rfl, hb1⟩
  have hbw1 := Below.next hbW hb1
  obtain ⟨c0, c1, c2, c3, c4⟩ := HS.out w1 hb1
  clear Hcc
  by_cases hE : codeE P M mod N L = 0
  · obtain ⟨m, rfl, hm1, hm64, _⟩ := codeE_fld hE
    have hor := ordOrdered_any P M am mn cm mod m a n c L ao no co Q w1 (hmod.keep hbw1) (hi.keep hbw1) (hq.keep hbw1)
    have HO : Hid (ordE P M mod m L Q = if ordB m Q = true then 0 else 5) := by show _ = _; rw [ordE, if_pos hE]
    by_cases h12 : 12 < m
    · have h12' : decide ((12 : Int) < m) = true := by simp; omega
      have HF : Hid (ordChk P M mod m L Q T = 8) := by show _ = _; rw [ordChk, if_pos hE, if_pos (by omega)]
      rw [hE]
      clear hE hor
      go_wp2_with fail
      go_ret
      exact ⟨ret_int HF.out.symm, hbw1⟩
    have h12' : decide ((12 : Int) < m) = false := by simp; omega
    have HF0 : Hid (ordChk P M mod m L Q T = if ordB m Q = true then (if T = tabL (dimS (tblOf P M.toNat mod).ops L m) m (2 ^ m) ∧ nth T (2 ^ m - 1) = wdTo (dimS (tblOf P M.toNat mod).ops L m) Q m then 0 else 13) else 5) := by
      show _ = _; rw [ordChk, if_pos hE, if_neg (by omega), Int.toNat_natCast]
    by_cases hO : ordB m Q = true
    rotate_left
    · have HF : Hid (ordChk P M mod m L Q T = 5) := by show _ = _; rw [HF0.out, if_neg hO]
      have hO5 : ordE P M mod m L Q = 5 := by rw [HO.out, if_neg hO]
      rw [hO5] at hor
      have Hor := Lib.hid hor
      rw [hE]
      clear hE hor hO5 hO
      go_wp2_with fail
      refine Hor.out.mono ?_
      rintro e w2 ⟨rfl, hb2⟩
      have hF := Below.next hbw1 hb2
      clear Hor
      go_wp2_with fail
      go_ret
      exact ⟨ret_int HF.out.symm, hF⟩
    have HF1 : Hid (ordChk P M mod m L Q T = if T = tabL (dimS (tblOf P M.toNat mod).ops L m) m (2 ^ m) ∧ nth T (2 ^ m - 1) = wdTo (dimS (tblOf P M.toNat mod).ops L m) Q m then 0 else 13) := by
      show _ = _; rw [HF0.out, if_pos hO]
    have hO0 : ordE P M mod m L Q = 0 := by rw [HO.out, if_pos hO]
    obtain ⟨hIn, hQl⟩ := ordB_in hO
    have hno : no = m := by rw [← hq.len]; exact hQl
    rw [hO0] at hor
    have Hor := Lib.hid hor
    have HT : Hid (∀ V, Below w.heap.size w V → Calls Try.prog 36 #[.agg #[.int .i64 P, .int .i64 M, .slice am mn cm, .int .i64 m, .slice a n c]] V (TablesPost (dimS (tblOf P M.toNat mod).ops L m) m V)) :=
      fun V hV => ordTables_any P M am mn cm mod m a n c L V (hmod.keep hV) (hi.keep hV) hE (by omega)
    have HW : Hid (∀ V, Below w.heap.size w V → Calls Try.prog 38 #[.agg #[.int .i64 P, .int .i64 M, .slice am mn cm, .int .i64 m, .slice a n c], .slice ao no co] V fun e w' => e = .returned (.int .i64 (wdTo (dimS (tblOf P M.toNat mod).ops L m) Q m)) ∧ Below V.heap.size V w') :=
      fun V hV => by
        have h := ordWidth_any P M am mn cm mod m a n c L ao no co Q V (hmod.keep hV) (hi.keep hV) hE (hq.keep hV) hIn
        rw [hno] at h
        rw [hno]
        exact h
    rw [hE]
    obtain ⟨f, hf⟩ : ∃ f, dimS (tblOf P M.toNat mod).ops L m = f := ⟨_, rfl⟩
    rw [hf] at HT HW HF1
    obtain ⟨K, hK⟩ : ∃ K, 2 ^ m = K := ⟨_, rfl⟩
    have hK2 : 2 ≤ K ∧ K ≤ 4096 := by
      have h1 : 2 ^ 1 ≤ 2 ^ m := Nat.pow_le_pow_right (by omega) hm1
      have h2 : 2 ^ m ≤ 2 ^ 12 := Nat.pow_le_pow_right (by omega) (by omega)
      omega
    have hsh : IntKind.i64.wrap ((2 : Int) ^ m) = (K : Int) := by
      have : (2 : Int) ^ m = (K : Int) := by rw [← hK]; simp
      rw [this]; exact IntWalk.i64_in _ (by omega)
    unfold TablesPost at HT
    rw [hK] at HT HF1
    have Htab : Hid ((tabL f m K).length = K) := tabL_len f m K
    obtain ⟨hK2, hK4⟩ := hK2
    have Hq := Lib.hid hq
    have Ht := Lib.hid ht
    have Hbw1 := Lib.hid hbw1
    clear hE hor hO hO0 hIn hQl HF0 HO hf hK hno hmod hi hq ht
    go_wp2_with fail
    refine Hor.out.mono ?_
    rintro e w2 ⟨rfl, hb2⟩
    have hb02 := Below.next hb1 hb2
    have hbw2 := Below.next hbw1 hb2
    clear c0 c1 c2 c3 c4 Hor
    obtain ⟨c0, c1, c2, c3, c4⟩ := HS.out w2 hb02
    by_cases hnt : nt = K
    rotate_left
    · have hnt' : ((nt : Int) != K) = true := by simp; omega
      have HF : Hid (ordChk P M mod m L Q T = 13) := by
        show _ = _
        rw [HF1.out, if_neg]
        rintro ⟨h, _⟩
        have h1 := congrArg List.length h
        rw [Htl.out, Htab.out] at h1
        exact hnt h1
      clear hnt
      go_wp2_with fail
      go_ret
      exact ⟨ret_int HF.out.symm, hbw2⟩
    subst hnt
    have hnt' : ((nt : Int) != nt) = false := by simp
    go_wp2_with fail
    refine (HT.out w2 hbw2).mono ?_
    rintro e w3 ⟨a5, a6, rfl, hN5, hN6, hb3⟩
    have hb03 := Below.next hb02 hb3
    have hbw3 := Below.next hbw2 hb3
    have hI6 := hN6.ints
    have Heq : Hid (∀ V, Below w3.heap.size w3 V → Calls Try.prog 37 #[.slice at' nt ct, .slice a6 nt nt] V (QuietBool V (decide (T = tabL f m nt)))) := fun V hV => equal_any at' nt ct T a6 nt nt _ (Ht.out.keep (Below.next hbw3 hV)) (hI6.keep hV)
    clear c0 c1 c2 c3 c4 HT hN5 hN6 hI6
    obtain ⟨c0, c1, c2, c3, c4⟩ := HS.out w3 hb03
    have Hbw3 := Lib.hid hbw3
    have Hb03 := Lib.hid hb03
    clear hbw3 hb03 hbw1 hbw2 hb02 hb1 hb2 hb3
    by_cases hTT : T = tabL f m nt
    rotate_left
    · have HF : Hid (ordChk P M mod m L Q T = 13) := by show _ = _; rw [HF1.out, if_neg (fun h => hTT h.1)]
      have hd : decide (T = tabL f m nt) = false := by simpa using hTT
      rw [hd] at Heq
      clear hd hTT
      go_wp2_with fail
      go_cut [51] (fun v wx => v = .bool true ∧ Below w3.heap.size w3 wx)
      case first =>
        refine wp_region_held_drew (S := (fun V => Below w3.heap.size w3 V)) (by kernel_rfl) ?_ (fun hHeld => ?_)
        · exact (Below.refl _ _).drew
        refine wpAnyH_take (i := 0) (v := ?_) (by simp only [List.getElem?_toArray, List.getElem?_cons_succ, List.getElem?_cons_zero]; rfl) (by kernel_rfl) (by kernel_rfl) (by kernel_rfl) (by exact fun _ _ _ h => h) (Or.inl ⟨by rfl, ?_⟩) (by assumption) ?_
        rotate_left
        · (intro w hSw; (try dsimp only at hSw); go_simp; first | done | with_reducible rfl)
        try simp only [Act.put, List.setIfInBounds_toArray, List.set_cons_zero, List.set_cons_succ]
        refine wpAnyH_take (i := 1) (v := ?_) (by simp only [List.getElem?_toArray, List.getElem?_cons_succ, List.getElem?_cons_zero]; rfl) (by kernel_rfl) (by kernel_rfl) (by kernel_rfl) (by exact fun _ _ _ h => h) (Or.inl ⟨by rfl, ?_⟩) (by assumption) ?_
        rotate_left
        · (intro w hSw; (try dsimp only at hSw); go_simp; first | done | with_reducible rfl)
        try simp only [Act.put, List.setIfInBounds_toArray, List.set_cons_zero, List.set_cons_succ]
        refine wpAnyH_ready (rs := [2]) (by kernel_rfl) (by simp) ?_
        refine AllReadyH.cons rfl (fun K hK => ?_) AllReadyH.nil
        go_simp
        refine (Heq.out _ (Below.refl _ _).drew).mono ?_; rintro e w4 ⟨rfl, hd4⟩
        go_wp2_with fail
        refine hK.out _ _ ?_ (fun hHeld => ?_)
        · exact Below.next (Below.refl _ _).drew hd4.below
        clear hK K
        try simp only [Act.put, List.setIfInBounds_toArray, List.set_cons_zero, List.set_cons_succ]
        refine wpAnyH_take (i := 3) (v := ?_) (by simp only [List.getElem?_toArray, List.getElem?_cons_succ, List.getElem?_cons_zero]; rfl) (by kernel_rfl) (by kernel_rfl) (by kernel_rfl) (by exact fun _ _ _ h => h) (Or.inl ⟨by rfl, ?_⟩) (by assumption) ?_
        rotate_left
        · (intro w hSw; (try dsimp only at hSw); go_simp; first | done | with_reducible rfl)
        try simp only [Act.put, List.setIfInBounds_toArray, List.set_cons_zero, List.set_cons_succ]
        refine wpAnyH_take (i := 4) (v := ?_) (by simp only [List.getElem?_toArray, List.getElem?_cons_succ, List.getElem?_cons_zero]; rfl) (by kernel_rfl) (by kernel_rfl) (by kernel_rfl) (by exact fun _ _ _ h => h) (Or.inl ⟨by rfl, ?_⟩) (by assumption) ?_
        rotate_left
        · (intro w hSw; (try dsimp only at hSw); go_simp; first | done | with_reducible rfl)
        try simp only [Act.put, List.setIfInBounds_toArray, List.set_cons_zero, List.set_cons_succ]
        refine wpAnyH_take (i := 5) (v := undef) (by simp only [List.getElem?_toArray, List.getElem?_cons_succ, List.getElem?_cons_zero]; rfl) (by kernel_rfl) (by kernel_rfl) (by kernel_rfl) (by exact fun _ _ _ h => h) (Or.inr ⟨by rfl, rfl⟩) (by assumption) ?_
        try simp only [Act.put, List.setIfInBounds_toArray, List.set_cons_zero, List.set_cons_succ]
        refine wpAnyH_take (i := 6) (v := undef) (by simp only [List.getElem?_toArray, List.getElem?_cons_succ, List.getElem?_cons_zero]; rfl) (by kernel_rfl) (by kernel_rfl) (by kernel_rfl) (by exact fun _ _ _ h => h) (Or.inr ⟨by rfl, rfl⟩) (by assumption) ?_
        try simp only [Act.put, List.setIfInBounds_toArray, List.set_cons_zero, List.set_cons_succ]
        refine wpAnyH_take (i := 7) (v := undef) (by simp only [List.getElem?_toArray, List.getElem?_cons_succ, List.getElem?_cons_zero]; rfl) (by kernel_rfl) (by kernel_rfl) (by kernel_rfl) (by exact fun _ _ _ h => h) (Or.inr ⟨by rfl, rfl⟩) (by assumption) ?_
        try simp only [Act.put, List.setIfInBounds_toArray, List.set_cons_zero, List.set_cons_succ]
        refine wpAnyH_take (i := 8) (v := undef) (by simp only [List.getElem?_toArray, List.getElem?_cons_succ, List.getElem?_cons_zero]; rfl) (by kernel_rfl) (by kernel_rfl) (by kernel_rfl) (by exact fun _ _ _ h => h) (Or.inr ⟨by rfl, rfl⟩) (by assumption) ?_
        try simp only [Act.put, List.setIfInBounds_toArray, List.set_cons_zero, List.set_cons_succ]
        refine wpAnyH_take (i := 9) (v := undef) (by simp only [List.getElem?_toArray, List.getElem?_cons_succ, List.getElem?_cons_zero]; rfl) (by kernel_rfl) (by kernel_rfl) (by kernel_rfl) (by exact fun _ _ _ h => h) (Or.inr ⟨by rfl, rfl⟩) (by assumption) ?_
        try simp only [Act.put, List.setIfInBounds_toArray, List.set_cons_zero, List.set_cons_succ]
        refine wpAnyH_take (i := 10) (v := undef) (by simp only [List.getElem?_toArray, List.getElem?_cons_succ, List.getElem?_cons_zero]; rfl) (by kernel_rfl) (by kernel_rfl) (by kernel_rfl) (by exact fun _ _ _ h => h) (Or.inr ⟨by rfl, rfl⟩) (by assumption) ?_
        try simp only [Act.put, List.setIfInBounds_toArray, List.set_cons_zero, List.set_cons_succ]
        refine wpAnyH_take (i := 11) (v := undef) (by simp only [List.getElem?_toArray, List.getElem?_cons_succ, List.getElem?_cons_zero]; rfl) (by kernel_rfl) (by kernel_rfl) (by kernel_rfl) (by exact fun _ _ _ h => h) (Or.inr ⟨by rfl, rfl⟩) (by assumption) ?_
        try simp only [Act.put, List.setIfInBounds_toArray, List.set_cons_zero, List.set_cons_succ]
        refine wpAnyH_take (i := 12) (v := undef) (by simp only [List.getElem?_toArray, List.getElem?_cons_succ, List.getElem?_cons_zero]; rfl) (by kernel_rfl) (by kernel_rfl) (by kernel_rfl) (by exact fun _ _ _ h => h) (Or.inr ⟨by rfl, rfl⟩) (by assumption) ?_
        try simp only [Act.put, List.setIfInBounds_toArray, List.set_cons_zero, List.set_cons_succ]
        refine wpAnyH_take (i := 13) (v := undef) (by simp only [List.getElem?_toArray, List.getElem?_cons_succ, List.getElem?_cons_zero]; rfl) (by kernel_rfl) (by kernel_rfl) (by kernel_rfl) (by exact fun _ _ _ h => h) (Or.inr ⟨by rfl, rfl⟩) (by assumption) ?_
        try simp only [Act.put, List.setIfInBounds_toArray, List.set_cons_zero, List.set_cons_succ]
        refine wpAnyH_take (i := 14) (v := undef) (by simp only [List.getElem?_toArray, List.getElem?_cons_succ, List.getElem?_cons_zero]; rfl) (by kernel_rfl) (by kernel_rfl) (by kernel_rfl) (by exact fun _ _ _ h => h) (Or.inr ⟨by rfl, rfl⟩) (by assumption) ?_
        try simp only [Act.put, List.setIfInBounds_toArray, List.set_cons_zero, List.set_cons_succ]
        refine wpAnyH_take (i := 15) (v := ?_) (by simp only [List.getElem?_toArray, List.getElem?_cons_succ, List.getElem?_cons_zero]; rfl) (by kernel_rfl) (by kernel_rfl) (by kernel_rfl) (by exact fun _ _ _ h => h) (Or.inl ⟨by rfl, ?_⟩) (by assumption) ?_
        rotate_left
        · (intro w hSw; (try dsimp only at hSw); go_simp; first | done | with_reducible rfl)
        try simp only [Act.put, List.setIfInBounds_toArray, List.set_cons_zero, List.set_cons_succ]
        refine wpAnyH_done (by kernel_rfl) ?_ _
        go_wp2_with fail
        go_meet
        exact ⟨rfl, by first | assumption | exact Below.next (Below.refl _ _).drew hd4.below⟩
      obtain ⟨rfl, hbc⟩ := hcut
      have hF := Below.next Hbw3.out hbc
      go_wp2_with fail
      go_ret
      exact ⟨ret_int HF.out.symm, hF⟩
    have hd : decide (T = tabL f m nt) = true := by simpa using hTT
    rw [hd] at Heq
    have HF2 : Hid (ordChk P M mod m L Q T = if nth T (nt - 1) = wdTo f Q m then 0 else 13) := by
      show _ = _
      rw [HF1.out]
      by_cases h : nth T (nt - 1) = wdTo f Q m
      · rw [if_pos ⟨hTT, h⟩, if_pos h]
      · rw [if_neg fun h2 => h h2.2, if_neg h]
    clear hd hTT HF1
    have HS3 : Hid (∀ V, Below w3.heap.size w3 V → V.cell? ⟨w.heap.size, 0, none⟩ = some (.int .i64 P) ∧ V.cell? ⟨w.heap.size, 1, none⟩ = some (.int .i64 M) ∧ V.cell? ⟨w.heap.size, 2, none⟩ = some (.slice am mn cm) ∧ V.cell? ⟨w.heap.size, 3, none⟩ = some (.int .i64 m) ∧ V.cell? ⟨w.heap.size, 4, none⟩ = some (.slice a n c) ∧
        V.cell? ⟨ablk at', aoff at' + (nt - 1), none⟩ = some (.int .i64 (nth T (nt - 1))) ∧ Below w3.heap.size w3 V) := fun V hV => by
      obtain ⟨g0, g1, g2, g3, g4⟩ := HS.out V (Below.next Hb03.out hV)
      exact ⟨g0, g1, g2, g3, g4, (Ht.out.keep (Below.next Hbw3.out hV)).cell (nt - 1) (by omega), hV⟩
    have HW3 : Hid (∀ V, Below w3.heap.size w3 V → Calls Try.prog 38 #[.agg #[.int .i64 P, .int .i64 M, .slice am mn cm, .int .i64 m, .slice a n c], .slice ao no co] V fun e w' => e = .returned (.int .i64 (wdTo f Q m)) ∧ Below V.heap.size V w') := fun V hV => HW.out V (Below.next Hbw3.out hV)
    have hpt := Ht.out.pl
    have kw1 : IntKind.i64.wrap ((nt : Int) - 1) = (nt : Int) - 1 := IntWalk.i64_in _ (by omega)
    have e1 : ((nt : Int) - 1).toNat = nt - 1 := by omega
    have g1 : (0 : Int) ≤ (nt : Int) - 1 := by omega
    have g2 : (nt : Int) - 1 < nt := by omega
    have g3 : (1 : Int) ≤ nt := by omega
    generalize nth T (nt - 1) = t9 at *
    generalize wdTo f Q m = w9 at *
    go_wp2_with fail
    go_cut [51] (fun v wx => v = .bool (t9 != w9) ∧ Below w3.heap.size w3 wx)
    case first =>
      go_region_held3 (fun V => V.cell? ⟨w.heap.size, 0, none⟩ = some (.int .i64 P) ∧ V.cell? ⟨w.heap.size, 1, none⟩ = some (.int .i64 M) ∧ V.cell? ⟨w.heap.size, 2, none⟩ = some (.slice am mn cm) ∧ V.cell? ⟨w.heap.size, 3, none⟩ = some (.int .i64 m) ∧ V.cell? ⟨w.heap.size, 4, none⟩ = some (.slice a n c) ∧
          V.cell? ⟨ablk at', aoff at' + (nt - 1), none⟩ = some (.int .i64 t9) ∧ Below w3.heap.size w3 V)
        ((refine HS3.out _ ?_; first | exact (Below.refl _ _).drew | exact hb44 | exact Below.next hb44 hb5))
        (first
          | (go_at_call 37; ((with_reducible refine (Heq.out _ (Below.refl _ _).drew).mono ?_); rintro e w4 ⟨rfl, hd4⟩; have hb44 : Below w3.heap.size w3 w4 := Below.next (Below.refl _ _).drew hd4.below))
          | (go_at_call 38; ((with_reducible refine (HW3.out _ hb44).mono ?_); rintro e w5 ⟨rfl, hb5⟩)))
      all_goals (
        go_wp2_with fail
        go_meet
        exact ⟨rfl, Below.next hb44 hb5⟩)
    obtain ⟨rfl, hbc⟩ := hcut
    have hF := Below.next Hbw3.out hbc
    by_cases hw : t9 = w9
    · have HF : Hid (ordChk P M mod m L Q T = 0) := by show _ = _; rw [HF2.out, if_pos hw]
      have hw' : (t9 != w9) = false := by simpa using hw
      rw [hw']
      clear hw hw'
      go_wp2_with fail
      go_ret
      exact ⟨ret_int HF.out.symm, hF⟩
    · have HF : Hid (ordChk P M mod m L Q T = 13) := by show _ = _; rw [HF2.out, if_neg hw]
      have hw' : (t9 != w9) = true := by simpa using hw
      rw [hw']
      clear hw hw'
      go_wp2_with fail
      go_ret
      exact ⟨ret_int HF.out.symm, hF⟩
  · have HF : Hid (ordChk P M mod N L Q T = codeE P M mod N L) := by show _ = _; rw [ordChk, if_neg hE]
    have hE2 : (codeE P M mod N L != 0) = true := by simpa using hE
    clear hE
    go_wp2_with fail
    go_ret
    exact ⟨ret_int HF.out.symm, hbw1⟩
end

/- The walk of the reference's Check of layer 48. -/
section
open Go.RowKit

set_option maxRecDepth 100000 in
set_option maxHeartbeats 4000000 in
theorem rCheck48_any (P M : Int) (am : Option Addr) (mn cm : Nat) (mod : List Int) (N : Int) (a : Option Addr) (n c : Nat) (L : List (List Int)) (ao : Option Addr) (no co : Nat) (Q : List Int) (at' : Option Addr) (nt ct : Nat) (T : List Int) (w : World)
    (hmod : Ints w am mn mod) (hi : Mat w a n L) (hq : Ints w ao no Q) (hco : no ≤ co) (ht : Ints w at' nt T) :
    Calls Try.prog 22 #[.agg #[.int .i64 P, .int .i64 M, .slice am mn cm, .int .i64 N, .slice a n c], .slice ao no co, .slice at' nt ct] w
      fun e w' => e = .returned (.int .i64 (ordChk P M mod N L Q T)) ∧ Below w.heap.size w w' := by
  have Htl := Lib.hid ht.len
  go_enter Try.func22, Try.ntmps22
  go_wp2_with fail
  obtain ⟨W, hW⟩ : ∃ W : World, W = w.alloc (.cells #[.int .i64 P, .int .i64 M, .slice am mn cm, .int .i64 N, .slice a n c] 27) := ⟨_, rfl⟩
  rw [← hW]
  have hbW : Below w.heap.size w W := by rw [hW]; exact below1 _ _
  have x0 : Box W w.heap.size [.int .i64 P, .int .i64 M, .slice am mn cm, .int .i64 N, .slice a n c] := by rw [hW]; exact Box.new _ _ _ rfl
  have hS : ∀ V, Below W.heap.size W V → V.cell? ⟨w.heap.size, 0, none⟩ = some (.int .i64 P) ∧ V.cell? ⟨w.heap.size, 1, none⟩ = some (.int .i64 M) ∧ V.cell? ⟨w.heap.size, 2, none⟩ = some (.slice am mn cm) ∧ V.cell? ⟨w.heap.size, 3, none⟩ = some (.int .i64 N) ∧ V.cell? ⟨w.heap.size, 4, none⟩ = some (.slice a n c) := by
    intro V hV
    have x2 := x0.keep hV
    exact ⟨x2.cell 0 rfl, x2.cell 1 rfl, x2.cell 2 rfl, x2.cell 3 rfl, x2.cell 4 rfl⟩
  have HS := Lib.hid hS
  clear hW x0 hS
  have Hcc := Lib.hid (rCodeCheck_any P M am mn cm mod N a n c L W (hmod.keep hbW) (hi.keep hbW) fun h => hinv_all h)
  refine Hcc.out.mono ?_
  rintro e w1 ⟨rfl, hb1⟩
  rw [rcodeE_eq]
  have hbw1 := Below.next hbW hb1
  obtain ⟨c0, c1, c2, c3, c4⟩ := HS.out w1 hb1
  clear Hcc
  by_cases hE : codeE P M mod N L = 0
  · obtain ⟨m, rfl, hm1, hm64, _⟩ := codeE_fld hE
    have hor := Lib.hid (rIsOrder_any m ao no co Q w1 hm1 hm64 (hq.keep hbw1))
    by_cases h12 : 12 < m
    · have h12' : decide ((12 : Int) < m) = true := by simp; omega
      have HF : Hid (ordChk P M mod m L Q T = 8) := by show _ = _; rw [ordChk, if_pos hE, if_pos (by omega)]
      rw [hE]
      clear hE hor
      go_wp2_with fail
      go_ret
      exact ⟨ret_int HF.out.symm, hbw1⟩
    have h12' : decide ((12 : Int) < m) = false := by simp; omega
    have HF0 : Hid (ordChk P M mod m L Q T = if ordB m Q = true then (if T = tabL (dimS (tblOf P M.toNat mod).ops L m) m (2 ^ m) ∧ nth T (2 ^ m - 1) = wdTo (dimS (tblOf P M.toNat mod).ops L m) Q m then 0 else 13) else 5) := by
      show _ = _; rw [ordChk, if_pos hE, if_neg (by omega), Int.toNat_natCast]
    by_cases hO : ordB m Q = true
    rotate_left
    · have HF : Hid (ordChk P M mod m L Q T = 5) := by show _ = _; rw [HF0.out, if_neg hO]
      have hO' : ordB m Q = false := by simpa using hO
      rw [hO'] at hor
      rw [hE]
      clear hE hO hO'
      go_wp2_with fail
      refine hor.out.mono ?_
      rintro e w2 ⟨rfl, hb2⟩
      have hF := Below.next hbw1 hb2
      clear hor
      go_wp2_with fail
      go_ret
      exact ⟨ret_int HF.out.symm, hF⟩
    have HF1 : Hid (ordChk P M mod m L Q T = if T = tabL (dimS (tblOf P M.toNat mod).ops L m) m (2 ^ m) ∧ nth T (2 ^ m - 1) = wdTo (dimS (tblOf P M.toNat mod).ops L m) Q m then 0 else 13) := by
      show _ = _; rw [HF0.out, if_pos hO]
    rw [hO] at hor
    have HT : Hid (∀ V, Below w.heap.size w V → Calls Try.prog 28 #[.agg #[.int .i64 P, .int .i64 M, .slice am mn cm, .int .i64 m, .slice a n c]] V (NewInts V (tabL (dimS (tblOf P M.toNat mod).ops L m) m (2 ^ m)))) :=
      fun V hV => rTable_any P M am mn cm mod m a n c L V (hmod.keep hV) (hi.keep hV) hE (by omega)
    have hwv : widV P M mod m L Q = (wdTo (dimS (tblOf P M.toNat mod).ops L m) Q m, 0) := by
      rw [widV, if_pos (by rw [ordE, if_pos hE, if_pos hO]), Int.toNat_natCast]
    have HW : Hid (∀ V, Below w.heap.size w V → Calls Try.prog 40 #[.agg #[.int .i64 P, .int .i64 M, .slice am mn cm, .int .i64 m, .slice a n c], .slice ao no co] V fun e w' => e = .returned (.tuple #[.int .i64 (wdTo (dimS (tblOf P M.toNat mod).ops L m) Q m), .int .i64 0]) ∧ Below V.heap.size V w') :=
      fun V hV => by
        have h := rWidth_any P M am mn cm mod m a n c L ao no co Q V (hmod.keep hV) (hi.keep hV) (hq.keep hV) hco
        rw [hwv] at h
        exact h
    rw [hE]
    obtain ⟨f, hf⟩ : ∃ f, dimS (tblOf P M.toNat mod).ops L m = f := ⟨_, rfl⟩
    rw [hf] at HT HW HF1
    obtain ⟨K, hK⟩ : ∃ K, 2 ^ m = K := ⟨_, rfl⟩
    have hK2 : 2 ≤ K ∧ K ≤ 4096 := by
      have h1 : 2 ^ 1 ≤ 2 ^ m := Nat.pow_le_pow_right (by omega) hm1
      have h2 : 2 ^ m ≤ 2 ^ 12 := Nat.pow_le_pow_right (by omega) (by omega)
      omega
    rw [hK] at HT HF1
    have Htab : Hid ((tabL f m K).length = K) := tabL_len f m K
    obtain ⟨hK2, hK4⟩ := hK2
    have Ht := Lib.hid ht
    clear hE hO HF0 hf hK hwv hmod hi hq ht
    go_wp2_with fail
    refine hor.out.mono ?_
    rintro e w2 ⟨rfl, hb2⟩
    have hb02 := Below.next hb1 hb2
    have hbw2 := Below.next hbw1 hb2
    clear c0 c1 c2 c3 c4 hor
    obtain ⟨c0, c1, c2, c3, c4⟩ := HS.out w2 hb02
    go_wp2_with fail
    refine (HW.out w2 hbw2).mono ?_
    rintro e w3 ⟨rfl, hb3⟩
    have hb03 := Below.next hb02 hb3
    have hbw3 := Below.next hbw2 hb3
    clear c0 c1 c2 c3 c4 HW
    obtain ⟨c0, c1, c2, c3, c4⟩ := HS.out w3 hb03
    generalize wdTo f Q m = w9 at *
    go_wp2_with fail
    refine (HT.out w3 hbw3).mono ?_
    rintro e w4 ⟨a6, c6, rfl, hown6, hb4⟩
    have hb04 := Below.next hb03 hb4
    have hbw4 := Below.next hbw3 hb4
    have hsm := Lib.hid (rSame_any at' nt ct T a6 _ c6 _ w4 (Ht.out.keep hbw4) (Ints.own hown6).1)
    rw [Htab.out] at hsm ⊢
    clear c0 c1 c2 c3 c4 HT hown6
    by_cases hTT : T = tabL f m K
    rotate_left
    · have HF : Hid (ordChk P M mod m L Q T = 13) := by show _ = _; rw [HF1.out, if_neg (fun h => hTT h.1)]
      have hd : decide (T = tabL f m K) = false := by simpa using hTT
      rw [hd] at hsm
      clear hd hTT
      go_wp2_with fail
      refine hsm.out.mono ?_
      rintro e w5 ⟨rfl, hd5⟩
      have hF := Below.next hbw4 hd5.below
      clear hsm
      go_wp2_with fail
      go_ret
      exact ⟨ret_int HF.out.symm, hF⟩
    have hd : decide (T = tabL f m K) = true := by simpa using hTT
    rw [hd] at hsm
    have hnt : nt = K := by rw [← Htl.out, hTT]; exact Htab.out
    subst hnt
    have HF2 : Hid (ordChk P M mod m L Q T = if nth T (nt - 1) = w9 then 0 else 13) := by
      show _ = _
      rw [HF1.out]
      by_cases h : nth T (nt - 1) = w9
      · rw [if_pos ⟨hTT, h⟩, if_pos h]
      · rw [if_neg fun h2 => h h2.2, if_neg h]
    clear hd hTT HF1
    have hpt := Ht.out.pl
    have kw1 : IntKind.i64.wrap ((nt : Int) - 1) = (nt : Int) - 1 := IntWalk.i64_in _ (by omega)
    have e1 : ((nt : Int) - 1).toNat = nt - 1 := by omega
    have g1 : (0 : Int) ≤ (nt : Int) - 1 := by omega
    have g2 : (nt : Int) - 1 < nt := by omega
    have g3 : (1 : Int) ≤ nt := by omega
    go_wp2_with fail
    refine hsm.out.mono ?_
    rintro e w5 ⟨rfl, hd5⟩
    have hF := Below.next hbw4 hd5.below
    have ct := (Ht.out.keep hF).cell (nt - 1) (by omega)
    clear hsm
    generalize nth T (nt - 1) = t9 at *
    by_cases hw : t9 = w9
    · have HF : Hid (ordChk P M mod m L Q T = 0) := by show _ = _; rw [HF2.out, if_pos hw]
      have hw' : (t9 != w9) = false := by simpa using hw
      clear hw
      go_wp2_with fail
      go_ret
      exact ⟨ret_int HF.out.symm, hF⟩
    · have HF : Hid (ordChk P M mod m L Q T = 13) := by show _ = _; rw [HF2.out, if_neg hw]
      have hw' : (t9 != w9) = true := by simpa using hw
      clear hw
      go_wp2_with fail
      go_ret
      exact ⟨ret_int HF.out.symm, hF⟩
  · have HF : Hid (ordChk P M mod N L Q T = codeE P M mod N L) := by show _ = _; rw [ordChk, if_neg hE]
    have hE2 : (codeE P M mod N L != 0) = true := by simpa using hE
    clear hE
    go_wp2_with fail
    go_ret
    exact ⟨ret_int HF.out.symm, hbw1⟩
end

/- The arguments, opened: claims of layer 48. -/
section
open Go.ChangeShapes Go.WideShapes Go.ChangeAt Go.RowKit

section
variable {H : Type} {enc : TypeId × Value → H} {W : World} {held : Bool} {fuel : Nat} {cs : List Value} {x : DataW H × List MemPlace}
theorem opened_intsC (h : DataW.trod enc Try.prog W 0 (fun _ => true) held fuel 22 cs = some x) : ∃ a n c l, cs = [.slice a n c] ∧ Ints W a n l ∧ n ≤ c := by
  rcases open_ints Try.underlying22 Try.underlying3 (by kernel_rfl) h with ⟨hcs, _⟩ | ⟨a, len, cap, zs, hcs, _, hl, hm, hz, _, hcell, _⟩
  · exact ⟨none, 0, 0, [], hcs, Ints.nil _ _, Nat.le_refl _⟩
  · simp only [if_true] at hz
    refine ⟨some a, len, cap, zs.take len, hcs, ⟨by simp; omega, fun h0 => ?_, by omega, fun i hi => ?_⟩, hl⟩
    · exact congrArg some (plain_of (hcell 0 (by omega)))
    · rw [nth_take_getD _ _ _ hi]
      exact add_cell (hcell i (by omega))
end

section
variable {H : Type} {enc : TypeId × Value → H} {W : World} {held : Bool} {b0 : Nat} {v : Value} {d : DataW H} {p : List MemPlace}

theorem opened_code {n0 : Nat} {v0 v1 v2 v3 v4 : Value} {y : DataW H × List MemPlace} (hf : DataW.trod enc Try.prog W 0 (fun _ => true) held n0 27 [v0, v1, v2, v3, v4] = some y) :
    ∃ (P M : Int) (am : Option Addr) (mn cm : Nat) (mod : List Int) (N : Int) (a : Option Addr) (n c : Nat) (L : List (List Int)), v0 = .int .i64 P ∧ v1 = .int .i64 M ∧ v2 = .slice am mn cm ∧ v3 = .int .i64 N ∧ v4 = .slice a n c ∧ Ints W am mn mod ∧ Mat W a n L := by
  obtain ⟨xs, n0, _, _, _, hlen, hfs⟩ := DataW.trod_struct Try.underlying27 hf
  obtain ⟨y0, y1, y2, rfl⟩ : ∃ y0 y1 y2, xs = [y0, y1, y2] := by
    match xs, hlen with
    | [y0, y1, y2], _ => exact ⟨y0, y1, y2, rfl⟩
  have k24 : Try.prog.cellsOf 24 = 3 := by kernel_rfl
  have k3 : Try.prog.cellsOf 3 = 1 := by kernel_rfl
  have k22 : Try.prog.cellsOf 22 = 1 := by kernel_rfl
  have k25 : Try.prog.cellsOf 25 = 1 := by kernel_rfl
  have g0 : DataW.trod enc Try.prog W 0 (fun _ => true) held n0 24 [v0, v1, v2] = some y0 := by simpa [Value.cells, k24] using hfs 0 _ rfl
  have g1 : DataW.trod enc Try.prog W 0 (fun _ => true) held n0 3 [v3] = some y1 := by simpa [Value.cells, k3] using hfs 1 _ rfl
  have g2 : DataW.trod enc Try.prog W 0 (fun _ => true) held n0 25 [v4] = some y2 := by simpa [Value.cells, k25] using hfs 2 _ rfl
  obtain ⟨xs', n1, _, _, _, hlen', hfs'⟩ := DataW.trod_struct Try.underlying24 g0
  obtain ⟨z0, z1, z2, rfl⟩ : ∃ z0 z1 z2, xs' = [z0, z1, z2] := by
    match xs', hlen' with
    | [z0, z1, z2], _ => exact ⟨z0, z1, z2, rfl⟩
  have q0 : DataW.trod enc Try.prog W 0 (fun _ => true) held n1 3 [v0] = some z0 := by simpa [k3] using hfs' 0 _ rfl
  have q1 : DataW.trod enc Try.prog W 0 (fun _ => true) held n1 3 [v1] = some z1 := by simpa [k3] using hfs' 1 _ rfl
  have q2 : DataW.trod enc Try.prog W 0 (fun _ => true) held n1 22 [v2] = some z2 := by simpa [k22] using hfs' 2 _ rfl
  obtain ⟨P, eP, _, _⟩ := DataW.trod_int Try.underlying3 q0
  obtain ⟨M, eM, _, _⟩ := DataW.trod_int Try.underlying3 q1
  obtain ⟨N, eN, _, _⟩ := DataW.trod_int Try.underlying3 g1
  obtain ⟨am, mn, cm, mod, eI, hI⟩ := opened_ints q2
  obtain ⟨a, n, c, L, eL, hL⟩ := opened_mat g2
  simp at eP eM eN eI eL
  subst eP eM eN eI eL
  exact ⟨P, M, am, mn, cm, mod, N, a, n, c, L, rfl, rfl, rfl, rfl, rfl, hI, hL⟩

set_option maxRecDepth 100000 in
theorem arg_claim (hv : Value.okWide Try.prog W .any b0 44 v) (h : DataW.Trod enc Try.prog W 0 (fun _ => true) held 44 v d p) :
    ∃ (P M : Int) (am : Option Addr) (mn cm : Nat) (mod : List Int) (N : Int) (a : Option Addr) (n c : Nat) (L : List (List Int)) (ao : Option Addr) (no co : Nat) (Q : List Int) (at' : Option Addr) (nt ct : Nat) (T : List Int) (ax : Option Addr) (nx cx : Nat) (X : List Int),
      v = .agg #[.int .i64 P, .int .i64 M, .slice am mn cm, .int .i64 N, .slice a n c, .slice ao no co, .slice at' nt ct, .slice ax nx cx] ∧ Ints W am mn mod ∧ Mat W a n L ∧ Ints W ao no Q ∧ no ≤ co ∧ Ints W at' nt T ∧ Ints W ax nx X := by
  obtain ⟨cs, rfl, hsz⟩ := okWide_struct Try.underlying44 hv
  rw [show Try.prog.cellsOf 44 = 8 by kernel_rfl] at hsz
  obtain ⟨l⟩ := cs
  match l, hsz with
  | [v0, v1, v2, v3, v4, v5, v6, v7], _ =>
  obtain ⟨fuel, hf⟩ := h
  obtain ⟨xs, n0, _, _, _, hlen, hfs⟩ := DataW.trod_struct Try.underlying44 hf
  obtain ⟨y0, y1, y2, y3, rfl⟩ : ∃ y0 y1 y2 y3, xs = [y0, y1, y2, y3] := by
    match xs, hlen with
    | [y0, y1, y2, y3], _ => exact ⟨y0, y1, y2, y3, rfl⟩
  have k27 : Try.prog.cellsOf 27 = 5 := by kernel_rfl
  have k22 : Try.prog.cellsOf 22 = 1 := by kernel_rfl
  have g0 : DataW.trod enc Try.prog W 0 (fun _ => true) held n0 27 [v0, v1, v2, v3, v4] = some y0 := by simpa [Value.cells, k27] using hfs 0 _ rfl
  have g1 : DataW.trod enc Try.prog W 0 (fun _ => true) held n0 22 [v5] = some y1 := by simpa [Value.cells, k22, k27] using hfs 1 _ rfl
  have g2 : DataW.trod enc Try.prog W 0 (fun _ => true) held n0 22 [v6] = some y2 := by simpa [Value.cells, k22, k27] using hfs 2 _ rfl
  have g3 : DataW.trod enc Try.prog W 0 (fun _ => true) held n0 22 [v7] = some y3 := by simpa [Value.cells, k22, k27] using hfs 3 _ rfl
  obtain ⟨P, M, am, mn, cm, mod, N, a, n, c, L, rfl, rfl, rfl, rfl, rfl, hI, hM⟩ := opened_code g0
  obtain ⟨ao, no, co, Q, e1, hQ, hco⟩ := opened_intsC g1
  obtain ⟨at', nt, ct, T, e2, hT⟩ := opened_ints g2
  obtain ⟨ax, nx, cx, X, e3, hX⟩ := opened_ints g3
  simp at e1 e2 e3
  subst e1 e2 e3
  exact ⟨P, M, am, mn, cm, mod, N, a, n, c, L, ao, no, co, Q, at', nt, ct, T, ax, nx, cx, X, rfl, hI, hM, hQ, hco, hT, hX⟩
end
end

/- The walks of short, OrderingAccepts, OrderingSound. -/
section
open Go.RowKit

def shortB (P M : Int) (mod : List Int) (N : Int) (L : List (List Int)) : Bool := decide (codeE P M mod N L ≠ 0 ∨ N ≤ 8 ∨ 12 < N)

set_option maxRecDepth 100000 in
set_option maxHeartbeats 4000000 in
theorem short_any (P M : Int) (am : Option Addr) (mn cm : Nat) (mod : List Int) (N : Int) (a : Option Addr) (n c : Nat) (L : List (List Int)) (w : World)
    (hmod : Ints w am mn mod) (hi : Mat w a n L) :
    Calls Try.prog 20 #[.agg #[.int .i64 P, .int .i64 M, .slice am mn cm, .int .i64 N, .slice a n c]] w fun e w' => e = .returned (.bool (shortB P M mod N L)) ∧ Below w.heap.size w w' := by
  go_enter Try.func20, Try.ntmps20
  go_wp2_with fail
  obtain ⟨W, hW⟩ : ∃ W : World, W = w.alloc (.cells #[.int .i64 P, .int .i64 M, .slice am mn cm, .int .i64 N, .slice a n c] 27) := ⟨_, rfl⟩
  rw [← hW]
  have hbW : Below w.heap.size w W := by rw [hW]; exact below1 _ _
  have x0 : Box W w.heap.size [.int .i64 P, .int .i64 M, .slice am mn cm, .int .i64 N, .slice a n c] := by rw [hW]; exact Box.new _ _ _ rfl
  clear hW
  refine (rCodeCheck_any P M am mn cm mod N a n c L W (hmod.keep hbW) (hi.keep hbW) fun h => hinv_all h).mono ?_
  rintro e w1 ⟨rfl, hb1⟩
  rw [rcodeE_eq]
  have hbw1 := Below.next hbW hb1
  have c3 := (x0.keep hb1).cell 3 rfl
  clear x0
  by_cases hE : codeE P M mod N L = 0
  · rw [hE]
    by_cases h8 : N ≤ 8
    · have HF : Hid (shortB P M mod N L = true) := by show _ = _; simp [shortB, h8]
      have h8' : decide (N ≤ 8) = true := by simpa using h8
      clear hE h8
      go_wp2_with fail
      go_ret
      exact ⟨ret_bool HF.out.symm, hbw1⟩
    · have h8' : decide (N ≤ 8) = false := by simpa using h8
      by_cases h12 : 12 < N
      · have HF : Hid (shortB P M mod N L = true) := by show _ = _; simp [shortB, h12]
        have h12' : decide (12 < N) = true := by simpa using h12
        clear hE h8 h12
        go_wp2_with fail
        go_ret
        exact ⟨ret_bool HF.out.symm, hbw1⟩
      · have HF : Hid (shortB P M mod N L = false) := by
          show _ = _
          unfold shortB
          rw [decide_eq_false_iff_not]
          rintro (h | h | h)
          · exact h hE
          · exact h8 h
          · exact h12 h
        have h12' : decide (12 < N) = false := by simpa using h12
        clear hE h8 h12
        go_wp2_with fail
        go_ret
        exact ⟨ret_bool HF.out.symm, hbw1⟩
  · have HF : Hid (shortB P M mod N L = true) := by show _ = _; simp [shortB, hE]
    have hE2 : (codeE P M mod N L != 0) = true := by simpa using hE
    clear hE
    go_wp2_with fail
    go_ret
    exact ⟨ret_bool HF.out.symm, hbw1⟩

set_option maxRecDepth 100000 in
set_option maxHeartbeats 4000000 in
theorem accepts_any (P M : Int) (am : Option Addr) (mn cm : Nat) (mod : List Int) (N : Int) (a : Option Addr) (n c : Nat) (L : List (List Int)) (ao : Option Addr) (no co : Nat) (Q : List Int) (at' : Option Addr) (nt ct : Nat) (T : List Int) (ax : Option Addr) (nx cx : Nat) (X : List Int) (w : World)
    (hmod : Ints w am mn mod) (hi : Mat w a n L) (hq : Ints w ao no Q) (hco : no ≤ co) (ht : Ints w at' nt T) :
    Calls Try.prog 7 #[.agg #[.int .i64 P, .int .i64 M, .slice am mn cm, .int .i64 N, .slice a n c, .slice ao no co, .slice at' nt ct, .slice ax nx cx]] w
      fun e w' => e = .returned (.bool true) ∧ Below w.heap.size w w' := by
  have Hsh : Hid (∀ V, Below w.heap.size w V → Calls Try.prog 20 #[.agg #[.int .i64 P, .int .i64 M, .slice am mn cm, .int .i64 N, .slice a n c]] V fun e w' => e = .returned (.bool (shortB P M mod N L)) ∧ Below V.heap.size V w') := fun V hV => short_any P M am mn cm mod N a n c L V (hmod.keep hV) (hi.keep hV)
  have H1 : Hid (∀ V, Below w.heap.size w V → Calls Try.prog 21 #[.agg #[.int .i64 P, .int .i64 M, .slice am mn cm, .int .i64 N, .slice a n c], .slice ao no co, .slice at' nt ct] V fun e w' => e = .returned (.int .i64 (ordChk P M mod N L Q T)) ∧ Below V.heap.size V w') :=
    fun V hV => ordCheck_any P M am mn cm mod N a n c L ao no co Q at' nt ct T V (hmod.keep hV) (hi.keep hV) (hq.keep hV) (ht.keep hV)
  have H2 : Hid (∀ V, Below w.heap.size w V → Calls Try.prog 22 #[.agg #[.int .i64 P, .int .i64 M, .slice am mn cm, .int .i64 N, .slice a n c], .slice ao no co, .slice at' nt ct] V fun e w' => e = .returned (.int .i64 (ordChk P M mod N L Q T)) ∧ Below V.heap.size V w') :=
    fun V hV => rCheck48_any P M am mn cm mod N a n c L ao no co Q at' nt ct T V (hmod.keep hV) (hi.keep hV) (hq.keep hV) hco (ht.keep hV)
  generalize ordChk P M mod N L Q T = k9 at *
  generalize shortB P M mod N L = sb at *
  clear hmod hi hq hco ht
  go_enter Try.func7, Try.ntmps7
  go_wp2_with fail
  obtain ⟨W, hW⟩ : ∃ W : World, W = w.alloc (.cells #[.int .i64 P, .int .i64 M, .slice am mn cm, .int .i64 N, .slice a n c, .slice ao no co, .slice at' nt ct, .slice ax nx cx] 44) := ⟨_, rfl⟩
  rw [← hW]
  have hbW : Below w.heap.size w W := by rw [hW]; exact below1 _ _
  have x0 : Box W w.heap.size [.int .i64 P, .int .i64 M, .slice am mn cm, .int .i64 N, .slice a n c, .slice ao no co, .slice at' nt ct, .slice ax nx cx] := by rw [hW]; exact Box.new _ _ _ rfl
  have hS : ∀ V, Below W.heap.size W V → V.cell? ⟨w.heap.size, 0, none⟩ = some (.int .i64 P) ∧ V.cell? ⟨w.heap.size, 1, none⟩ = some (.int .i64 M) ∧ V.cell? ⟨w.heap.size, 2, none⟩ = some (.slice am mn cm) ∧ V.cell? ⟨w.heap.size, 3, none⟩ = some (.int .i64 N) ∧ V.cell? ⟨w.heap.size, 4, none⟩ = some (.slice a n c) ∧
      V.cell? ⟨w.heap.size, 5, none⟩ = some (.slice ao no co) ∧ V.cell? ⟨w.heap.size, 6, none⟩ = some (.slice at' nt ct) ∧ V.cell? ⟨w.heap.size, 7, none⟩ = some (.slice ax nx cx) ∧ Below W.heap.size W V := by
    intro V hV
    have x2 := x0.keep hV
    exact ⟨x2.cell 0 rfl, x2.cell 1 rfl, x2.cell 2 rfl, x2.cell 3 rfl, x2.cell 4 rfl, x2.cell 5 rfl, x2.cell 6 rfl, x2.cell 7 rfl, hV⟩
  have HS := Lib.hid hS
  have HbW := Lib.hid hbW
  obtain ⟨c0, c1, c2, c3, c4, c5, c6, c7, _⟩ := HS.out W (Below.refl _ _)
  clear hW x0 hS
  go_wp2_with fail
  refine (Hsh.out W hbW).mono ?_
  rintro e w1 ⟨rfl, hb1⟩
  clear c0 c1 c2 c3 c4 c5 c6 c7 Hsh hbW
  cases sb
  · go_wp2_with fail
    refine (alive_any w1).mono ?_
    rintro e w2 ⟨rfl, hb2⟩
    have hF := Below.next HbW.out (Below.next hb1 hb2)
    go_wp2_with fail
    go_ret
    exact ⟨rfl, hF⟩
  · obtain ⟨c0, c1, c2, c3, c4, c5, c6, c7, _⟩ := HS.out w1 hb1
    have Hb1 := Lib.hid hb1
    clear hb1
    go_wp2_with fail
    go_region_held3 (fun V => V.cell? ⟨w.heap.size, 0, none⟩ = some (.int .i64 P) ∧ V.cell? ⟨w.heap.size, 1, none⟩ = some (.int .i64 M) ∧ V.cell? ⟨w.heap.size, 2, none⟩ = some (.slice am mn cm) ∧ V.cell? ⟨w.heap.size, 3, none⟩ = some (.int .i64 N) ∧ V.cell? ⟨w.heap.size, 4, none⟩ = some (.slice a n c) ∧
        V.cell? ⟨w.heap.size, 5, none⟩ = some (.slice ao no co) ∧ V.cell? ⟨w.heap.size, 6, none⟩ = some (.slice at' nt ct) ∧ V.cell? ⟨w.heap.size, 7, none⟩ = some (.slice ax nx cx) ∧ Below W.heap.size W V)
      ((refine HS.out _ ?_; first | exact Hb1.out.drew | (go_split_ands; exact Below.next (by assumption) (by assumption))))
      (first
        | (go_at_call 21; ((with_reducible refine (H1.out _ (Below.next HbW.out (by go_split_ands; assumption))).mono ?_); rintro e w4 ⟨rfl, hb4⟩))
        | (go_at_call 22; ((with_reducible refine (H2.out _ (Below.next HbW.out (by go_split_ands; assumption))).mono ?_); rintro e w4 ⟨rfl, hb4⟩))
        | (go_at_call 13; ((with_reducible refine (alive_any _).mono ?_); rintro e w4 ⟨rfl, hb4⟩)))
    all_goals (
      go_wp2_with fail
      go_ret
      exact ⟨rfl, Below.next HbW.out (by go_split_ands; assumption)⟩)
end

end Go.Proofs.Ytnielheglicbmaa
