/- The examples of the chapter on exclusion, reckoned (plain law). -/
import Derived.Test.YtapjcccpokhhhaaGreatG28
namespace Go.Proofs.YtapjcccpokhhhaaGreat
set_option linter.unusedVariables false
set_option linter.unusedSimpArgs false
set_option linter.unusedSectionVars false

/- The walks of code.list at any list, code.Encode, codewrightref25.Weight. -/
section
open Go.RowKit

set_option maxHeartbeats 1000000 in
theorem listG_any {w : World} {b : Nat} {G : Tbl} (q : Nat) (x : Int) (hc : w.cell? ⟨q, 0, none⟩ = some (.pointer (some ⟨b, 0, none⟩))) (h : GFw w b G) :
    Calls Tryz.prog 138 #[.int .i64 x, .pointer (some ⟨q, 0, none⟩)] w fun e w' => e = .returned (.bool (!(decide (0 ≤ x) && decide (x < G.q)))) ∧ w = w' := by
  go_enter Tryz.func138, Tryz.ntmps138
  go_wp2_with fail
  refine (gIs x h).mono ?_
  rintro e w' ⟨rfl, rfl⟩
  obtain ⟨z, hz⟩ : ∃ z, (decide (0 ≤ x) && decide (x < G.q)) = z := ⟨_, rfl⟩
  have Hz := Lib.hid hz
  rw [hz]
  clear hz
  cases z
  · go_wp2_with fail
    go_ret
    exact ⟨ret_bool (by rw [Hz.out]; rfl), rfl⟩
  · go_wp2_with fail
    go_ret
    exact ⟨ret_bool (by rw [Hz.out]; rfl), rfl⟩

set_option maxRecDepth 100000 in
set_option maxHeartbeats 1600000 in
theorem indexLG_any (p : Int → Bool) (q : Nat) (a : Option Addr) (n c : Nat) (l : List Int) (w : World) (hi : Ints w a n l) (hf : ∀ k, k < n → Calls Tryz.prog 138 #[.int .i64 (nth l k), .pointer (some ⟨q, 0, none⟩)] w fun e w' => e = .returned (.bool (p (nth l k))) ∧ w = w') :
    Calls Tryz.prog 158 #[.slice a n c, .func (.func 138) #[] #[.pointer (some ⟨q, 0, none⟩)]] w fun e w' => ∃ z : Int, e = .returned (.int .i64 z) ∧ (0 ≤ z ↔ l.any p = true) ∧ w = w' := by
  have hpl := hi.pl
  have hmax := hi.max
  have HF := Lib.hid hf
  have Hl := Lib.hid hi.len
  unfold maxLen at hmax
  clear hf
  go_enter Tryz.func158, Tryz.ntmps158
  go_wp2_with fail
  go_loop [8] (fun iv => ∃ k : Nat, k ≤ n ∧ iv = .int .i64 k ∧ Hid (∀ j, j < k → p (nth l j) = false)) (fun iv => n - (intOf iv).toNat)
  case atStart => exact ⟨0, Nat.zero_le _, rfl, fun j hj => by omega⟩
  case round =>
    obtain ⟨k, hk, rfl, hno⟩ := hrel
    by_cases hlt : k < n
    · have ck := hi.cell k hlt
      have hfk := HF.out k hlt
      obtain ⟨z, hz⟩ : ∃ z, p (nth l k) = z := ⟨_, rfl⟩
      rw [hz] at hfk
      have Hk := Lib.hid hfk
      cases z
      · have Hn : Hid (∀ j, j < k + 1 → p (nth l j) = false) := fun j hj => by
          by_cases e : j = k
          · subst e; exact hz
          · exact hno.out j (by omega)
        clear hz hfk hno
        go_wp2_with fail
        refine Hk.out.mono ?_
        rintro e w' ⟨rfl, rfl⟩
        go_wp2_with fail
        go_round
        case rel => exact ⟨k + 1, by omega, by go_num, Hn.out⟩
        case measure => simp [intOf] <;> omega
      · have Hy : Hid (l.any p = true) := by
          show _ = _
          rw [List.any_eq_true]
          exact ⟨nth l k, nth_mem (by rw [Hl.out]; exact hlt), hz⟩
        clear hz hfk hno
        go_wp2_with fail
        refine Hk.out.mono ?_
        rintro e w' ⟨rfl, rfl⟩
        go_wp2_with fail
        go_ret
        exact ⟨k, rfl, ⟨fun _ => by first | exact Hy.out | exact List.any_eq_true.1 Hy.out, fun _ => Int.natCast_nonneg _⟩, rfl⟩
    · obtain rfl : k = n := by omega
      have Hy : Hid (l.any p = false) := by
        show _ = _
        rw [List.any_eq_false]
        intro x hx
        obtain ⟨j, hj, rfl⟩ := List.mem_iff_getElem.1 hx
        have := hno.out j (by rw [← Hl.out]; exact hj)
        rw [nth_getElem hj] at this
        rw [this]; decide
      go_wp2_with fail
      go_ret
      exact ⟨-1, rfl, ⟨fun h => absurd h (by omega), fun h => by have h2 : l.any p = true := (by first | exact h | exact List.any_eq_true.2 h); rw [Hy.out] at h2; exact absurd h2 (by decide)⟩, rfl⟩
theorem containsLG_any (p : Int → Bool) (q : Nat) (a : Option Addr) (n c : Nat) (l : List Int) (w : World) (hi : Ints w a n l) (hf : ∀ k, k < n → Calls Tryz.prog 138 #[.int .i64 (nth l k), .pointer (some ⟨q, 0, none⟩)] w fun e w' => e = .returned (.bool (p (nth l k))) ∧ w = w') :
    Calls Tryz.prog 105 #[.slice a n c, .func (.func 138) #[] #[.pointer (some ⟨q, 0, none⟩)]] w fun e w' => e = .returned (.bool (l.any p)) ∧ w = w' := by
  have Hc := Lib.hid (indexLG_any p q a n c l w hi hf)
  clear hf
  go_enter Tryz.func105, Tryz.ntmps105
  go_wp2_with fail
  refine Hc.out.mono ?_
  rintro e w' ⟨z, rfl, hz, rfl⟩
  by_cases h0 : 0 ≤ z
  · have Hz : Hid (l.any p = true) := hz.1 h0
    have h0' : decide (0 ≤ z) = true := by simpa using h0
    clear hz h0
    go_wp2_with fail
    go_ret
    exact ⟨ret_bool Hz.out.symm, rfl⟩
  · have Hz : Hid (l.any p = false) := by
      show _ = _
      cases h : l.any p
      · rfl
      · exact absurd (hz.2 h) h0
    have h0' : decide (0 ≤ z) = false := by simpa using h0
    clear hz h0
    go_wp2_with fail
    go_ret
    exact ⟨ret_bool Hz.out.symm, rfl⟩
theorem any_els (q : Int) (l : List Int) : l.any (fun x => !(decide (0 ≤ x) && decide (x < q))) = !(elsQ q l) := by
  unfold elsQ
  induction l with
  | nil => rfl
  | cons x l ih =>
    rw [List.any_cons, List.all_cons, ih]
    unfold isQ
    cases (decide (0 ≤ x) && decide (x < q)) <;> simp

set_option maxRecDepth 100000 in
set_option maxHeartbeats 4000000 in
theorem codeListG_any (P M : Int) (am : Option Addr) (mn cm : Nat) (mod : List Int) (ax : Option Addr) (nx cx : Nat) (x : List Int) (n : Nat) (w : World) (hmod : Ints w am mn mod) (hx : Ints w ax nx x) (hB : fieldB P M mod = true) :
    Calls Tryz.prog 83 #[.agg #[.int .i64 P, .int .i64 M, .slice am mn cm], .slice ax nx cx, .int .i64 n] w fun e w' => e = .returned (.int .i64 (lstE (tblOf P M.toNat mod).q x n)) ∧ Below w.heap.size w w' := by
  have hxl := hx.len
  go_enter Tryz.func83, Tryz.ntmps83
  go_upto_region 1 with fail
  obtain ⟨W, hW⟩ : ∃ W : World, W = w.alloc (.cells #[.int .i64 P, .int .i64 M, .slice am mn cm] 24) := ⟨_, rfl⟩
  rw [← hW]
  have hbW : Below w.heap.size w W := by rw [hW]; exact below1 _ _
  have x0 : Box W w.heap.size [.int .i64 P, .int .i64 M, .slice am mn cm] := by rw [hW]; exact Box.new _ _ _ rfl
  have c0 := x0.cell 0 rfl
  have c1 := x0.cell 1 rfl
  have c2 := x0.cell 2 rfl
  clear hW x0
  by_cases hnx : nx = n
  rotate_left
  · have hnn : ((nx : Int) != n) = true := by simp; omega
    have HL : Hid (lstE (tblOf P M.toNat mod).q x n = 4) := by show _ = _; rw [lstE, if_neg (by omega)]
    clear hnx hxl
    go_wp2_with fail
    go_ret
    exact ⟨ret_int HL.out.symm, hbW⟩
  obtain rfl : nx = n := hnx
  have hnn : ((nx : Int) != nx) = false := by simp
  have HL : Hid (lstE (tblOf P M.toNat mod).q x nx = if elsQ (tblOf P M.toNat mod).q x = true then 0 else 2) := by show _ = _; rw [lstE, if_pos hxl]; rfl
  clear hxl
  go_wp2_with fail
  refine (fieldNew_any P M am mn cm mod W (hmod.keep hbW)).mono ?_
  rintro e w4 (⟨hB2, _, _⟩ | ⟨_, b, rfl, hG, hbl, hb4⟩)
  · rw [hB] at hB2; cases hB2
  have hbw4 := Below.next hbW hb4
  have hb5 := below1 w4 (.cells #[.pointer (some ⟨b, 0, none⟩)] 122)
  have hc5 := cell_new w4 (.pointer (some ⟨b, 0, none⟩)) 122
  have hcc := containsLG_any (fun y => !(decide (0 ≤ y) && decide (y < (tblOf P M.toNat mod).q))) w4.heap.size ax nx cx x _ (hx.keep (Below.next hbw4 hb5)) fun k hk => listG_any w4.heap.size (nth x k) hc5 (hG.gf.keep hb5)
  rw [any_els] at hcc
  obtain ⟨z, hz⟩ : ∃ z, elsQ (tblOf P M.toNat mod).q x = z := ⟨_, rfl⟩
  rw [hz] at hcc HL
  have Hc := Lib.hid hcc
  have hF := Below.next hbw4 hb5
  have HF := Lib.hid hF
  clear c0 c1 c2 hG hbl hB hF hcc hz
  cases z
  · have HL2 : Hid (lstE (tblOf P M.toNat mod).q x nx = 2) := by show _ = _; rw [HL.out]; rfl
    go_wp2_with fail
    refine Hc.out.mono ?_
    rintro e w' ⟨rfl, rfl⟩
    go_wp2_with fail
    go_ret
    exact ⟨ret_int HL2.out.symm, HF.out⟩
  · have HL2 : Hid (lstE (tblOf P M.toNat mod).q x nx = 0) := by show _ = _; rw [HL.out]; rfl
    go_wp2_with fail
    refine Hc.out.mono ?_
    rintro e w' ⟨rfl, rfl⟩
    go_wp2_with fail
    go_ret
    exact ⟨ret_int HL2.out.symm, HF.out⟩

set_option maxRecDepth 100000 in
set_option maxHeartbeats 4000000 in
theorem encode_any (P M : Int) (am : Option Addr) (mn cm : Nat) (mod : List Int) (m : Nat) (a : Option Addr) (n c : Nat) (L : List (List Int)) (ax : Option Addr) (nx cx : Nat) (x : List Int) (w : World) (hmod : Ints w am mn mod) (hi : Mat w a n L) (hx : Ints w ax nx x) (hE : codeE P M mod m L = 0) :
    Calls Tryz.prog 42 #[.agg #[.int .i64 P, .int .i64 M, .slice am mn cm, .int .i64 m, .slice a n c], .slice ax nx cx] w fun e w' => Below w.heap.size w w' ∧
      ((lstE (tblOf P M.toNat mod).q x n ≠ 0 ∧ e = .returned (.tuple #[.slice none 0 0, .int .i64 (lstE (tblOf P M.toNat mod).q x n)])) ∨
       (lstE (tblOf P M.toNat mod).q x n = 0 ∧ ∃ a1 c1, e = .returned (.tuple #[.slice a1 m c1, .int .i64 0]) ∧ Ints w' a1 m (cmbTo (tblOf P M.toNat mod).ops m x L n))) := by
  obtain ⟨N', em, hm1, hm64, F, hR⟩ := codeE_fld hE
  obtain rfl : m = N' := by omega
  have hn256 : n ≤ 256 := by rw [← hi.len]; exact (codeE_rws hE).choose_spec.2.2.2.1
  have hfB := (codeE_zero hE).1
  have HCk : Hid (∀ V, Below w.heap.size w V → Calls Tryz.prog 82 #[.agg #[.int .i64 P, .int .i64 M, .slice am mn cm, .int .i64 m, .slice a n c]] V fun e w' => e = .returned (.int .i64 0) ∧ Below V.heap.size V w') := fun V hV => by
    have h := codeCheck_any P M am mn cm mod m a n c L V (hmod.keep hV) (hi.keep hV)
    rw [hE] at h
    exact h
  have HLi : Hid (∀ V, Below w.heap.size w V → Calls Tryz.prog 83 #[.agg #[.int .i64 P, .int .i64 M, .slice am mn cm], .slice ax nx cx, .int .i64 n] V fun e w' => e = .returned (.int .i64 (lstE (tblOf P M.toNat mod).q x n)) ∧ Below V.heap.size V w') := fun V hV =>
    codeListG_any P M am mn cm mod ax nx cx x n V (hmod.keep hV) (hx.keep hV) hfB
  have HVe : Hid (lstE (tblOf P M.toNat mod).q x n = 0 → ∀ V, Below w.heap.size w V → Calls Tryz.prog 84 #[.agg #[.int .i64 P, .int .i64 M, .slice am mn cm], .slice ax nx cx, .agg #[.int .i64 m, .slice a n c]] V fun e w' => ∃ a1 c1, e = .returned (.tuple #[.slice a1 m c1, .int .i64 0]) ∧ Ints w' a1 m (cmbTo (tblOf P M.toNat mod).ops m x L n) ∧ Below V.heap.size V w') := fun hz V hV => by
    unfold lstE at hz
    by_cases hl : x.length = n
    · rw [if_pos hl] at hz
      unfold elsE at hz
      by_cases hq : elsQ (tblOf P M.toNat mod).q x = true
      · have hnx : nx = n := by rw [← hx.len]; exact hl
        subst hnx
        refine vecM_any P M am mn cm mod ax cx x m a nx c L V (hmod.keep hV) (hx.keep hV) (hi.keep hV) hfB hR (fun k hk => ?_) hm1 hm64 hn256
        unfold elsQ isQ at hq
        rw [List.all_eq_true] at hq
        have h1 := hq _ (nth_mem (l := x) (i := k) (by omega))
        simp at h1
        unfold Tbl.El
        exact h1
      · rw [if_neg hq] at hz; omega
    · rw [if_neg hl] at hz; omega
  obtain ⟨er, her⟩ : ∃ er, lstE (tblOf P M.toNat mod).q x n = er := ⟨_, rfl⟩
  obtain ⟨X, hX⟩ : ∃ X, cmbTo (tblOf P M.toNat mod).ops m x L n = X := ⟨_, rfl⟩
  rw [her] at HLi HVe ⊢
  rw [hX] at HVe ⊢
  clear her hX hfB hE em F hR hmod hi hx
  go_enter Tryz.func42, Tryz.ntmps42
  go_wp2_with fail
  obtain ⟨W, hW⟩ : ∃ W : World, W = w.alloc (.cells #[.int .i64 P, .int .i64 M, .slice am mn cm, .int .i64 m, .slice a n c] 27) := ⟨_, rfl⟩
  rw [← hW]
  have hbW : Below w.heap.size w W := by rw [hW]; exact below1 _ _
  have x0 : Box W w.heap.size [.int .i64 P, .int .i64 M, .slice am mn cm, .int .i64 m, .slice a n c] := by rw [hW]; exact Box.new _ _ _ rfl
  have HS : Hid (∀ V, Below W.heap.size W V → V.cell? ⟨w.heap.size, 0, none⟩ = some (.int .i64 P) ∧ V.cell? ⟨w.heap.size, 1, none⟩ = some (.int .i64 M) ∧ V.cell? ⟨w.heap.size, 2, none⟩ = some (.slice am mn cm) ∧ V.cell? ⟨w.heap.size, 3, none⟩ = some (.int .i64 m) ∧ V.cell? ⟨w.heap.size, 4, none⟩ = some (.slice a n c)) := fun V hV => by
    have x1 := x0.keep hV
    exact ⟨x1.cell 0 rfl, x1.cell 1 rfl, x1.cell 2 rfl, x1.cell 3 rfl, x1.cell 4 rfl⟩
  have HbW := Lib.hid hbW
  have Hck := Lib.hid (HCk.out W hbW)
  clear hW x0 hbW HCk
  refine Hck.out.mono ?_
  rintro e w1 ⟨rfl, hb1⟩
  obtain ⟨c0, c1, c2, c3, c4⟩ := HS.out w1 hb1
  have Hli := Lib.hid (HLi.out w1 (Below.next HbW.out hb1))
  clear Hck HLi
  go_wp2_with fail
  refine Hli.out.mono ?_
  rintro e w2 ⟨rfl, hb2⟩
  have hB2 := Below.next hb1 hb2
  clear c0 c1 c2 c3 c4 Hli hb1
  by_cases hz : er = 0
  rotate_left
  · have hz' : (er != 0) = true := by simpa using hz
    have Hz := Lib.hid hz
    have hF := Below.next HbW.out hB2
    clear hz
    go_wp2_with fail
    go_ret2
    exact ⟨hF, .inl ⟨Hz.out, rfl⟩⟩
  subst hz
  have HV := Lib.hid (HVe.out rfl)
  have HS2 : Hid (∀ V, Below w2.heap.size w2 V → V.cell? ⟨w.heap.size, 0, none⟩ = some (.int .i64 P) ∧ V.cell? ⟨w.heap.size, 1, none⟩ = some (.int .i64 M) ∧ V.cell? ⟨w.heap.size, 2, none⟩ = some (.slice am mn cm) ∧ V.cell? ⟨w.heap.size, 3, none⟩ = some (.int .i64 m) ∧ V.cell? ⟨w.heap.size, 4, none⟩ = some (.slice a n c) ∧ Below w2.heap.size w2 V) := fun V hV => by
    obtain ⟨q0, q1, q2, q3, q4⟩ := HS.out V (Below.next hB2 hV)
    exact ⟨q0, q1, q2, q3, q4, hV⟩
  have Hbw := Lib.hid (Below.next HbW.out hB2)
  clear HVe hB2 hb2
  go_wp2_with fail
  go_cut [4, 5] (fun u v wx => ∃ a1 c1, u = .slice a1 m c1 ∧ v = .int .i64 0 ∧ Ints wx a1 m X ∧ Below w2.heap.size w2 wx)
  case first =>
    go_region_held3 (fun V => V.cell? ⟨w.heap.size, 0, none⟩ = some (.int .i64 P) ∧ V.cell? ⟨w.heap.size, 1, none⟩ = some (.int .i64 M) ∧ V.cell? ⟨w.heap.size, 2, none⟩ = some (.slice am mn cm) ∧ V.cell? ⟨w.heap.size, 3, none⟩ = some (.int .i64 m) ∧ V.cell? ⟨w.heap.size, 4, none⟩ = some (.slice a n c) ∧ Below w2.heap.size w2 V)
      ((refine HS2.out _ ?_; first | exact hb8 | exact hb7 | exact (Below.refl _ _).drew | assumption | (go_split_ands; assumption)))
      (first
        | (go_at_call 85; ((with_reducible refine (gen_any P M am mn cm m a n c _).mono ?_); rintro e w7 ⟨rfl, hb7'⟩; have hb7 : Below w2.heap.size w2 w7 := (by go_split_ands; exact Below.next (by assumption) hb7')))
        | (go_at_call 84; ((with_reducible refine (HV.out _ (Below.next Hbw.out (by go_split_ands; assumption))).mono ?_); rintro e w8 ⟨a8, k8, rfl, hI8, hb8'⟩; have hb8 : Below w2.heap.size w2 w8 := (by go_split_ands; exact Below.next (by assumption) hb8'))))
    all_goals (go_wp2_with fail; go_meet; exact ⟨a8, k8, rfl, rfl, hI8, hb8⟩)
  obtain ⟨a8, k8, rfl, rfl, hI8, hb8⟩ := hcut
  generalize wc = V at *
  have hF := Lib.hid (And.intro (Below.next Hbw.out hb8) hI8)
  clear hI8
  go_wp2_with fail
  go_ret2
  first
    | exact ⟨hF.out.1, .inr ⟨rfl, a8, k8, rfl, hF.out.2⟩⟩
    | exact ⟨hF.out.1, a8, ⟨k8, rfl⟩, hF.out.2⟩

set_option maxRecDepth 100000 in
set_option maxHeartbeats 1600000 in
theorem rWeight25_any (a : Option Addr) (n c : Nat) (l : List Int) (w : World) (h : Ints w a n l) :
    Calls Tryz.prog 44 #[.slice a n c] w fun e w' => e = .returned (.int .i64 (wtL l)) ∧ w' = w := by
  have Hl := Lib.hid h.len
  have hpl := h.pl
  have hmax := h.max
  unfold maxLen at hmax
  have hle : ∀ k, k ≤ n → (wtL (l.take k) : Int) ≤ k := fun k hk => by
    have h1 : wtL (l.take k) ≤ (l.take k).length := List.countP_le_length
    rw [List.length_take] at h1
    omega
  have Hle := Lib.hid hle
  have HT : Hid (wtL (l.take n) = wtL l) := by show _ = _; rw [List.take_of_length_le (by rw [Hl.out]; exact Nat.le_refl _)]
  clear hle
  go_enter Tryz.func44, Tryz.ntmps44
  go_wp2_with fail
  go_loopw [3, 4] (fun cv iv wr => ∃ k : Nat, k ≤ n ∧ iv = .int .i64 k ∧ cv = .int .i64 (wtL (l.take k)) ∧ wr = w) (fun _ iv _ => n - (intOf iv).toNat)
  case atStart => exact ⟨0, Nat.zero_le _, rfl, by simp [wtL], rfl⟩
  case round =>
    obtain ⟨k, hk, rfl, rfl, rfl⟩ := hrel
    by_cases hlt : k < n
    · have ck := h.cell k hlt
      have hkl : k < l.length := by rw [Hl.out]; exact hlt
      have hst : wtL (l.take (k + 1)) = wtL (l.take k) + (if nth l k ≠ 0 then 1 else 0) := by
        unfold wtL
        rw [List.take_succ_eq_append_getElem hkl, List.countP_append, List.countP_singleton, nth_getElem hkl]
        simp
      have hb := Hle.out k hk
      obtain ⟨t, ht⟩ : ∃ t, wtL (l.take k) = t := ⟨_, rfl⟩
      obtain ⟨y, hy⟩ : ∃ y, nth l k = y := ⟨_, rfl⟩
      rw [ht] at hst hb ⊢
      rw [hy] at hst ck
      clear ht hy hkl
      by_cases h0 : y = 0
      · have hd : (y != 0) = false := by simpa using h0
        have Hst : Hid (wtL (l.take (k + 1)) = t) := by show _ = _; rw [hst, if_neg (by simpa using h0)]; rfl
        clear h0 hst
        go_wp2_with fail
        go_roundw
        case rel => exact ⟨k + 1, by omega, by go_num, by rw [Hst.out], by simp⟩
        case measure => simp [intOf] <;> omega
      · have hd : (y != 0) = true := by simpa using h0
        have Hst : Hid (wtL (l.take (k + 1)) = t + 1) := by show _ = _; rw [hst, if_pos h0]
        clear h0 hst
        go_wp2_with fail
        go_roundw
        case rel => exact ⟨k + 1, by omega, by go_num, by rw [Hst.out]; go_num, by simp⟩
        case measure => simp [intOf] <;> omega
    · obtain rfl : k = n := by omega
      rw [HT.out]
      go_wp2_with fail
      go_ret
      exact ⟨rfl, rfl⟩
end

/- The walks of coset, CheckCoset, BuildCoset of the package exclusion. -/
section
open Go.RowKit

theorem elsQ_els {G : Tbl} {l : List Int} (h : elsQ G.q l = true) : G.Els l := fun x hx => by
  have h1 := List.all_eq_true.1 h x hx
  simpa [isQ, Tbl.El] using h1
theorem exCos1_any {w : World} {b : Nat} {G : Tbl} (q pb : Nat) (x : Int) (hc : w.cell? ⟨q, 0, none⟩ = some (.pointer (some ⟨pb, 0, none⟩))) (hp : w.cell? ⟨pb, 0, none⟩ = some (.pointer (some ⟨b, 0, none⟩))) (h : GFw w b G) :
    Calls Tryz.prog 106 #[.int .i64 x, .pointer (some ⟨q, 0, none⟩)] w fun e w' => e = .returned (.bool (!(decide (0 ≤ x) && decide (x < G.q)))) ∧ w = w' := by
  go_enter Tryz.func106, Tryz.ntmps106
  go_wp2_with fail
  refine (gIs x h).mono ?_
  rintro e w' ⟨rfl, rfl⟩
  obtain ⟨z, hz⟩ : ∃ z, (decide (0 ≤ x) && decide (x < G.q)) = z := ⟨_, rfl⟩
  have Hz := Lib.hid hz
  rw [hz]
  clear hz
  cases z
  · go_wp2_with fail
    go_ret
    exact ⟨ret_bool (by rw [Hz.out]; rfl), rfl⟩
  · go_wp2_with fail
    go_ret
    exact ⟨ret_bool (by rw [Hz.out]; rfl), rfl⟩

set_option maxRecDepth 100000 in
set_option maxHeartbeats 1600000 in
theorem indexCos_any (p : Int → Bool) (q : Nat) (a : Option Addr) (n c : Nat) (l : List Int) (w : World) (hi : Ints w a n l) (hf : ∀ k, k < n → Calls Tryz.prog 106 #[.int .i64 (nth l k), .pointer (some ⟨q, 0, none⟩)] w fun e w' => e = .returned (.bool (p (nth l k))) ∧ w = w') :
    Calls Tryz.prog 158 #[.slice a n c, .func (.func 106) #[] #[.pointer (some ⟨q, 0, none⟩)]] w fun e w' => ∃ z : Int, e = .returned (.int .i64 z) ∧ (0 ≤ z ↔ l.any p = true) ∧ w = w' := by
  have hpl := hi.pl
  have hmax := hi.max
  have HF := Lib.hid hf
  have Hl := Lib.hid hi.len
  unfold maxLen at hmax
  clear hf
  go_enter Tryz.func158, Tryz.ntmps158
  go_wp2_with fail
  go_loop [8] (fun iv => ∃ k : Nat, k ≤ n ∧ iv = .int .i64 k ∧ Hid (∀ j, j < k → p (nth l j) = false)) (fun iv => n - (intOf iv).toNat)
  case atStart => exact ⟨0, Nat.zero_le _, rfl, fun j hj => by omega⟩
  case round =>
    obtain ⟨k, hk, rfl, hno⟩ := hrel
    by_cases hlt : k < n
    · have ck := hi.cell k hlt
      have hfk := HF.out k hlt
      obtain ⟨z, hz⟩ : ∃ z, p (nth l k) = z := ⟨_, rfl⟩
      rw [hz] at hfk
      have Hk := Lib.hid hfk
      cases z
      · have Hn : Hid (∀ j, j < k + 1 → p (nth l j) = false) := fun j hj => by
          by_cases e : j = k
          · subst e; exact hz
          · exact hno.out j (by omega)
        clear hz hfk hno
        go_wp2_with fail
        refine Hk.out.mono ?_
        rintro e w' ⟨rfl, rfl⟩
        go_wp2_with fail
        go_round
        case rel => exact ⟨k + 1, by omega, by go_num, Hn.out⟩
        case measure => simp [intOf] <;> omega
      · have Hy : Hid (l.any p = true) := by
          show _ = _
          rw [List.any_eq_true]
          exact ⟨nth l k, nth_mem (by rw [Hl.out]; exact hlt), hz⟩
        clear hz hfk hno
        go_wp2_with fail
        refine Hk.out.mono ?_
        rintro e w' ⟨rfl, rfl⟩
        go_wp2_with fail
        go_ret
        exact ⟨k, rfl, ⟨fun _ => by first | exact Hy.out | exact List.any_eq_true.1 Hy.out, fun _ => Int.natCast_nonneg _⟩, rfl⟩
    · obtain rfl : k = n := by omega
      have Hy : Hid (l.any p = false) := by
        show _ = _
        rw [List.any_eq_false]
        intro x hx
        obtain ⟨j, hj, rfl⟩ := List.mem_iff_getElem.1 hx
        have := hno.out j (by rw [← Hl.out]; exact hj)
        rw [nth_getElem hj] at this
        rw [this]; decide
      go_wp2_with fail
      go_ret
      exact ⟨-1, rfl, ⟨fun h => absurd h (by omega), fun h => by have h2 : l.any p = true := (by first | exact h | exact List.any_eq_true.2 h); rw [Hy.out] at h2; exact absurd h2 (by decide)⟩, rfl⟩
theorem containsCos_any (p : Int → Bool) (q : Nat) (a : Option Addr) (n c : Nat) (l : List Int) (w : World) (hi : Ints w a n l) (hf : ∀ k, k < n → Calls Tryz.prog 106 #[.int .i64 (nth l k), .pointer (some ⟨q, 0, none⟩)] w fun e w' => e = .returned (.bool (p (nth l k))) ∧ w = w') :
    Calls Tryz.prog 105 #[.slice a n c, .func (.func 106) #[] #[.pointer (some ⟨q, 0, none⟩)]] w fun e w' => e = .returned (.bool (l.any p)) ∧ w = w' := by
  have Hc := Lib.hid (indexCos_any p q a n c l w hi hf)
  clear hf
  go_enter Tryz.func105, Tryz.ntmps105
  go_wp2_with fail
  refine Hc.out.mono ?_
  rintro e w' ⟨z, rfl, hz, rfl⟩
  by_cases h0 : 0 ≤ z
  · have Hz : Hid (l.any p = true) := hz.1 h0
    have h0' : decide (0 ≤ z) = true := by simpa using h0
    clear hz h0
    go_wp2_with fail
    go_ret
    exact ⟨ret_bool Hz.out.symm, rfl⟩
  · have Hz : Hid (l.any p = false) := by
      show _ = _
      cases h : l.any p
      · rfl
      · exact absurd (hz.2 h) h0
    have h0' : decide (0 ≤ z) = false := by simpa using h0
    clear hz h0
    go_wp2_with fail
    go_ret
    exact ⟨ret_bool Hz.out.symm, rfl⟩

def cosE (P M : Int) (mod : List Int) (N : Int) (L : List (List Int)) (y : List Int) (W : Int) : Int :=
  if codeE P M mod N L = 0 then (if (y.length : Int) ≠ N then 4 else if elsQ (tblOf P M.toNat mod).q y = false then 2 else if W < 0 ∨ N < W then 6 else 0) else codeE P M mod N L
def ExCosetPost (P M : Int) (am : Option Addr) (mn cm : Nat) (mod : List Int) (N : Int) (a : Option Addr) (n c : Nat) (L : List (List Int)) (ay : Option Addr) (ny cy : Nat) (y : List Int) (W : Int) (w : World) (e : Ending) (w' : World) : Prop :=
  Below w.heap.size w w' ∧ ((cosE P M mod N L y W ≠ 0 ∧ e = .returned (.tuple #[.pointer none, .int .i64 (cosE P M mod N L y W)])) ∨
  (cosE P M mod N L y W = 0 ∧ ∃ pb, e = .returned (.tuple #[.pointer (some ⟨pb, 0, none⟩), .int .i64 0]) ∧ ExClaim P M am mn cm mod N.toNat a n c L ay ny cy ⟨0, W.toNat, true, y⟩ w w' pb))

set_option maxRecDepth 100000 in
set_option maxHeartbeats 1600000 in
theorem exCoset_any (P M : Int) (am : Option Addr) (mn cm : Nat) (mod : List Int) (N : Int) (a : Option Addr) (n c : Nat) (L : List (List Int)) (ay : Option Addr) (ny cy : Nat) (y : List Int) (W : Int) (w : World) (hmod : Ints w am mn mod) (hi : Mat w a n L) (hy : Ints w ay ny y) :
    Calls Tryz.prog 59 #[.agg #[.int .i64 P, .int .i64 M, .slice am mn cm, .int .i64 N, .slice a n c], .slice ay ny cy, .int .i64 W] w (ExCosetPost P M am mn cm mod N a n c L ay ny cy y W w) := by
  have Hil := Lib.hid hi.len
  have Hyl := Lib.hid hy.len
  go_enter Tryz.func59, Tryz.ntmps59
  go_wp2_with fail
  obtain ⟨U, hU⟩ : ∃ U : World, U = w.alloc (.cells #[.int .i64 P, .int .i64 M, .slice am mn cm, .int .i64 N, .slice a n c] 27) := ⟨_, rfl⟩
  rw [← hU]
  have hbU : Below w.heap.size w U := by rw [hU]; exact below1 _ _
  have x0 : Box U w.heap.size [.int .i64 P, .int .i64 M, .slice am mn cm, .int .i64 N, .slice a n c] := by rw [hU]; exact Box.new _ _ _ rfl
  have HX := Lib.hid x0
  clear hU x0
  refine (exOpen_any P M am mn cm mod N a n c L W U (hmod.keep hbU) (hi.keep hbU)).mono ?_
  rintro e w1 ⟨hb1, ⟨hE, rfl⟩ | ⟨hE, b, w2, rfl, hb2, hG, hb3, hB⟩⟩
  · have HE : Hid (cosE P M mod N L y W = codeE P M mod N L) := if_neg hE
    have Hne := Lib.hid hE
    have hE1 : (codeE P M mod N L == 0) = false := by simpa using hE
    have hE2 : (codeE P M mod N L != 0) = true := by simpa using hE
    have hbF := Below.next (Below.next hbU hb1) (below1 w1 (.cells #[.pointer none] 83))
    clear hE
    go_wp2_with fail
    go_ret2
    exact ⟨hbF, .inl ⟨by rw [HE.out]; exact Hne.out, by rw [HE.out]; rfl⟩⟩
  · have HE : Hid (cosE P M mod N L y W = if (ny : Int) ≠ N then 4 else if elsQ (tblOf P M.toNat mod).q y = false then 2 else if W < 0 ∨ N < W then 6 else 0) := by show _ = _; rw [cosE, if_pos hE, Hyl.out]
    have Hrw := Lib.hid (codeE_rws hE)
    have hbn := below1 w1 (.cells #[.pointer (some ⟨w2.heap.size, 0, none⟩)] 83)
    have hbF := Below.next (Below.next hbU hb1) hbn
    have xq : (w1.alloc (.cells #[.pointer (some ⟨w2.heap.size, 0, none⟩)] 83)).cell? ⟨w1.heap.size, 0, none⟩ = some (.pointer (some ⟨w2.heap.size, 0, none⟩)) := cell_alloc_at _ _ _ rfl 0
    have hB4 := hB.keep hbn
    have hb34 := Below.next hb3 hbn
    have hG4 := hG.keep hb34
    have x4 := (HX.out.keep hb1).keep hbn
    have c3 := x4.cell 3 rfl
    have p0 := hB4.cell 0 rfl
    have hy4 := (hy.keep hbU).keep (Below.next hb1 hbn)
    have HCo := Lib.hid (containsCos_any (fun x => !(decide (0 ≤ x) && decide (x < (tblOf P M.toNat mod).q))) w1.heap.size ay ny cy y _ hy4 fun k hk => exCos1_any w1.heap.size w2.heap.size (nth y k) xq p0 hG4)
    rw [any_els] at HCo
    have HB := Lib.hid hB4
    have HB1 := Lib.hid hB
    have hmf : ∀ (fn : Fn) (first cap : Array Value) (w : World), (Instr.makeFunc fn first cap).run Tryz.prog w = .ok (.func fn first cap) w := fun _ _ _ _ => rfl
    have hsw1 : w2.heap.size ≠ w1.heap.size := by have := hB.1; omega
    clear hB p0 hE hy4 hG4
    by_cases h1 : (ny : Int) ≠ N
    · have HE2 : Hid (cosE P M mod N L y W = 4) := by show _ = _; rw [HE.out, if_pos h1]
      have d1 : ((ny : Int) != N) = true := by simpa using h1
      clear h1
      go_wp2_with fail
      go_ret2
      exact ⟨hbF, .inl ⟨by rw [HE2.out]; decide, by rw [HE2.out]; rfl⟩⟩
    have hny : (ny : Int) = N := Classical.not_not.1 h1
    have d1 : ((ny : Int) != N) = false := by simp [hny]
    have HE1 : Hid (cosE P M mod N L y W = if elsQ (tblOf P M.toNat mod).q y = false then 2 else if W < 0 ∨ N < W then 6 else 0) := by show _ = _; rw [HE.out, if_neg h1]
    have Hny := Lib.hid hny
    clear h1 hny
    obtain ⟨ze, hze⟩ : ∃ ze, elsQ (tblOf P M.toNat mod).q y = ze := ⟨_, rfl⟩
    rw [hze] at HCo HE1
    have Hze := Lib.hid hze
    clear hze
    cases ze
    · have HE2 : Hid (cosE P M mod N L y W = 2) := by show _ = _; rw [HE1.out, if_pos rfl]
      go_wp2_with fail
      refine HCo.out.mono ?_
      rintro e w5 ⟨rfl, rfl⟩
      go_wp2_with fail
      go_ret2
      exact ⟨hbF, .inl ⟨by rw [HE2.out]; decide, by rw [HE2.out]; rfl⟩⟩
    have HE3 : Hid (cosE P M mod N L y W = if W < 0 ∨ N < W then 6 else 0) := by show _ = _; rw [HE1.out, if_neg (by decide)]
    by_cases h3 : W < 0
    · have HE2 : Hid (cosE P M mod N L y W = 6) := by show _ = _; rw [HE3.out, if_pos (.inl h3)]
      have d3 : decide (W < 0) = true := by simpa using h3
      clear h3
      go_wp2_with fail
      refine HCo.out.mono ?_
      rintro e w5 ⟨rfl, rfl⟩
      go_wp2_with fail
      go_ret2
      exact ⟨hbF, .inl ⟨by rw [HE2.out]; decide, by rw [HE2.out]; rfl⟩⟩
    have d3 : decide (W < 0) = false := by simpa using h3
    by_cases h4 : N < W
    · have HE2 : Hid (cosE P M mod N L y W = 6) := by show _ = _; rw [HE3.out, if_pos (.inr h4)]
      have d4 : decide (N < W) = true := by simpa using h4
      clear h3 h4
      go_wp2_with fail
      refine HCo.out.mono ?_
      rintro e w5 ⟨rfl, rfl⟩
      go_wp2_with fail
      go_ret2
      exact ⟨hbF, .inl ⟨by rw [HE2.out]; decide, by rw [HE2.out]; rfl⟩⟩
    have d4 : decide (N < W) = false := by simpa using h4
    have HE2 : Hid (cosE P M mod N L y W = 0) := by
      show _ = _
      rw [HE3.out, if_neg]
      rintro (h | h)
      · exact h3 h
      · exact h4 h
    obtain ⟨m, hm, hm1, hm2, hLl, hRw⟩ := Hrw.out
    have hPE0 : Hid (PEnv w2 b (tblOf P M.toNat mod) a n L N.toNat ay ny ⟨0, W.toNat, true, y⟩) := by
      have hn256 : n ≤ 1000000 := by rw [← Hil.out]; omega
      have hNm : N.toNat = ny := by have := Hny.out; omega
      have hyw2 := (hy.keep hbU).keep hb2
      exact { g := hG, mat := (hi.keep hbU).keep hb2, rws := by rw [hm, Int.toNat_natCast]; exact hRw, n6 := hn256, m6 := by omega, w6 := by show W.toNat ≤ 64; omega, yl := fun _ => hNm.symm, y := fun _ => by rw [hNm]; exact hyw2, ye := fun _ => elsQ_els Hze.out }
    have Hnn := Lib.hid (And.intro (show 0 ≤ N by omega) (show 0 ≤ W by omega))
    go_wp2_with fail
    refine HCo.out.mono ?_
    rintro e w5 ⟨rfl, rfl⟩
    clear HCo
    go_wp2_with fail
    obtain ⟨Y, hY⟩ : ∃ Y : World, Y = w1.alloc (.cells #[.pointer (some ⟨w2.heap.size, 0, none⟩)] 83) := ⟨_, rfl⟩
    rw [← hY] at HB xq hbF hb34 ⊢
    have HF : Hid (∀ Z : World, Z = ((Y.setCell ⟨w2.heap.size, 6, none⟩ (.slice ay ny cy)).setCell ⟨w2.heap.size, 7, none⟩ (.bool true)).drew → ExCosetPost P M am mn cm mod N a n c L ay ny cy y W w (.returned (.tuple #[.pointer (some ⟨w2.heap.size, 0, none⟩), .int .i64 0])) Z) := fun Z hZ => by
      rw [hZ]
      have h5 := ((HB.out.setCell 6 (.slice ay ny cy)).setCell 7 (.bool true)).keep (Below.refl _ _).drew
      refine ⟨((hbF.setCell (p := ⟨w2.heap.size, 6, none⟩) (Nat.le_trans hbU.size hb2.size) _).setCell (p := ⟨w2.heap.size, 7, none⟩) (Nat.le_trans hbU.size hb2.size) _).drew, .inr ⟨HE2.out, w2.heap.size, rfl, b, w2, rfl, Below.next hbU hb2, hPE0.out, ((hb34.setCell (by simp) _).setCell (by simp) _).drew, ?_⟩⟩
      rw [prfL]
      dsimp only
      rw [Int.toNat_of_nonneg Hnn.out.1, Int.toNat_of_nonneg Hnn.out.2]
      exact h5
    have HF2 : Hid (∀ Z : World, Z = ((Y.setCell ⟨w2.heap.size, 6, none⟩ (.slice ay ny cy)).setCell ⟨w2.heap.size, 7, none⟩ (.bool true)) → ExCosetPost P M am mn cm mod N a n c L ay ny cy y W w (.returned (.tuple #[.pointer (some ⟨w2.heap.size, 0, none⟩), .int .i64 0])) Z) := fun Z hZ => by
      rw [hZ]
      have h5 := ((HB.out.setCell 6 (.slice ay ny cy)).setCell 7 (.bool true))
      refine ⟨((hbF.setCell (p := ⟨w2.heap.size, 6, none⟩) (Nat.le_trans hbU.size hb2.size) _).setCell (p := ⟨w2.heap.size, 7, none⟩) (Nat.le_trans hbU.size hb2.size) _), .inr ⟨HE2.out, w2.heap.size, rfl, b, w2, rfl, Below.next hbU hb2, hPE0.out, ((hb34.setCell (by simp) _).setCell (by simp) _), ?_⟩⟩
      rw [prfL]
      dsimp only
      rw [Int.toNat_of_nonneg Hnn.out.1, Int.toNat_of_nonneg Hnn.out.2]
      exact h5
    have f6 := HB.out.frozen 6
    have q6 := HB.out.cell 6 rfl
    have f7 := HB.out.frozen 7
    have q7 := HB.out.cell 7 rfl
    have s7 : (Y.setCell ⟨w2.heap.size, 6, none⟩ (.slice ay ny cy)).cell? ⟨w2.heap.size, 7, none⟩ = some (.bool false) := (HB.out.setCell 6 (.slice ay ny cy)).cell 7 rfl
    have s6 : (Y.setCell ⟨w2.heap.size, 7, none⟩ (.bool true)).cell? ⟨w2.heap.size, 6, none⟩ = some (.slice none 0 0) := (HB.out.setCell 7 (.bool true)).cell 6 rfl
    have x6 : (Y.setCell ⟨w2.heap.size, 6, none⟩ (.slice ay ny cy)).cell? ⟨w1.heap.size, 0, none⟩ = some (.pointer (some ⟨w2.heap.size, 0, none⟩)) := by
      rw [World.cell?_setCell_other _ _ _ _ (by simp <;> omega)]; exact xq
    have x7 : (Y.setCell ⟨w2.heap.size, 7, none⟩ (.bool true)).cell? ⟨w1.heap.size, 0, none⟩ = some (.pointer (some ⟨w2.heap.size, 0, none⟩)) := by
      rw [World.cell?_setCell_other _ _ _ _ (by simp <;> omega)]; exact xq
    have x67 : ((Y.setCell ⟨w2.heap.size, 6, none⟩ (.slice ay ny cy)).setCell ⟨w2.heap.size, 7, none⟩ (.bool true)).cell? ⟨w1.heap.size, 0, none⟩ = some (.pointer (some ⟨w2.heap.size, 0, none⟩)) := by
      rw [World.cell?_setCell_other _ _ _ _ (by simp <;> omega)]; exact x6
    clear h3 h4 hm hm1 hm2 hY hbF hb34
    go_region
    all_goals (
      go_wp2_with fail
      go_ret2
      first | exact HF.out _ rfl | exact HF2.out _ rfl)

def chkCE (P M : Int) (mod : List Int) (N : Int) (L : List (List Int)) (y : List Int) (W : Int) (ts : List (List Int)) : Int :=
  if cosE P M mod N L y W = 0 then provS (tblOf P M.toNat mod).ops L N.toNat ⟨0, W.toNat, true, y⟩ ts else cosE P M mod N L y W
def bldCE (P M : Int) (mod : List Int) (N : Int) (L : List (List Int)) (y : List Int) (W : Int) : Int × List (List Int) :=
  if cosE P M mod N L y W = 0 then treeS (tblOf P M.toNat mod).ops L N.toNat ⟨0, W.toNat, true, y⟩ else (cosE P M mod N L y W, [])

set_option maxRecDepth 100000 in
set_option maxHeartbeats 1600000 in
theorem exCheckCoset_any (P M : Int) (am : Option Addr) (mn cm : Nat) (mod : List Int) (N : Int) (a : Option Addr) (n c : Nat) (L : List (List Int)) (ay : Option Addr) (ny cy : Nat) (y : List Int) (W : Int) (ax : Option Addr) (nx cx : Nat) (ts : List (List Int)) (w : World)
    (hmod : Ints w am mn mod) (hi : Mat w a n L) (hy : Ints w ay ny y) (hts : Mat w ax nx ts) :
    Calls Tryz.prog 27 #[.agg #[.int .i64 P, .int .i64 M, .slice am mn cm, .int .i64 N, .slice a n c], .slice ay ny cy, .int .i64 W, .agg #[.slice ax nx cx]] w fun e w' => e = .returned (.int .i64 (chkCE P M mod N L y W ts)) ∧ Below w.heap.size w w' := by
  go_enter Tryz.func27, Tryz.ntmps27
  go_wp2_with fail
  obtain ⟨U, hU⟩ : ∃ U : World, U = (w.alloc (.cells #[.int .i64 P, .int .i64 M, .slice am mn cm, .int .i64 N, .slice a n c] 27)).alloc (.cells #[.slice ax nx cx] 30) := ⟨_, rfl⟩
  rw [← hU]
  have hbU : Below w.heap.size w U := by rw [hU]; exact below2 _ _ _
  have x0 : Box U (w.heap.size + 1) [.slice ax nx cx] := by rw [hU]; exact Box.new _ _ _ (by simp)
  have HX := Lib.hid x0
  clear hU x0
  refine (exCoset_any P M am mn cm mod N a n c L ay ny cy y W U (hmod.keep hbU) (hi.keep hbU) (hy.keep hbU)).mono ?_
  rintro e w1 ⟨hb1, ⟨hE, rfl⟩ | ⟨hE, pb, rfl, hCl⟩⟩
  · have HE : Hid (chkCE P M mod N L y W ts = cosE P M mod N L y W) := if_neg hE
    have hE1 : (cosE P M mod N L y W == 0) = false := by simpa using hE
    have hE2 : (cosE P M mod N L y W != 0) = true := by simpa using hE
    have hbF := Below.next hbU hb1
    clear hE
    go_wp2_with fail
    go_ret
    exact ⟨by rw [HE.out]; rfl, hbF⟩
  · have HE : Hid (chkCE P M mod N L y W ts = provS (tblOf P M.toNat mod).ops L N.toNat ⟨0, W.toNat, true, y⟩ ts) := if_pos hE
    have x1 := HX.out.keep hb1
    have c0 := x1.cell 0 rfl
    obtain ⟨b, w2, rfl, hb2, hPE, hb3, hB⟩ := hCl
    have HPr := Lib.hid (exProves_any w2.heap.size P M am mn cm c cy ax nx cx ts hPE ((hts.keep hbU).keep hb2) (Nat.le_refl _) hb3 hB)
    have hbw2 := Below.next hbU hb2
    clear x1 hB hPE hE
    go_wp2_with fail
    refine HPr.out.mono ?_
    rintro e w3 ⟨rfl, hb4⟩
    have hbF := Below.next hbw2 hb4
    go_wp2_with fail
    go_ret
    exact ⟨by rw [HE.out]; rfl, hbF⟩

set_option maxRecDepth 100000 in
set_option maxHeartbeats 1600000 in
theorem exBuildCoset_any (P M : Int) (am : Option Addr) (mn cm : Nat) (mod : List Int) (N : Int) (a : Option Addr) (n c : Nat) (L : List (List Int)) (ay : Option Addr) (ny cy : Nat) (y : List Int) (W : Int) (w : World)
    (hmod : Ints w am mn mod) (hi : Mat w a n L) (hy : Ints w ay ny y) :
    Calls Tryz.prog 29 #[.agg #[.int .i64 P, .int .i64 M, .slice am mn cm, .int .i64 N, .slice a n c], .slice ay ny cy, .int .i64 W] w (ExBldPost (bldCE P M mod N L y W) w) := by
  obtain ⟨V, hV⟩ : ∃ V, bldCE P M mod N L y W = V := ⟨_, rfl⟩
  rw [hV]
  have HV := Lib.hid hV
  clear hV
  go_enter Tryz.func29, Tryz.ntmps29
  go_wp2_with fail
  obtain ⟨U, hU⟩ : ∃ U : World, U = (w.alloc (.cells #[.int .i64 P, .int .i64 M, .slice am mn cm, .int .i64 N, .slice a n c] 27)).alloc (.cells #[.slice none 0 0] 30) := ⟨_, rfl⟩
  rw [← hU]
  have hbU : Below w.heap.size w U := by rw [hU]; exact below2 _ _ _
  have hsU : U.heap.size = w.heap.size + 2 := by rw [hU]; simp
  have x0 : Box U (w.heap.size + 1) [.slice none 0 0] := by rw [hU]; exact Box.new _ _ _ (by simp)
  have HX := Lib.hid x0
  clear hU x0
  refine (exCoset_any P M am mn cm mod N a n c L ay ny cy y W U (hmod.keep hbU) (hi.keep hbU) (hy.keep hbU)).mono ?_
  rintro e w1 ⟨hb1, ⟨hE, rfl⟩ | ⟨hE, pb, rfl, hCl⟩⟩
  · have HE : Hid (V = (cosE P M mod N L y W, [])) := by show _ = _; rw [← HV.out]; exact if_neg hE
    have hE1 : (cosE P M mod N L y W == 0) = false := by simpa using hE
    have hE2 : (cosE P M mod N L y W != 0) = true := by simpa using hE
    have Hne := Lib.hid hE
    have x1 := HX.out.keep hb1
    have z0 := x1.cell 0 rfl
    have f0 := x1.frozen 0
    have HF := Lib.hid (fun v : Value => (Below.next hbU hb1).setCell (p := ⟨w.heap.size + 1, 0, none⟩) (by simp) v)
    clear hE x1
    generalize cosE P M mod N L y W = er at *
    go_wp2_with fail
    have z1 : (w1.setCell ⟨w.heap.size + 1, 0, none⟩ (.slice none 0 0)).cell? ⟨w.heap.size + 1, 0, none⟩ = some (.slice none 0 0) := World.cell?_setCell_same _ _ _ z0
    exact bodyPost_ret (v := .tuple #[.agg #[.slice none 0 0], .int .i64 er]) (by simp [results, Tryz.results29, go_sem, z0, z1]) rfl ⟨HF.out _, .inl ⟨by rw [HE.out]; exact Hne.out, by rw [HE.out]⟩⟩
  · have HE : Hid (treeS (tblOf P M.toNat mod).ops L N.toNat ⟨0, W.toNat, true, y⟩ = V) := by show _ = _; rw [← HV.out]; exact (if_pos hE).symm
    have x1 := HX.out.keep hb1
    obtain ⟨b, w2, rfl, hb2, hPE, hb3, hB⟩ := hCl
    have HPr := exTree_any w2.heap.size P M am mn cm c cy hPE (Nat.le_refl _) hb3 hB
    rw [HE.out] at HPr
    have HTr := Lib.hid HPr
    have hbw2 := Below.next hbU hb2
    have x2 := HX.out.keep hb2
    have hs2 : w.heap.size + 1 < w2.heap.size := x2.1
    clear x1 hB hPE hE HPr
    go_wp2_with fail
    refine HTr.out.mono ?_
    rintro e w3 ⟨hb4, ⟨hv, rfl⟩ | ⟨hv, ar, cr, R, rfl, hO⟩⟩
    · have x3 := x2.keep hb4
      have z0 := x3.cell 0 rfl
      have f0 := x3.frozen 0
      have HF := Lib.hid (fun v : Value => (Below.next hbw2 hb4).setCell (p := ⟨w.heap.size + 1, 0, none⟩) (by simp) v)
      have Hne := Lib.hid hv
      obtain ⟨ve, vt⟩ := V
      dsimp only at Hne ⊢
      clear x3 hv
      go_wp2_with fail
      have z1 : (w3.setCell ⟨w.heap.size + 1, 0, none⟩ (.slice none 0 0)).cell? ⟨w.heap.size + 1, 0, none⟩ = some (.slice none 0 0) := World.cell?_setCell_same _ _ _ z0
      exact bodyPost_ret (v := .tuple #[.agg #[.slice none 0 0], .int .i64 ve]) (by simp [results, Tryz.results29, go_sem, z0, z1]) rfl ⟨HF.out _, .inl ⟨Hne.out, rfl⟩⟩
    · have x3 := x2.keep hb4
      have z0 := x3.cell 0 rfl
      have f0 := x3.frozen 0
      have hF : ∀ v : Value, Below w.heap.size w (w3.setCell ⟨w.heap.size + 1, 0, none⟩ v) ∧ OMat (w3.setCell ⟨w.heap.size + 1, 0, none⟩ v) w.heap.size ar V.2.length cr R V.2 := fun v => by
        refine ⟨(Below.next hbw2 hb4).setCell (by simp) v, ?_⟩
        refine (OMat.mono hO hbw2.size).of_blocks fun x hx => Below.heap_setCell _ _ _ _ fun e => ?_
        have h1 := (hO.lt x hx).1
        have e' : x = w.heap.size + 1 := e
        omega
      have HF := Lib.hid hF
      obtain ⟨ve, vt⟩ := V
      dsimp only at hv HF ⊢
      subst hv
      clear x3 hO hF
      go_wp2_with fail
      have z1 : (w3.setCell ⟨w.heap.size + 1, 0, none⟩ (.slice ar vt.length cr)).cell? ⟨w.heap.size + 1, 0, none⟩ = some (.slice ar vt.length cr) := World.cell?_setCell_same _ _ _ z0
      exact bodyPost_ret (v := .tuple #[.agg #[.slice ar vt.length cr], .int .i64 0]) (by simp [results, Tryz.results29, go_sem, z0, z1]) rfl ⟨(HF.out _).1, .inr ⟨rfl, ar, cr, R, rfl, (HF.out _).2⟩⟩
end

/- The examples of the chapter on exclusion, reckoned (plain law). -/
section
def insS (x : Int) : List Int → List Int
  | [] => [x]
  | y :: l => if x ≤ y then x :: y :: l else y :: insS x l
def isort : List Int → List Int
  | [] => []
  | x :: l => insS x (isort l)
theorem insS_perm (x : Int) : ∀ l, (insS x l).Perm (x :: l)
  | [] => List.Perm.refl _
  | y :: l => by
    rw [insS]
    split
    · exact List.Perm.refl _
    · exact ((insS_perm x l).cons y).trans (List.Perm.swap x y l)
theorem insS_pair (x : Int) : ∀ {l : List Int}, l.Pairwise (fun a b => a ≤ b) → (insS x l).Pairwise (fun a b => a ≤ b)
  | [], _ => by simp [insS]
  | y :: l, h => by
    rw [insS]
    rw [List.pairwise_cons] at h
    split
    · rename_i hxy
      rw [List.pairwise_cons, List.pairwise_cons]
      refine ⟨fun a ha => ?_, h.1, h.2⟩
      rcases List.mem_cons.1 ha with rfl | ha
      · exact hxy
      · have := h.1 a ha; omega
    · rename_i hxy
      rw [List.pairwise_cons]
      refine ⟨fun a ha => ?_, insS_pair x h.2⟩
      rcases List.mem_cons.1 ((insS_perm x l).mem_iff.1 ha) with rfl | ha
      · omega
      · exact h.1 a ha
theorem isort_perm : ∀ l, (isort l).Perm l
  | [] => List.Perm.refl _
  | x :: l => (insS_perm x (isort l)).trans ((isort_perm l).cons x)
theorem isort_pair : ∀ l, (isort l).Pairwise (fun a b => a ≤ b)
  | [] => by simp [isort]
  | x :: l => insS_pair x (isort_pair l)
theorem sortL_isort (l : List Int) : sortL l = isort l := (sortL_unique (isort_pair l) (isort_perm l)).symm

def csetI (O : FOps) (L : List (List Int)) (m : Nat) (C : Clm) (s z : List Int) : List Int := isort (grM O L (isort z ++ frTo false (s ++ z) m) (if C.cos = true then m else C.M))
theorem csetI_eq (O : FOps) (L : List (List Int)) (m : Nat) (C : Clm) (s z : List Int) : csetS O L m C s z = csetI O L m C s z := by
  unfold csetS csetI outS
  rw [sortL_isort, sortL_isort]
def bldI (O : FOps) (L : List (List Int)) (m : Nat) (C : Clm) : Nat → List Int → List Int → List (List Int) → Int × List (List Int)
  | 0, s, z, T => if rightS O L m C s (csetI O L m C s z) = true then if T.length = 65536 then (8, []) else (0, T ++ [csetI O L m C s z]) else (11, [])
  | d + 1, s, z, T => if rightS O L m C s (csetI O L m C s z) = true then if T.length = 65536 then (8, []) else kbld (bldI O L m C d) s z (kidsS C s z (csetI O L m C s z)) (T ++ [csetI O L m C s z]) else (11, [])
theorem bldI_eq (O : FOps) (L : List (List Int)) (m : Nat) (C : Clm) : ∀ d, bldS O L m C d = bldI O L m C d
  | 0 => by
    funext s z T
    rw [bldS, bldI, csetI_eq]
  | d + 1 => by
    funext s z T
    rw [bldS, bldI, csetI_eq, bldI_eq O L m C d]
theorem treeI (O : FOps) (L : List (List Int)) (m : Nat) (C : Clm) : treeS O L m C = bldI O L m C C.W [] [] [] := by rw [treeS, bldI_eq]

def awG26 : List (List Int) := [[1, 0, 1, 0], [0, 1, 1, 1]]
theorem aw26_w2 : wtD 4 2 = 1 := by decide
theorem aw26_w3 : wtD 4 3 = 2 := by decide
theorem aw26_w1 : wtD 4 1 = 0 := by decide
theorem aw26_r21 : rkcE 2 1 [] 4 awG26 2 1 = 0 := by decide +kernel
theorem aw26_r22 : rkcE 2 1 [] 4 awG26 2 2 = 0 := by decide +kernel
theorem aw26_r12 : rkcE 2 1 [] 4 awG26 1 2 = 0 := by decide +kernel
theorem aw26_b2 : bldRE 2 1 [] 4 awG26 2 1 = (0, [[0, 1], [1, 2], [0, 2]]) := by rw [bldRE, if_pos aw26_r21, treeI]; decide +kernel
theorem aw26_b3 : bldRE 2 1 [] 4 awG26 2 2 = (11, []) := by rw [bldRE, if_pos aw26_r22, treeI]; decide +kernel
theorem aw26_b12 : bldRE 2 1 [] 4 awG26 1 2 = (0, [[0], [1], [2]]) := by rw [bldRE, if_pos aw26_r12, treeI]; decide +kernel
theorem aw26_c0 : cosE 2 1 [] 4 awG26 [1, 0, 0, 0] 0 = 0 := by decide +kernel
theorem aw26_c1 : cosE 2 1 [] 4 awG26 [1, 0, 0, 0] 1 = 0 := by decide +kernel
theorem aw26_u : bldCE 2 1 [] 4 awG26 [1, 0, 0, 0] 0 = (0, [[0, 1]]) := by rw [bldCE, if_pos aw26_c0, treeI]; decide +kernel
theorem aw26_v : bldCE 2 1 [] 4 awG26 [1, 0, 0, 0] 1 = (11, []) := by rw [bldCE, if_pos aw26_c1, treeI]; decide +kernel
theorem aw26_k1 : chkRE 2 1 [] 4 awG26 2 1 [[0, 1], [1, 2], [0, 2]] = 0 := by decide +kernel
theorem aw26_k2 : chkRE 2 1 [] 4 awG26 2 1 [[0, 1], [1, 3], [0, 2]] = 13 := by decide +kernel
theorem aw26_k3 : chkRE 2 1 [] 4 awG26 2 0 [[0, 1], [1, 2], [0, 2]] = 13 := by decide +kernel
theorem aw26_k4 : chkCE 2 1 [] 4 awG26 [1, 0, 0, 0] 0 [[0, 1]] = 0 := by decide +kernel
theorem aw26_k5 : chkCE 2 1 [] 4 awG26 [1, 0, 0, 0] 1 [[0, 1]] = 13 := by decide +kernel
theorem aw26_k6 : chkRE 2 1 [] 4 awG26 1 2 [[0], [1], [2]] = 0 := by decide +kernel
end

end Go.Proofs.YtapjcccpokhhhaaGreat
