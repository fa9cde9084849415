/- Two matrices whose rows go together: 'each' of matrix.eliminate at both. -/
import Derived.Test.YtakmnncmeefceaaGreatG22
import Derived.Test.YtakmnncmeefceaaGreatG7
namespace Go.Proofs.YtakmnncmeefceaaGreat
set_option linter.unusedVariables false
set_option linter.unusedSimpArgs false
set_option linter.unusedSectionVars false

/- The walks of ordering.width, ordering.Width, codewrightref48.Order, Width. -/
section
open Go.RowKit

theorem max_if (t d : Int) : (if t < d then d else t) = max t d := by split <;> omega

set_option maxRecDepth 100000 in
set_option maxHeartbeats 4000000 in
theorem ordWidth_any (P M : Int) (am : Option Addr) (mn cm : Nat) (mod : List Int) (m : Nat) (a : Option Addr) (n c : Nat) (L : List (List Int)) (ao : Option Addr) (no co : Nat) (Q : List Int) (w : World)
    (hmod : Ints w am mn mod) (hi : Mat w a n L) (hE : codeE P M mod m L = 0) (hq : Ints w ao no Q) (hQ : InN m Q) :
    Calls Tryz.prog 58 #[.agg #[.int .i64 P, .int .i64 M, .slice am mn cm, .int .i64 m, .slice a n c], .slice ao no co] w
      fun e w' => e = .returned (.int .i64 (wdTo (dimS (tblOf P M.toNat mod).ops L m) Q no)) ∧ Below w.heap.size w w' := by
  have Hql := Lib.hid hq.len
  have hplq := hq.pl
  have hmq := hq.max
  unfold maxLen at hmq
  obtain ⟨N', e, hm1, hm64, _⟩ := codeE_fld hE
  obtain rfl : m = N' := by omega
  have Hcd : Hid (∀ y : Nat, y < 18446744073709551616 → ∀ V, Below w.heap.size w V → Calls Tryz.prog 103 #[.agg #[.int .i64 P, .int .i64 M, .slice am mn cm, .int .i64 m, .slice a n c], .int .u64 y] V
      fun e w' => e = .returned (.int .i64 (dimS (tblOf P M.toNat mod).ops L m y)) ∧ Below V.heap.size V w') := fun y hy V hV => ordDim_any P M am mn cm mod m a n c L y V (hmod.keep hV) (hi.keep hV) hE hy
  obtain ⟨f, hf⟩ : ∃ f, dimS (tblOf P M.toNat mod).ops L m = f := ⟨_, rfl⟩
  rw [hf] at Hcd ⊢
  have HQ := Lib.hid hQ
  clear hf hE hQ e
  go_enter Tryz.func58, Tryz.ntmps58
  go_wp2_with fail
  obtain ⟨W, hW⟩ : ∃ W : World, W = w.alloc (.cells #[.int .i64 P, .int .i64 M, .slice am mn cm, .int .i64 m, .slice a n c] 27) := ⟨_, rfl⟩
  rw [← hW]
  have hbW : Below w.heap.size w W := by rw [hW]; exact below1 _ _
  have x0 : Box W w.heap.size [.int .i64 P, .int .i64 M, .slice am mn cm, .int .i64 m, .slice a n c] := by rw [hW]; exact Box.new _ _ _ rfl
  clear hW
  go_loopw [5, 6, 11] (fun mv tv iv wr => ∃ k : Nat, k ≤ no ∧ iv = .int .i64 k ∧ mv = .int .u64 (maskTo Q k) ∧ tv = .int .i64 (wdTo f Q k) ∧ Below W.heap.size W wr) (fun _ _ iv _ => no - (intOf iv).toNat)
  case atStart => exact ⟨0, Nat.zero_le _, rfl, rfl, rfl, Below.refl _ _⟩
  case round =>
    obtain ⟨k, hk, rfl, rfl, rfl, hbr⟩ := hrel
    by_cases hlt : k < no
    · have hbw := Below.next hbW hbr
      have cq := (hq.keep hbw).cell k hlt
      have hb := HQ.out k (by rw [Hql.out]; exact hlt)
      have hx64 := maskTo_lt (Q := Q) k (HQ.out.bd hm64 (by rw [Hql.out]; exact hk))
      obtain ⟨z, hz⟩ : ∃ z : Nat, nth Q k = z := ⟨(nth Q k).toNat, by omega⟩
      have hz64 : z < 64 := by omega
      have hor := mask_or (maskTo Q k) z hx64 hz64
      have hmk : maskTo Q (k + 1) = maskTo Q k ||| 2 ^ z := by rw [maskTo, hz]; rfl
      rw [← hmk] at hor
      have hy64 := maskTo_lt (Q := Q) (k + 1) (HQ.out.bd hm64 (by rw [Hql.out]; exact hlt))
      have hwd : wdTo f Q (k + 1) = max (wdTo f Q k) (f (maskTo Q (k + 1))) := rfl
      have Hwd := Lib.hid hwd
      have Hc := Lib.hid (Hcd.out _ hy64 wr hbw)
      rw [hz] at cq
      have x1 := x0.keep hbr
      have c0 := x1.cell 0 rfl
      have c1 := x1.cell 1 rfl
      have c2 := x1.cell 2 rfl
      have c3 := x1.cell 3 rfl
      have c4 := x1.cell 4 rfl
      clear hz hb hmk hwd hy64 x1
      obtain ⟨y, hy⟩ : ∃ y, maskTo Q (k + 1) = y := ⟨_, rfl⟩
      have HY := Lib.hid hy
      rw [hy] at hor Hc Hwd
      clear hy
      generalize f y = d at *
      generalize wdTo f Q k = t at *
      go_wp2_with fail
      refine Hc.out.mono ?_
      rintro e w2 ⟨rfl, hb2⟩
      have hbr2 := Below.next hbr hb2
      go_wp2_with fail
      go_roundw
      case rel => exact ⟨k + 1, by omega, by go_num, by rw [HY.out], by rw [Hwd.out, ← max_if], hbr2⟩
      case measure => simp [intOf] <;> omega
    · obtain rfl : k = no := by omega
      go_wp2_with fail
      go_ret
      exact ⟨rfl, Below.next hbW hbr⟩

def widV (P M : Int) (mod : List Int) (N : Int) (L : List (List Int)) (Q : List Int) : Int × Int :=
  if ordE P M mod N L Q = 0 then (wdTo (dimS (tblOf P M.toNat mod).ops L N.toNat) Q N.toNat, 0) else (0, ordE P M mod N L Q)
theorem ordE_zero {P M : Int} {mod : List Int} {N : Int} {L : List (List Int)} {Q : List Int} (h : ordE P M mod N L Q = 0) : codeE P M mod N L = 0 ∧ ordB N Q = true := by
  unfold ordE at h
  split at h
  · rename_i h1
    split at h
    · rename_i h2; exact ⟨h1, h2⟩
    · exact absurd h (by omega)
  · rename_i h1; exact absurd h h1

set_option maxRecDepth 100000 in
set_option maxHeartbeats 4000000 in
theorem ordWidthE_any (P M : Int) (am : Option Addr) (mn cm : Nat) (mod : List Int) (N : Int) (a : Option Addr) (n c : Nat) (L : List (List Int)) (ao : Option Addr) (no co : Nat) (Q : List Int) (w : World)
    (hmod : Ints w am mn mod) (hi : Mat w a n L) (hq : Ints w ao no Q) :
    Calls Tryz.prog 14 #[.agg #[.int .i64 P, .int .i64 M, .slice am mn cm, .int .i64 N, .slice a n c], .slice ao no co] w
      fun e w' => e = .returned (.tuple #[.int .i64 (widV P M mod N L Q).1, .int .i64 (widV P M mod N L Q).2]) ∧ Below w.heap.size w w' := by
  go_enter Tryz.func14, Tryz.ntmps14
  go_wp2_with fail
  obtain ⟨W, hW⟩ : ∃ W : World, W = w.alloc (.cells #[.int .i64 P, .int .i64 M, .slice am mn cm, .int .i64 N, .slice a n c] 27) := ⟨_, rfl⟩
  rw [← hW]
  have hbW : Below w.heap.size w W := by rw [hW]; exact below1 _ _
  have x0 : Box W w.heap.size [.int .i64 P, .int .i64 M, .slice am mn cm, .int .i64 N, .slice a n c] := by rw [hW]; exact Box.new _ _ _ rfl
  clear hW
  refine (ordOrdered_any P M am mn cm mod N a n c L ao no co Q W (hmod.keep hbW) (hi.keep hbW) (hq.keep hbW)).mono ?_
  rintro e w1 ⟨rfl, hb1⟩
  have hbw1 := Below.next hbW hb1
  have x1 := x0.keep hb1
  by_cases hO : ordE P M mod N L Q = 0
  · obtain ⟨hE, hB⟩ := ordE_zero hO
    obtain ⟨m, rfl, _⟩ := codeE_fld hE
    obtain ⟨hIn, hlen⟩ := ordB_in hB
    have hno : no = m := by rw [← hq.len]; exact hlen
    subst hno
    have HV : Hid (widV P M mod no L Q = (wdTo (dimS (tblOf P M.toNat mod).ops L no) Q no, 0)) := by show _ = _; rw [widV, if_pos hO, Int.toNat_natCast]
    have hc := Lib.hid (ordWidth_any P M am mn cm mod no a n c L ao no co Q w1 (hmod.keep hbw1) (hi.keep hbw1) hE (hq.keep hbw1) hIn)
    rw [hO]
    have c0 := x1.cell 0 rfl
    have c1 := x1.cell 1 rfl
    have c2 := x1.cell 2 rfl
    have c3 := x1.cell 3 rfl
    have c4 := x1.cell 4 rfl
    clear hE hB hO hIn hlen x0 x1
    generalize wdTo (dimS (tblOf P M.toNat mod).ops L no) Q no = t at *
    go_wp2_with fail
    refine hc.out.mono ?_
    rintro e w2 ⟨rfl, hb2⟩
    have hF := Below.next hbw1 hb2
    clear hc
    go_wp2_with fail
    go_ret2
    exact ⟨by rw [HV.out]; rfl, hF⟩
  · have HV : Hid (widV P M mod N L Q = (0, ordE P M mod N L Q)) := by show _ = _; rw [widV, if_neg hO]
    have hE2 : (ordE P M mod N L Q != 0) = true := by simpa using hO
    clear hO x0 x1
    go_wp2_with fail
    go_ret2
    exact ⟨by rw [HV.out]; rfl, hbw1⟩

set_option maxRecDepth 100000 in
set_option maxHeartbeats 4000000 in
theorem rOrder48_any (P M : Int) (am : Option Addr) (mn cm : Nat) (mod : List Int) (N : Int) (a : Option Addr) (n c : Nat) (L : List (List Int)) (ao : Option Addr) (no co : Nat) (Q : List Int) (w : World)
    (hmod : Ints w am mn mod) (hi : Mat w a n L) (hq : Ints w ao no Q) :
    Calls Tryz.prog 59 #[.agg #[.int .i64 P, .int .i64 M, .slice am mn cm, .int .i64 N, .slice a n c], .slice ao no co] w fun e w' => e = .returned (.int .i64 (ordE P M mod N L Q)) ∧ Below w.heap.size w w' := by
  go_enter Tryz.func59, Tryz.ntmps59
  go_wp2_with fail
  obtain ⟨W, hW⟩ : ∃ W : World, W = w.alloc (.cells #[.int .i64 P, .int .i64 M, .slice am mn cm, .int .i64 N, .slice a n c] 27) := ⟨_, rfl⟩
  rw [← hW]
  have hbW : Below w.heap.size w W := by rw [hW]; exact below1 _ _
  have x0 : Box W w.heap.size [.int .i64 P, .int .i64 M, .slice am mn cm, .int .i64 N, .slice a n c] := by rw [hW]; exact Box.new _ _ _ rfl
  clear hW
  refine (rCodeCheck_any P M am mn cm mod N a n c L W (hmod.keep hbW) (hi.keep hbW) fun h => hinv_all h).mono ?_
  rintro e w1 ⟨rfl, hb1⟩
  rw [rcodeE_eq]
  have hbw1 := Below.next hbW hb1
  have x1 := x0.keep hb1
  by_cases hE : codeE P M mod N L = 0
  · obtain ⟨m, rfl, hm1, hm64, _⟩ := codeE_fld hE
    have HB : Hid (ordE P M mod m L Q = if ordB m Q = true then 0 else 5) := by show _ = _; rw [ordE, if_pos hE]
    rw [hE]
    have c3 := x1.cell 3 rfl
    have hc := Lib.hid (rIsOrder_any m ao no co Q w1 hm1 hm64 (hq.keep hbw1))
    clear hE x0 x1
    by_cases hO : ordB m Q = true
    · have hf : Hid (ordE P M mod m L Q = 0) := by show _ = _; rw [HB.out, if_pos hO]
      rw [hO] at hc
      clear hO
      go_wp2_with fail
      refine hc.out.mono ?_
      rintro e w2 ⟨rfl, hb2⟩
      have hF := Below.next hbw1 hb2
      clear hc
      go_wp2_with fail
      go_ret
      exact ⟨ret_int hf.out.symm, hF⟩
    · have hO' : ordB m Q = false := by simpa using hO
      have hf : Hid (ordE P M mod m L Q = 5) := by show _ = _; rw [HB.out, if_neg hO]
      rw [hO'] at hc
      clear hO hO'
      go_wp2_with fail
      refine hc.out.mono ?_
      rintro e w2 ⟨rfl, hb2⟩
      have hF := Below.next hbw1 hb2
      clear hc
      go_wp2_with fail
      go_ret
      exact ⟨ret_int hf.out.symm, hF⟩
  · have hf : Hid (ordE P M mod N L Q = codeE P M mod N L) := by show _ = _; rw [ordE, if_neg hE]
    have hE2 : (codeE P M mod N L == 0) = false := by simpa using hE
    clear hE x0 x1
    go_wp2_with fail
    go_ret
    exact ⟨ret_int hf.out.symm, hbw1⟩

theorem InN.take {n : Nat} {Q : List Int} (h : InN n Q) {i : Nat} (hi : i ≤ Q.length) : InN n (Q.take i) := fun j hj => by
  rw [List.length_take] at hj
  have e : nth (Q.take i) j = nth Q j := by unfold nth; simp only [List.getD_eq_getElem?_getD, List.getElem?_take]; rw [if_pos (by omega)]
  rw [e]; exact h j (by omega)

set_option maxRecDepth 100000 in
set_option maxHeartbeats 4000000 in
theorem rWidth_any (P M : Int) (am : Option Addr) (mn cm : Nat) (mod : List Int) (N : Int) (a : Option Addr) (n c : Nat) (L : List (List Int)) (ao : Option Addr) (no co : Nat) (Q : List Int) (w : World)
    (hmod : Ints w am mn mod) (hi : Mat w a n L) (hq : Ints w ao no Q) (hco : no ≤ co) :
    Calls Tryz.prog 15 #[.agg #[.int .i64 P, .int .i64 M, .slice am mn cm, .int .i64 N, .slice a n c], .slice ao no co] w
      fun e w' => e = .returned (.tuple #[.int .i64 (widV P M mod N L Q).1, .int .i64 (widV P M mod N L Q).2]) ∧ Below w.heap.size w w' := by
  have Hql := Lib.hid hq.len
  go_enter Tryz.func15, Tryz.ntmps15
  go_wp2_with fail
  obtain ⟨W, hW⟩ : ∃ W : World, W = w.alloc (.cells #[.int .i64 P, .int .i64 M, .slice am mn cm, .int .i64 N, .slice a n c] 27) := ⟨_, rfl⟩
  rw [← hW]
  have hbW : Below w.heap.size w W := by rw [hW]; exact below1 _ _
  have x0 : Box W w.heap.size [.int .i64 P, .int .i64 M, .slice am mn cm, .int .i64 N, .slice a n c] := by rw [hW]; exact Box.new _ _ _ rfl
  have c0 := x0.cell 0 rfl
  have c1 := x0.cell 1 rfl
  have c2 := x0.cell 2 rfl
  have c3 := x0.cell 3 rfl
  have c4 := x0.cell 4 rfl
  clear hW
  have hco1 := Lib.hid (rOrder48_any P M am mn cm mod N a n c L ao no co Q W (hmod.keep hbW) (hi.keep hbW) (hq.keep hbW))
  refine hco1.out.mono ?_
  rintro e w1 ⟨rfl, hb1⟩
  have hbw1 := Below.next hbW hb1
  have x1 := x0.keep hb1
  clear c0 c1 c2 c3 c4 hco1 x0
  by_cases hO : ordE P M mod N L Q = 0
  · obtain ⟨hE, hB⟩ := ordE_zero hO
    obtain ⟨m, rfl, hm1, hm64, _⟩ := codeE_fld hE
    obtain ⟨hIn, hlen⟩ := ordB_in hB
    have hno : no = m := by rw [← hq.len]; exact hlen
    subst hno
    have hf0 : dimS (tblOf P M.toNat mod).ops L no 0 ≤ 0 := by
      have h1 := gr_rows hE (cplU 0)
      have h2 : bitsTo 0 no = [] := by
        have : ∀ j, bitsTo 0 j = [] := fun j => by
          induction j with
          | zero => rfl
          | succ j ih => rw [bitsTo, if_neg (by simp), ih]
        exact this no
      have h3 : (grS (tblOf P M.toNat mod).ops L []).length ≤ 0 := grS_len _ _ []
      unfold dimS
      rw [h2]
      omega
    have HV : Hid (widV P M mod no L Q = (wrTo (dimS (tblOf P M.toNat mod).ops L no) Q (no + 1), 0)) := by show _ = _; rw [widV, if_pos hO, Int.toNat_natCast, wrTo_eq hf0]
    have Hof : Hid (∀ V i, i ≤ no → Below w.heap.size w V → Calls Tryz.prog 60 #[.agg #[.int .i64 P, .int .i64 M, .slice am mn cm, .int .i64 no, .slice a n c], .slice ao i co] V
        fun e w' => e = .returned (.int .i64 (dimS (tblOf P M.toNat mod).ops L no (maskTo Q i))) ∧ Below V.heap.size V w') := fun V i hi' hV => by
      rw [← maskS_take Q (by rw [Hql.out]; exact hi')]
      exact rOf_any P M am mn cm mod no a n c L ao i co (Q.take i) V (hmod.keep hV) (hi.keep hV) hE ((hq.keep hV).take hi') (hIn.take (by rw [Hql.out]; exact hi')) (by omega)
    rw [hO]
    have hplq := hq.pl
    have hmq := hq.max
    unfold maxLen at hmq
    have hS : ∀ V, Below w1.heap.size w1 V → V.cell? ⟨w.heap.size, 0, none⟩ = some (.int .i64 P) ∧ V.cell? ⟨w.heap.size, 1, none⟩ = some (.int .i64 M) ∧ V.cell? ⟨w.heap.size, 2, none⟩ = some (.slice am mn cm) ∧ V.cell? ⟨w.heap.size, 3, none⟩ = some (.int .i64 no) ∧ V.cell? ⟨w.heap.size, 4, none⟩ = some (.slice a n c) ∧ Below w1.heap.size w1 V := by
      intro V hV
      have x2 := x1.keep hV
      exact ⟨x2.cell 0 rfl, x2.cell 1 rfl, x2.cell 2 rfl, x2.cell 3 rfl, x2.cell 4 rfl, hV⟩
    have HS := Lib.hid hS
    have Hbw1 := Lib.hid hbw1
    obtain ⟨f, hf⟩ : ∃ f, dimS (tblOf P M.toNat mod).ops L no = f := ⟨_, rfl⟩
    rw [hf] at HV Hof
    clear hE hB hO hIn hlen hf hf0 hS x1 hmod hi hq hbW hb1 hbw1
    go_wp2_with fail
    go_loopw [7, 8] (fun tv iv wr => ∃ k : Nat, k ≤ no + 1 ∧ iv = .int .i64 k ∧ tv = .int .i64 (wrTo f Q k) ∧ Below w1.heap.size w1 wr) (fun _ iv _ => no + 1 - (intOf iv).toNat)
    case atStart => exact ⟨0, Nat.zero_le _, rfl, rfl, Below.refl _ _⟩
    case round =>
      obtain ⟨k, hk, rfl, rfl, hbr⟩ := hrel
      obtain ⟨c0, c1, c2, c3, c4, _⟩ := HS.out wr hbr
      by_cases hlt : k ≤ no
      · have hlt' : decide ((k : Int) ≤ no) = true := by simp; omega
        have hkc : (k : Int) ≤ co := by omega
        have hkn : k ≤ co := by omega
        have Hwr : Hid (wrTo f Q (k + 1) = max (wrTo f Q k) (f (maskTo Q k))) := rfl
        have HS2 : Hid (∀ V, Below wr.heap.size wr V → V.cell? ⟨w.heap.size, 0, none⟩ = some (.int .i64 P) ∧ V.cell? ⟨w.heap.size, 1, none⟩ = some (.int .i64 M) ∧ V.cell? ⟨w.heap.size, 2, none⟩ = some (.slice am mn cm) ∧ V.cell? ⟨w.heap.size, 3, none⟩ = some (.int .i64 no) ∧ V.cell? ⟨w.heap.size, 4, none⟩ = some (.slice a n c) ∧ Below wr.heap.size wr V) :=
          fun V hV => by have h := HS.out V (Below.next hbr hV); exact ⟨h.1, h.2.1, h.2.2.1, h.2.2.2.1, h.2.2.2.2.1, hV⟩
        have Hof2 : Hid (∀ V, Below wr.heap.size wr V → Calls Tryz.prog 60 #[.agg #[.int .i64 P, .int .i64 M, .slice am mn cm, .int .i64 no, .slice a n c], .slice ao k co] V
          fun e w' => e = .returned (.int .i64 (f (maskTo Q k))) ∧ Below V.heap.size V w') := fun V hV => Hof.out V k hlt (Below.next Hbw1.out (Below.next hbr hV))
        have Hbr := Lib.hid hbr
        clear hbr c0 c1 c2 c3 c4
        obtain ⟨c0, c1, c2, c3, c4, _⟩ := HS2.out wr (Below.refl _ _)
        generalize f (maskTo Q k) = d at *
        generalize wrTo f Q k = t at *
        go_wp2_with fail
        go_region_held3 (fun V => V.cell? ⟨w.heap.size, 0, none⟩ = some (.int .i64 P) ∧ V.cell? ⟨w.heap.size, 1, none⟩ = some (.int .i64 M) ∧ V.cell? ⟨w.heap.size, 2, none⟩ = some (.slice am mn cm) ∧ V.cell? ⟨w.heap.size, 3, none⟩ = some (.int .i64 no) ∧ V.cell? ⟨w.heap.size, 4, none⟩ = some (.slice a n c) ∧ Below wr.heap.size wr V)
          ((refine HS2.out _ ?_; first | exact (Below.refl _ _).drew | exact Below.next (Below.refl _ _).drew hb4))
          (first
            | (go_at_call 60; ((with_reducible refine (Hof2.out _ (Below.refl _ _).drew).mono ?_); rintro e w4 ⟨rfl, hb4⟩)))
        have hbr4 := Below.next Hbr.out (Below.next (Below.refl _ _).drew hb4)
        go_wp2_with fail
        go_roundw
        case rel => exact ⟨k + 1, by omega, by go_num, by rw [Hwr.out, ← max_if], hbr4⟩
        case measure => simp [intOf] <;> omega
      · obtain rfl : k = no + 1 := by omega
        have hlt' : decide (((no + 1 : Nat) : Int) ≤ no) = false := by simp; omega
        have hF := Below.next Hbw1.out hbr
        generalize wrTo f Q (no + 1) = t at *
        go_wp2_with fail
        go_ret2
        exact ⟨by rw [HV.out]; rfl, hF⟩
  · have HV : Hid (widV P M mod N L Q = (0, ordE P M mod N L Q)) := by show _ = _; rw [widV, if_neg hO]
    have hE2 : (ordE P M mod N L Q != 0) = true := by simpa using hO
    clear hO x1
    go_wp2_with fail
    go_ret2
    exact ⟨by rw [HV.out]; rfl, hbw1⟩
end

/- The walk of infoset.Floor. -/
section
open Go.RowKit

/-- whether the numbers are in their ranges -/
def flB (K : Int) (Q : List Int) (W : Int) : Bool := decide (0 ≤ K) && decide (K ≤ 64) && decide (0 ≤ W) && decide (W ≤ K) && decide (Q.length ≤ 64)
/-- the sum of the first k of them -/
def flTo (K W : Int) (Q : List Int) : Nat → Int
  | 0 => 0
  | k + 1 => flTo K W Q k + max 0 (W + 1 - (K - nth Q k))
def flQ (K : Int) (x : Int) : Bool := decide (0 ≤ x) && decide (x ≤ K)
def flV (K : Int) (Q : List Int) (W : Int) : Int × Int := if flB K Q W = true ∧ Q.all (flQ K) = true then (flTo K W Q Q.length, 0) else (0, 6)
theorem flTo_bd {K W : Int} {Q : List Int} (hK : 0 ≤ K ∧ K ≤ 64) (hW : 0 ≤ W ∧ W ≤ K) (hQ : Q.all (flQ K) = true) : ∀ k, k ≤ Q.length → 0 ≤ flTo K W Q k ∧ flTo K W Q k ≤ 200 * k
  | 0, _ => by simp [flTo]
  | k + 1, h => by
    have ih := flTo_bd hK hW hQ k (by omega)
    have hq := List.all_eq_true.1 hQ _ (nth_mem (i := k) (by omega))
    unfold flQ at hq
    simp only [Bool.and_eq_true, decide_eq_true_eq] at hq
    rw [flTo]
    omega

set_option maxRecDepth 100000 in
set_option maxHeartbeats 4000000 in
theorem floor_any (K : Int) (a : Option Addr) (n c : Nat) (Q : List Int) (X : Int) (w : World) (hi : Ints w a n Q) :
    Calls Tryz.prog 55 #[.int .i64 K, .slice a n c, .int .i64 X] w fun e w' => e = .returned (.tuple #[.int .i64 (flV K Q X).1, .int .i64 (flV K Q X).2]) ∧ w' = w := by
  have Hl := Lib.hid hi.len
  have hpl := hi.pl
  have hmax := hi.max
  unfold maxLen at hmax
  go_enter Tryz.func55, Tryz.ntmps55
  go_upto_region 1 with fail
  have bad : flB K Q X = false → flV K Q X = (0, 6) := fun h => by rw [flV, if_neg (by rw [h]; simp)]
  have Hbad := Lib.hid bad
  clear bad
  have hfl : flB K Q X = (decide (0 ≤ K) && decide (K ≤ 64) && decide (0 ≤ X) && decide (X ≤ K) && decide (n ≤ 64)) := by rw [flB, Hl.out]
  by_cases h1 : K < 0
  · have d1 : decide (K < 0) = true := by simpa using h1
    have HV := Lib.hid (Hbad.out (by rw [hfl]; simp; omega))
    clear h1 hfl
    go_wp2_with fail
    go_ret2
    exact ⟨by rw [HV.out]; rfl, rfl⟩
  have d1 : decide (K < 0) = false := by simpa using h1
  by_cases h2 : 64 < K
  · have d2 : decide (64 < K) = true := by simpa using h2
    have HV := Lib.hid (Hbad.out (by rw [hfl]; simp; omega))
    clear h1 h2 hfl
    go_wp2_with fail
    go_ret2
    exact ⟨by rw [HV.out]; rfl, rfl⟩
  have d2 : decide (64 < K) = false := by simpa using h2
  by_cases h3 : X < 0
  · have d3 : decide (X < 0) = true := by simpa using h3
    have HV := Lib.hid (Hbad.out (by rw [hfl]; simp; omega))
    clear h1 h2 h3 hfl
    go_wp2_with fail
    go_ret2
    exact ⟨by rw [HV.out]; rfl, rfl⟩
  have d3 : decide (X < 0) = false := by simpa using h3
  by_cases h4 : K < X
  · have d4 : decide (K < X) = true := by simpa using h4
    have HV := Lib.hid (Hbad.out (by rw [hfl]; simp; omega))
    clear h1 h2 h3 h4 hfl
    go_wp2_with fail
    go_ret2
    exact ⟨by rw [HV.out]; rfl, rfl⟩
  have d4 : decide (K < X) = false := by simpa using h4
  by_cases h5 : 64 < n
  · have d5 : decide ((64 : Int) < n) = true := by simp; omega
    have HV := Lib.hid (Hbad.out (by rw [hfl]; simp; omega))
    clear h1 h2 h3 h4 h5 hfl
    go_wp2_with fail
    go_ret2
    exact ⟨by rw [HV.out]; rfl, rfl⟩
  have d5 : decide ((64 : Int) < n) = false := by simp; omega
  have HB : Hid (flB K Q X = true) := by show _ = _; rw [hfl]; simp; omega
  have HV2 : Hid (flV K Q X = if Q.all (flQ K) = true then (flTo K X Q n, 0) else (0, 6)) := by
    show _ = _
    rw [flV, HB.out, Hl.out]
    simp
  clear hfl
  go_wp2_with fail
  go_loop [8, 33] (fun sv iv => ∃ k : Nat, k ≤ n ∧ iv = .int .i64 k ∧ sv = .int .i64 (flTo K X Q k) ∧ Hid (∀ j, j < k → flQ K (nth Q j) = true)) (fun _ iv => n - (intOf iv).toNat)
  case atStart => exact ⟨0, Nat.zero_le _, rfl, rfl, fun j hj => by omega⟩
  case round =>
    obtain ⟨k, hk, rfl, rfl, hall⟩ := hrel
    have hbd : 0 ≤ flTo K X Q k ∧ flTo K X Q k ≤ 200 * k := by
      have h := flTo_bd (K := K) (W := X) (Q := Q.take k) (by omega) (by omega) (by
        rw [List.all_eq_true]
        intro x hx
        obtain ⟨j, hj, rfl⟩ := List.mem_iff_getElem.1 hx
        rw [List.length_take] at hj
        have := hall.out j (by omega)
        rwa [List.getElem_take, ← nth_getElem (by omega)]) k (by rw [List.length_take]; have := Hl.out; omega)
      have he : ∀ j, j ≤ k → flTo K X (Q.take k) j = flTo K X Q j := fun j => by
        induction j with
        | zero => intro _; rfl
        | succ j ih =>
          intro hj
          have e : nth (Q.take k) j = nth Q j := by unfold nth; simp only [List.getD_eq_getElem?_getD, List.getElem?_take]; rw [if_pos (by omega)]
          rw [flTo, flTo, ih (by omega), e]
      rwa [he k (Nat.le_refl _)] at h
    by_cases hlt : k < n
    · have ck := hi.cell k hlt
      have Hst : Hid (flTo K X Q (k + 1) = flTo K X Q k + max 0 (X + 1 - (K - nth Q k))) := rfl
      have Hx : Hid (∀ y, nth Q k = y → flQ K y = true → ∀ j, j < k + 1 → flQ K (nth Q j) = true) := fun y hy h j hj => by
        by_cases e : j = k
        · subst e; rw [hy]; exact h
        · exact hall.out j (by omega)
      have Hno : Hid (flQ K (nth Q k) = false → flV K Q X = (0, 6)) := fun h => by
        rw [HV2.out, if_neg]
        intro h2
        have := List.all_eq_true.1 h2 _ (nth_mem (i := k) (by rw [Hl.out]; exact hlt))
        rw [h] at this
        exact absurd this (by decide)
      obtain ⟨y, hy⟩ : ∃ y, nth Q k = y := ⟨_, rfl⟩
      have Hx2 := fun h => Hx.out y hy h
      rw [hy] at ck Hno Hst
      clear hy Hx
      by_cases q1 : y < 0
      · have e1 : decide (y < 0) = true := by simpa using q1
        have HV := Lib.hid (Hno.out (by unfold flQ; simp; omega))
        clear q1 Hx2 hbd
        go_wp2_with fail
        go_ret2
        exact ⟨by rw [HV.out]; rfl, rfl⟩
      have e1 : decide (y < 0) = false := by simpa using q1
      by_cases q2 : K < y
      · have e2 : decide (K < y) = true := by simpa using q2
        have HV := Lib.hid (Hno.out (by unfold flQ; simp; omega))
        clear q1 q2 Hx2 hbd
        go_wp2_with fail
        go_ret2
        exact ⟨by rw [HV.out]; rfl, rfl⟩
      have e2 : decide (K < y) = false := by simpa using q2
      have Hx3 := Lib.hid (Hx2 (by unfold flQ; simp; omega))
      clear Hx2
      have k1 : IntKind.i64.wrap (X + 1) = X + 1 := IntWalk.i64_in _ (by omega)
      have k2 : IntKind.i64.wrap (K - y) = K - y := IntWalk.i64_in _ (by omega)
      have k3 : IntKind.i64.wrap (X + 1 - (K - y)) = X + 1 - (K - y) := IntWalk.i64_in _ (by omega)
      have k4 : IntKind.i64.wrap (flTo K X Q k + max 0 (X + 1 - (K - y))) = flTo K X Q k + max 0 (X + 1 - (K - y)) := IntWalk.i64_in _ (by omega)
      rw [← max_if] at k4
      rw [← max_if] at Hst
      clear hbd
      generalize flTo K X Q k = t at *
      go_wp2_with fail
      go_round
      case rel => exact ⟨k + 1, by omega, by go_num, by rw [Hst.out, show (if K - y < X + 1 then X + 1 - (K - y) else 0) = (if 0 < X + 1 - (K - y) then X + 1 - (K - y) else 0) from by split <;> split <;> omega]; exact congrArg (Value.int .i64) ((IntWalk.i64_left _).symm.trans k4), Hx3.out⟩
      case measure => simp [intOf] <;> omega
    · obtain rfl : k = n := by omega
      have HV : Hid (flV K Q X = (flTo K X Q k, 0)) := by
        show _ = _
        rw [HV2.out, if_pos]
        rw [List.all_eq_true]
        intro x hx
        obtain ⟨j, hj, rfl⟩ := List.mem_iff_getElem.1 hx
        have := hall.out j (by have := Hl.out; omega)
        rwa [nth_getElem hj] at this
      clear hbd
      go_wp2_with fail
      go_ret2
      exact ⟨by rw [HV.out]; rfl, rfl⟩
end

/- Two matrices whose rows go together: 'each' of matrix.eliminate at both. -/
section
open Go.RowKit

theorem nthR_mapf (f : List Int → List Int) (L : List (List Int)) {i : Nat} (h : i < L.length) : nthR (L.map f) i = f (nthR L i) := by
  rw [nthR_getElem (by simpa using h), nthR_getElem h, List.getElem_map]
theorem swapRow_map (f : List Int → List Int) (J : List (List Int)) {t k : Nat} (ht : t < J.length) (hk : k < J.length) : swapRow (J.map f) t k = (swapRow J t k).map f := by
  unfold swapRow
  rw [nthR_mapf f J ht, nthR_mapf f J hk, List.map_set, List.map_set]
theorem nth_takeL (l : List Int) {len k : Nat} (h : k < len) : nth (l.take len) k = nth l k := by
  unfold nth; simp only [List.getD_eq_getElem?_getD, List.getElem?_take]; rw [if_pos h]
theorem addRow_take (O : FOps) (v u : List Int) (s : Int) (len : Nat) : (addRow O v s u).take len = addRow O (v.take len) s (u.take len) := by
  unfold addRow; rw [List.take_zipWith]
theorem addRow_drop (O : FOps) (v u : List Int) (s : Int) (len : Nat) : (addRow O v s u).drop len = addRow O (v.drop len) s (u.drop len) := by
  unfold addRow; rw [List.drop_zipWith]

/-- the blocks of two matrices -/
def I2 (a : Option Addr) (R : List (Option Addr × Nat)) (a2 : Option Addr) (S : List (Option Addr × Nat)) (b : Nat) : Prop := OIn a R b ∨ OIn a2 S b
/-- two own matrices in blocks apart: the beginnings and the ends of the rows J -/
structure OMat2 (w : World) (B : Nat) (a : Option Addr) (n c : Nat) (R : List (Option Addr × Nat)) (a2 : Option Addr) (c2 : Nat) (S : List (Option Addr × Nat)) (len : Nat) (J : List (List Int)) : Prop where
  om1 : OMat w B a n c R (J.map (List.take len))
  om2 : OMat w B a2 n c2 S (J.map (List.drop len))
  dis : ∀ b, OIn a R b → ¬ OIn a2 S b
namespace OMat2
variable {w w' w1 : World} {B : Nat} {a : Option Addr} {n c : Nat} {R R' : List (Option Addr × Nat)} {a2 : Option Addr} {c2 : Nat} {S S' : List (Option Addr × Nat)} {len : Nat} {J J' : List (List Int)}
theorem lt (h : OMat2 w B a n c R a2 c2 S len J) (b : Nat) (hb : I2 a R a2 S b) : B ≤ b ∧ b < w.heap.size := by
  rcases hb with hb | hb
  · exact h.om1.lt b hb
  · exact h.om2.lt b hb
theorem new (h : OMat2 w B a n c R a2 c2 S len J) {b : Nat} (hb : w.heap.size ≤ b) : ¬ I2 a R a2 S b := fun h' => by have := h.lt b h'; omega
theorem keep (h : OMat2 w B a n c R a2 c2 S len J) (hb : Below w.heap.size w w') : OMat2 w' B a n c R a2 c2 S len J := ⟨h.om1.keep hb, h.om2.keep hb, h.dis⟩
theorem ll (h : OMat2 w B a n c R a2 c2 S len J) : J.length = n := by have := h.om1.ll; simpa using this
theorem cell (h : OMat2 w B a n c R a2 c2 S len J) {i : Nat} (hi : i < n) (hl : len ≤ (nthR J i).length) : w.cell? ⟨ablk a, aoff a + i, none⟩ = some (.slice (nthA R i).1 len (nthA R i).2) := by
  have h1 := h.om1.cell hi
  rw [nthR_mapf _ J (by rw [h.ll]; exact hi), List.length_take, Nat.min_eq_left hl] at h1
  exact h1
theorem ints (h : OMat2 w B a n c R a2 c2 S len J) {i : Nat} (hi : i < n) (hl : len ≤ (nthR J i).length) : Ints w (nthA R i).1 len ((nthR J i).take len) := by
  have h1 := h.om1.ints hi
  rw [nthR_mapf _ J (by rw [h.ll]; exact hi), List.length_take, Nat.min_eq_left hl] at h1
  exact h1
theorem step1 (h : OMat2 w B a n c R a2 c2 S len J) (m1 : Moves w w1 (OIn a R) (OIn a R')) : OMat w1 B a2 n c2 S (J.map (List.drop len)) :=
  h.om2.of_blocks fun b hb => m1.block b (h.om2.lt b hb).2 fun hI => h.dis b hI hb
theorem step2 {L' A' : List (List Int)} (h : OMat2 w B a n c R a2 c2 S len J) (m1 : Moves w w1 (OIn a R) (OIn a R')) (o1 : OMat w1 B a n c R' L') (m2 : Moves w1 w' (OIn a2 S) (OIn a2 S')) (o2 : OMat w' B a2 n c2 S' A')
    (e1 : L' = J'.map (List.take len)) (e2 : A' = J'.map (List.drop len)) : OMat2 w' B a n c R' a2 c2 S' len J' ∧ Moves w w' (I2 a R a2 S) (I2 a R' a2 S') := by
  subst e1 e2
  have hs := m1.size
  have hnS : ∀ b, OIn a R' b → ¬ OIn a2 S b := fun b hb hS => by
    rcases m1.grow b hb with h1 | h1
    · exact h.dis b h1 hS
    · have := (h.om2.lt b hS).2; omega
  refine ⟨⟨o1.of_blocks fun b hb => m2.block b (o1.lt b hb).2 (hnS b hb), o2, fun b hb hb2 => ?_⟩, ⟨m2.os.trans m1.os, m2.tape.trans m1.tape, m2.output.trans m1.output, Nat.le_trans m1.size m2.size, fun b hb hI => ?_, fun b hb => ?_⟩⟩
  · rcases m2.grow b hb2 with h1 | h1
    · exact hnS b hb h1
    · have := (o1.lt b hb).2; omega
  · rw [m2.block b (by omega) fun h1 => hI (.inr h1)]
    exact m1.block b hb fun h1 => hI (.inl h1)
  · rcases hb with hb | hb
    · rcases m1.grow b hb with h1 | h1
      · exact .inl (.inl h1)
      · exact .inr h1
    · rcases m2.grow b hb with h1 | h1
      · exact .inl (.inr h1)
      · exact .inr (by omega)
end OMat2

set_option maxRecDepth 100000 in
/-- 'each' calls the step at the rows and at the others -/
theorem each2b_any {w : World} (c0' c1' : Value) (p q : Nat) (a : Option Addr) (n c : Nat) (a2 : Option Addr) (n2 c2 : Nat) (X : World → Prop) (h1 : w.cell? ⟨p, 0, none⟩ = some (.slice a n c)) (hn2 : 0 < n2) (hn3 : n2 ≤ 1000000)
    (hf : Calls Tryz.prog 178 #[.slice a n c, c0', c1'] w fun e w1 => e = .returned (.tuple #[]) ∧ w1.cell? ⟨q, 0, none⟩ = some (.slice a2 n2 c2) ∧
      Calls Tryz.prog 178 #[.slice a2 n2 c2, c0', c1'] w1 fun e w' => e = .returned (.tuple #[]) ∧ X w') :
    Calls Tryz.prog 177 #[.func (.func 178) #[] #[c0', c1'], .pointer (some ⟨p, 0, none⟩), .pointer (some ⟨q, 0, none⟩)] w
      fun e w' => e = .returned (.tuple #[]) ∧ X w' := by
  have Hf := Lib.hid hf
  have hn0 : decide ((0 : Int) < n2) = true := by simp; omega
  clear hf
  go_enter Tryz.func177, Tryz.ntmps177
  go_wp2_with fail
  refine Hf.out.mono ?_
  rintro e w1 ⟨rfl, hq, hc⟩
  have Hc := Lib.hid hc
  clear hc
  go_wp2_with fail
  refine Hc.out.mono ?_
  rintro e w2 ⟨rfl, hX⟩
  go_wp2_with fail
  go_end0
  exact ⟨rfl, hX⟩

set_option maxRecDepth 100000 in
/-- 'each' calls the step at the rows and at the others -/
theorem each3b_any {w : World} (c0' c1' c2' : Value) (p q : Nat) (a : Option Addr) (n c : Nat) (a2 : Option Addr) (n2 c2 : Nat) (X : World → Prop) (h1 : w.cell? ⟨p, 0, none⟩ = some (.slice a n c)) (hn2 : 0 < n2) (hn3 : n2 ≤ 1000000)
    (hf : Calls Tryz.prog 179 #[.slice a n c, c0', c1', c2'] w fun e w1 => e = .returned (.tuple #[]) ∧ w1.cell? ⟨q, 0, none⟩ = some (.slice a2 n2 c2) ∧
      Calls Tryz.prog 179 #[.slice a2 n2 c2, c0', c1', c2'] w1 fun e w' => e = .returned (.tuple #[]) ∧ X w') :
    Calls Tryz.prog 177 #[.func (.func 179) #[] #[c0', c1', c2'], .pointer (some ⟨p, 0, none⟩), .pointer (some ⟨q, 0, none⟩)] w
      fun e w' => e = .returned (.tuple #[]) ∧ X w' := by
  have Hf := Lib.hid hf
  have hn0 : decide ((0 : Int) < n2) = true := by simp; omega
  clear hf
  go_enter Tryz.func177, Tryz.ntmps177
  go_wp2_with fail
  refine Hf.out.mono ?_
  rintro e w1 ⟨rfl, hq, hc⟩
  have Hc := Lib.hid hc
  clear hc
  go_wp2_with fail
  refine Hc.out.mono ?_
  rintro e w2 ⟨rfl, hX⟩
  go_wp2_with fail
  go_end0
  exact ⟨rfl, hX⟩

set_option maxRecDepth 100000 in
/-- 'each' calls the step at the rows and at the others -/
theorem each4b_any {w : World} (c0' c1' c2' c3' : Value) (p q : Nat) (a : Option Addr) (n c : Nat) (a2 : Option Addr) (n2 c2 : Nat) (X : World → Prop) (h1 : w.cell? ⟨p, 0, none⟩ = some (.slice a n c)) (hn2 : 0 < n2) (hn3 : n2 ≤ 1000000)
    (hf : Calls Tryz.prog 180 #[.slice a n c, c0', c1', c2', c3'] w fun e w1 => e = .returned (.tuple #[]) ∧ w1.cell? ⟨q, 0, none⟩ = some (.slice a2 n2 c2) ∧
      Calls Tryz.prog 180 #[.slice a2 n2 c2, c0', c1', c2', c3'] w1 fun e w' => e = .returned (.tuple #[]) ∧ X w') :
    Calls Tryz.prog 177 #[.func (.func 180) #[] #[c0', c1', c2', c3'], .pointer (some ⟨p, 0, none⟩), .pointer (some ⟨q, 0, none⟩)] w
      fun e w' => e = .returned (.tuple #[]) ∧ X w' := by
  have Hf := Lib.hid hf
  have hn0 : decide ((0 : Int) < n2) = true := by simp; omega
  clear hf
  go_enter Tryz.func177, Tryz.ntmps177
  go_wp2_with fail
  refine Hf.out.mono ?_
  rintro e w1 ⟨rfl, hq, hc⟩
  have Hc := Lib.hid hc
  clear hc
  go_wp2_with fail
  refine Hc.out.mono ?_
  rintro e w2 ⟨rfl, hX⟩
  go_wp2_with fail
  go_end0
  exact ⟨rfl, hX⟩

variable {w : World} {b : Nat} {G : Tbl}

/-- 'each' with the swap -/
theorem swap2_any (B : Nat) (a : Option Addr) (n c : Nat) (R : List (Option Addr × Nat)) (a2 : Option Addr) (c2 : Nat) (S : List (Option Addr × Nat)) (len : Nat) (J : List (List Int)) (p q pk pt k t : Nat) (hO : OMat2 w B a n c R a2 c2 S len J)
    (hp : w.cell? ⟨p, 0, none⟩ = some (.slice a n c)) (hq : w.cell? ⟨q, 0, none⟩ = some (.slice a2 n c2)) (nq : ¬ I2 a R a2 S q)
    (hk : w.cell? ⟨pk, 0, none⟩ = some (.int .i64 k)) (ht : w.cell? ⟨pt, 0, none⟩ = some (.int .i64 t)) (hkn : k < n) (htn : t < n) (hkt : k ≠ t) (nk : ¬ I2 a R a2 S pk) (nt : ¬ I2 a R a2 S pt) (hn : n ≤ 1000000) :
    Calls Tryz.prog 177 #[.func (.func 178) #[] #[.pointer (some ⟨pk, 0, none⟩), .pointer (some ⟨pt, 0, none⟩)], .pointer (some ⟨p, 0, none⟩), .pointer (some ⟨q, 0, none⟩)] w
      fun e w' => e = .returned (.tuple #[]) ∧ ∃ R' S', OMat2 w' B a n c R' a2 c2 S' len (swapRow J t k) ∧ Moves w w' (I2 a R a2 S) (I2 a R' a2 S') := by
  have hJ := hO.ll
  refine each2b_any _ _ p q a n c a2 n c2 _ hp (by omega) (by omega) ((swap_any B a n c R _ pk pt k t hO.om1 hk ht hkn htn hkt (fun h => nk (.inl h)) (fun h => nt (.inl h))).mono ?_)
  rintro e w1 ⟨rfl, R', o1, m1⟩
  refine ⟨rfl, m1.cell hq (fun h => nq (.inl h)), (swap_any B a2 n c2 S _ pk pt k t (hO.step1 m1) (m1.cell hk (fun h => nk (.inl h))) (m1.cell ht (fun h => nt (.inl h))) hkn htn hkt (fun h => nk (.inr h)) (fun h => nt (.inr h))).mono ?_⟩
  rintro e w2 ⟨rfl, S', o2, m2⟩
  exact ⟨rfl, R', S', hO.step2 m1 o1 m2 o2 (swapRow_map _ J (by omega) (by omega)) (swapRow_map _ J (by omega) (by omega))⟩

/-- 'each' with the scaling -/
theorem scale2_any (w0 : World) (a : Option Addr) (n c : Nat) (R : List (Option Addr × Nat)) (a2 : Option Addr) (c2 : Nat) (S : List (Option Addr × Nat)) (len m : Nat) (J : List (List Int)) (p q pg ps pt : Nat) (s : Int) (t : Nat) (hO : OMat2 w w0.heap.size a n c R a2 c2 S len J)
    (hp : w.cell? ⟨p, 0, none⟩ = some (.slice a n c)) (hq : w.cell? ⟨q, 0, none⟩ = some (.slice a2 n c2)) (nq : ¬ I2 a R a2 S q)
    (h : GFw w0 b G) (hb : Below w0.heap.size w0 w)
    (hg : w.cell? ⟨pg, 0, none⟩ = some (.pointer (some ⟨b, 0, none⟩))) (hs : w.cell? ⟨ps, 0, none⟩ = some (.int .i64 s)) (ht : w.cell? ⟨pt, 0, none⟩ = some (.int .i64 t)) (htn : t < n) (hse : G.El s)
    (ng : ¬ I2 a R a2 S pg) (ns : ¬ I2 a R a2 S ps) (nt : ¬ I2 a R a2 S pt) (hel : G.Els (nthR J t)) (hln : (nthR J t).length ≤ 1000000) (hn : n ≤ 1000000) :
    Calls Tryz.prog 177 #[.func (.func 179) #[] #[.pointer (some ⟨pg, 0, none⟩), .pointer (some ⟨ps, 0, none⟩), .pointer (some ⟨pt, 0, none⟩)], .pointer (some ⟨p, 0, none⟩), .pointer (some ⟨q, 0, none⟩)] w
      fun e w' => e = .returned (.tuple #[]) ∧ ∃ R' S', OMat2 w' w0.heap.size a n c R' a2 c2 S' len (J.set t ((nthR J t).map (G.mul s))) ∧ Moves w w' (I2 a R a2 S) (I2 a R' a2 S') := by
  have hJ := hO.ll
  have htJ : t < J.length := by omega
  refine each3b_any _ _ _ p q a n c a2 n c2 _ hp (by omega) (by omega) ((scale_any w0 a n c R _ pg ps pt s t hO.om1 h hb hg hs ht htn hse (by rw [nthR_mapf _ J htJ]; exact fun x hx => hel x (List.mem_of_mem_take hx)) (by rw [nthR_mapf _ J htJ, List.length_take]; omega)).mono ?_)
  rintro e w1 ⟨rfl, R', o1, m1⟩
  have hb1 : Below w0.heap.size w0 w1 := hb.trans (m1.below (fun b' hb' => (hO.om1.lt b' hb').1) hb.size)
  refine ⟨rfl, m1.cell hq (fun h => nq (.inl h)), (scale_any w0 a2 n c2 S _ pg ps pt s t (hO.step1 m1) h hb1 (m1.cell hg (fun h => ng (.inl h))) (m1.cell hs (fun h => ns (.inl h))) (m1.cell ht (fun h => nt (.inl h))) htn hse (by rw [nthR_mapf _ J htJ]; exact fun x hx => hel x (List.mem_of_mem_drop hx)) (by rw [nthR_mapf _ J htJ, List.length_drop]; omega)).mono ?_⟩
  rintro e w2 ⟨rfl, S', o2, m2⟩
  exact ⟨rfl, R', S', hO.step2 m1 o1 m2 o2 (by rw [nthR_mapf _ J htJ, List.map_set, List.map_take]) (by rw [nthR_mapf _ J htJ, List.map_set, List.map_drop])⟩

/-- 'each' with the sweep -/
theorem sweep2_any (w0 : World) (a : Option Addr) (n c : Nat) (R : List (Option Addr × Nat)) (a2 : Option Addr) (c2 : Nat) (S : List (Option Addr × Nat)) (len m : Nat) (J : List (List Int)) (p q pg pi px pt : Nat) (i : Nat) (x : Int) (t : Nat) (hO : OMat2 w w0.heap.size a n c R a2 c2 S len J)
    (hp : w.cell? ⟨p, 0, none⟩ = some (.slice a n c)) (hq : w.cell? ⟨q, 0, none⟩ = some (.slice a2 n c2)) (nq : ¬ I2 a R a2 S q)
    (h : GFw w0 b G) (hb : Below w0.heap.size w0 w)
    (hg : w.cell? ⟨pg, 0, none⟩ = some (.pointer (some ⟨b, 0, none⟩))) (hi : w.cell? ⟨pi, 0, none⟩ = some (.int .i64 i)) (hx : w.cell? ⟨px, 0, none⟩ = some (.int .i64 x)) (ht : w.cell? ⟨pt, 0, none⟩ = some (.int .i64 t))
    (hin : i < n) (htn : t < n) (hit : i ≠ t) (hxe : G.El x) (ng : ¬ I2 a R a2 S pg) (ni : ¬ I2 a R a2 S pi) (nx : ¬ I2 a R a2 S px) (nt : ¬ I2 a R a2 S pt) (hei : G.Els (nthR J i)) (het : G.Els (nthR J t)) (hli : (nthR J i).length = m) (hlt : (nthR J t).length = m) (hlm : len ≤ m) (hn : n ≤ 1000000) :
    Calls Tryz.prog 177 #[.func (.func 180) #[] #[.pointer (some ⟨pg, 0, none⟩), .pointer (some ⟨pi, 0, none⟩), .pointer (some ⟨px, 0, none⟩), .pointer (some ⟨pt, 0, none⟩)], .pointer (some ⟨p, 0, none⟩), .pointer (some ⟨q, 0, none⟩)] w
      fun e w' => e = .returned (.tuple #[]) ∧ OMat2 w' w0.heap.size a n c R a2 c2 S len (J.set i (addRow G.ops (nthR J i) (G.neg x) (nthR J t))) ∧ Moves w w' (I2 a R a2 S) (I2 a R a2 S) := by
  have hJ := hO.ll
  have htJ : t < J.length := by omega
  have hiJ : i < J.length := by omega
  refine each4b_any _ _ _ _ p q a n c a2 n c2 _ hp (by omega) (by omega) ((sweep_any w0 a n c R _ pg pi px pt len i x t hO.om1 h hb hg hi hx ht hin htn hit hxe (fun h => ng (.inl h)) (fun h => ni (.inl h)) (fun h => nx (.inl h)) (fun h => nt (.inl h))
    (by rw [nthR_mapf _ J hiJ]; exact fun x hx => hei x (List.mem_of_mem_take hx)) (by rw [nthR_mapf _ J htJ]; exact fun x hx => het x (List.mem_of_mem_take hx)) (by rw [nthR_mapf _ J hiJ, List.length_take]; omega) (by rw [nthR_mapf _ J htJ, List.length_take]; omega)).mono ?_)
  rintro e w1 ⟨rfl, o1, m1⟩
  have hb1 : Below w0.heap.size w0 w1 := hb.trans (m1.below (fun b' hb' => (hO.om1.lt b' hb').1) hb.size)
  refine ⟨rfl, m1.cell hq (fun h => nq (.inl h)), (sweep_any w0 a2 n c2 S _ pg pi px pt (m - len) i x t (hO.step1 m1) h hb1 (m1.cell hg (fun h => ng (.inl h))) (m1.cell hi (fun h => ni (.inl h))) (m1.cell hx (fun h => nx (.inl h))) (m1.cell ht (fun h => nt (.inl h))) hin htn hit hxe
    (fun h => ng (.inr h)) (fun h => ni (.inr h)) (fun h => nx (.inr h)) (fun h => nt (.inr h))
    (by rw [nthR_mapf _ J hiJ]; exact fun x hx => hei x (List.mem_of_mem_drop hx)) (by rw [nthR_mapf _ J htJ]; exact fun x hx => het x (List.mem_of_mem_drop hx)) (by rw [nthR_mapf _ J hiJ, List.length_drop]; omega) (by rw [nthR_mapf _ J htJ, List.length_drop]; omega)).mono ?_⟩
  rintro e w2 ⟨rfl, o2, m2⟩
  exact ⟨rfl, hO.step2 m1 o1 m2 o2 (by rw [nthR_mapf _ J hiJ, nthR_mapf _ J htJ, List.map_set, addRow_take]) (by rw [nthR_mapf _ J hiJ, nthR_mapf _ J htJ, List.map_set, addRow_drop])⟩
end

end Go.Proofs.YtakmnncmeefceaaGreat
