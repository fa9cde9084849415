/- The walk of ExclusionSound. -/
import Derived.Test.YtcflcogbpnmjeaaGreatK29
import Derived.Test.YtcflcogbpnmjeaaGreatK33
import Derived.Test.YtcflcogbpnmjeaaGreatK19
import Derived.Test.YtcflcogbpnmjeaaGreatK31
import Derived.Test.YtcflcogbpnmjeaaGreatK20
namespace Go.Proofs.YtcflcogbpnmjeaaGreat
set_option linter.unusedVariables false
set_option linter.unusedSimpArgs false
set_option linter.unusedSectionVars false

/- The walks of coset, CheckCoset, BuildCoset of the package exclusion. -/
section
open Go.RowKit

theorem elsQ_els {G : Tbl} {l : List Int} (h : elsQ G.q l = true) : G.Els l := fun x hx => by
  have h1 := List.all_eq_true.1 h x hx
  simpa [isQ, Tbl.El] using h1
theorem exCos1_any {w : World} {b : Nat} {G : Tbl} (q pb : Nat) (x : Int) (hc : w.cell? ⟨q, 0, none⟩ = some (.pointer (some ⟨pb, 0, none⟩))) (hp : w.cell? ⟨pb, 0, none⟩ = some (.pointer (some ⟨b, 0, none⟩))) (h : GFw w b G) :
    Calls Tryz.prog 118 #[.int .i64 x, .pointer (some ⟨q, 0, none⟩)] w fun e w' => e = .returned (.bool (!(decide (0 ≤ x) && decide (x < G.q)))) ∧ w = w' := by
  go_enter Tryz.func118, Tryz.ntmps118
  go_wp2_with fail
  refine (gIs x h).mono ?_
  rintro e w' ⟨rfl, rfl⟩
  obtain ⟨z, hz⟩ : ∃ z, (decide (0 ≤ x) && decide (x < G.q)) = z := ⟨_, rfl⟩
  have Hz := Lib.hid hz
  rw [hz]
  clear hz
  cases z
  · go_wp2_with fail
    go_ret
    exact ⟨ret_bool (by rw [Hz.out]; rfl), rfl⟩
  · go_wp2_with fail
    go_ret
    exact ⟨ret_bool (by rw [Hz.out]; rfl), rfl⟩

set_option maxRecDepth 100000 in
set_option maxHeartbeats 1600000 in
theorem indexCos_any (p : Int → Bool) (q : Nat) (a : Option Addr) (n c : Nat) (l : List Int) (w : World) (hi : Ints w a n l) (hf : ∀ k, k < n → Calls Tryz.prog 118 #[.int .i64 (nth l k), .pointer (some ⟨q, 0, none⟩)] w fun e w' => e = .returned (.bool (p (nth l k))) ∧ w = w') :
    Calls Tryz.prog 68 #[.slice a n c, .func (.func 118) #[] #[.pointer (some ⟨q, 0, none⟩)]] w fun e w' => ∃ z : Int, e = .returned (.int .i64 z) ∧ (0 ≤ z ↔ l.any p = true) ∧ w = w' := by
  have hpl := hi.pl
  have hmax := hi.max
  have HF := Lib.hid hf
  have Hl := Lib.hid hi.len
  unfold maxLen at hmax
  clear hf
  go_enter Tryz.func68, Tryz.ntmps68
  go_wp2_with fail
  go_loop [8] (fun iv => ∃ k : Nat, k ≤ n ∧ iv = .int .i64 k ∧ Hid (∀ j, j < k → p (nth l j) = false)) (fun iv => n - (intOf iv).toNat)
  case atStart => exact ⟨0, Nat.zero_le _, rfl, fun j hj => by omega⟩
  case round =>
    obtain ⟨k, hk, rfl, hno⟩ := hrel
    by_cases hlt : k < n
    · have ck := hi.cell k hlt
      have hfk := HF.out k hlt
      obtain ⟨z, hz⟩ : ∃ z, p (nth l k) = z := ⟨_, rfl⟩
      rw [hz] at hfk
      have Hk := Lib.hid hfk
      cases z
      · have Hn : Hid (∀ j, j < k + 1 → p (nth l j) = false) := fun j hj => by
          by_cases e : j = k
          · subst e; exact hz
          · exact hno.out j (by omega)
        clear hz hfk hno
        go_wp2_with fail
        refine Hk.out.mono ?_
        rintro e w' ⟨rfl, rfl⟩
        go_wp2_with fail
        go_round
        case rel => exact ⟨k + 1, by omega, by go_num, Hn.out⟩
        case measure => simp [intOf] <;> omega
      · have Hy : Hid (l.any p = true) := by
          show _ = _
          rw [List.any_eq_true]
          exact ⟨nth l k, nth_mem (by rw [Hl.out]; exact hlt), hz⟩
        clear hz hfk hno
        go_wp2_with fail
        refine Hk.out.mono ?_
        rintro e w' ⟨rfl, rfl⟩
        go_wp2_with fail
        go_ret
        exact ⟨k, rfl, ⟨fun _ => by first | exact Hy.out | exact List.any_eq_true.1 Hy.out, fun _ => Int.natCast_nonneg _⟩, rfl⟩
    · obtain rfl : k = n := by omega
      have Hy : Hid (l.any p = false) := by
        show _ = _
        rw [List.any_eq_false]
        intro x hx
        obtain ⟨j, hj, rfl⟩ := List.mem_iff_getElem.1 hx
        have := hno.out j (by rw [← Hl.out]; exact hj)
        rw [nth_getElem hj] at this
        rw [this]; decide
      go_wp2_with fail
      go_ret
      exact ⟨-1, rfl, ⟨fun h => absurd h (by omega), fun h => by have h2 : l.any p = true := (by first | exact h | exact List.any_eq_true.2 h); rw [Hy.out] at h2; exact absurd h2 (by decide)⟩, rfl⟩
theorem containsCos_any (p : Int → Bool) (q : Nat) (a : Option Addr) (n c : Nat) (l : List Int) (w : World) (hi : Ints w a n l) (hf : ∀ k, k < n → Calls Tryz.prog 118 #[.int .i64 (nth l k), .pointer (some ⟨q, 0, none⟩)] w fun e w' => e = .returned (.bool (p (nth l k))) ∧ w = w') :
    Calls Tryz.prog 117 #[.slice a n c, .func (.func 118) #[] #[.pointer (some ⟨q, 0, none⟩)]] w fun e w' => e = .returned (.bool (l.any p)) ∧ w = w' := by
  have Hc := Lib.hid (indexCos_any p q a n c l w hi hf)
  clear hf
  go_enter Tryz.func117, Tryz.ntmps117
  go_wp2_with fail
  refine Hc.out.mono ?_
  rintro e w' ⟨z, rfl, hz, rfl⟩
  by_cases h0 : 0 ≤ z
  · have Hz : Hid (l.any p = true) := hz.1 h0
    have h0' : decide (0 ≤ z) = true := by simpa using h0
    clear hz h0
    go_wp2_with fail
    go_ret
    exact ⟨ret_bool Hz.out.symm, rfl⟩
  · have Hz : Hid (l.any p = false) := by
      show _ = _
      cases h : l.any p
      · rfl
      · exact absurd (hz.2 h) h0
    have h0' : decide (0 ≤ z) = false := by simpa using h0
    clear hz h0
    go_wp2_with fail
    go_ret
    exact ⟨ret_bool Hz.out.symm, rfl⟩

def cosE (P M : Int) (mod : List Int) (N : Int) (L : List (List Int)) (y : List Int) (W : Int) : Int :=
  if codeE P M mod N L = 0 then (if (y.length : Int) ≠ N then 4 else if elsQ (tblOf P M.toNat mod).q y = false then 2 else if W < 0 ∨ N < W then 6 else 0) else codeE P M mod N L
def ExCosetPost (P M : Int) (am : Option Addr) (mn cm : Nat) (mod : List Int) (N : Int) (a : Option Addr) (n c : Nat) (L : List (List Int)) (ay : Option Addr) (ny cy : Nat) (y : List Int) (W : Int) (w : World) (e : Ending) (w' : World) : Prop :=
  Below w.heap.size w w' ∧ ((cosE P M mod N L y W ≠ 0 ∧ e = .returned (.tuple #[.pointer none, .int .i64 (cosE P M mod N L y W)])) ∨
  (cosE P M mod N L y W = 0 ∧ ∃ pb, e = .returned (.tuple #[.pointer (some ⟨pb, 0, none⟩), .int .i64 0]) ∧ ExClaim P M am mn cm mod N.toNat a n c L ay ny cy ⟨0, W.toNat, true, y⟩ w w' pb))

set_option maxRecDepth 100000 in
set_option maxHeartbeats 1600000 in
theorem exCoset_any (P M : Int) (am : Option Addr) (mn cm : Nat) (mod : List Int) (N : Int) (a : Option Addr) (n c : Nat) (L : List (List Int)) (ay : Option Addr) (ny cy : Nat) (y : List Int) (W : Int) (w : World) (hmod : Ints w am mn mod) (hi : Mat w a n L) (hy : Ints w ay ny y) :
    Calls Tryz.prog 65 #[.agg #[.int .i64 P, .int .i64 M, .slice am mn cm, .int .i64 N, .slice a n c], .slice ay ny cy, .int .i64 W] w (ExCosetPost P M am mn cm mod N a n c L ay ny cy y W w) := by
  have Hil := Lib.hid hi.len
  have Hyl := Lib.hid hy.len
  go_enter Tryz.func65, Tryz.ntmps65
  go_wp2_with fail
  obtain ⟨U, hU⟩ : ∃ U : World, U = w.alloc (.cells #[.int .i64 P, .int .i64 M, .slice am mn cm, .int .i64 N, .slice a n c] 27) := ⟨_, rfl⟩
  rw [← hU]
  have hbU : Below w.heap.size w U := by rw [hU]; exact below1 _ _
  have x0 : Box U w.heap.size [.int .i64 P, .int .i64 M, .slice am mn cm, .int .i64 N, .slice a n c] := by rw [hU]; exact Box.new _ _ _ rfl
  have HX := Lib.hid x0
  clear hU x0
  refine (exOpen_any P M am mn cm mod N a n c L W U (hmod.keep hbU) (hi.keep hbU)).mono ?_
  rintro e w1 ⟨hb1, ⟨hE, rfl⟩ | ⟨hE, b, w2, rfl, hb2, hG, hb3, hB⟩⟩
  · have HE : Hid (cosE P M mod N L y W = codeE P M mod N L) := if_neg hE
    have Hne := Lib.hid hE
    have hE1 : (codeE P M mod N L == 0) = false := by simpa using hE
    have hE2 : (codeE P M mod N L != 0) = true := by simpa using hE
    have hbF := Below.next (Below.next hbU hb1) (below1 w1 (.cells #[.pointer none] 88))
    clear hE
    go_wp2_with fail
    go_ret2
    exact ⟨hbF, .inl ⟨by rw [HE.out]; exact Hne.out, by rw [HE.out]; rfl⟩⟩
  · have HE : Hid (cosE P M mod N L y W = if (ny : Int) ≠ N then 4 else if elsQ (tblOf P M.toNat mod).q y = false then 2 else if W < 0 ∨ N < W then 6 else 0) := by show _ = _; rw [cosE, if_pos hE, Hyl.out]
    have Hrw := Lib.hid (codeE_rws hE)
    have hbn := below1 w1 (.cells #[.pointer (some ⟨w2.heap.size, 0, none⟩)] 88)
    have hbF := Below.next (Below.next hbU hb1) hbn
    have xq : (w1.alloc (.cells #[.pointer (some ⟨w2.heap.size, 0, none⟩)] 88)).cell? ⟨w1.heap.size, 0, none⟩ = some (.pointer (some ⟨w2.heap.size, 0, none⟩)) := cell_alloc_at _ _ _ rfl 0
    have hB4 := hB.keep hbn
    have hb34 := Below.next hb3 hbn
    have hG4 := hG.keep hb34
    have x4 := (HX.out.keep hb1).keep hbn
    have c3 := x4.cell 3 rfl
    have p0 := hB4.cell 0 rfl
    have hy4 := (hy.keep hbU).keep (Below.next hb1 hbn)
    have HCo := Lib.hid (containsCos_any (fun x => !(decide (0 ≤ x) && decide (x < (tblOf P M.toNat mod).q))) w1.heap.size ay ny cy y _ hy4 fun k hk => exCos1_any w1.heap.size w2.heap.size (nth y k) xq p0 hG4)
    rw [any_els] at HCo
    have HB := Lib.hid hB4
    have HB1 := Lib.hid hB
    have hmf : ∀ (fn : Fn) (first cap : Array Value) (w : World), (Instr.makeFunc fn first cap).run Tryz.prog w = .ok (.func fn first cap) w := fun _ _ _ _ => rfl
    have hsw1 : w2.heap.size ≠ w1.heap.size := by have := hB.1; omega
    clear hB p0 hE hy4 hG4
    by_cases h1 : (ny : Int) ≠ N
    · have HE2 : Hid (cosE P M mod N L y W = 4) := by show _ = _; rw [HE.out, if_pos h1]
      have d1 : ((ny : Int) != N) = true := by simpa using h1
      clear h1
      go_wp2_with fail
      go_ret2
      exact ⟨hbF, .inl ⟨by rw [HE2.out]; decide, by rw [HE2.out]; rfl⟩⟩
    have hny : (ny : Int) = N := Classical.not_not.1 h1
    have d1 : ((ny : Int) != N) = false := by simp [hny]
    have HE1 : Hid (cosE P M mod N L y W = if elsQ (tblOf P M.toNat mod).q y = false then 2 else if W < 0 ∨ N < W then 6 else 0) := by show _ = _; rw [HE.out, if_neg h1]
    have Hny := Lib.hid hny
    clear h1 hny
    obtain ⟨ze, hze⟩ : ∃ ze, elsQ (tblOf P M.toNat mod).q y = ze := ⟨_, rfl⟩
    rw [hze] at HCo HE1
    have Hze := Lib.hid hze
    clear hze
    cases ze
    · have HE2 : Hid (cosE P M mod N L y W = 2) := by show _ = _; rw [HE1.out, if_pos rfl]
      go_wp2_with fail
      refine HCo.out.mono ?_
      rintro e w5 ⟨rfl, rfl⟩
      go_wp2_with fail
      go_ret2
      exact ⟨hbF, .inl ⟨by rw [HE2.out]; decide, by rw [HE2.out]; rfl⟩⟩
    have HE3 : Hid (cosE P M mod N L y W = if W < 0 ∨ N < W then 6 else 0) := by show _ = _; rw [HE1.out, if_neg (by decide)]
    by_cases h3 : W < 0
    · have HE2 : Hid (cosE P M mod N L y W = 6) := by show _ = _; rw [HE3.out, if_pos (.inl h3)]
      have d3 : decide (W < 0) = true := by simpa using h3
      clear h3
      go_wp2_with fail
      refine HCo.out.mono ?_
      rintro e w5 ⟨rfl, rfl⟩
      go_wp2_with fail
      go_ret2
      exact ⟨hbF, .inl ⟨by rw [HE2.out]; decide, by rw [HE2.out]; rfl⟩⟩
    have d3 : decide (W < 0) = false := by simpa using h3
    by_cases h4 : N < W
    · have HE2 : Hid (cosE P M mod N L y W = 6) := by show _ = _; rw [HE3.out, if_pos (.inr h4)]
      have d4 : decide (N < W) = true := by simpa using h4
      clear h3 h4
      go_wp2_with fail
      refine HCo.out.mono ?_
      rintro e w5 ⟨rfl, rfl⟩
      go_wp2_with fail
      go_ret2
      exact ⟨hbF, .inl ⟨by rw [HE2.out]; decide, by rw [HE2.out]; rfl⟩⟩
    have d4 : decide (N < W) = false := by simpa using h4
    have HE2 : Hid (cosE P M mod N L y W = 0) := by
      show _ = _
      rw [HE3.out, if_neg]
      rintro (h | h)
      · exact h3 h
      · exact h4 h
    obtain ⟨m, hm, hm1, hm2, hLl, hRw⟩ := Hrw.out
    have hPE0 : Hid (PEnv w2 b (tblOf P M.toNat mod) a n L N.toNat ay ny ⟨0, W.toNat, true, y⟩) := by
      have hn256 : n ≤ 1000000 := by rw [← Hil.out]; omega
      have hNm : N.toNat = ny := by have := Hny.out; omega
      have hyw2 := (hy.keep hbU).keep hb2
      exact { g := hG, mat := (hi.keep hbU).keep hb2, rws := by rw [hm, Int.toNat_natCast]; exact hRw, n6 := hn256, m6 := by omega, w6 := by show W.toNat ≤ 64; omega, yl := fun _ => hNm.symm, y := fun _ => by rw [hNm]; exact hyw2, ye := fun _ => elsQ_els Hze.out }
    have Hnn := Lib.hid (And.intro (show 0 ≤ N by omega) (show 0 ≤ W by omega))
    go_wp2_with fail
    refine HCo.out.mono ?_
    rintro e w5 ⟨rfl, rfl⟩
    clear HCo
    go_wp2_with fail
    obtain ⟨Y, hY⟩ : ∃ Y : World, Y = w1.alloc (.cells #[.pointer (some ⟨w2.heap.size, 0, none⟩)] 88) := ⟨_, rfl⟩
    rw [← hY] at HB xq hbF hb34 ⊢
    have HF : Hid (∀ Z : World, Z = ((Y.setCell ⟨w2.heap.size, 6, none⟩ (.slice ay ny cy)).setCell ⟨w2.heap.size, 7, none⟩ (.bool true)).drew → ExCosetPost P M am mn cm mod N a n c L ay ny cy y W w (.returned (.tuple #[.pointer (some ⟨w2.heap.size, 0, none⟩), .int .i64 0])) Z) := fun Z hZ => by
      rw [hZ]
      have h5 := ((HB.out.setCell 6 (.slice ay ny cy)).setCell 7 (.bool true)).keep (Below.refl _ _).drew
      refine ⟨((hbF.setCell (p := ⟨w2.heap.size, 6, none⟩) (Nat.le_trans hbU.size hb2.size) _).setCell (p := ⟨w2.heap.size, 7, none⟩) (Nat.le_trans hbU.size hb2.size) _).drew, .inr ⟨HE2.out, w2.heap.size, rfl, b, w2, rfl, Below.next hbU hb2, hPE0.out, ((hb34.setCell (by simp) _).setCell (by simp) _).drew, ?_⟩⟩
      rw [prfL]
      dsimp only
      rw [Int.toNat_of_nonneg Hnn.out.1, Int.toNat_of_nonneg Hnn.out.2]
      exact h5
    have HF2 : Hid (∀ Z : World, Z = ((Y.setCell ⟨w2.heap.size, 6, none⟩ (.slice ay ny cy)).setCell ⟨w2.heap.size, 7, none⟩ (.bool true)) → ExCosetPost P M am mn cm mod N a n c L ay ny cy y W w (.returned (.tuple #[.pointer (some ⟨w2.heap.size, 0, none⟩), .int .i64 0])) Z) := fun Z hZ => by
      rw [hZ]
      have h5 := ((HB.out.setCell 6 (.slice ay ny cy)).setCell 7 (.bool true))
      refine ⟨((hbF.setCell (p := ⟨w2.heap.size, 6, none⟩) (Nat.le_trans hbU.size hb2.size) _).setCell (p := ⟨w2.heap.size, 7, none⟩) (Nat.le_trans hbU.size hb2.size) _), .inr ⟨HE2.out, w2.heap.size, rfl, b, w2, rfl, Below.next hbU hb2, hPE0.out, ((hb34.setCell (by simp) _).setCell (by simp) _), ?_⟩⟩
      rw [prfL]
      dsimp only
      rw [Int.toNat_of_nonneg Hnn.out.1, Int.toNat_of_nonneg Hnn.out.2]
      exact h5
    have f6 := HB.out.frozen 6
    have q6 := HB.out.cell 6 rfl
    have f7 := HB.out.frozen 7
    have q7 := HB.out.cell 7 rfl
    have s7 : (Y.setCell ⟨w2.heap.size, 6, none⟩ (.slice ay ny cy)).cell? ⟨w2.heap.size, 7, none⟩ = some (.bool false) := (HB.out.setCell 6 (.slice ay ny cy)).cell 7 rfl
    have s6 : (Y.setCell ⟨w2.heap.size, 7, none⟩ (.bool true)).cell? ⟨w2.heap.size, 6, none⟩ = some (.slice none 0 0) := (HB.out.setCell 7 (.bool true)).cell 6 rfl
    have x6 : (Y.setCell ⟨w2.heap.size, 6, none⟩ (.slice ay ny cy)).cell? ⟨w1.heap.size, 0, none⟩ = some (.pointer (some ⟨w2.heap.size, 0, none⟩)) := by
      rw [World.cell?_setCell_other _ _ _ _ (by simp <;> omega)]; exact xq
    have x7 : (Y.setCell ⟨w2.heap.size, 7, none⟩ (.bool true)).cell? ⟨w1.heap.size, 0, none⟩ = some (.pointer (some ⟨w2.heap.size, 0, none⟩)) := by
      rw [World.cell?_setCell_other _ _ _ _ (by simp <;> omega)]; exact xq
    have x67 : ((Y.setCell ⟨w2.heap.size, 6, none⟩ (.slice ay ny cy)).setCell ⟨w2.heap.size, 7, none⟩ (.bool true)).cell? ⟨w1.heap.size, 0, none⟩ = some (.pointer (some ⟨w2.heap.size, 0, none⟩)) := by
      rw [World.cell?_setCell_other _ _ _ _ (by simp <;> omega)]; exact x6
    clear h3 h4 hm hm1 hm2 hY hbF hb34
    go_region
    all_goals (
      go_wp2_with fail
      go_ret2
      first | exact HF.out _ rfl | exact HF2.out _ rfl)

def chkCE (P M : Int) (mod : List Int) (N : Int) (L : List (List Int)) (y : List Int) (W : Int) (ts : List (List Int)) : Int :=
  if cosE P M mod N L y W = 0 then provS (tblOf P M.toNat mod).ops L N.toNat ⟨0, W.toNat, true, y⟩ ts else cosE P M mod N L y W
def bldCE (P M : Int) (mod : List Int) (N : Int) (L : List (List Int)) (y : List Int) (W : Int) : Int × List (List Int) :=
  if cosE P M mod N L y W = 0 then treeS (tblOf P M.toNat mod).ops L N.toNat ⟨0, W.toNat, true, y⟩ else (cosE P M mod N L y W, [])

set_option maxRecDepth 100000 in
set_option maxHeartbeats 1600000 in
theorem exCheckCoset_any (P M : Int) (am : Option Addr) (mn cm : Nat) (mod : List Int) (N : Int) (a : Option Addr) (n c : Nat) (L : List (List Int)) (ay : Option Addr) (ny cy : Nat) (y : List Int) (W : Int) (ax : Option Addr) (nx cx : Nat) (ts : List (List Int)) (w : World)
    (hmod : Ints w am mn mod) (hi : Mat w a n L) (hy : Ints w ay ny y) (hts : Mat w ax nx ts) :
    Calls Tryz.prog 25 #[.agg #[.int .i64 P, .int .i64 M, .slice am mn cm, .int .i64 N, .slice a n c], .slice ay ny cy, .int .i64 W, .agg #[.slice ax nx cx]] w fun e w' => e = .returned (.int .i64 (chkCE P M mod N L y W ts)) ∧ Below w.heap.size w w' := by
  go_enter Tryz.func25, Tryz.ntmps25
  go_wp2_with fail
  obtain ⟨U, hU⟩ : ∃ U : World, U = (w.alloc (.cells #[.int .i64 P, .int .i64 M, .slice am mn cm, .int .i64 N, .slice a n c] 27)).alloc (.cells #[.slice ax nx cx] 37) := ⟨_, rfl⟩
  rw [← hU]
  have hbU : Below w.heap.size w U := by rw [hU]; exact below2 _ _ _
  have x0 : Box U (w.heap.size + 1) [.slice ax nx cx] := by rw [hU]; exact Box.new _ _ _ (by simp)
  have HX := Lib.hid x0
  clear hU x0
  refine (exCoset_any P M am mn cm mod N a n c L ay ny cy y W U (hmod.keep hbU) (hi.keep hbU) (hy.keep hbU)).mono ?_
  rintro e w1 ⟨hb1, ⟨hE, rfl⟩ | ⟨hE, pb, rfl, hCl⟩⟩
  · have HE : Hid (chkCE P M mod N L y W ts = cosE P M mod N L y W) := if_neg hE
    have hE1 : (cosE P M mod N L y W == 0) = false := by simpa using hE
    have hE2 : (cosE P M mod N L y W != 0) = true := by simpa using hE
    have hbF := Below.next hbU hb1
    clear hE
    go_wp2_with fail
    go_ret
    exact ⟨by rw [HE.out]; rfl, hbF⟩
  · have HE : Hid (chkCE P M mod N L y W ts = provS (tblOf P M.toNat mod).ops L N.toNat ⟨0, W.toNat, true, y⟩ ts) := if_pos hE
    have x1 := HX.out.keep hb1
    have c0 := x1.cell 0 rfl
    obtain ⟨b, w2, rfl, hb2, hPE, hb3, hB⟩ := hCl
    have HPr := Lib.hid (exProves_any w2.heap.size P M am mn cm c cy ax nx cx ts hPE ((hts.keep hbU).keep hb2) (Nat.le_refl _) hb3 hB)
    have hbw2 := Below.next hbU hb2
    clear x1 hB hPE hE
    go_wp2_with fail
    refine HPr.out.mono ?_
    rintro e w3 ⟨rfl, hb4⟩
    have hbF := Below.next hbw2 hb4
    go_wp2_with fail
    go_ret
    exact ⟨by rw [HE.out]; rfl, hbF⟩

set_option maxRecDepth 100000 in
set_option maxHeartbeats 1600000 in
theorem exBuildCoset_any (P M : Int) (am : Option Addr) (mn cm : Nat) (mod : List Int) (N : Int) (a : Option Addr) (n c : Nat) (L : List (List Int)) (ay : Option Addr) (ny cy : Nat) (y : List Int) (W : Int) (w : World)
    (hmod : Ints w am mn mod) (hi : Mat w a n L) (hy : Ints w ay ny y) :
    Calls Tryz.prog 24 #[.agg #[.int .i64 P, .int .i64 M, .slice am mn cm, .int .i64 N, .slice a n c], .slice ay ny cy, .int .i64 W] w (ExBldPost (bldCE P M mod N L y W) w) := by
  obtain ⟨V, hV⟩ : ∃ V, bldCE P M mod N L y W = V := ⟨_, rfl⟩
  rw [hV]
  have HV := Lib.hid hV
  clear hV
  go_enter Tryz.func24, Tryz.ntmps24
  go_wp2_with fail
  obtain ⟨U, hU⟩ : ∃ U : World, U = (w.alloc (.cells #[.int .i64 P, .int .i64 M, .slice am mn cm, .int .i64 N, .slice a n c] 27)).alloc (.cells #[.slice none 0 0] 37) := ⟨_, rfl⟩
  rw [← hU]
  have hbU : Below w.heap.size w U := by rw [hU]; exact below2 _ _ _
  have hsU : U.heap.size = w.heap.size + 2 := by rw [hU]; simp
  have x0 : Box U (w.heap.size + 1) [.slice none 0 0] := by rw [hU]; exact Box.new _ _ _ (by simp)
  have HX := Lib.hid x0
  clear hU x0
  refine (exCoset_any P M am mn cm mod N a n c L ay ny cy y W U (hmod.keep hbU) (hi.keep hbU) (hy.keep hbU)).mono ?_
  rintro e w1 ⟨hb1, ⟨hE, rfl⟩ | ⟨hE, pb, rfl, hCl⟩⟩
  · have HE : Hid (V = (cosE P M mod N L y W, [])) := by show _ = _; rw [← HV.out]; exact if_neg hE
    have hE1 : (cosE P M mod N L y W == 0) = false := by simpa using hE
    have hE2 : (cosE P M mod N L y W != 0) = true := by simpa using hE
    have Hne := Lib.hid hE
    have x1 := HX.out.keep hb1
    have z0 := x1.cell 0 rfl
    have f0 := x1.frozen 0
    have HF := Lib.hid (fun v : Value => (Below.next hbU hb1).setCell (p := ⟨w.heap.size + 1, 0, none⟩) (by simp) v)
    clear hE x1
    generalize cosE P M mod N L y W = er at *
    go_wp2_with fail
    have z1 : (w1.setCell ⟨w.heap.size + 1, 0, none⟩ (.slice none 0 0)).cell? ⟨w.heap.size + 1, 0, none⟩ = some (.slice none 0 0) := World.cell?_setCell_same _ _ _ z0
    exact bodyPost_ret (v := .tuple #[.agg #[.slice none 0 0], .int .i64 er]) (by simp [results, Tryz.results24, go_sem, z0, z1]) rfl ⟨HF.out _, .inl ⟨by rw [HE.out]; exact Hne.out, by rw [HE.out]⟩⟩
  · have HE : Hid (treeS (tblOf P M.toNat mod).ops L N.toNat ⟨0, W.toNat, true, y⟩ = V) := by show _ = _; rw [← HV.out]; exact (if_pos hE).symm
    have x1 := HX.out.keep hb1
    obtain ⟨b, w2, rfl, hb2, hPE, hb3, hB⟩ := hCl
    have HPr := exTree_any w2.heap.size P M am mn cm c cy hPE (Nat.le_refl _) hb3 hB
    rw [HE.out] at HPr
    have HTr := Lib.hid HPr
    have hbw2 := Below.next hbU hb2
    have x2 := HX.out.keep hb2
    have hs2 : w.heap.size + 1 < w2.heap.size := x2.1
    clear x1 hB hPE hE HPr
    go_wp2_with fail
    refine HTr.out.mono ?_
    rintro e w3 ⟨hb4, ⟨hv, rfl⟩ | ⟨hv, ar, cr, R, rfl, hO⟩⟩
    · have x3 := x2.keep hb4
      have z0 := x3.cell 0 rfl
      have f0 := x3.frozen 0
      have HF := Lib.hid (fun v : Value => (Below.next hbw2 hb4).setCell (p := ⟨w.heap.size + 1, 0, none⟩) (by simp) v)
      have Hne := Lib.hid hv
      obtain ⟨ve, vt⟩ := V
      dsimp only at Hne ⊢
      clear x3 hv
      go_wp2_with fail
      have z1 : (w3.setCell ⟨w.heap.size + 1, 0, none⟩ (.slice none 0 0)).cell? ⟨w.heap.size + 1, 0, none⟩ = some (.slice none 0 0) := World.cell?_setCell_same _ _ _ z0
      exact bodyPost_ret (v := .tuple #[.agg #[.slice none 0 0], .int .i64 ve]) (by simp [results, Tryz.results24, go_sem, z0, z1]) rfl ⟨HF.out _, .inl ⟨Hne.out, rfl⟩⟩
    · have x3 := x2.keep hb4
      have z0 := x3.cell 0 rfl
      have f0 := x3.frozen 0
      have hF : ∀ v : Value, Below w.heap.size w (w3.setCell ⟨w.heap.size + 1, 0, none⟩ v) ∧ OMat (w3.setCell ⟨w.heap.size + 1, 0, none⟩ v) w.heap.size ar V.2.length cr R V.2 := fun v => by
        refine ⟨(Below.next hbw2 hb4).setCell (by simp) v, ?_⟩
        refine (OMat.mono hO hbw2.size).of_blocks fun x hx => Below.heap_setCell _ _ _ _ fun e => ?_
        have h1 := (hO.lt x hx).1
        have e' : x = w.heap.size + 1 := e
        omega
      have HF := Lib.hid hF
      obtain ⟨ve, vt⟩ := V
      dsimp only at hv HF ⊢
      subst hv
      clear x3 hO hF
      go_wp2_with fail
      have z1 : (w3.setCell ⟨w.heap.size + 1, 0, none⟩ (.slice ar vt.length cr)).cell? ⟨w.heap.size + 1, 0, none⟩ = some (.slice ar vt.length cr) := World.cell?_setCell_same _ _ _ z0
      exact bodyPost_ret (v := .tuple #[.agg #[.slice ar vt.length cr], .int .i64 0]) (by simp [results, Tryz.results24, go_sem, z0, z1]) rfl ⟨(HF.out _).1, .inr ⟨rfl, ar, cr, R, rfl, (HF.out _).2⟩⟩
end

/- The examples of the chapter on exclusion, reckoned (plain law). -/
section
def insS (x : Int) : List Int → List Int
  | [] => [x]
  | y :: l => if x ≤ y then x :: y :: l else y :: insS x l
def isort : List Int → List Int
  | [] => []
  | x :: l => insS x (isort l)
theorem insS_perm (x : Int) : ∀ l, (insS x l).Perm (x :: l)
  | [] => List.Perm.refl _
  | y :: l => by
    rw [insS]
    split
    · exact List.Perm.refl _
    · exact ((insS_perm x l).cons y).trans (List.Perm.swap x y l)
theorem insS_pair (x : Int) : ∀ {l : List Int}, l.Pairwise (fun a b => a ≤ b) → (insS x l).Pairwise (fun a b => a ≤ b)
  | [], _ => by simp [insS]
  | y :: l, h => by
    rw [insS]
    rw [List.pairwise_cons] at h
    split
    · rename_i hxy
      rw [List.pairwise_cons, List.pairwise_cons]
      refine ⟨fun a ha => ?_, h.1, h.2⟩
      rcases List.mem_cons.1 ha with rfl | ha
      · exact hxy
      · have := h.1 a ha; omega
    · rename_i hxy
      rw [List.pairwise_cons]
      refine ⟨fun a ha => ?_, insS_pair x h.2⟩
      rcases List.mem_cons.1 ((insS_perm x l).mem_iff.1 ha) with rfl | ha
      · omega
      · exact h.1 a ha
theorem isort_perm : ∀ l, (isort l).Perm l
  | [] => List.Perm.refl _
  | x :: l => (insS_perm x (isort l)).trans ((isort_perm l).cons x)
theorem isort_pair : ∀ l, (isort l).Pairwise (fun a b => a ≤ b)
  | [] => by simp [isort]
  | x :: l => insS_pair x (isort_pair l)
theorem sortL_isort (l : List Int) : sortL l = isort l := (sortL_unique (isort_pair l) (isort_perm l)).symm

def csetI (O : FOps) (L : List (List Int)) (m : Nat) (C : Clm) (s z : List Int) : List Int := isort (grM O L (isort z ++ frTo false (s ++ z) m) (if C.cos = true then m else C.M))
theorem csetI_eq (O : FOps) (L : List (List Int)) (m : Nat) (C : Clm) (s z : List Int) : csetS O L m C s z = csetI O L m C s z := by
  unfold csetS csetI outS
  rw [sortL_isort, sortL_isort]
def bldI (O : FOps) (L : List (List Int)) (m : Nat) (C : Clm) : Nat → List Int → List Int → List (List Int) → Int × List (List Int)
  | 0, s, z, T => if rightS O L m C s (csetI O L m C s z) = true then if T.length = 65536 then (8, []) else (0, T ++ [csetI O L m C s z]) else (11, [])
  | d + 1, s, z, T => if rightS O L m C s (csetI O L m C s z) = true then if T.length = 65536 then (8, []) else kbld (bldI O L m C d) s z (kidsS C s z (csetI O L m C s z)) (T ++ [csetI O L m C s z]) else (11, [])
theorem bldI_eq (O : FOps) (L : List (List Int)) (m : Nat) (C : Clm) : ∀ d, bldS O L m C d = bldI O L m C d
  | 0 => by
    funext s z T
    rw [bldS, bldI, csetI_eq]
  | d + 1 => by
    funext s z T
    rw [bldS, bldI, csetI_eq, bldI_eq O L m C d]
theorem treeI (O : FOps) (L : List (List Int)) (m : Nat) (C : Clm) : treeS O L m C = bldI O L m C C.W [] [] [] := by rw [treeS, bldI_eq]

def awG26 : List (List Int) := [[1, 0, 1, 0], [0, 1, 1, 1]]
theorem aw26_w2 : wtD 4 2 = 1 := by decide
theorem aw26_w3 : wtD 4 3 = 2 := by decide
theorem aw26_w1 : wtD 4 1 = 0 := by decide
theorem aw26_r21 : rkcE 2 1 [] 4 awG26 2 1 = 0 := by decide +kernel
theorem aw26_r22 : rkcE 2 1 [] 4 awG26 2 2 = 0 := by decide +kernel
theorem aw26_r12 : rkcE 2 1 [] 4 awG26 1 2 = 0 := by decide +kernel
theorem aw26_b2 : bldRE 2 1 [] 4 awG26 2 1 = (0, [[0, 1], [1, 2], [0, 2]]) := by rw [bldRE, if_pos aw26_r21, treeI]; decide +kernel
theorem aw26_b3 : bldRE 2 1 [] 4 awG26 2 2 = (11, []) := by rw [bldRE, if_pos aw26_r22, treeI]; decide +kernel
theorem aw26_b12 : bldRE 2 1 [] 4 awG26 1 2 = (0, [[0], [1], [2]]) := by rw [bldRE, if_pos aw26_r12, treeI]; decide +kernel
theorem aw26_c0 : cosE 2 1 [] 4 awG26 [1, 0, 0, 0] 0 = 0 := by decide +kernel
theorem aw26_c1 : cosE 2 1 [] 4 awG26 [1, 0, 0, 0] 1 = 0 := by decide +kernel
theorem aw26_u : bldCE 2 1 [] 4 awG26 [1, 0, 0, 0] 0 = (0, [[0, 1]]) := by rw [bldCE, if_pos aw26_c0, treeI]; decide +kernel
theorem aw26_v : bldCE 2 1 [] 4 awG26 [1, 0, 0, 0] 1 = (11, []) := by rw [bldCE, if_pos aw26_c1, treeI]; decide +kernel
theorem aw26_k1 : chkRE 2 1 [] 4 awG26 2 1 [[0, 1], [1, 2], [0, 2]] = 0 := by decide +kernel
theorem aw26_k2 : chkRE 2 1 [] 4 awG26 2 1 [[0, 1], [1, 3], [0, 2]] = 13 := by decide +kernel
theorem aw26_k3 : chkRE 2 1 [] 4 awG26 2 0 [[0, 1], [1, 2], [0, 2]] = 13 := by decide +kernel
theorem aw26_k4 : chkCE 2 1 [] 4 awG26 [1, 0, 0, 0] 0 [[0, 1]] = 0 := by decide +kernel
theorem aw26_k5 : chkCE 2 1 [] 4 awG26 [1, 0, 0, 0] 1 [[0, 1]] = 13 := by decide +kernel
theorem aw26_k6 : chkRE 2 1 [] 4 awG26 1 2 [[0], [1], [2]] = 0 := by decide +kernel
end

/- The walk of codewrightlaw26.awake. -/
section
open Go.RowKit

theorem lits (V : World) (l : List Int) (cs : Array Value) (h : cs = (l.map (Value.int .i64)).toArray) (hl : l.length ≤ 1000) {g : Nat} (hg : g = V.heap.size) : Ints (V.alloc (.cells cs 3)) (some ⟨g, 0, none⟩) l.length l := by
  subst h
  refine ⟨rfl, fun _ => rfl, by unfold maxLen; omega, fun i hi => ?_⟩
  have h1 := cell_alloc_at V ((l.map (Value.int .i64)).toArray) 3 hg i
  rw [nth_getElem hi]
  simpa [ablk, aoff, hi] using h1
theorem mlit1 (V : World) {p : Addr} {n1 c1 : Nat} {l1 : List Int} (h1 : Ints V (some p) n1 l1) {g : Nat} (hg : g = V.heap.size) : Mat (V.alloc (.cells #[.slice (some p) n1 c1] 22)) (some ⟨g, 0, none⟩) 1 [l1] :=
  ⟨rfl, fun _ => rfl, by unfold maxLen; omega, fun k hk => by
    have h := cell_alloc_at V #[.slice (some p) n1 c1] 22 hg k
    match k, hk with
    | 0, _ => exact ⟨some p, n1, c1, h, h1.keep (below1 _ _)⟩⟩
theorem mlit2 (V : World) {p q : Addr} {n1 n2 c1 c2 : Nat} {l1 l2 : List Int} (h1 : Ints V (some p) n1 l1) (h2 : Ints V (some q) n2 l2) {g : Nat} (hg : g = V.heap.size) : Mat (V.alloc (.cells #[.slice (some p) n1 c1, .slice (some q) n2 c2] 22)) (some ⟨g, 0, none⟩) 2 [l1, l2] :=
  ⟨rfl, fun _ => rfl, by unfold maxLen; omega, fun k hk => by
    have h := cell_alloc_at V #[.slice (some p) n1 c1, .slice (some q) n2 c2] 22 hg k
    match k, hk with
    | 0, _ => exact ⟨some p, n1, c1, h, h1.keep (below1 _ _)⟩
    | 1, _ => exact ⟨some q, n2, c2, h, h2.keep (below1 _ _)⟩⟩
theorem mlit3 (V : World) {p q r : Addr} {n1 n2 n3 c1 c2 c3 : Nat} {l1 l2 l3 : List Int} (h1 : Ints V (some p) n1 l1) (h2 : Ints V (some q) n2 l2) (h3 : Ints V (some r) n3 l3) {g : Nat} (hg : g = V.heap.size) :
    Mat (V.alloc (.cells #[.slice (some p) n1 c1, .slice (some q) n2 c2, .slice (some r) n3 c3] 22)) (some ⟨g, 0, none⟩) 3 [l1, l2, l3] :=
  ⟨rfl, fun _ => rfl, by unfold maxLen; omega, fun k hk => by
    have h := cell_alloc_at V #[.slice (some p) n1 c1, .slice (some q) n2 c2, .slice (some r) n3 c3] 22 hg k
    match k, hk with
    | 0, _ => exact ⟨some p, n1, c1, h, h1.keep (below1 _ _)⟩
    | 1, _ => exact ⟨some q, n2, c2, h, h2.keep (below1 _ _)⟩
    | 2, _ => exact ⟨some r, n3, c3, h, h3.keep (below1 _ _)⟩⟩
/-- three lists of two, literal -/
theorem two3 (V : World) (x1 y1 x2 y2 x3 y3 : Int) : Mat ((((V.alloc (.cells #[.int .i64 x1, .int .i64 y1] 3)).alloc (.cells #[.int .i64 x2, .int .i64 y2] 3)).alloc (.cells #[.int .i64 x3, .int .i64 y3] 3)).alloc
    (.cells #[.slice (some ⟨V.heap.size, 0, none⟩) 2 2, .slice (some ⟨V.heap.size + 1, 0, none⟩) 2 2, .slice (some ⟨V.heap.size + 1 + 1, 0, none⟩) 2 2] 22)) (some ⟨V.heap.size + 1 + 1 + 1, 0, none⟩) 3 [[x1, y1], [x2, y2], [x3, y3]] := by
  have i1 := lits V [x1, y1] #[.int .i64 x1, .int .i64 y1] rfl (by simp) rfl
  have i2 := lits (V.alloc (.cells #[.int .i64 x1, .int .i64 y1] 3)) [x2, y2] #[.int .i64 x2, .int .i64 y2] rfl (by simp) (g := V.heap.size + 1) (by simp)
  have i3 := lits ((V.alloc (.cells #[.int .i64 x1, .int .i64 y1] 3)).alloc (.cells #[.int .i64 x2, .int .i64 y2] 3)) [x3, y3] #[.int .i64 x3, .int .i64 y3] rfl (by simp) (g := V.heap.size + 1 + 1) (by simp)
  exact mlit3 _ ((i1.keep (below1 _ _)).keep (below1 _ _)) (i2.keep (below1 _ _)) i3 (by simp)
theorem one3 (V : World) (x1 x2 x3 : Int) : Mat ((((V.alloc (.cells #[.int .i64 x1] 3)).alloc (.cells #[.int .i64 x2] 3)).alloc (.cells #[.int .i64 x3] 3)).alloc
    (.cells #[.slice (some ⟨V.heap.size, 0, none⟩) 1 1, .slice (some ⟨V.heap.size + 1, 0, none⟩) 1 1, .slice (some ⟨V.heap.size + 1 + 1, 0, none⟩) 1 1] 22)) (some ⟨V.heap.size + 1 + 1 + 1, 0, none⟩) 3 [[x1], [x2], [x3]] := by
  have i1 := lits V [x1] #[.int .i64 x1] rfl (by simp) rfl
  have i2 := lits (V.alloc (.cells #[.int .i64 x1] 3)) [x2] #[.int .i64 x2] rfl (by simp) (g := V.heap.size + 1) (by simp)
  have i3 := lits ((V.alloc (.cells #[.int .i64 x1] 3)).alloc (.cells #[.int .i64 x2] 3)) [x3] #[.int .i64 x3] rfl (by simp) (g := V.heap.size + 1 + 1) (by simp)
  exact mlit3 _ ((i1.keep (below1 _ _)).keep (below1 _ _)) (i2.keep (below1 _ _)) i3 (by simp)
theorem two1 (V : World) (x1 y1 : Int) : Mat ((V.alloc (.cells #[.int .i64 x1, .int .i64 y1] 3)).alloc (.cells #[.slice (some ⟨V.heap.size, 0, none⟩) 2 2] 22)) (some ⟨V.heap.size + 1, 0, none⟩) 1 [[x1, y1]] :=
  mlit1 _ (lits V [x1, y1] #[.int .i64 x1, .int .i64 y1] rfl (by simp) rfl) (by simp)
theorem below4 (w : World) (o1 o2 o3 o4 : Obj) : Below w.heap.size w ((((w.alloc o1).alloc o2).alloc o3).alloc o4) := Below.next (below3 w o1 o2 o3) (below1 _ _)
set_option maxRecDepth 100000 in
set_option maxHeartbeats 16000000 in
theorem awake26_any (w : World) : Calls Tryz.prog 14 #[] w fun e w' => e = .returned (.bool true) ∧ Below w.heap.size w w' := by
  go_enter Tryz.func14, Tryz.ntmps14
  go_upto_region 1 with fail
  go_cut [1] (fun v wx => ∃ g gm, v = .pointer (some ⟨g, 0, none⟩) ∧ Box wx g [.int .i64 2, .int .i64 1, .slice none 0 0, .int .i64 4, .slice (some ⟨gm, 0, none⟩) 2 2] ∧ Mat wx (some ⟨gm, 0, none⟩) 2 awG26 ∧ Below w.heap.size w wx)
  case first =>
    go_wp2_with fail
    go_meet
    have i1 := lits w [1, 0, 1, 0] #[.int .i64 1, .int .i64 0, .int .i64 1, .int .i64 0] rfl (by decide) rfl
    have i2 := lits (w.alloc (.cells #[.int .i64 1, .int .i64 0, .int .i64 1, .int .i64 0] 3)) [0, 1, 1, 1] #[.int .i64 0, .int .i64 1, .int .i64 1, .int .i64 1] rfl (by decide) (g := w.heap.size + 1) (by simp)
    have hm := mlit2 (c1 := 4) (c2 := 4) _ (i1.keep (below1 _ (.cells #[.int .i64 0, .int .i64 1, .int .i64 1, .int .i64 1] 3))) i2 (g := w.heap.size + 1 + 1) (by simp)
    have hm2 := hm.keep (below1 _ (.cells #[.int .i64 2, .int .i64 1, .slice none 0 0, .int .i64 4, .slice (some ⟨w.heap.size + 1 + 1, 0, none⟩) 2 2] 27))
    exact ⟨_, w.heap.size + 1 + 1, rfl, Box.new _ [.int .i64 2, .int .i64 1, .slice none 0 0, .int .i64 4, .slice (some ⟨w.heap.size + 1 + 1, 0, none⟩) 2 2] _ (by simp), hm2, below4 _ _ _ _ _⟩
  obtain ⟨g, gm, rfl, hx, hM, hbW⟩ := hcut
  generalize wc = W at *
  have HS : Hid (∀ V, Below W.heap.size W V → V.cell? ⟨g, 0, none⟩ = some (.int .i64 2) ∧ V.cell? ⟨g, 1, none⟩ = some (.int .i64 1) ∧ V.cell? ⟨g, 2, none⟩ = some (.slice none 0 0) ∧ V.cell? ⟨g, 3, none⟩ = some (.int .i64 4) ∧ V.cell? ⟨g, 4, none⟩ = some (.slice (some ⟨gm, 0, none⟩) 2 2)) := fun V hV => by
    have h := hx.keep hV
    exact ⟨h.cell 0 rfl, h.cell 1 rfl, h.cell 2 rfl, h.cell 3 rfl, h.cell 4 rfl⟩
  have HB2 : Hid (∀ V, Below W.heap.size W V → Calls Tryz.prog 20 #[.agg #[.int .i64 2, .int .i64 1, .slice none 0 0, .int .i64 4, .slice (some ⟨gm, 0, none⟩) 2 2], .int .i64 2] V (ExBldPost ((0, [[0, 1], [1, 2], [0, 2]])) V)) := fun V hV => by
    have h := exBuildDistance_any 2 1 none 0 0 [] 4 (some ⟨gm, 0, none⟩) 2 2 awG26 2 V (Ints.nil _ _) (hM.keep hV)
    rw [aw26_w2] at h
    rw [← aw26_b2]
    exact h
  have HB3 : Hid (∀ V, Below W.heap.size W V → Calls Tryz.prog 20 #[.agg #[.int .i64 2, .int .i64 1, .slice none 0 0, .int .i64 4, .slice (some ⟨gm, 0, none⟩) 2 2], .int .i64 3] V (ExBldPost ((11, [])) V)) := fun V hV => by
    have h := exBuildDistance_any 2 1 none 0 0 [] 4 (some ⟨gm, 0, none⟩) 2 2 awG26 3 V (Ints.nil _ _) (hM.keep hV)
    rw [aw26_w3] at h
    rw [← aw26_b3]
    exact h
  have HBR : Hid (∀ V, Below W.heap.size W V → Calls Tryz.prog 54 #[.agg #[.int .i64 2, .int .i64 1, .slice none 0 0, .int .i64 4, .slice (some ⟨gm, 0, none⟩) 2 2], .int .i64 1, .int .i64 2] V (ExBldPost ((0, [[0], [1], [2]])) V)) := fun V hV => by
    rw [← aw26_b12]
    exact exBuildRank_any 2 1 none 0 0 [] 4 (some ⟨gm, 0, none⟩) 2 2 awG26 1 2 V (Ints.nil _ _) (hM.keep hV)
  have HBC0 : Hid (∀ V gy, Below W.heap.size W V → Ints V (some ⟨gy, 0, none⟩) 4 [1, 0, 0, 0] → Calls Tryz.prog 24 #[.agg #[.int .i64 2, .int .i64 1, .slice none 0 0, .int .i64 4, .slice (some ⟨gm, 0, none⟩) 2 2], .slice (some ⟨gy, 0, none⟩) 4 4, .int .i64 0] V (ExBldPost ((0, [[0, 1]])) V)) := fun V gy hV hy => by
    rw [← aw26_u]
    exact exBuildCoset_any 2 1 none 0 0 [] 4 (some ⟨gm, 0, none⟩) 2 2 awG26 (some ⟨gy, 0, none⟩) 4 4 [1, 0, 0, 0] 0 V (Ints.nil _ _) (hM.keep hV) hy
  have HBC1 : Hid (∀ V gy, Below W.heap.size W V → Ints V (some ⟨gy, 0, none⟩) 4 [1, 0, 0, 0] → Calls Tryz.prog 24 #[.agg #[.int .i64 2, .int .i64 1, .slice none 0 0, .int .i64 4, .slice (some ⟨gm, 0, none⟩) 2 2], .slice (some ⟨gy, 0, none⟩) 4 4, .int .i64 1] V (ExBldPost ((11, [])) V)) := fun V gy hV hy => by
    rw [← aw26_v]
    exact exBuildCoset_any 2 1 none 0 0 [] 4 (some ⟨gm, 0, none⟩) 2 2 awG26 (some ⟨gy, 0, none⟩) 4 4 [1, 0, 0, 0] 1 V (Ints.nil _ _) (hM.keep hV) hy
  have HCD : Hid (∀ V ax cx d ts r, wtD 4 d = r → Below W.heap.size W V → Mat V ax 3 ts → Calls Tryz.prog 21 #[.agg #[.int .i64 2, .int .i64 1, .slice none 0 0, .int .i64 4, .slice (some ⟨gm, 0, none⟩) 2 2], .int .i64 d, .agg #[.slice ax 3 cx]] V fun e w' => e = .returned (.int .i64 (chkRE 2 1 [] 4 awG26 2 r ts)) ∧ Below V.heap.size V w') := fun V ax cx d ts r hr hV ht => by
    rw [← hr]
    exact exCheckDistance_any 2 1 none 0 0 [] 4 (some ⟨gm, 0, none⟩) 2 2 awG26 d ax 3 cx ts V (Ints.nil _ _) (hM.keep hV) ht
  have HCC : Hid (∀ V gy ax cx k ts, Below W.heap.size W V → Ints V (some ⟨gy, 0, none⟩) 4 [1, 0, 0, 0] → Mat V ax 1 ts → Calls Tryz.prog 25 #[.agg #[.int .i64 2, .int .i64 1, .slice none 0 0, .int .i64 4, .slice (some ⟨gm, 0, none⟩) 2 2], .slice (some ⟨gy, 0, none⟩) 4 4, .int .i64 k, .agg #[.slice ax 1 cx]] V fun e w' => e = .returned (.int .i64 (chkCE 2 1 [] 4 awG26 [1, 0, 0, 0] k ts)) ∧ Below V.heap.size V w') := fun V gy ax cx k ts hV hy ht =>
    exCheckCoset_any 2 1 none 0 0 [] 4 (some ⟨gm, 0, none⟩) 2 2 awG26 (some ⟨gy, 0, none⟩) 4 4 [1, 0, 0, 0] k ax 1 cx ts V (Ints.nil _ _) (hM.keep hV) hy ht
  have HCR : Hid (∀ V ax cx ts, Below W.heap.size W V → Mat V ax 3 ts → Calls Tryz.prog 56 #[.agg #[.int .i64 2, .int .i64 1, .slice none 0 0, .int .i64 4, .slice (some ⟨gm, 0, none⟩) 2 2], .int .i64 1, .int .i64 2, .agg #[.slice ax 3 cx]] V fun e w' => e = .returned (.int .i64 (chkRE 2 1 [] 4 awG26 1 2 ts)) ∧ Below V.heap.size V w') := fun V ax cx ts hV ht =>
    exCheckRank_any 2 1 none 0 0 [] 4 (some ⟨gm, 0, none⟩) 2 2 awG26 1 2 ax 3 cx ts V (Ints.nil _ _) (hM.keep hV) ht
  have HW := Lib.hid hbW
  clear hx hM hbW
  have ky := below1 W (.cells #[.int .i64 1, .int .i64 0, .int .i64 0, .int .i64 0] 3)
  have HY := Lib.hid (fun V hV => (lits W [1, 0, 0, 0] #[.int .i64 1, .int .i64 0, .int .i64 0, .int .i64 0] rfl (by decide) rfl).keep hV : ∀ V, Below (W.alloc (.cells #[.int .i64 1, .int .i64 0, .int .i64 0, .int .i64 0] 3)).heap.size (W.alloc (.cells #[.int .i64 1, .int .i64 0, .int .i64 0, .int .i64 0] 3)) V → Ints V (some ⟨W.heap.size, 0, none⟩) 4 [1, 0, 0, 0])
  obtain ⟨c0, c1, c2, c3, c4⟩ := HS.out _ ky
  have Hc := Lib.hid (HB2.out _ ky)
  go_wp2_with fail
  refine Hc.out.mono ?_
  rintro e V1 ⟨b1, ⟨h0, _⟩ | ⟨_, a1, k1, R1, rfl, hO1⟩⟩
  · exact absurd rfl h0
  have n1 := below1 V1 (.cells #[.slice a1 3 k1] 37)
  have e1 := Below.next b1 n1
  have HT1 := Lib.hid (fun V hV => ⟨((Box.new V1 [.slice a1 3 k1] 37 rfl).keep hV).cell 0 rfl, (hO1.mat.keep n1).keep hV⟩ : ∀ V, Below (V1.alloc (.cells #[.slice a1 3 k1] 37)).heap.size (V1.alloc (.cells #[.slice a1 3 k1] 37)) V → V.cell? ⟨V1.heap.size, 0, none⟩ = some (.slice a1 3 k1) ∧ Mat V a1 3 [[0, 1], [1, 2], [0, 2]])
  clear c0 c1 c2 c3 c4 Hc hO1
  obtain ⟨c0, c1, c2, c3, c4⟩ := HS.out _ (Below.next ky e1)
  have Hc := Lib.hid (HB3.out _ (Below.next ky e1))
  go_wp2_with fail
  refine Hc.out.mono ?_
  rintro e V2 ⟨b2, ⟨_, rfl⟩ | ⟨h0, _⟩⟩
  rotate_left
  · exact absurd h0 (by decide)
  have n2 := below1 V2 (.cells #[.slice none 0 0] 37)
  have f2 := Below.next b2 n2
  have e2 := Below.next e1 f2
  clear c0 c1 c2 c3 c4 Hc
  obtain ⟨c0, c1, c2, c3, c4⟩ := HS.out _ (Below.next ky e2)
  have Hc := Lib.hid (HBC0.out _ W.heap.size (Below.next ky e2) (HY.out _ e2))
  go_wp2_with fail
  refine Hc.out.mono ?_
  rintro e V3 ⟨b3, ⟨h0, _⟩ | ⟨_, a3, k3, R3, rfl, hO3⟩⟩
  · exact absurd rfl h0
  have n3 := below1 V3 (.cells #[.slice a3 1 k3] 37)
  have f3 := Below.next b3 n3
  have e3 := Below.next e2 f3
  have HT3 := Lib.hid (fun V hV => ⟨((Box.new V3 [.slice a3 1 k3] 37 rfl).keep hV).cell 0 rfl, (hO3.mat.keep n3).keep hV⟩ : ∀ V, Below (V3.alloc (.cells #[.slice a3 1 k3] 37)).heap.size (V3.alloc (.cells #[.slice a3 1 k3] 37)) V → V.cell? ⟨V3.heap.size, 0, none⟩ = some (.slice a3 1 k3) ∧ Mat V a3 1 [[0, 1]])
  clear c0 c1 c2 c3 c4 Hc hO3
  obtain ⟨c0, c1, c2, c3, c4⟩ := HS.out _ (Below.next ky e3)
  have Hc := Lib.hid (HBC1.out _ W.heap.size (Below.next ky e3) (HY.out _ e3))
  go_wp2_with fail
  refine Hc.out.mono ?_
  rintro e V4 ⟨b4, ⟨_, rfl⟩ | ⟨h0, _⟩⟩
  rotate_left
  · exact absurd h0 (by decide)
  have n4 := below1 V4 (.cells #[.slice none 0 0] 37)
  have f4 := Below.next b4 n4
  have e4 := Below.next e3 f4
  clear c0 c1 c2 c3 c4 Hc
  obtain ⟨c0, c1, c2, c3, c4⟩ := HS.out _ (Below.next ky e4)
  have Hc := Lib.hid (HBR.out _ (Below.next ky e4))
  go_wp2_with fail
  refine Hc.out.mono ?_
  rintro e V5 ⟨b5, ⟨h0, _⟩ | ⟨_, a5, k5, R5, rfl, hO5⟩⟩
  · exact absurd rfl h0
  have n5 := below1 V5 (.cells #[.slice a5 3 k5] 37)
  have f5 := Below.next b5 n5
  have e5 := Below.next e4 f5
  have g35 := Below.next f4 f5
  have g15 := Below.next (Below.next f2 f3) g35
  have HT5 := Lib.hid (fun V hV => ⟨((Box.new V5 [.slice a5 3 k5] 37 rfl).keep hV).cell 0 rfl, (hO5.mat.keep n5).keep hV⟩ : ∀ V, Below (V5.alloc (.cells #[.slice a5 3 k5] 37)).heap.size (V5.alloc (.cells #[.slice a5 3 k5] 37)) V → V.cell? ⟨V5.heap.size, 0, none⟩ = some (.slice a5 3 k5) ∧ Mat V a5 3 [[0], [1], [2]])
  have HE5 := Lib.hid (Below.next ky e5)
  have HE5y := Lib.hid e5
  have HG15 := Lib.hid g15
  have HG35 := Lib.hid g35
  clear c0 c1 c2 c3 c4 Hc hO5 b1 b2 b3 b4 b5 n1 n2 n3 n4 n5 e1 e2 e3 e4 e5 f2 f3 f4 f5 g15 g35
  have dd1 := (HT1.out _ HG15.out).1
  go_upto_region 8 with fail
  obtain ⟨X, hX⟩ : ∃ X, X = V5.alloc (.cells #[.slice a5 3 k5] 37) := ⟨_, rfl⟩
  rw [← hX] at HE5 HE5y HT5 HG15 HG35 dd1 ⊢
  clear hX
  have q1 := below4 X (.cells #[.int .i64 0, .int .i64 1] 3) (.cells #[.int .i64 1, .int .i64 2] 3) (.cells #[.int .i64 0, .int .i64 2] 3) (.cells #[.slice (some ⟨X.heap.size, 0, none⟩) 2 2, .slice (some ⟨X.heap.size + 1, 0, none⟩) 2 2, .slice (some ⟨X.heap.size + 1 + 1, 0, none⟩) 2 2] 22)
  have Hc := Lib.hid (rSameRows_any a1 3 k1 [[0, 1], [1, 2], [0, 2]] _ 3 3 [[0, 1], [1, 2], [0, 2]] (HT1.out _ (Below.next HG15.out q1)).2 (two3 X 0 1 1 2 0 2))
  rw [decide_eq_true rfl] at Hc
  go_wp2_with fail
  refine Hc.out.mono ?_
  rintro e Y1 ⟨rfl, r1⟩
  have s1 := Below.next q1 r1.below
  have dd3 := (HT3.out _ (Below.next HG35.out s1)).1
  have q2 := below2 Y1 (.cells #[.int .i64 0, .int .i64 1] 3) (.cells #[.slice (some ⟨Y1.heap.size, 0, none⟩) 2 2] 22)
  have Hc2 := Lib.hid (rSameRows_any a3 1 k3 [[0, 1]] _ 1 1 [[0, 1]] (HT3.out _ (Below.next HG35.out (Below.next s1 q2))).2 (two1 Y1 0 1))
  rw [decide_eq_true rfl] at Hc2
  clear Hc q1 r1 dd1
  go_wp2_with fail
  refine Hc2.out.mono ?_
  rintro e Y2 ⟨rfl, r2⟩
  have s2 := Below.next s1 (Below.next q2 r2.below)
  have dd5 := (HT5.out _ s2).1
  have q3 := below4 Y2 (.cells #[.int .i64 0] 3) (.cells #[.int .i64 1] 3) (.cells #[.int .i64 2] 3) (.cells #[.slice (some ⟨Y2.heap.size, 0, none⟩) 1 1, .slice (some ⟨Y2.heap.size + 1, 0, none⟩) 1 1, .slice (some ⟨Y2.heap.size + 1 + 1, 0, none⟩) 1 1] 22)
  have Hc3 := Lib.hid (rSameRows_any a5 3 k5 [[0], [1], [2]] _ 3 3 [[0], [1], [2]] (HT5.out _ (Below.next s2 q3)).2 (one3 Y2 0 1 2))
  rw [decide_eq_true rfl] at Hc3
  clear Hc2 q2 r2 dd3 s1
  go_wp2_with fail
  refine Hc3.out.mono ?_
  rintro e Y3 ⟨rfl, r3⟩
  have s3 := Below.next s2 (Below.next q3 r3.below)
  clear Hc3 q3 r3 dd5 s2
  go_upto_region 13 with fail
  have w4 := below4 Y3 (.cells #[.int .i64 0, .int .i64 1] 3) (.cells #[.int .i64 1, .int .i64 3] 3) (.cells #[.int .i64 0, .int .i64 2] 3) (.cells #[.slice (some ⟨Y3.heap.size, 0, none⟩) 2 2, .slice (some ⟨Y3.heap.size + 1, 0, none⟩) 2 2, .slice (some ⟨Y3.heap.size + 1 + 1, 0, none⟩) 2 2] 22)
  have hbad := two3 Y3 0 1 1 3 0 2
  obtain ⟨Y4, hY4⟩ : ∃ Y4, Y4 = ((((Y3.alloc (.cells #[.int .i64 0, .int .i64 1] 3)).alloc (.cells #[.int .i64 1, .int .i64 3] 3)).alloc (.cells #[.int .i64 0, .int .i64 2] 3)).alloc (.cells #[.slice (some ⟨Y3.heap.size, 0, none⟩) 2 2, .slice (some ⟨Y3.heap.size + 1, 0, none⟩) 2 2, .slice (some ⟨Y3.heap.size + 1 + 1, 0, none⟩) 2 2] 22)) := ⟨_, rfl⟩
  have hsz4 : Y4.heap.size = Y3.heap.size + 1 + 1 + 1 + 1 := by rw [hY4]; simp
  rw [← hY4] at w4 hbad ⊢
  have nb := below1 Y4 (.cells #[.slice (some ⟨Y3.heap.size + 1 + 1 + 1, 0, none⟩) 3 3] 37)
  have HBad := Lib.hid (fun V hV => ⟨((Box.new Y4 [.slice (some ⟨Y3.heap.size + 1 + 1 + 1, 0, none⟩) 3 3] 37 hsz4.symm).keep hV).cell 0 rfl, (hbad.keep nb).keep hV⟩ : ∀ V, Below (Y4.alloc (.cells #[.slice (some ⟨Y3.heap.size + 1 + 1 + 1, 0, none⟩) 3 3] 37)).heap.size (Y4.alloc (.cells #[.slice (some ⟨Y3.heap.size + 1 + 1 + 1, 0, none⟩) 3 3] 37)) V →
    V.cell? ⟨Y3.heap.size + 1 + 1 + 1 + 1, 0, none⟩ = some (.slice (some ⟨Y3.heap.size + 1 + 1 + 1, 0, none⟩) 3 3) ∧ Mat V (some ⟨Y3.heap.size + 1 + 1 + 1, 0, none⟩) 3 [[0, 1], [1, 3], [0, 2]])
  obtain ⟨Z, hZ⟩ : ∃ Z, Z = Y4.alloc (.cells #[.slice (some ⟨Y3.heap.size + 1 + 1 + 1, 0, none⟩) 3 3] 37) := ⟨_, rfl⟩
  rw [← hZ] at nb HBad ⊢
  have z0 := Below.next s3 (Below.next w4 nb)
  clear hY4 hZ hbad w4 nb hsz4 s3
  obtain ⟨c0, c1, c2, c3, c4⟩ := HS.out _ (Below.next HE5.out z0)
  have dt := (HT1.out _ (Below.next HG15.out z0))
  have dt1 := dt.1
  have Hk := Lib.hid (HCD.out _ a1 k1 2 [[0, 1], [1, 2], [0, 2]] 1 aw26_w2 (Below.next HE5.out z0) dt.2)
  rw [aw26_k1] at Hk
  go_wp2_with fail
  refine Hk.out.mono ?_
  rintro e Z1 ⟨rfl, m1⟩
  have z1 := Below.next z0 m1
  clear c0 c1 c2 c3 c4 Hk
  clear dt dt1
  obtain ⟨c0, c1, c2, c3, c4⟩ := HS.out _ (Below.next HE5.out z1)
  have dt := (HBad.out _ m1)
  have dt1 := dt.1
  have Hk := Lib.hid (HCD.out _ _ 3 2 [[0, 1], [1, 3], [0, 2]] 1 aw26_w2 (Below.next HE5.out z1) dt.2)
  rw [aw26_k2] at Hk
  go_wp2_with fail
  refine Hk.out.mono ?_
  rintro e Z2 ⟨rfl, m2⟩
  have z2 := Below.next z1 m2
  clear c0 c1 c2 c3 c4 Hk
  clear dt dt1
  obtain ⟨c0, c1, c2, c3, c4⟩ := HS.out _ (Below.next HE5.out z2)
  have dt := (HT1.out _ (Below.next HG15.out z2))
  have dt1 := dt.1
  have Hk := Lib.hid (HCD.out _ a1 k1 1 [[0, 1], [1, 2], [0, 2]] 0 aw26_w1 (Below.next HE5.out z2) dt.2)
  rw [aw26_k3] at Hk
  go_wp2_with fail
  refine Hk.out.mono ?_
  rintro e Z3 ⟨rfl, m3⟩
  have z3 := Below.next z2 m3
  clear c0 c1 c2 c3 c4 Hk
  clear dt dt1
  obtain ⟨c0, c1, c2, c3, c4⟩ := HS.out _ (Below.next HE5.out z3)
  have dt := (HT3.out _ (Below.next HG35.out z3))
  have dt1 := dt.1
  have Hk := Lib.hid (HCC.out _ W.heap.size a3 k3 0 [[0, 1]] (Below.next HE5.out z3) (HY.out _ (Below.next HE5y.out z3)) dt.2)
  rw [aw26_k4] at Hk
  go_wp2_with fail
  refine Hk.out.mono ?_
  rintro e Z4 ⟨rfl, m4⟩
  have z4 := Below.next z3 m4
  clear c0 c1 c2 c3 c4 Hk
  clear dt dt1
  obtain ⟨c0, c1, c2, c3, c4⟩ := HS.out _ (Below.next HE5.out z4)
  have dt := (HT3.out _ (Below.next HG35.out z4))
  have dt1 := dt.1
  have Hk := Lib.hid (HCC.out _ W.heap.size a3 k3 1 [[0, 1]] (Below.next HE5.out z4) (HY.out _ (Below.next HE5y.out z4)) dt.2)
  rw [aw26_k5] at Hk
  go_wp2_with fail
  refine Hk.out.mono ?_
  rintro e Z5 ⟨rfl, m5⟩
  have z5 := Below.next z4 m5
  clear c0 c1 c2 c3 c4 Hk
  clear dt dt1
  obtain ⟨c0, c1, c2, c3, c4⟩ := HS.out _ (Below.next HE5.out z5)
  have dt := (HT5.out _ z5)
  have dt1 := dt.1
  have Hk := Lib.hid (HCR.out _ a5 k5 [[0], [1], [2]] (Below.next HE5.out z5) dt.2)
  rw [aw26_k6] at Hk
  go_wp2_with fail
  refine Hk.out.mono ?_
  rintro e Z6 ⟨rfl, m6⟩
  have z6 := Below.next z5 m6
  clear c0 c1 c2 c3 c4 Hk
  clear dt dt1
  have hF := Below.next HW.out (Below.next HE5.out z6)
  go_wp2_with fail
  go_ret
  exact ⟨rfl, hF⟩
end

/- The walks of codewrightref09.Few, codewrightref12.Few, codewrightlaw25.few: they end with some answer. -/
section
open Go.RowKit

def SomeBool (w : World) (e : Ending) (w' : World) : Prop := ∃ z, e = .returned (.bool z) ∧ Below w.heap.size w w'

set_option maxRecDepth 100000 in
set_option maxHeartbeats 3200000 in
theorem rFew9_any (a : Option Addr) (n c K : Nat) (L : List (List Int)) (w : World) (hi : Mat w a n L) (hK : K ≤ 100000) :
    Calls Tryz.prog 87 #[.agg #[.int .i64 0, .slice a n c], .int .i64 K] w (SomeBool w) := by
  have Hlen := Lib.hid hi.len
  have hpl := hi.pl
  have hmax := hi.max
  unfold maxLen at hmax
  go_enter Tryz.func87, Tryz.ntmps87
  go_upto_region 1 with fail
  obtain ⟨W, hW⟩ : ∃ W : World, W = w.alloc (.cells #[.int .i64 0, .slice a n c] 73) := ⟨_, rfl⟩
  rw [← hW]
  have hbW : Below w.heap.size w W := by rw [hW]; exact below1 _ _
  have x0 : Box W w.heap.size [.int .i64 0, .slice a n c] := by rw [hW]; exact Box.new _ _ _ rfl
  have c0 := x0.cell 0 rfl
  have c1 := x0.cell 1 rfl
  have hiW := hi.keep hbW
  have HbW := Lib.hid hbW
  clear hW x0 hi hbW
  by_cases h1 : K < n
  · have d1 : decide (K < n) = true := by simpa using h1
    have d1' : decide ((K : Int) < n) = true := by simp; omega
    go_wp2_with fail
    go_ret
    exact ⟨_, rfl, HbW.out⟩
  · have d1 : decide (K < n) = false := by simpa using h1
    have d1' : decide ((K : Int) < n) = false := by simp; omega
    go_wp2_with fail
    go_loopw [5, 6] (fun lv iv wr => ∃ k m : Nat, k ≤ n ∧ m ≤ K ∧ lv = .int .i64 m ∧ iv = .int .i64 k ∧ wr = W) (fun _ iv _ => n - (intOf iv).toNat)
    case atStart => exact ⟨0, K - n, Nat.zero_le _, by omega, by go_num, rfl, rfl⟩
    case round =>
      obtain ⟨k, m, hk, hm, rfl, rfl, rfl⟩ := hrel
      by_cases hlt : k < n
      · obtain ⟨ra, rn, rc, hcell, hrow⟩ := hiW.cell k hlt
        by_cases h2 : m < rn
        · have d2 : decide (m < rn) = true := by simpa using h2
          have d2' : decide ((m : Int) < rn) = true := by simp; omega
          go_wp2_with fail
          go_ret
          exact ⟨_, rfl, HbW.out⟩
        · have d2 : decide (m < rn) = false := by simpa using h2
          have d2' : decide ((m : Int) < rn) = false := by simp; omega
          have d3 : (rn : Int) ≤ m := by omega
          go_wp2_with fail
          go_roundw
          case rel => exact ⟨k + 1, m - rn, by omega, by omega, by go_num, by go_num, by first | rfl | trivial⟩
          case measure => simp [intOf] <;> omega
      · obtain rfl : k = n := by omega
        go_wp2_with fail
        go_ret
        exact ⟨_, rfl, HbW.out⟩

set_option maxRecDepth 100000 in
theorem rFew12_any (P M : Int) (am : Option Addr) (mn cm : Nat) (N : Int) (a : Option Addr) (n c K : Nat) (L : List (List Int)) (w : World) (hi : Mat w a n L) (hK : K ≤ 100000) :
    Calls Tryz.prog 44 #[.agg #[.int .i64 P, .int .i64 M, .slice am mn cm, .int .i64 N, .slice a n c], .int .i64 K] w (SomeBool w) := by
  have H := Lib.hid (fun V hV => rFew9_any a n c K L V (hi.keep hV) hK : ∀ V, Below w.heap.size w V → _)
  clear hi
  go_enter Tryz.func44, Tryz.ntmps44
  go_wp2_with fail
  have hbW := below1 w (.cells #[.int .i64 P, .int .i64 M, .slice am mn cm, .int .i64 N, .slice a n c] 27)
  refine (H.out _ hbW).mono ?_
  rintro e w1 ⟨z, rfl, hb1⟩
  have hF := Below.next hbW hb1
  go_wp2_with fail
  go_ret
  exact ⟨z, rfl, hF⟩
end

/- The walks of few of the law 26 and of Few of the reference's exclusion. -/
section
open Go.RowKit

set_option maxRecDepth 100000 in
set_option maxHeartbeats 3200000 in
theorem few26_any (P M : Int) (am : Option Addr) (mn cm : Nat) (N : Int) (a : Option Addr) (n c : Nat) (L : List (List Int)) (w : World) (hi : Mat w a n L) :
    Calls Tryz.prog 15 #[.agg #[.int .i64 P, .int .i64 M, .slice am mn cm, .int .i64 N, .slice a n c]] w (SomeBool w) := by
  have H : Hid (∀ V, Below w.heap.size w V → Calls Tryz.prog 44 #[.agg #[.int .i64 P, .int .i64 M, .slice am mn cm, .int .i64 N, .slice a n c], .int .i64 100] V (SomeBool V)) := fun V hV => rFew12_any P M am mn cm N a n c 100 L V (hi.keep hV) (by omega)
  clear hi
  go_enter Tryz.func15, Tryz.ntmps15
  go_upto_region 1 with fail
  obtain ⟨W, hW⟩ : ∃ W : World, W = w.alloc (.cells #[.int .i64 P, .int .i64 M, .slice am mn cm, .int .i64 N, .slice a n c] 27) := ⟨_, rfl⟩
  rw [← hW]
  have hbW : Below w.heap.size w W := by rw [hW]; exact below1 _ _
  have x0 : Box W w.heap.size [.int .i64 P, .int .i64 M, .slice am mn cm, .int .i64 N, .slice a n c] := by rw [hW]; exact Box.new _ _ _ rfl
  have HX := Lib.hid x0
  have c0 := x0.cell 0 rfl
  have c1 := x0.cell 1 rfl
  have c2 := x0.cell 2 rfl
  have c3 := x0.cell 3 rfl
  have c4 := x0.cell 4 rfl
  clear hW x0
  have Hf := Lib.hid (H.out W hbW)
  clear H
  by_cases h1 : N ≤ 14
  · have d1 : decide (N ≤ 14) = true := by simpa using h1
    clear h1
    go_wp2_with (go_at_call 44; refine Hf.out.mono ?_; rintro e w1 ⟨z, rfl, hb1⟩; have q1 := (HX.out.keep hb1).cell 3 rfl; have hF := Below.next hbW hb1; cases z)
    all_goals (go_wp2_with fail; go_ret; exact ⟨_, rfl, hF⟩)
  · have d1 : decide (N ≤ 14) = false := by simpa using h1
    clear h1
    by_cases h2 : 64 < N
    · have d2 : decide (64 < N) = true := by simpa using h2
      clear h2
      go_wp2_with (go_at_call 44; refine Hf.out.mono ?_; rintro e w1 ⟨z, rfl, hb1⟩; have q1 := (HX.out.keep hb1).cell 3 rfl; have hF := Below.next hbW hb1; cases z)
      all_goals (go_wp2_with fail; go_ret; exact ⟨_, rfl, hF⟩)
    · have d2 : decide (64 < N) = false := by simpa using h2
      clear h2
      go_wp2_with (go_at_call 44; refine Hf.out.mono ?_; rintro e w1 ⟨z, rfl, hb1⟩; have q1 := (HX.out.keep hb1).cell 3 rfl; have hF := Below.next hbW hb1; cases z)
      all_goals (go_wp2_with fail; go_ret; exact ⟨_, rfl, hF⟩)
end

/- The walk of ExclusionBuilds. -/
section
open Go.RowKit

theorem Box.other {w : World} {b : Nat} {cs : List Value} (h : Box w b cs) {g i : Nat} (v : Value) (hb : b ≠ g) : Box (w.setCell ⟨g, i, none⟩ v) b cs := by
  refine ⟨by rw [World.size_setCell]; exact h.1, fun j x hx => ?_, fun j => ?_⟩
  · rw [World.cell?_setCell_other _ _ _ _ (by simp <;> omega)]
    exact h.2.1 j x hx
  · rw [World.frozen?_setCell]
    exact h.2.2 j

theorem bld_chk {P M : Int} {mod : List Int} {N : Int} {L : List (List Int)} {mm W : Int} (h : (bldRE P M mod N L mm W).1 = 0) : chkRE P M mod N L mm W (bldRE P M mod N L mm W).2 = 0 := by
  unfold bldRE chkRE at *
  by_cases h0 : rkcE P M mod N L mm W = 0
  · rw [if_pos h0] at h ⊢
    rw [if_pos h0]
    refine tree_prov ?_
    rw [← h]
  · rw [if_neg h0] at h
    exact absurd h h0

def BldP (T : List (List Int)) (er : Int) (V : World) (e : Ending) (w' : World) : Prop := ∃ av nv cv R, e = .returned (.tuple #[.agg #[.slice av nv cv], .int .i64 er]) ∧ OMat w' V.heap.size av nv cv R T ∧ Below V.heap.size V w'
theorem ExBldPost.bldP {V : Int × List (List Int)} {w w' : World} {e : Ending} (h : ExBldPost V w e w') : BldP (if V.1 = 0 then V.2 else []) V.1 w e w' := by
  obtain ⟨hb, ⟨h1, rfl⟩ | ⟨h1, ar, cr, R, rfl, hO⟩⟩ := h
  · rw [if_neg h1]
    exact ⟨none, 0, 0, [], rfl, OMat.nul _ _, hb⟩
  · rw [if_pos h1]
    exact ⟨ar, _, cr, R, by rw [h1], hO, hb⟩
end

/- The walk of ExclusionSound. -/
section
open Go.RowKit

theorem els_nth {q : Nat} {l : List Int} {n : Nat} (h : lstE q l n = 0) : l.length = n ∧ ∀ k, k < n → 0 ≤ nth l k ∧ nth l k < q := by
  unfold lstE at h
  split at h
  · rename_i hl
    unfold elsE at h
    split at h
    · rename_i hq
      refine ⟨hl, fun k hk => ?_⟩
      have h1 := List.all_eq_true.1 hq (nth l k) (nth_mem (by omega))
      simpa [isQ] using h1
    · cases h
  · cases h
end

end Go.Proofs.YtcflcogbpnmjeaaGreat
