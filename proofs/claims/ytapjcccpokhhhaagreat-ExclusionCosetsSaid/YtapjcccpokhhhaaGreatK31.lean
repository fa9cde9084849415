/- The walk of codewrightref09.Transform, at valid square matrices. -/
import Derived.Test.YtapjcccpokhhhaaGreatK30
import Derived.Test.YtapjcccpokhhhaaGreatK24
import Derived.Test.YtapjcccpokhhhaaGreatK23
import Derived.Test.YtapjcccpokhhhaaGreatK21
namespace Go.Proofs.YtapjcccpokhhhaaGreat
set_option linter.unusedVariables false
set_option linter.unusedSimpArgs false
set_option linter.unusedSectionVars false

/- The walks of coset, CheckCoset, BuildCoset of the package exclusion. -/
section
open Go.RowKit

theorem elsQ_els {G : Tbl} {l : List Int} (h : elsQ G.q l = true) : G.Els l := fun x hx => by
  have h1 := List.all_eq_true.1 h x hx
  simpa [isQ, Tbl.El] using h1
theorem exCos1_any {w : World} {b : Nat} {G : Tbl} (q pb : Nat) (x : Int) (hc : w.cell? ⟨q, 0, none⟩ = some (.pointer (some ⟨pb, 0, none⟩))) (hp : w.cell? ⟨pb, 0, none⟩ = some (.pointer (some ⟨b, 0, none⟩))) (h : GFw w b G) :
    Calls Tryz.prog 106 #[.int .i64 x, .pointer (some ⟨q, 0, none⟩)] w fun e w' => e = .returned (.bool (!(decide (0 ≤ x) && decide (x < G.q)))) ∧ w = w' := by
  go_enter Tryz.func106, Tryz.ntmps106
  go_wp2_with fail
  refine (gIs x h).mono ?_
  rintro e w' ⟨rfl, rfl⟩
  obtain ⟨z, hz⟩ : ∃ z, (decide (0 ≤ x) && decide (x < G.q)) = z := ⟨_, rfl⟩
  have Hz := Lib.hid hz
  rw [hz]
  clear hz
  cases z
  · go_wp2_with fail
    go_ret
    exact ⟨ret_bool (by rw [Hz.out]; rfl), rfl⟩
  · go_wp2_with fail
    go_ret
    exact ⟨ret_bool (by rw [Hz.out]; rfl), rfl⟩

set_option maxRecDepth 100000 in
set_option maxHeartbeats 1600000 in
theorem indexCos_any (p : Int → Bool) (q : Nat) (a : Option Addr) (n c : Nat) (l : List Int) (w : World) (hi : Ints w a n l) (hf : ∀ k, k < n → Calls Tryz.prog 106 #[.int .i64 (nth l k), .pointer (some ⟨q, 0, none⟩)] w fun e w' => e = .returned (.bool (p (nth l k))) ∧ w = w') :
    Calls Tryz.prog 158 #[.slice a n c, .func (.func 106) #[] #[.pointer (some ⟨q, 0, none⟩)]] w fun e w' => ∃ z : Int, e = .returned (.int .i64 z) ∧ (0 ≤ z ↔ l.any p = true) ∧ w = w' := by
  have hpl := hi.pl
  have hmax := hi.max
  have HF := Lib.hid hf
  have Hl := Lib.hid hi.len
  unfold maxLen at hmax
  clear hf
  go_enter Tryz.func158, Tryz.ntmps158
  go_wp2_with fail
  go_loop [8] (fun iv => ∃ k : Nat, k ≤ n ∧ iv = .int .i64 k ∧ Hid (∀ j, j < k → p (nth l j) = false)) (fun iv => n - (intOf iv).toNat)
  case atStart => exact ⟨0, Nat.zero_le _, rfl, fun j hj => by omega⟩
  case round =>
    obtain ⟨k, hk, rfl, hno⟩ := hrel
    by_cases hlt : k < n
    · have ck := hi.cell k hlt
      have hfk := HF.out k hlt
      obtain ⟨z, hz⟩ : ∃ z, p (nth l k) = z := ⟨_, rfl⟩
      rw [hz] at hfk
      have Hk := Lib.hid hfk
      cases z
      · have Hn : Hid (∀ j, j < k + 1 → p (nth l j) = false) := fun j hj => by
          by_cases e : j = k
          · subst e; exact hz
          · exact hno.out j (by omega)
        clear hz hfk hno
        go_wp2_with fail
        refine Hk.out.mono ?_
        rintro e w' ⟨rfl, rfl⟩
        go_wp2_with fail
        go_round
        case rel => exact ⟨k + 1, by omega, by go_num, Hn.out⟩
        case measure => simp [intOf] <;> omega
      · have Hy : Hid (l.any p = true) := by
          show _ = _
          rw [List.any_eq_true]
          exact ⟨nth l k, nth_mem (by rw [Hl.out]; exact hlt), hz⟩
        clear hz hfk hno
        go_wp2_with fail
        refine Hk.out.mono ?_
        rintro e w' ⟨rfl, rfl⟩
        go_wp2_with fail
        go_ret
        exact ⟨k, rfl, ⟨fun _ => by first | exact Hy.out | exact List.any_eq_true.1 Hy.out, fun _ => Int.natCast_nonneg _⟩, rfl⟩
    · obtain rfl : k = n := by omega
      have Hy : Hid (l.any p = false) := by
        show _ = _
        rw [List.any_eq_false]
        intro x hx
        obtain ⟨j, hj, rfl⟩ := List.mem_iff_getElem.1 hx
        have := hno.out j (by rw [← Hl.out]; exact hj)
        rw [nth_getElem hj] at this
        rw [this]; decide
      go_wp2_with fail
      go_ret
      exact ⟨-1, rfl, ⟨fun h => absurd h (by omega), fun h => by have h2 : l.any p = true := (by first | exact h | exact List.any_eq_true.2 h); rw [Hy.out] at h2; exact absurd h2 (by decide)⟩, rfl⟩
theorem containsCos_any (p : Int → Bool) (q : Nat) (a : Option Addr) (n c : Nat) (l : List Int) (w : World) (hi : Ints w a n l) (hf : ∀ k, k < n → Calls Tryz.prog 106 #[.int .i64 (nth l k), .pointer (some ⟨q, 0, none⟩)] w fun e w' => e = .returned (.bool (p (nth l k))) ∧ w = w') :
    Calls Tryz.prog 105 #[.slice a n c, .func (.func 106) #[] #[.pointer (some ⟨q, 0, none⟩)]] w fun e w' => e = .returned (.bool (l.any p)) ∧ w = w' := by
  have Hc := Lib.hid (indexCos_any p q a n c l w hi hf)
  clear hf
  go_enter Tryz.func105, Tryz.ntmps105
  go_wp2_with fail
  refine Hc.out.mono ?_
  rintro e w' ⟨z, rfl, hz, rfl⟩
  by_cases h0 : 0 ≤ z
  · have Hz : Hid (l.any p = true) := hz.1 h0
    have h0' : decide (0 ≤ z) = true := by simpa using h0
    clear hz h0
    go_wp2_with fail
    go_ret
    exact ⟨ret_bool Hz.out.symm, rfl⟩
  · have Hz : Hid (l.any p = false) := by
      show _ = _
      cases h : l.any p
      · rfl
      · exact absurd (hz.2 h) h0
    have h0' : decide (0 ≤ z) = false := by simpa using h0
    clear hz h0
    go_wp2_with fail
    go_ret
    exact ⟨ret_bool Hz.out.symm, rfl⟩

def cosE (P M : Int) (mod : List Int) (N : Int) (L : List (List Int)) (y : List Int) (W : Int) : Int :=
  if codeE P M mod N L = 0 then (if (y.length : Int) ≠ N then 4 else if elsQ (tblOf P M.toNat mod).q y = false then 2 else if W < 0 ∨ N < W then 6 else 0) else codeE P M mod N L
def ExCosetPost (P M : Int) (am : Option Addr) (mn cm : Nat) (mod : List Int) (N : Int) (a : Option Addr) (n c : Nat) (L : List (List Int)) (ay : Option Addr) (ny cy : Nat) (y : List Int) (W : Int) (w : World) (e : Ending) (w' : World) : Prop :=
  Below w.heap.size w w' ∧ ((cosE P M mod N L y W ≠ 0 ∧ e = .returned (.tuple #[.pointer none, .int .i64 (cosE P M mod N L y W)])) ∨
  (cosE P M mod N L y W = 0 ∧ ∃ pb, e = .returned (.tuple #[.pointer (some ⟨pb, 0, none⟩), .int .i64 0]) ∧ ExClaim P M am mn cm mod N.toNat a n c L ay ny cy ⟨0, W.toNat, true, y⟩ w w' pb))

set_option maxRecDepth 100000 in
set_option maxHeartbeats 1600000 in
theorem exCoset_any (P M : Int) (am : Option Addr) (mn cm : Nat) (mod : List Int) (N : Int) (a : Option Addr) (n c : Nat) (L : List (List Int)) (ay : Option Addr) (ny cy : Nat) (y : List Int) (W : Int) (w : World) (hmod : Ints w am mn mod) (hi : Mat w a n L) (hy : Ints w ay ny y) :
    Calls Tryz.prog 59 #[.agg #[.int .i64 P, .int .i64 M, .slice am mn cm, .int .i64 N, .slice a n c], .slice ay ny cy, .int .i64 W] w (ExCosetPost P M am mn cm mod N a n c L ay ny cy y W w) := by
  have Hil := Lib.hid hi.len
  have Hyl := Lib.hid hy.len
  go_enter Tryz.func59, Tryz.ntmps59
  go_wp2_with fail
  obtain ⟨U, hU⟩ : ∃ U : World, U = w.alloc (.cells #[.int .i64 P, .int .i64 M, .slice am mn cm, .int .i64 N, .slice a n c] 27) := ⟨_, rfl⟩
  rw [← hU]
  have hbU : Below w.heap.size w U := by rw [hU]; exact below1 _ _
  have x0 : Box U w.heap.size [.int .i64 P, .int .i64 M, .slice am mn cm, .int .i64 N, .slice a n c] := by rw [hU]; exact Box.new _ _ _ rfl
  have HX := Lib.hid x0
  clear hU x0
  refine (exOpen_any P M am mn cm mod N a n c L W U (hmod.keep hbU) (hi.keep hbU)).mono ?_
  rintro e w1 ⟨hb1, ⟨hE, rfl⟩ | ⟨hE, b, w2, rfl, hb2, hG, hb3, hB⟩⟩
  · have HE : Hid (cosE P M mod N L y W = codeE P M mod N L) := if_neg hE
    have Hne := Lib.hid hE
    have hE1 : (codeE P M mod N L == 0) = false := by simpa using hE
    have hE2 : (codeE P M mod N L != 0) = true := by simpa using hE
    have hbF := Below.next (Below.next hbU hb1) (below1 w1 (.cells #[.pointer none] 83))
    clear hE
    go_wp2_with fail
    go_ret2
    exact ⟨hbF, .inl ⟨by rw [HE.out]; exact Hne.out, by rw [HE.out]; rfl⟩⟩
  · have HE : Hid (cosE P M mod N L y W = if (ny : Int) ≠ N then 4 else if elsQ (tblOf P M.toNat mod).q y = false then 2 else if W < 0 ∨ N < W then 6 else 0) := by show _ = _; rw [cosE, if_pos hE, Hyl.out]
    have Hrw := Lib.hid (codeE_rws hE)
    have hbn := below1 w1 (.cells #[.pointer (some ⟨w2.heap.size, 0, none⟩)] 83)
    have hbF := Below.next (Below.next hbU hb1) hbn
    have xq : (w1.alloc (.cells #[.pointer (some ⟨w2.heap.size, 0, none⟩)] 83)).cell? ⟨w1.heap.size, 0, none⟩ = some (.pointer (some ⟨w2.heap.size, 0, none⟩)) := cell_alloc_at _ _ _ rfl 0
    have hB4 := hB.keep hbn
    have hb34 := Below.next hb3 hbn
    have hG4 := hG.keep hb34
    have x4 := (HX.out.keep hb1).keep hbn
    have c3 := x4.cell 3 rfl
    have p0 := hB4.cell 0 rfl
    have hy4 := (hy.keep hbU).keep (Below.next hb1 hbn)
    have HCo := Lib.hid (containsCos_any (fun x => !(decide (0 ≤ x) && decide (x < (tblOf P M.toNat mod).q))) w1.heap.size ay ny cy y _ hy4 fun k hk => exCos1_any w1.heap.size w2.heap.size (nth y k) xq p0 hG4)
    rw [any_els] at HCo
    have HB := Lib.hid hB4
    have HB1 := Lib.hid hB
    have hmf : ∀ (fn : Fn) (first cap : Array Value) (w : World), (Instr.makeFunc fn first cap).run Tryz.prog w = .ok (.func fn first cap) w := fun _ _ _ _ => rfl
    have hsw1 : w2.heap.size ≠ w1.heap.size := by have := hB.1; omega
    clear hB p0 hE hy4 hG4
    by_cases h1 : (ny : Int) ≠ N
    · have HE2 : Hid (cosE P M mod N L y W = 4) := by show _ = _; rw [HE.out, if_pos h1]
      have d1 : ((ny : Int) != N) = true := by simpa using h1
      clear h1
      go_wp2_with fail
      go_ret2
      exact ⟨hbF, .inl ⟨by rw [HE2.out]; decide, by rw [HE2.out]; rfl⟩⟩
    have hny : (ny : Int) = N := Classical.not_not.1 h1
    have d1 : ((ny : Int) != N) = false := by simp [hny]
    have HE1 : Hid (cosE P M mod N L y W = if elsQ (tblOf P M.toNat mod).q y = false then 2 else if W < 0 ∨ N < W then 6 else 0) := by show _ = _; rw [HE.out, if_neg h1]
    have Hny := Lib.hid hny
    clear h1 hny
    obtain ⟨ze, hze⟩ : ∃ ze, elsQ (tblOf P M.toNat mod).q y = ze := ⟨_, rfl⟩
    rw [hze] at HCo HE1
    have Hze := Lib.hid hze
    clear hze
    cases ze
    · have HE2 : Hid (cosE P M mod N L y W = 2) := by show _ = _; rw [HE1.out, if_pos rfl]
      go_wp2_with fail
      refine HCo.out.mono ?_
      rintro e w5 ⟨rfl, rfl⟩
      go_wp2_with fail
      go_ret2
      exact ⟨hbF, .inl ⟨by rw [HE2.out]; decide, by rw [HE2.out]; rfl⟩⟩
    have HE3 : Hid (cosE P M mod N L y W = if W < 0 ∨ N < W then 6 else 0) := by show _ = _; rw [HE1.out, if_neg (by decide)]
    by_cases h3 : W < 0
    · have HE2 : Hid (cosE P M mod N L y W = 6) := by show _ = _; rw [HE3.out, if_pos (.inl h3)]
      have d3 : decide (W < 0) = true := by simpa using h3
      clear h3
      go_wp2_with fail
      refine HCo.out.mono ?_
      rintro e w5 ⟨rfl, rfl⟩
      go_wp2_with fail
      go_ret2
      exact ⟨hbF, .inl ⟨by rw [HE2.out]; decide, by rw [HE2.out]; rfl⟩⟩
    have d3 : decide (W < 0) = false := by simpa using h3
    by_cases h4 : N < W
    · have HE2 : Hid (cosE P M mod N L y W = 6) := by show _ = _; rw [HE3.out, if_pos (.inr h4)]
      have d4 : decide (N < W) = true := by simpa using h4
      clear h3 h4
      go_wp2_with fail
      refine HCo.out.mono ?_
      rintro e w5 ⟨rfl, rfl⟩
      go_wp2_with fail
      go_ret2
      exact ⟨hbF, .inl ⟨by rw [HE2.out]; decide, by rw [HE2.out]; rfl⟩⟩
    have d4 : decide (N < W) = false := by simpa using h4
    have HE2 : Hid (cosE P M mod N L y W = 0) := by
      show _ = _
      rw [HE3.out, if_neg]
      rintro (h | h)
      · exact h3 h
      · exact h4 h
    obtain ⟨m, hm, hm1, hm2, hLl, hRw⟩ := Hrw.out
    have hPE0 : Hid (PEnv w2 b (tblOf P M.toNat mod) a n L N.toNat ay ny ⟨0, W.toNat, true, y⟩) := by
      have hn256 : n ≤ 1000000 := by rw [← Hil.out]; omega
      have hNm : N.toNat = ny := by have := Hny.out; omega
      have hyw2 := (hy.keep hbU).keep hb2
      exact { g := hG, mat := (hi.keep hbU).keep hb2, rws := by rw [hm, Int.toNat_natCast]; exact hRw, n6 := hn256, m6 := by omega, w6 := by show W.toNat ≤ 64; omega, yl := fun _ => hNm.symm, y := fun _ => by rw [hNm]; exact hyw2, ye := fun _ => elsQ_els Hze.out }
    have Hnn := Lib.hid (And.intro (show 0 ≤ N by omega) (show 0 ≤ W by omega))
    go_wp2_with fail
    refine HCo.out.mono ?_
    rintro e w5 ⟨rfl, rfl⟩
    clear HCo
    go_wp2_with fail
    obtain ⟨Y, hY⟩ : ∃ Y : World, Y = w1.alloc (.cells #[.pointer (some ⟨w2.heap.size, 0, none⟩)] 83) := ⟨_, rfl⟩
    rw [← hY] at HB xq hbF hb34 ⊢
    have HF : Hid (∀ Z : World, Z = ((Y.setCell ⟨w2.heap.size, 6, none⟩ (.slice ay ny cy)).setCell ⟨w2.heap.size, 7, none⟩ (.bool true)).drew → ExCosetPost P M am mn cm mod N a n c L ay ny cy y W w (.returned (.tuple #[.pointer (some ⟨w2.heap.size, 0, none⟩), .int .i64 0])) Z) := fun Z hZ => by
      rw [hZ]
      have h5 := ((HB.out.setCell 6 (.slice ay ny cy)).setCell 7 (.bool true)).keep (Below.refl _ _).drew
      refine ⟨((hbF.setCell (p := ⟨w2.heap.size, 6, none⟩) (Nat.le_trans hbU.size hb2.size) _).setCell (p := ⟨w2.heap.size, 7, none⟩) (Nat.le_trans hbU.size hb2.size) _).drew, .inr ⟨HE2.out, w2.heap.size, rfl, b, w2, rfl, Below.next hbU hb2, hPE0.out, ((hb34.setCell (by simp) _).setCell (by simp) _).drew, ?_⟩⟩
      rw [prfL]
      dsimp only
      rw [Int.toNat_of_nonneg Hnn.out.1, Int.toNat_of_nonneg Hnn.out.2]
      exact h5
    have HF2 : Hid (∀ Z : World, Z = ((Y.setCell ⟨w2.heap.size, 6, none⟩ (.slice ay ny cy)).setCell ⟨w2.heap.size, 7, none⟩ (.bool true)) → ExCosetPost P M am mn cm mod N a n c L ay ny cy y W w (.returned (.tuple #[.pointer (some ⟨w2.heap.size, 0, none⟩), .int .i64 0])) Z) := fun Z hZ => by
      rw [hZ]
      have h5 := ((HB.out.setCell 6 (.slice ay ny cy)).setCell 7 (.bool true))
      refine ⟨((hbF.setCell (p := ⟨w2.heap.size, 6, none⟩) (Nat.le_trans hbU.size hb2.size) _).setCell (p := ⟨w2.heap.size, 7, none⟩) (Nat.le_trans hbU.size hb2.size) _), .inr ⟨HE2.out, w2.heap.size, rfl, b, w2, rfl, Below.next hbU hb2, hPE0.out, ((hb34.setCell (by simp) _).setCell (by simp) _), ?_⟩⟩
      rw [prfL]
      dsimp only
      rw [Int.toNat_of_nonneg Hnn.out.1, Int.toNat_of_nonneg Hnn.out.2]
      exact h5
    have f6 := HB.out.frozen 6
    have q6 := HB.out.cell 6 rfl
    have f7 := HB.out.frozen 7
    have q7 := HB.out.cell 7 rfl
    have s7 : (Y.setCell ⟨w2.heap.size, 6, none⟩ (.slice ay ny cy)).cell? ⟨w2.heap.size, 7, none⟩ = some (.bool false) := (HB.out.setCell 6 (.slice ay ny cy)).cell 7 rfl
    have s6 : (Y.setCell ⟨w2.heap.size, 7, none⟩ (.bool true)).cell? ⟨w2.heap.size, 6, none⟩ = some (.slice none 0 0) := (HB.out.setCell 7 (.bool true)).cell 6 rfl
    have x6 : (Y.setCell ⟨w2.heap.size, 6, none⟩ (.slice ay ny cy)).cell? ⟨w1.heap.size, 0, none⟩ = some (.pointer (some ⟨w2.heap.size, 0, none⟩)) := by
      rw [World.cell?_setCell_other _ _ _ _ (by simp <;> omega)]; exact xq
    have x7 : (Y.setCell ⟨w2.heap.size, 7, none⟩ (.bool true)).cell? ⟨w1.heap.size, 0, none⟩ = some (.pointer (some ⟨w2.heap.size, 0, none⟩)) := by
      rw [World.cell?_setCell_other _ _ _ _ (by simp <;> omega)]; exact xq
    have x67 : ((Y.setCell ⟨w2.heap.size, 6, none⟩ (.slice ay ny cy)).setCell ⟨w2.heap.size, 7, none⟩ (.bool true)).cell? ⟨w1.heap.size, 0, none⟩ = some (.pointer (some ⟨w2.heap.size, 0, none⟩)) := by
      rw [World.cell?_setCell_other _ _ _ _ (by simp <;> omega)]; exact x6
    clear h3 h4 hm hm1 hm2 hY hbF hb34
    go_region
    all_goals (
      go_wp2_with fail
      go_ret2
      first | exact HF.out _ rfl | exact HF2.out _ rfl)

def chkCE (P M : Int) (mod : List Int) (N : Int) (L : List (List Int)) (y : List Int) (W : Int) (ts : List (List Int)) : Int :=
  if cosE P M mod N L y W = 0 then provS (tblOf P M.toNat mod).ops L N.toNat ⟨0, W.toNat, true, y⟩ ts else cosE P M mod N L y W
def bldCE (P M : Int) (mod : List Int) (N : Int) (L : List (List Int)) (y : List Int) (W : Int) : Int × List (List Int) :=
  if cosE P M mod N L y W = 0 then treeS (tblOf P M.toNat mod).ops L N.toNat ⟨0, W.toNat, true, y⟩ else (cosE P M mod N L y W, [])

set_option maxRecDepth 100000 in
set_option maxHeartbeats 1600000 in
theorem exCheckCoset_any (P M : Int) (am : Option Addr) (mn cm : Nat) (mod : List Int) (N : Int) (a : Option Addr) (n c : Nat) (L : List (List Int)) (ay : Option Addr) (ny cy : Nat) (y : List Int) (W : Int) (ax : Option Addr) (nx cx : Nat) (ts : List (List Int)) (w : World)
    (hmod : Ints w am mn mod) (hi : Mat w a n L) (hy : Ints w ay ny y) (hts : Mat w ax nx ts) :
    Calls Tryz.prog 27 #[.agg #[.int .i64 P, .int .i64 M, .slice am mn cm, .int .i64 N, .slice a n c], .slice ay ny cy, .int .i64 W, .agg #[.slice ax nx cx]] w fun e w' => e = .returned (.int .i64 (chkCE P M mod N L y W ts)) ∧ Below w.heap.size w w' := by
  go_enter Tryz.func27, Tryz.ntmps27
  go_wp2_with fail
  obtain ⟨U, hU⟩ : ∃ U : World, U = (w.alloc (.cells #[.int .i64 P, .int .i64 M, .slice am mn cm, .int .i64 N, .slice a n c] 27)).alloc (.cells #[.slice ax nx cx] 30) := ⟨_, rfl⟩
  rw [← hU]
  have hbU : Below w.heap.size w U := by rw [hU]; exact below2 _ _ _
  have x0 : Box U (w.heap.size + 1) [.slice ax nx cx] := by rw [hU]; exact Box.new _ _ _ (by simp)
  have HX := Lib.hid x0
  clear hU x0
  refine (exCoset_any P M am mn cm mod N a n c L ay ny cy y W U (hmod.keep hbU) (hi.keep hbU) (hy.keep hbU)).mono ?_
  rintro e w1 ⟨hb1, ⟨hE, rfl⟩ | ⟨hE, pb, rfl, hCl⟩⟩
  · have HE : Hid (chkCE P M mod N L y W ts = cosE P M mod N L y W) := if_neg hE
    have hE1 : (cosE P M mod N L y W == 0) = false := by simpa using hE
    have hE2 : (cosE P M mod N L y W != 0) = true := by simpa using hE
    have hbF := Below.next hbU hb1
    clear hE
    go_wp2_with fail
    go_ret
    exact ⟨by rw [HE.out]; rfl, hbF⟩
  · have HE : Hid (chkCE P M mod N L y W ts = provS (tblOf P M.toNat mod).ops L N.toNat ⟨0, W.toNat, true, y⟩ ts) := if_pos hE
    have x1 := HX.out.keep hb1
    have c0 := x1.cell 0 rfl
    obtain ⟨b, w2, rfl, hb2, hPE, hb3, hB⟩ := hCl
    have HPr := Lib.hid (exProves_any w2.heap.size P M am mn cm c cy ax nx cx ts hPE ((hts.keep hbU).keep hb2) (Nat.le_refl _) hb3 hB)
    have hbw2 := Below.next hbU hb2
    clear x1 hB hPE hE
    go_wp2_with fail
    refine HPr.out.mono ?_
    rintro e w3 ⟨rfl, hb4⟩
    have hbF := Below.next hbw2 hb4
    go_wp2_with fail
    go_ret
    exact ⟨by rw [HE.out]; rfl, hbF⟩

set_option maxRecDepth 100000 in
set_option maxHeartbeats 1600000 in
theorem exBuildCoset_any (P M : Int) (am : Option Addr) (mn cm : Nat) (mod : List Int) (N : Int) (a : Option Addr) (n c : Nat) (L : List (List Int)) (ay : Option Addr) (ny cy : Nat) (y : List Int) (W : Int) (w : World)
    (hmod : Ints w am mn mod) (hi : Mat w a n L) (hy : Ints w ay ny y) :
    Calls Tryz.prog 29 #[.agg #[.int .i64 P, .int .i64 M, .slice am mn cm, .int .i64 N, .slice a n c], .slice ay ny cy, .int .i64 W] w (ExBldPost (bldCE P M mod N L y W) w) := by
  obtain ⟨V, hV⟩ : ∃ V, bldCE P M mod N L y W = V := ⟨_, rfl⟩
  rw [hV]
  have HV := Lib.hid hV
  clear hV
  go_enter Tryz.func29, Tryz.ntmps29
  go_wp2_with fail
  obtain ⟨U, hU⟩ : ∃ U : World, U = (w.alloc (.cells #[.int .i64 P, .int .i64 M, .slice am mn cm, .int .i64 N, .slice a n c] 27)).alloc (.cells #[.slice none 0 0] 30) := ⟨_, rfl⟩
  rw [← hU]
  have hbU : Below w.heap.size w U := by rw [hU]; exact below2 _ _ _
  have hsU : U.heap.size = w.heap.size + 2 := by rw [hU]; simp
  have x0 : Box U (w.heap.size + 1) [.slice none 0 0] := by rw [hU]; exact Box.new _ _ _ (by simp)
  have HX := Lib.hid x0
  clear hU x0
  refine (exCoset_any P M am mn cm mod N a n c L ay ny cy y W U (hmod.keep hbU) (hi.keep hbU) (hy.keep hbU)).mono ?_
  rintro e w1 ⟨hb1, ⟨hE, rfl⟩ | ⟨hE, pb, rfl, hCl⟩⟩
  · have HE : Hid (V = (cosE P M mod N L y W, [])) := by show _ = _; rw [← HV.out]; exact if_neg hE
    have hE1 : (cosE P M mod N L y W == 0) = false := by simpa using hE
    have hE2 : (cosE P M mod N L y W != 0) = true := by simpa using hE
    have Hne := Lib.hid hE
    have x1 := HX.out.keep hb1
    have z0 := x1.cell 0 rfl
    have f0 := x1.frozen 0
    have HF := Lib.hid (fun v : Value => (Below.next hbU hb1).setCell (p := ⟨w.heap.size + 1, 0, none⟩) (by simp) v)
    clear hE x1
    generalize cosE P M mod N L y W = er at *
    go_wp2_with fail
    have z1 : (w1.setCell ⟨w.heap.size + 1, 0, none⟩ (.slice none 0 0)).cell? ⟨w.heap.size + 1, 0, none⟩ = some (.slice none 0 0) := World.cell?_setCell_same _ _ _ z0
    exact bodyPost_ret (v := .tuple #[.agg #[.slice none 0 0], .int .i64 er]) (by simp [results, Tryz.results29, go_sem, z0, z1]) rfl ⟨HF.out _, .inl ⟨by rw [HE.out]; exact Hne.out, by rw [HE.out]⟩⟩
  · have HE : Hid (treeS (tblOf P M.toNat mod).ops L N.toNat ⟨0, W.toNat, true, y⟩ = V) := by show _ = _; rw [← HV.out]; exact (if_pos hE).symm
    have x1 := HX.out.keep hb1
    obtain ⟨b, w2, rfl, hb2, hPE, hb3, hB⟩ := hCl
    have HPr := exTree_any w2.heap.size P M am mn cm c cy hPE (Nat.le_refl _) hb3 hB
    rw [HE.out] at HPr
    have HTr := Lib.hid HPr
    have hbw2 := Below.next hbU hb2
    have x2 := HX.out.keep hb2
    have hs2 : w.heap.size + 1 < w2.heap.size := x2.1
    clear x1 hB hPE hE HPr
    go_wp2_with fail
    refine HTr.out.mono ?_
    rintro e w3 ⟨hb4, ⟨hv, rfl⟩ | ⟨hv, ar, cr, R, rfl, hO⟩⟩
    · have x3 := x2.keep hb4
      have z0 := x3.cell 0 rfl
      have f0 := x3.frozen 0
      have HF := Lib.hid (fun v : Value => (Below.next hbw2 hb4).setCell (p := ⟨w.heap.size + 1, 0, none⟩) (by simp) v)
      have Hne := Lib.hid hv
      obtain ⟨ve, vt⟩ := V
      dsimp only at Hne ⊢
      clear x3 hv
      go_wp2_with fail
      have z1 : (w3.setCell ⟨w.heap.size + 1, 0, none⟩ (.slice none 0 0)).cell? ⟨w.heap.size + 1, 0, none⟩ = some (.slice none 0 0) := World.cell?_setCell_same _ _ _ z0
      exact bodyPost_ret (v := .tuple #[.agg #[.slice none 0 0], .int .i64 ve]) (by simp [results, Tryz.results29, go_sem, z0, z1]) rfl ⟨HF.out _, .inl ⟨Hne.out, rfl⟩⟩
    · have x3 := x2.keep hb4
      have z0 := x3.cell 0 rfl
      have f0 := x3.frozen 0
      have hF : ∀ v : Value, Below w.heap.size w (w3.setCell ⟨w.heap.size + 1, 0, none⟩ v) ∧ OMat (w3.setCell ⟨w.heap.size + 1, 0, none⟩ v) w.heap.size ar V.2.length cr R V.2 := fun v => by
        refine ⟨(Below.next hbw2 hb4).setCell (by simp) v, ?_⟩
        refine (OMat.mono hO hbw2.size).of_blocks fun x hx => Below.heap_setCell _ _ _ _ fun e => ?_
        have h1 := (hO.lt x hx).1
        have e' : x = w.heap.size + 1 := e
        omega
      have HF := Lib.hid hF
      obtain ⟨ve, vt⟩ := V
      dsimp only at hv HF ⊢
      subst hv
      clear x3 hO hF
      go_wp2_with fail
      have z1 : (w3.setCell ⟨w.heap.size + 1, 0, none⟩ (.slice ar vt.length cr)).cell? ⟨w.heap.size + 1, 0, none⟩ = some (.slice ar vt.length cr) := World.cell?_setCell_same _ _ _ z0
      exact bodyPost_ret (v := .tuple #[.agg #[.slice ar vt.length cr], .int .i64 0]) (by simp [results, Tryz.results29, go_sem, z0, z1]) rfl ⟨(HF.out _).1, .inr ⟨rfl, ar, cr, R, rfl, (HF.out _).2⟩⟩
end

/- AddTo of the reference, over the field of a code; the sum of a word and a combination is a word of the coset. -/
section
open Go.RowKit

theorem rAddC_any {P M : Int} {am : Option Addr} {mn cm : Nat} {mod : List Int} {m : Nat} {L : List (List Int)} (hE : codeE P M mod m L = 0) (av : Option Addr) (cv : Nat) (v : List Int) (s : Int) (au : Option Addr) (cu : Nat) (u : List Int) (w : World)
    (hmod : Ints w am mn mod) (hi : Ints w av m v) (hu : Ints w au m u) (hv : Vc (tblOf P M.toNat mod).El m v) (hs : (tblOf P M.toNat mod).El s) (hue : Vc (tblOf P M.toNat mod).El m u) :
    Calls Tryz.prog 45 #[.agg #[.int .i64 P, .int .i64 M, .slice am mn cm], .slice av m cv, .int .i64 s, .slice au m cu] w fun e w' => ∃ a1 c1, e = .returned (.slice a1 m c1) ∧ Ints w' a1 m (addRow (tblOf P M.toNat mod).ops v s u) ∧ Below w.heap.size w w' := by
  obtain ⟨k, hk, hel, hq, hF, hA, _⟩ := eq_ops (codeE_zero hE).1
  subst hk
  obtain ⟨k', e2, hrf, hmods⟩ := fieldRB_rf (P := P) (M := (k : Int)) (mod := mod) (by rw [fieldRB_eq]; exact (codeE_zero hE).1)
  obtain rfl : k = k' := by omega
  obtain ⟨_, _, hm64, _⟩ := codeE_zero hE
  rw [Int.toNat_natCast] at hv hs hue ⊢
  rw [← hel] at hv hs hue
  have h := rAddTo_any P k am mn cm mod av m cv v s au cu u w ⟨hrf, hmods w am mn hmod⟩ hs hi hu hv.2 hue.2 (by omega)
  rw [← addRow_agr hA hF.cl v u s hv.2 hue.2 hs] at h
  refine h.mono ?_
  rintro e w' ⟨a1, c1, rfl, hown, hb⟩
  have hl : (addRow (tblOf P k mod).ops v s u).length = m := by rw [addRow_length _ _ _ _ (by rw [hue.1, hv.1])]; exact hv.1
  rw [hl] at hown ⊢
  exact ⟨a1, c1, rfl, (Ints.own hown).1, hb⟩

section
variable {P M : Int} {mod : List Int} {m : Nat} {L : List (List Int)}
theorem cosE_zero {y : List Int} {W : Int} (h : cosE P M mod m L y W = 0) : codeE P M mod m L = 0 ∧ Vc (tblOf P M.toNat mod).El m y ∧ elsQ (tblOf P M.toNat mod).q y = true ∧ 0 ≤ W ∧ W ≤ m := by
  unfold cosE at h
  by_cases hE : codeE P M mod m L = 0
  · rw [if_pos hE] at h
    by_cases h1 : (y.length : Int) ≠ m
    · rw [if_pos h1] at h; cases h
    · rw [if_neg h1] at h
      by_cases h2 : elsQ (tblOf P M.toNat mod).q y = false
      · rw [if_pos h2] at h; cases h
      · rw [if_neg h2] at h
        have h2' : elsQ (tblOf P M.toNat mod).q y = true := by simpa using h2
        by_cases h3 : W < 0 ∨ (m : Int) < W
        · rw [if_pos h3] at h; cases h
        · exact ⟨hE, ⟨by omega, elsQ_els h2'⟩, h2', by omega, by omega⟩
  · rw [if_neg hE] at h; exact absurd h hE
end
end

/- Plain: the solution of independent equations; a word of a coset that is 0 at independent positions. -/
section
open Go.RowKit

/-- rows, each continued by an entry -/
def augL (A : List (List Int)) (b : List Int) : List (List Int) := List.zipWith (fun r x => r ++ [x]) A b
def solTo (k : Nat) (E : List (List Int)) (P : List Int) : Nat → List Int
  | 0 => List.replicate k 0
  | j + 1 => (solTo k E P j).set (nth P j).toNat (nth (nthR E j) k)
def solL (O : FOps) (A : List (List Int)) (b : List Int) (k : Nat) : List Int := solTo k (elimTo O (augL A b) k).1 (elimTo O (augL A b) k).2 (elimTo O (augL A b) k).2.length
theorem solTo_len (k : Nat) (E : List (List Int)) (P : List Int) : ∀ j, (solTo k E P j).length = k
  | 0 => by simp [solTo]
  | j + 1 => by rw [solTo, List.length_set]; exact solTo_len k E P j
theorem augL_len {A : List (List Int)} {b : List Int} (h : b.length = A.length) : (augL A b).length = A.length := by simp [augL, h]
theorem nthR_aug {A : List (List Int)} {b : List Int} (h : b.length = A.length) {i : Nat} (hi : i < A.length) : nthR (augL A b) i = nthR A i ++ [nth b i] := by
  rw [nthR_getElem (show i < (augL A b).length by rw [augL_len h]; exact hi), nthR_getElem hi, nth_getElem (show i < b.length by omega)]
  simp [augL]

section
variable {O : FOps} {El : Int → Prop} {m k : Nat}
theorem aug_rws {A : List (List Int)} {b : List Int} (hA : Rws El k A) (h : b.length = A.length) (hb : ∀ x ∈ b, El x) : Rws El (k + 1) (augL A b) := fun r hr => by
  obtain ⟨i, hi, rfl⟩ := List.mem_iff_getElem.1 hr
  rw [augL_len h] at hi
  rw [← nthR_getElem, nthR_aug h hi]
  have h1 := hA.row hi
  refine ⟨by rw [List.length_append, h1.1]; rfl, fun y hy => ?_⟩
  rcases List.mem_append.1 hy with hy | hy
  · exact h1.2 y hy
  · rw [List.mem_singleton.1 hy]
    exact hb _ (nth_mem (by omega))
theorem aug_take {A : List (List Int)} {b : List Int} (hA : Rws El k A) (h : b.length = A.length) : (augL A b).map (List.take k) = A := by
  refine List.ext_getElem (by rw [List.length_map, augL_len h]) fun i h1 h2 => ?_
  rw [List.getElem_map, ← nthR_getElem (show i < (augL A b).length by rw [augL_len h]; exact h2), nthR_aug h h2, ← nthR_getElem h2]
  have h3 := (hA.row h2).1
  rw [List.take_append_of_le_length (by omega), List.take_of_length_le (by omega)]
theorem nth_app {l : List Int} {x : Int} {i : Nat} (h : i < l.length) : nth (l ++ [x]) i = nth l i := by
  unfold nth; simp only [List.getD_eq_getElem?_getD]; rw [List.getElem?_append_left h]
theorem nth_app_end {l : List Int} {x : Int} : nth (l ++ [x]) l.length = x := by
  unfold nth; simp [List.getD_eq_getElem?_getD]

/-- independent columns as rows: each row is a pivot's -/
theorem row_rank (F : Fld O El) {L : List (List Int)} (hL : Rws El m L) {t : List Int} (hT : InN m t) (ht : rkQ O L t = t.length) : (elimTo O (t.map fun q => colS L q.toNat) L.length).2.length = t.length := by
  obtain ⟨A, hA⟩ : ∃ A, (t.map fun q => colS L q.toNat) = A := ⟨_, rfl⟩
  have hAl : A.length = t.length := by rw [← hA, List.length_map]
  have hAi : ∀ i, i < t.length → nthR A i = colS L (nth t i).toNat := fun i hi => by
    rw [nthR_getElem (by omega), nth_getElem hi]
    simp [← hA]
  have hAr : Rws El L.length A := fun r hr => by
    rw [← hA] at hr
    obtain ⟨q, _, rfl⟩ := List.mem_map.1 hr
    exact colS_vc hL F.zero _
  rw [hA]
  obtain ⟨h1, h2, h3⟩ := elim_inv F hAr L.length (Nat.le_refl _)
  have hEr := elim_rws F hAr L.length (Nat.le_refl _)
  have hEl : (elimTo O A L.length).1.length = A.length := elimTo_length _ _ _
  have hle := h1.le
  rw [hEl, hAl] at hle
  refine Nat.le_antisymm hle ?_
  obtain ⟨E, hE⟩ : ∃ E, (elimTo O A L.length).1 = E := ⟨_, rfl⟩
  obtain ⟨p, hp⟩ : ∃ p, (elimTo O A L.length).2.length = p := ⟨_, rfl⟩
  have hzero := h1.zero
  rw [hE] at hEr hEl h3 hzero
  rw [hp] at hzero ⊢
  -- the columns of L and the rows of E as one family
  let c : Nat → List Int := fun i => if i < m then colS L i else if i - m < p ∧ i - m < E.length then nthR E (i - m) else colS L 0
  have hc : ∀ i, Vc El L.length (c i) := fun i => by
    show Vc El L.length (if i < m then colS L i else if i - m < p ∧ i - m < E.length then nthR E (i - m) else colS L 0)
    split
    · exact colS_vc hL F.zero _
    · split
      · rename_i h; exact hEr.row h.2
      · exact colS_vc hL F.zero _
  have hcm : ∀ i, i < m → c i = colS L i := fun i hi => if_pos hi
  have hr1 := Rk.map (cl' := clV O El L.length c) (fun i => i < m) id (fun l x hl hx => by
    rw [List.map_id]
    constructor
    · intro h φ hφ h0
      show φ (c x) = 0
      rw [hcm x hx]
      exact h φ hφ fun y hy => by rw [← hcm y (hl y hy)]; exact h0 y hy
    · intro h φ hφ h0
      have h4 : φ (c x) = 0 := h φ hφ fun y hy => by rw [hcm y (hl y hy)]; exact h0 y hy
      rwa [hcm x hx] at h4) (rkQ_rk F hL t) fun y hy => by
    obtain ⟨z, hz, rfl⟩ := mem_gA.1 hy
    obtain ⟨j, hj, rfl⟩ := List.mem_iff_getElem.1 hz
    have := hT j hj
    rw [nth_getElem hj] at this
    omega
  rw [List.map_id, ht] at hr1
  obtain ⟨n2, hr2⟩ := Rk.ex (clV O El L.length c) ((List.range p).map (m + ·))
  have hn2 := hr2.len
  rw [List.length_map, List.length_range] at hn2
  refine Nat.le_trans (Rk.le (clV_clo F hc) hr1 hr2 fun x hx => ?_) hn2
  obtain ⟨z, hz, rfl⟩ := mem_gA.1 hx
  obtain ⟨i, hi, rfl⟩ := List.mem_iff_getElem.1 hz
  have hti := hT i hi
  rw [nth_getElem hi] at hti
  intro ψ hψ h0
  rw [hcm _ (by omega)]
  have hAi' := hAi i hi
  rw [nth_getElem hi] at hAi'
  obtain ⟨e, he, hx⟩ := h3 i (by omega)
  have hr : ∀ q, q < L.length → El (ψ (unitR L.length q)) := fun q hq => hψ.el _ (unitR_vc F _ q)
  have hz := form_dot F hEr he (r := fun q => ψ (unitR L.length q)) hr fun j hj => by
    by_cases hjp : j < p
    · have h4 := h0 (m + j) (List.mem_map.2 ⟨j, List.mem_range.2 hjp, rfl⟩)
      have h5 : c (m + j) = nthR E j := by
        show (if m + j < m then colS L (m + j) else if m + j - m < p ∧ m + j - m < E.length then nthR E (m + j - m) else colS L 0) = _
        rw [if_neg (by omega), if_pos (by omega), show m + j - m = j by omega]
      rw [h5, form_unit F hψ (hEr.row hj)] at h4
      exact h4
    · refine dotN_zero F _ fun q hq => ?_
      show O.mul (ψ (unitR L.length q)) (nth (nthR E j) q) = 0
      rw [hzero j q (by omega) hj hq, F.mzero (hr q hq)]
  rw [form_unit F hψ (colS_vc hL F.zero _)]
  rw [← hz]
  refine dotN_congr _ fun q hq => ⟨rfl, ?_⟩
  rw [← hAi']
  exact hx q hq

theorem dotN_set (F : Fld O El) {f : Nat → Int} {x : List Int} {v : Int} {p : Nat} (hf : ∀ q, q < k → El (f q)) (hx : ∀ q, q < k → El (nth x q)) (hv : El v) (hp : p < k) (hk : x.length = k) (h0 : nth x p = 0) : ∀ t, t ≤ k →
    dotN O f (fun q => nth (x.set p v) q) t = if p < t then O.add (dotN O f (fun q => nth x q) t) (O.mul (f p) v) else dotN O f (fun q => nth x q) t
  | 0, _ => by rw [if_neg (by omega)]; rfl
  | t + 1, ht => by
    have ih := dotN_set F hf hx hv hp hk h0 t (by omega)
    have hd := dotN_el F (O := O) (a := f) (b := fun q => nth x q) t (fun q hq => hf q (by omega)) fun q hq => hx q (by omega)
    have hs : ∀ q, q < k → nth (x.set p v) q = if q = p then v else nth x q := fun q hq => by
      unfold nth
      simp only [List.getD_eq_getElem?_getD, List.getElem?_set]
      by_cases e : p = q
      · subst e; rw [if_pos rfl, if_pos (by omega), if_pos rfl]; rfl
      · rw [if_neg e, if_neg fun e2 => e e2.symm]
    have hst : dotN O f (fun q => nth (x.set p v) q) (t + 1) = O.add (dotN O f (fun q => nth (x.set p v) q) t) (O.mul (f t) (nth (x.set p v) t)) := rfl
    have hst2 : dotN O f (fun q => nth x q) (t + 1) = O.add (dotN O f (fun q => nth x q) t) (O.mul (f t) (nth x t)) := rfl
    rw [hst, hst2, ih, hs t (by omega)]
    by_cases e : t = p
    · subst e
      rw [if_neg (by omega), if_pos rfl, if_pos (by omega), h0, F.mzero (hf t (by omega)), F.add_zero _ hd]
    · rw [if_neg e]
      by_cases e2 : p < t
      · rw [if_pos e2, if_pos (by omega)]
        have h1 := F.cl.mul _ _ (hf p hp) hv
        have h2 := F.cl.mul _ _ (hf t (by omega)) (hx t (by omega))
        rw [F.add_assoc _ _ _ hd h1 h2, F.add_comm _ _ h1 h2, F.add_assoc _ _ _ hd h2 h1]
      · rw [if_neg e2, if_neg (by omega)]
theorem nth_rep0 (k q : Nat) : nth (List.replicate k (0 : Int)) q = 0 := by
  unfold nth
  simp only [List.getD_eq_getElem?_getD, List.getElem?_replicate]
  split <;> rfl
theorem sol_el (F : Fld O El) {E : List (List Int)} {P : List Int} (hE : Rws El (k + 1) E) (hle : P.length ≤ E.length) : ∀ j, j ≤ P.length → ∀ q, q < k → El (nth (solTo k E P j) q)
  | 0, _, q, _ => by rw [solTo, nth_rep0]; exact F.zero
  | j + 1, hj, q, hq => by
    have ih := sol_el F hE hle j (by omega) q hq
    rw [solTo]
    unfold nth
    simp only [List.getD_eq_getElem?_getD, List.getElem?_set]
    split
    · split
      · exact Vc.at (hE.row (i := j) (by omega)) (by omega)
      · exact F.zero
    · unfold nth at ih
      simpa only [List.getD_eq_getElem?_getD] using ih
theorem sol_out {E : List (List Int)} {P : List Int} {q : Nat} : ∀ j, (∀ i, i < j → (nth P i).toNat ≠ q) → nth (solTo k E P j) q = 0
  | 0, _ => by rw [solTo, nth_rep0]
  | j + 1, h => by
    have ih : nth (solTo k E P j) q = 0 := sol_out j fun i hi => h i (by omega)
    rw [solTo]
    unfold nth at ih ⊢
    simp only [List.getD_eq_getElem?_getD, List.getElem?_set] at ih ⊢
    have h1 := h j (by omega)
    unfold nth at h1
    simp only [List.getD_eq_getElem?_getD] at h1
    rw [if_neg h1]
    exact ih
/-- the sum with the solution's entries, by the pivots -/
theorem sol_dot (F : Fld O El) {E : List (List Int)} {P : List Int} {f : Nat → Int} (hf : ∀ q, q < k → El (f q)) (hE : Rws El (k + 1) E) (hle : P.length ≤ E.length) (hP : ∀ j, j < P.length → 0 ≤ nth P j ∧ nth P j < k) (ha : ∀ i j, i < j → j < P.length → nth P i < nth P j) :
    ∀ j, j ≤ P.length → dotN O f (fun q => nth (solTo k E P j) q) k = dotN O (fun i => f (nth P i).toNat) (fun i => nth (nthR E i) k) j
  | 0, _ => by
    refine dotN_zero F _ fun q hq => ?_
    show O.mul (f q) (nth (solTo k E P 0) q) = 0
    rw [solTo, nth_rep0, F.mzero (hf q hq)]
  | j + 1, hj => by
    have ih := sol_dot F hf hE hle hP ha j (by omega)
    have hpj := hP j (by omega)
    have h0 : nth (solTo k E P j) (nth P j).toNat = 0 := sol_out j fun i hi => by
      have := ha i j hi (by omega)
      have := hP i (by omega)
      omega
    have h := dotN_set F (f := f) (x := solTo k E P j) (v := nth (nthR E j) k) (p := (nth P j).toNat) hf (sol_el F hE hle j (by omega)) (Vc.at (hE.row (i := j) (by omega)) (by omega)) (by omega) (solTo_len _ _ _ _) h0 k (Nat.le_refl _)
    rw [if_pos (by omega)] at h
    show dotN O f (fun q => nth ((solTo k E P j).set (nth P j).toNat (nth (nthR E j) k)) q) k = _
    rw [h, ih]
    rfl
/-- the solution solves -/
theorem sol_solves (F : Fld O El) {A : List (List Int)} {b : List Int} (hA : Rws El k A) (hb : b.length = A.length) (hbe : ∀ x ∈ b, El x) (hr : (elimTo O A k).2.length = A.length) :
    (∀ q, q < k → El (nth (solL O A b k) q)) ∧ (elimTo O (augL A b) k).2.length = A.length ∧ ∀ i, i < A.length → dotN O (fun q => nth (nthR A i) q) (fun q => nth (solL O A b k) q) k = nth b i := by
  have hJ := aug_rws hA hb hbe
  have htk := (elimTo_take (O := O) (k := k) (J := augL A b) k (Nat.le_refl _)).2
  rw [aug_take hA hb] at htk
  rw [htk] at hr
  obtain ⟨h1, _, h3⟩ := elim_inv F hJ k (by omega)
  have hLd := elim_lead F hJ k (by omega)
  have hEr := elim_rws F hJ k (by omega)
  have hEl : (elimTo O (augL A b) k).1.length = A.length := by rw [elimTo_length, augL_len hb]
  unfold solL
  refine ⟨sol_el F hEr (by omega) _ (Nat.le_refl _), hr, fun i hi => ?_⟩
  obtain ⟨e, he, hx⟩ := h3 i (by rw [augL_len hb]; exact hi)
  rw [nthR_aug hb hi] at hx
  have hx : ∀ x, x < k + 1 → nth (nthR A i ++ [nth b i]) x = e (colS (elimTo O (augL A b) k).1 x) := fun x h => hx x h
  have hAi := hA.row hi
  have hxa : ∀ q, q < k → nth (nthR A i) q = e (colS (elimTo O (augL A b) k).1 q) := fun q hq => by
    rw [← hx q (by omega), nth_app (by rw [hAi.1]; exact hq)]
  have hxb : nth b i = e (colS (elimTo O (augL A b) k).1 k) := by
    rw [← hx k (by omega)]
    have h4 := hAi.1
    rw [← h4, nth_app_end]
  rw [sol_dot F (f := fun q => nth (nthR A i) q) (fun q hq => Vc.at hAi hq) hEr (by omega) (fun j hj => by have := h1.lt j hj; omega) hLd.asc _ (Nat.le_refl _), hxb, form_unit F he (colS_vc hEr F.zero k), hEl, hr]
  refine dotN_congr _ fun j hj => ⟨?_, ?_⟩
  · have hpj := h1.lt j (by omega)
    show nth (nthR A i) (nth (elimTo O (augL A b) k).2 j).toNat = _
    rw [hxa _ (by omega)]
    congr 1
    refine nth_ext (by rw [colS_length, unitR_len]; exact hEl) fun q hq => ?_
    rw [colS_length] at hq
    rw [nth_colS _ _ q hq, nth_unitR (by omega)]
    exact h1.one j q (by omega) hq
  · rw [nth_colS _ _ j (by omega)]

/-- the sum of y and a word that is 0 at the positions t -/
def vanX (O : FOps) (L : List (List Int)) (y t : List Int) : List Int := solL O (t.map fun q => colS L q.toNat) (t.map fun q => O.neg (nth y q.toNat)) L.length
def vanL (O : FOps) (m : Nat) (L : List (List Int)) (y t : List Int) : List Int := addRow O y 1 (cmbTo O m (vanX O L y t) L L.length)
theorem van_els (F : Fld O El) {L : List (List Int)} (hL : Rws El m L) {y t : List Int} (hy : Vc El m y) (hT : InN m t) : Rws El L.length (t.map fun q => colS L q.toNat) ∧ ∀ x ∈ (t.map fun q => O.neg (nth y q.toNat)), El x := by
  refine ⟨fun r hr => ?_, fun x hx => ?_⟩
  · obtain ⟨q, _, rfl⟩ := List.mem_map.1 hr
    exact colS_vc hL F.zero _
  · obtain ⟨q, hq, rfl⟩ := List.mem_map.1 hx
    obtain ⟨j, hj, rfl⟩ := List.mem_iff_getElem.1 hq
    have := hT j hj
    rw [nth_getElem hj] at this
    exact F.cl.neg _ (hy.at (by omega))
theorem van_cos (F : Fld O El) {L : List (List Int)} (hL : Rws El m L) {y t : List Int} (hy : Vc El m y) (hT : InN m t) (ht : rkQ O L t = t.length) :
    Cos O El m L y (vanL O m L y t) ∧ (∀ x ∈ t, nth (vanL O m L y t) x.toNat = 0) ∧ (∀ q, q < L.length → El (nth (vanX O L y t) q)) ∧ (elimTo O (augL (t.map fun q => colS L q.toNat) (t.map fun q => O.neg (nth y q.toNat))) L.length).2.length = t.length := by
  obtain ⟨hA, hb⟩ := van_els F hL hy hT
  obtain ⟨hxe, hpl, hsol⟩ := sol_solves F hA (b := t.map fun q => O.neg (nth y q.toNat)) (by simp) hb (by rw [row_rank F hL hT ht, List.length_map])
  rw [List.length_map] at hpl
  have hxe' : ∀ q, q < L.length → El (nth (vanX O L y t) q) := hxe
  obtain ⟨c1, c2⟩ := cmb_rs F hL hxe' L.length (Nat.le_refl _)
  have hl : (cmbTo O m (vanX O L y t) L L.length).length = y.length := by rw [c1.1, hy.1]
  have hat : ∀ x, x < m → nth (vanL O m L y t) x = O.add (nth y x) (nth (cmbTo O m (vanX O L y t) L L.length) x) := fun x hx => by
    unfold vanL
    rw [nth_addRow _ _ _ _ _ hl (by rw [hy.1]; exact hx)]
    split
    · rename_i h0
      rw [h0, F.add_zero _ (hy.at hx)]
    · rw [F.one_mul _ (c1.at hx)]
  refine ⟨⟨⟨by unfold vanL; rw [addRow_length _ _ _ _ hl]; exact hy.1, by unfold vanL; exact addRow_el F.cl hy.2 c1.2 F.one⟩, _, c2, fun x hx => c1.at hx, hat⟩, fun x hx => ?_, hxe', hpl⟩
  obtain ⟨i, hi, rfl⟩ := List.mem_iff_getElem.1 hx
  have hti := hT i hi
  rw [nth_getElem hi] at hti
  have hi2 : i < (t.map fun q => colS L q.toNat).length := by rw [List.length_map]; exact hi
  have h := hsol i hi2
  have e1 : nth (t.map fun q => O.neg (nth y q.toNat)) i = O.neg (nth y (t[i]).toNat) := by
    rw [nth_getElem (by rw [List.length_map]; exact hi)]; simp
  have e2 : nthR (t.map fun q => colS L q.toNat) i = colS L (t[i]).toNat := by
    rw [nthR_getElem hi2]; simp
  rw [e1, e2] at h
  rw [hat _ (by omega), cmb_dot F hL hxe' (by omega) _ (Nat.le_refl _)]
  have e3 : dotN O (fun q => nth (vanX O L y t) q) (fun q => nth (nthR L q) (t[i]).toNat) L.length = O.neg (nth y (t[i]).toNat) := by
    rw [← h, dotN_comm F _ (fun q hq => hxe' q hq) fun q hq => Vc.at (hL.row hq) (by omega)]
    exact dotN_congr _ fun q hq => ⟨(nth_colS L _ q hq).symm, rfl⟩
  rw [e3, F.add_neg _ (hy.at (by omega))]
end

theorem wt_pick (s X : List Int) : ∀ k, wtL (pickL (frTo false s k) X) = cntTo s X k
  | 0 => by simp [frTo, pickL, wtL, cntTo]
  | k + 1 => by
    have ih := wt_pick s X k
    rw [frTo, cntTo]
    by_cases h : (k : Int) ∈ s
    · rw [if_neg (by simpa using h), if_neg fun hh => hh.2 h, ih]
    · rw [if_pos (by simpa using h)]
      unfold pickL wtL at ih ⊢
      rw [List.map_append, List.countP_append, ih]
      by_cases h0 : nth X k = 0
      · rw [if_neg fun hh => hh.1 h0]; simp [h0]
      · rw [if_pos ⟨h0, h⟩]; simp [h0]
end

/- The walks of codewrightref09: Unit, square, Rank. -/
section
open Go.RowKit
end

/- The walks of codewrightref09 at valid matrices: square, Canonical, Rank, two. -/
section
open Go.RowKit

theorem rMat_ok {P M : Int} (am : Option Addr) (mn cm : Nat) {mod : List Int} (k : Nat) (a : Option Addr) (n c : Nat) {D : List (List Int)} {w : World} (hmod : Ints w am mn mod) (hi : Mat w a n D) (hB : fieldB P M mod = true) (hR : Rws (tblOf P M.toNat mod).El k D) (hk : k ≤ 256) (hn : n ≤ 256) :
    ∀ V, Below w.heap.size w V → Calls Tryz.prog 133 #[.agg #[.int .i64 P, .int .i64 M, .slice am mn cm], .agg #[.int .i64 k, .slice a n c]] V fun e w' => e = .returned (.int .i64 0) ∧ Below V.heap.size V w' := fun V hV => by
  have h := rMatCheck_any P M am mn cm mod k a n c D V (hmod.keep hV) (hi.keep hV)
  rw [rmatE_eq, fmatE_mk hB hk (by rw [hi.len]; exact hn) hR] at h
  exact h
end

/- The walk of codewrightref09.Transform, at valid square matrices. -/
section
open Go.RowKit

theorem Ints.drop {w : World} {b o : Nat} {n k : Nat} {l : List Int} (h : Ints w (some ⟨b, o, none⟩) n l) (hk : k ≤ n) : Ints w (some ⟨b, o + k, none⟩) (n - k) (l.drop k) :=
  ⟨by rw [List.length_drop, h.len], fun _ => rfl, by have := h.max; omega, fun i hi => by
    have h1 := h.cell (k + i) (by omega)
    have e : nth (l.drop k) i = nth l (k + i) := by unfold nth; simp only [List.getD_eq_getElem?_getD, List.getElem?_drop]
    rw [e]
    simp only [ablk_some, aoff_some] at h1 ⊢
    rw [Nat.add_assoc]; exact h1⟩
end

end Go.Proofs.YtapjcccpokhhhaaGreat
