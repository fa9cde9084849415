/- Words of a code: reduced by canonical rows they vanish; combinations of rows (plain law). -/
import Derived.Test.YtapjcccpokhhhaaG18
import Derived.Test.YtapjcccpokhhhaaG17
namespace Go.Proofs.Ytapjcccpokhhhaa
set_option linter.unusedVariables false
set_option linter.unusedSimpArgs false
set_option linter.unusedSectionVars false

/- The walk of matrix.eliminate with a second matrix. -/
section
open Go.RowKit

variable {w : World} {b : Nat} {G : Tbl}
theorem OMat2.of_blocks {w' : World} {B : Nat} {a : Option Addr} {n c : Nat} {R : List (Option Addr × Nat)} {a2 : Option Addr} {c2 : Nat} {S : List (Option Addr × Nat)} {len : Nat} {J : List (List Int)} (h : OMat2 w B a n c R a2 c2 S len J) (hb : ∀ b, I2 a R a2 S b → w'.heap[b]? = w.heap[b]?) : OMat2 w' B a n c R a2 c2 S len J :=
  ⟨h.om1.of_blocks fun b hb' => hb b (.inl hb'), h.om2.of_blocks fun b hb' => hb b (.inr hb'), h.dis⟩

def ElimPostA (w0 : World) (a : Option Addr) (n c : Nat) (R : List (Option Addr × Nat)) (ae : Option Addr) (ce : Nat) (S : List (Option Addr × Nat)) (len : Nat) (L : List (List Int)) (m : Nat) (G : Tbl) (w : World) (e : Ending) (w' : World) : Prop :=
  ∃ R' S' ap cp d, e = .returned (.tuple #[.slice ap (elimTo G.ops L m).2.length cp, .int .i64 d]) ∧ OMat2 w' w0.heap.size a n c R' ae ce S' len (elimTo G.ops L m).1 ∧
    w'.ownsRow w.heap.size 3 1 (.slice ap (elimTo G.ops L m).2.length cp) (elimTo G.ops L m).2.length ((elimTo G.ops L m).2.map (Value.int .i64)) ∧ Moves w w' (I2 a R ae S) (I2 a R' ae S') ∧ Below w0.heap.size w0 w'

set_option maxRecDepth 100000 in
set_option maxHeartbeats 4000000 in
theorem eliminateA_any (w0 : World) (a : Option Addr) (n c m len tot : Nat) (R : List (Option Addr × Nat)) (ae : Option Addr) (ce : Nat) (S : List (Option Addr × Nat)) (L : List (List Int)) (h : GFw w0 b G) (hb : Below w0.heap.size w0 w) (hO : OMat2 w w0.heap.size a n c R ae ce S len L)
    (hR : Rws G.El tot L) (hml : m ≤ len) (hlt : len ≤ tot) (hlen : tot ≤ 1000000) (hn : n ≤ 1000000) :
    Calls Try.prog 39 #[.pointer (some ⟨b, 0, none⟩), .slice a n c, .int .i64 m, .slice ae n ce] w (ElimPostA w0 a n c R ae ce S len L m G w) := by
  have hfin : ∀ w' R' S' ap cp d Lk P, (Lk, P) = elimTo G.ops L m → OMat2 w' w0.heap.size a n c R' ae ce S' len Lk → w'.ownsRow w.heap.size 3 1 (.slice ap P.length cp) P.length (P.map (Value.int .i64)) → Moves w w' (I2 a R ae S) (I2 a R' ae S') →
      ElimPostA w0 a n c R ae ce S len L m G w (.returned (.tuple #[.slice ap P.length cp, .int .i64 d])) w' := by
    intro w' R' S' ap cp d Lk P he h1 h2 h3
    have e1 : (elimTo G.ops L m).1 = Lk := by rw [← he]
    have e2 : (elimTo G.ops L m).2 = P := by rw [← he]
    refine ⟨R', S', ap, cp, d, ?_, ?_, ?_, h3, hb.trans (h3.below (fun b' hb' => (hO.lt b' hb').1) hb.size)⟩
    · rw [e2]
    · rw [e1]; exact h1
    · rw [e2]; exact h2
  have Hfin := Lib.hid hfin
  clear hfin
  have hpl := hO.om1.pl
  have hGe : G.El 1 := ⟨by omega, by have := h.q2; omega⟩
  have hal := ((Below.refl w.heap.size w).alloc (Nat.le_refl _) (.cells #[.pointer (some ⟨b, 0, none⟩)] 51))
  go_enter Try.func39, Try.ntmps39
  have hmf : ∀ (fn : Fn) (first cap : Array Value) (w : World), (Instr.makeFunc fn first cap).run Try.prog w = .ok (.func fn first cap) w := fun _ _ _ _ => rfl
  go_wp2_with fail
  obtain ⟨W0, hW0⟩ : ∃ W0 : World, W0 = ((w.alloc (.cells #[.pointer (some ⟨b, 0, none⟩)] 51)).alloc (.cells #[.slice a n c] 30)).alloc (.cells #[.slice ae n ce] 30) := ⟨_, rfl⟩
  rw [← hW0]
  have hbW0 : Below w.heap.size w W0 := by rw [hW0]; exact ((hal.alloc (by simp) _).alloc (by simp; omega) _)
  have hsW0 : w.heap.size + 1 + 1 + 1 = W0.heap.size := by rw [hW0]; simp
  have q0 : W0.cell? ⟨w.heap.size, 0, none⟩ = some (.pointer (some ⟨b, 0, none⟩)) := by rw [hW0]; exact cell_box (cell_box (cell_new _ _ _) _) _
  have q1 : W0.cell? ⟨w.heap.size + 1, 0, none⟩ = some (.slice a n c) := by rw [hW0]; exact cell_box (cell_new' _ _ _ (by simp)) _
  have q2 : W0.cell? ⟨w.heap.size + 1 + 1, 0, none⟩ = some (.slice ae n ce) := by rw [hW0]; exact cell_new' _ _ _ (by simp)
  have HsW0 := Lib.hid hsW0
  clear hsW0 hW0 hal
  go_loopw [10, 12, 13] (fun dv pv cv wr => ∃ (k : Nat) (R' : List (Option Addr × Nat)) (S' : List (Option Addr × Nat)) (ap : Option Addr) (cp : Nat) (d : Int) (Lk : List (List Int)) (P : List Int), k ≤ m ∧ cv = .int .i64 k ∧ pv = .slice ap P.length cp ∧ dv = .int .i64 d ∧
      Hid ((Lk, P) = elimTo G.ops L k) ∧ OMat2 wr w0.heap.size a n c R' ae ce S' len Lk ∧ wr.ownsRow (w.heap.size + 1 + 1 + 1) 3 1 (.slice ap P.length cp) P.length (P.map (Value.int .i64)) ∧ Hid (ap ≠ none → ¬ I2 a R' ae S' (ablk ap)) ∧
      Moves W0 wr (I2 a R ae S) (I2 a R' ae S') ∧ Rws G.El tot Lk ∧ G.El d ∧ P.length ≤ n)
    (fun _ _ cv _ => m - (intOf cv).toNat)
  case atStart =>
    exact ⟨0, R, S, none, 0, 1, L, [], Nat.zero_le _, rfl, rfl, rfl, rfl, hO.keep hbW0, own_none, fun h => absurd rfl h, Moves.refl _ _, hR, hGe, Nat.zero_le _⟩
  case round =>
    obtain ⟨k, R', S', ap, cp, d, Lk, P, hkm, rfl, rfl, rfl, hst, hOr, hop, hoi, hmv, hrw, hde, hPn⟩ := hrel
    generalize wr = V at *
    have r0 := hmv.cell q0 (hO.new (Nat.le_refl _))
    have r1 := hmv.cell q1 (hO.new (by simp))
    have r2 := hmv.cell q2 (hO.new (by simp; omega))
    have hmw : Moves w V (I2 a R ae S) (I2 a R' ae S') := (Moves.of_below hbW0 _).trans hmv
    have hLkn : Lk.length = n := hOr.ll
    have HLkn := Lib.hid hLkn
    clear hLkn
    by_cases hk : k < m
    · by_cases hPl : P.length < n
      · have hPl' : (P.length : Int) < n := by omega
        have hk' : (k : Int) < m := by omega
        go_wp2_with fail
        obtain ⟨Y, hY⟩ : ∃ Y : World, Y = (V.alloc (.cells #[.int .i64 P.length] 3)).alloc (.cells #[.int .i64 P.length] 3) := ⟨_, rfl⟩
        rw [← hY]
        have hbY : Below V.heap.size V Y := by rw [hY]; exact ((Below.refl _ _).alloc (Nat.le_refl _) _).alloc (by simp) _
        have hYs : Y.heap.size = V.heap.size + 2 := by rw [hY]; simp
        have yt : Y.cell? ⟨V.heap.size, 0, none⟩ = some (.int .i64 P.length) := by rw [hY]; exact cell_box (cell_new _ _ _) _
        have yk : Y.cell? ⟨V.heap.size + 1, 0, none⟩ = some (.int .i64 P.length) := by rw [hY]; exact cell_new' _ _ _ (by simp)
        have yf : Y.frozen? ⟨V.heap.size + 1, 0, none⟩ = false := by rw [hY]; simp
        have HYs := Lib.hid hYs
        have HPn := Lib.hid hPn
        clear hY hYs
        go_loopw [] (fun wx => ∃ j : Nat, P.length ≤ j ∧ j ≤ n ∧ Hid (findRow Lk k P.length = findRow Lk k j) ∧ wx.cell? ⟨V.heap.size + 1, 0, none⟩ = some (.int .i64 j) ∧ wx.frozen? ⟨V.heap.size + 1, 0, none⟩ = false ∧ Below (V.heap.size + 1) Y wx)
          (fun wx => n - (intOf ((wx.cell? ⟨V.heap.size + 1, 0, none⟩).getD undef)).toNat)
        case atStart => exact ⟨P.length, Nat.le_refl _, hPn, rfl, yk, yf, Below.refl _ _⟩
        case round =>
          obtain ⟨j, hj1, hj2, hfr, kx, kf, hYx⟩ := hrel
          have hbx : Below V.heap.size V wr := hbY.trans (hYx.mono (by omega))
          have hOx := hOr.keep hbx
          have x0 := cell_keep hbx r0
          have x1 := cell_keep hbx r1
          have x2 := cell_keep hbx r2
          have xt : wr.cell? ⟨V.heap.size, 0, none⟩ = some (.int .i64 P.length) := (hYx.cell (by simp)).trans yt
          by_cases hjn : j < n
          · have hLj : j < Lk.length := by rw [HLkn.out]; exact hjn
            have hrow := hrw.row hLj
            have ci := hOx.cell hjn (by rw [hrow.1]; exact hlt)
            have ri := hOx.ints hjn (by rw [hrow.1]; exact hlt)
            have ck := ri.cell k (by omega)
            rw [nth_takeL _ (show k < len by omega)] at ck
            have hpr := ri.pl
            have hkl : (k : Int) < len := by omega
            have hfs := findRow_step (c := k) hLj
            by_cases hz : nth (nthR Lk j) k = 0
            · rw [if_pos hz] at hfs
              have hz' : (nth (nthR Lk j) k == 0) = true := by simpa using hz
              have Hf : Hid (findRow Lk k P.length = findRow Lk k (j + 1)) := by show _ = _; rw [hfr.out, hfs]
              clear hz hfs hrow
              go_wp2_with fail
              go_roundw
              case rel =>
                refine ⟨j + 1, by omega, by omega, Hf.out, World.cell?_setCell_same _ _ _ kx, by rw [World.frozen?_setCell]; exact kf, hYx.setCell (by simp) _⟩
              case measure => rw [World.cell?_setCell_same _ _ _ kx, kx]; simp [intOf] <;> omega
            · rw [if_neg hz] at hfs
              have hz' : (nth (nthR Lk j) k == 0) = false := by simpa using hz
              have Hf : Hid (findRow Lk k P.length = j) := by show _ = _; rw [hfr.out, hfs]
              have hjn' : ((j : Int) == n) = false := by simp; omega
              have Hz := Lib.hid hz
              clear hz
              have Hrow := Lib.hid hrow
              clear hfs hrow
              have n0 : ¬ I2 a R' ae S' w.heap.size := hmv.not (by have := HsW0.out; omega) (hO.new (Nat.le_refl _))
              have n1 : ¬ I2 a R' ae S' (w.heap.size + 1) := hmv.not (by have := HsW0.out; omega) (hO.new (by omega))
              have n2 : ¬ I2 a R' ae S' (w.heap.size + 1 + 1) := hmv.not (by have := HsW0.out; omega) (hO.new (by omega))
              have nt : ¬ I2 a R' ae S' V.heap.size := hOr.new (Nat.le_refl _)
              have nk : ¬ I2 a R' ae S' (V.heap.size + 1) := hOr.new (by omega)
              have hx0 : Below w0.heap.size w0 wr := hb.trans (Moves.below (hmw.trans (Moves.of_below hbx _)) (fun b' hb' => (hO.lt b' hb').1) hb.size)
              have HN := Lib.hid (And.intro n0 (And.intro n1 (And.intro n2 (And.intro nt nk))))
              clear n0 n1 n2 nt nk
              go_upto_if 58 with fail
              go_cut [10] (fun dv wx => ∃ (d' : Int) (R1 : List (Option Addr × Nat)) (S1 : List (Option Addr × Nat)), dv = .int .i64 d' ∧ G.El d' ∧ OMat2 wx w0.heap.size a n c R1 ae ce S1 len (if j = P.length then Lk else swapRow Lk P.length j) ∧ Moves wr wx (I2 a R' ae S') (I2 a R1 ae S1))
              case first =>
                by_cases hjt : j = P.length
                · have hjt' : ((j : Int) != P.length) = false := by simp [hjt]
                  have Hm : Hid ((if j = P.length then Lk else swapRow Lk P.length j) = Lk) := if_pos hjt
                  clear hjt
                  go_wp2_with fail
                  go_meet
                  exact ⟨d, R', S', rfl, hde, by rw [Hm.out]; exact hOx, Moves.refl _ _⟩
                · have hjt' : ((j : Int) != P.length) = true := by simp; omega
                  have Hm : Hid ((if j = P.length then Lk else swapRow Lk P.length j) = swapRow Lk P.length j) := if_neg hjt
                  have hea := swap2_any w0.heap.size a n c R' ae ce S' len Lk (w.heap.size + 1) (w.heap.size + 1 + 1) (V.heap.size + 1) V.heap.size j P.length hOx x1 x2 HN.out.2.2.1 kx xt hjn hPl hjt HN.out.2.2.2.2 HN.out.2.2.2.1 hn
                  have Hea := Lib.hid hea
                  clear hjt hea
                  go_wp2_with fail
                  refine Hea.out.mono ?_
                  rintro e w5 ⟨rfl, R1, S1, hO5, hM5⟩
                  have z0 := hM5.cell x0 HN.out.1
                  have hb5 : Below w0.heap.size w0 w5 := hx0.trans (hM5.below (fun b' hb' => (hOx.lt b' hb').1) hx0.size)
                  go_wp2_with fail
                  refine (gNeg d (h.keep hb5) hde).mono ?_
                  rintro e w6 ⟨m6, rfl, rfl⟩
                  go_wp2_with fail
                  go_meet
                  exact ⟨_, R1, S1, rfl, Tbl.neg_el h d, by rw [Hm.out]; exact hO5.keep (below_drewN (Below.refl _ _) m6), hM5.trans (Moves.of_below (below_drewN (Below.refl _ _) m6) _)⟩
              obtain ⟨d', R1, S1, rfl, hde', hO1, hM1⟩ := hcut
              generalize wc = U at *
              obtain ⟨hrw1, hl1, hnz1⟩ := Rws.flip (t := P.length) hrw HLkn.out hPl hjn Hz.out
              have c0 := hM1.cell x0 HN.out.1
              have c1 := hM1.cell x1 HN.out.2.1
              have c2 := hM1.cell x2 HN.out.2.2.1
              have ct := hM1.cell xt HN.out.2.2.2.1
              have m0 : ¬ I2 a R1 ae S1 w.heap.size := hM1.not (World.block_lt_of_cell? wr _ x0) HN.out.1
              have m1 : ¬ I2 a R1 ae S1 (w.heap.size + 1) := hM1.not (World.block_lt_of_cell? wr _ x1) HN.out.2.1
              have m2 : ¬ I2 a R1 ae S1 (w.heap.size + 1 + 1) := hM1.not (World.block_lt_of_cell? wr _ x2) HN.out.2.2.1
              have mt : ¬ I2 a R1 ae S1 V.heap.size := hM1.not (World.block_lt_of_cell? wr _ xt) HN.out.2.2.2.1
              have hc0 : Below w0.heap.size w0 U := hx0.trans (hM1.below (fun b' hb' => (hOx.lt b' hb').1) hx0.size)
              have HM := Lib.hid (And.intro m0 (And.intro m1 (And.intro m2 mt)))
              have HL1 : Hid (pivotS G.ops Lk P.length j k = clearTo G.ops P.length k (normRow G.ops (if j = P.length then Lk else swapRow Lk P.length j) P.length k) n) := by
                show _ = _; rw [pivotS_eq, HLkn.out]
              generalize (if j = P.length then Lk else swapRow Lk P.length j) = L1 at *
              have hrow1 := hrw1.row (i := P.length) (by omega)
              have tr := hO1.cell hPl (by rw [hrow1.1]; exact hlt)
              have ti := hO1.ints hPl (by rw [hrow1.1]; exact hlt)
              have tc := ti.cell k (by omega)
              rw [nth_takeL _ (show k < len by omega)] at tc
              have tp := ti.pl
              have hkl : (k : Int) < len := by omega
              have hel : G.El (nth (nthR L1 P.length) k) := hrow1.2 _ (nth_mem (by rw [hrow1.1]; omega))
              have hG1 := h.keep hc0
              have HG1 : Hid (GFw U.drew b G ∧ (∀ n, GFw (U.drewN n) b G) ∧ ∀ n, GFw ((U.drewN n).alloc (.cells #[.int .i64 0] 3)) b G) :=
                ⟨hG1.keep (Below.refl _ _).drew, fun n => hG1.drewN n, fun n => (hG1.drewN n).keep ((Below.refl _ _).alloc (Nat.le_refl _) _)⟩
              have Hnz := Lib.hid hnz1
              have Hl1 := Lib.hid hl1
              have Hrow1 := Lib.hid hrow1
              clear hrow1 hl1 hnz1 m0 m1 m2 mt x0 x1 x2 xt kx kf ci ri ck hpr r0 r1 r2 yt yk yf q0 q1 q2
              go_upto_region 15 with fail
              go_cut [10] (fun dv wx => ∃ d2 : Int, dv = .int .i64 d2 ∧ G.El d2 ∧ Drawn U wx)
              case first =>
                go_region_held3 (fun w' => w'.cell? ⟨w.heap.size, 0, none⟩ = some (.pointer (some ⟨b, 0, none⟩)) ∧ w'.cell? ⟨w.heap.size + 1, 0, none⟩ = some (.slice a n c) ∧ w'.cell? ⟨V.heap.size, 0, none⟩ = some (.int .i64 P.length) ∧
                    w'.cell? ⟨ablk a, aoff a + P.length, none⟩ = some (.slice (nthA R1 P.length).1 len (nthA R1 P.length).2) ∧ w'.cell? ⟨ablk (nthA R1 P.length).1, aoff (nthA R1 P.length).1 + k, none⟩ = some (.int .i64 (nth (nthR L1 P.length) k)))
                  (exact ⟨c0, c1, ct, tr, tc⟩)
                  (first
                  | (go_at_call 50; ((with_reducible refine (gMul d' _ HG1.out.1 hde' hel).mono ?_); rintro e w4 ⟨m4, rfl, rfl⟩)))
                all_goals (
                  go_step; go_step
                  go_meet
                  exact ⟨_, rfl, Tbl.mul_el h _ _, ⟨_, rfl⟩⟩)
              obtain ⟨d2, rfl, hde2, m5, rfl⟩ := hcut
              have hS : ∀ W, Below U.heap.size U W → W.cell? ⟨w.heap.size, 0, none⟩ = some (.pointer (some ⟨b, 0, none⟩)) ∧ W.cell? ⟨w.heap.size + 1, 0, none⟩ = some (.slice a n c) ∧ W.cell? ⟨V.heap.size, 0, none⟩ = some (.int .i64 P.length) ∧
                    W.cell? ⟨ablk a, aoff a + P.length, none⟩ = some (.slice (nthA R1 P.length).1 len (nthA R1 P.length).2) ∧ W.cell? ⟨ablk (nthA R1 P.length).1, aoff (nthA R1 P.length).1 + k, none⟩ = some (.int .i64 (nth (nthR L1 P.length) k)) ∧ Below U.heap.size U W :=
                fun W hW => ⟨cell_keep hW c0, cell_keep hW c1, cell_keep hW ct, cell_keep hW tr, cell_keep hW tc, hW⟩
              have HS := Lib.hid hS
              clear hS
              go_upto_region 16 with fail
              go_cut [16, 17] (fun iv ev wx => ∃ gi, iv = .pointer (some ⟨gi, 0, none⟩) ∧ U.heap.size ≤ gi ∧ ev = .int .i64 0 ∧ wx.cell? ⟨gi, 0, none⟩ = some (.int .i64 (G.inv (nth (nthR L1 P.length) k))) ∧ Below U.heap.size U wx)
              case first =>
                have hBU : Below U.heap.size U (U.drewN m5) := below_drewN (Below.refl _ _) m5
                have hfc : ∀ k, ((U.drewN k).alloc (.cells #[.int .i64 0] 3)).cell? ⟨U.heap.size, 0, none⟩ = some (.int .i64 0) := fun k => cell_new (U.drewN k) _ _
                have hfc2 : ∀ k k', (((U.drewN k).alloc (.cells #[.int .i64 0] 3)).drewN k').cell? ⟨U.heap.size, 0, none⟩ = some (.int .i64 0) := fun k _ => cell_new (U.drewN k) _ _
                have hff2 : ∀ k k', (((U.drewN k).alloc (.cells #[.int .i64 0] 3)).drewN k').frozen? ⟨U.heap.size, 0, none⟩ = false := fun k _ => frozen_new (U.drewN k) _ _
                have hff : ∀ k, ((U.drewN k).alloc (.cells #[.int .i64 0] 3)).frozen? ⟨U.heap.size, 0, none⟩ = false := fun k => frozen_new (U.drewN k) _ _
                go_region_held3 (fun W => W.cell? ⟨w.heap.size, 0, none⟩ = some (.pointer (some ⟨b, 0, none⟩)) ∧ W.cell? ⟨w.heap.size + 1, 0, none⟩ = some (.slice a n c) ∧ W.cell? ⟨V.heap.size, 0, none⟩ = some (.int .i64 P.length) ∧
                    W.cell? ⟨ablk a, aoff a + P.length, none⟩ = some (.slice (nthA R1 P.length).1 len (nthA R1 P.length).2) ∧ W.cell? ⟨ablk (nthA R1 P.length).1, aoff (nthA R1 P.length).1 + k, none⟩ = some (.int .i64 (nth (nthR L1 P.length) k)) ∧ Below U.heap.size U W)
                  ((refine HS.out _ ?_; first | exact hBU.drew | exact below_drewN (Below.refl _ _) _ | exact (below_drewN (Below.refl _ _) _).alloc (Nat.le_refl _) _ | exact ((below_drewN (Below.refl _ _) _).alloc (Nat.le_refl _) _).setCell (Nat.le_refl _) _ | exact below_drewN ((below_drewN (Below.refl _ _) _).alloc (Nat.le_refl _) _) _ | exact (below_drewN ((below_drewN (Below.refl _ _) _).alloc (Nat.le_refl _) _) _).setCell (Nat.le_refl _) _))
                  (first
                  | (go_at_call 53; ((with_reducible refine (gInv _ (HG1.out.2.1 _) hel Hnz.out).mono ?_); rintro e w4 ⟨m4, rfl, rfl⟩))
                  | (go_at_call 53; ((with_reducible refine (gInv _ (HG1.out.2.2 _) hel Hnz.out).mono ?_); rintro e w4 ⟨m4, rfl, rfl⟩)))
                all_goals (
                  go_step; go_step
                  go_meet)
                · exact ⟨U.heap.size, rfl, Nat.le_refl _, rfl, World.cell?_setCell_same _ _ _ (hfc _), ((below_drewN (Below.refl _ _) _).alloc (Nat.le_refl _) _).setCell (Nat.le_refl _) _⟩
                · exact ⟨U.heap.size, rfl, Nat.le_refl _, rfl, World.cell?_setCell_same _ _ _ (hfc2 _ _), (below_drewN ((below_drewN (Below.refl _ _) _).alloc (Nat.le_refl _) _) _).setCell (Nat.le_refl _) _⟩
              obtain ⟨gi, rfl, hgi, rfl, ig, hbi⟩ := hcut
              obtain ⟨i0, i1, it, ir, ic, _⟩ := HS.out wc hbi
              have i2 := cell_keep hbi c2
              have hOi := hO1.keep hbi
              have hci : Below w0.heap.size w0 wc := Below.trans hc0 (hbi.mono hc0.size)
              have hrw2 := hrw1.norm (Tbl.cl h) (t := P.length) (c := k) (by rw [Hl1.out]; exact hPl) (by omega) Hnz.out
              have hl2 : (normRow G.ops L1 P.length k).length = n := by rw [normRow_length]; exact Hl1.out
              have Hl2 := Lib.hid hl2
              clear hl2
              go_upto_if 92 with fail
              go_cut [] (fun wx => ∃ R2 S2, OMat2 wx w0.heap.size a n c R2 ae ce S2 len (normRow G.ops L1 P.length k) ∧ Moves U wx (I2 a R1 ae S1) (I2 a R2 ae S2))
              case first =>
                have hv : G.ops.inv (nth (nthR L1 P.length) k) = G.inv (nth (nthR L1 P.length) k) := rfl
                have Hv := Lib.hid hv
                clear hv
                by_cases hi1 : G.inv (nth (nthR L1 P.length) k) = 1
                · have Hn : Hid (normRow G.ops L1 P.length k = L1) := by show _ = _; rw [normRow, if_pos (by rw [Hv.out]; exact hi1)]
                  have hi1' : (G.inv (nth (nthR L1 P.length) k) != 1) = false := by simp [hi1]
                  clear hi1
                  go_wp2_with fail
                  go_meet
                  exact ⟨R1, S1, by rw [Hn.out]; exact hOi, Moves.of_below hbi _⟩
                · have Hn : Hid (normRow G.ops L1 P.length k = L1.set P.length ((nthR L1 P.length).map (G.mul (G.inv (nth (nthR L1 P.length) k))))) := by show _ = _; rw [normRow, if_neg (by rw [Hv.out]; exact hi1)]; rfl
                  have hi1' : (G.inv (nth (nthR L1 P.length) k) != 1) = true := by simpa using hi1
                  have hea := scale2_any w0 a n c R1 ae ce S1 len tot L1 (w.heap.size + 1) (w.heap.size + 1 + 1) w.heap.size gi V.heap.size (G.inv (nth (nthR L1 P.length) k)) P.length hOi i1 i2 HM.out.2.2.1 h hci i0 ig it hPl (Tbl.inv_el h _) HM.out.1 (hO1.new hgi) HM.out.2.2.2 Hrow1.out.2 (by rw [Hrow1.out.1]; exact hlen) hn
                  have Hea := Lib.hid hea
                  clear hi1 hea
                  go_wp2_with fail
                  refine Hea.out.mono ?_
                  rintro e w5 ⟨rfl, R2, S2, hO5, hM5⟩
                  go_wp2_with fail
                  go_meet
                  exact ⟨R2, S2, by rw [Hn.out]; exact hO5, (Moves.of_below hbi _).trans hM5⟩
              obtain ⟨R2, S2, hO2, hM2⟩ := hcut
              generalize wc = T at *
              have t0 := hM2.cell c0 HM.out.1
              have t1 := hM2.cell c1 HM.out.2.1
              have t2 := hM2.cell c2 HM.out.2.2.1
              have tt := hM2.cell ct HM.out.2.2.2
              have hc2 : Below w0.heap.size w0 T := hc0.trans (hM2.below (fun b' hb' => (hO1.lt b' hb').1) hc0.size)
              have k0 : ¬ I2 a R2 ae S2 w.heap.size := hM2.not (World.block_lt_of_cell? U _ c0) HM.out.1
              have k1 : ¬ I2 a R2 ae S2 (w.heap.size + 1) := hM2.not (World.block_lt_of_cell? U _ c1) HM.out.2.1
              have k2 : ¬ I2 a R2 ae S2 (w.heap.size + 1 + 1) := hM2.not (World.block_lt_of_cell? U _ c2) HM.out.2.2.1
              have k3 : ¬ I2 a R2 ae S2 V.heap.size := hM2.not (World.block_lt_of_cell? U _ ct) HM.out.2.2.2
              have HK := Lib.hid (And.intro k0 (And.intro k1 (And.intro k2 k3)))
              have hmT : Moves W0 T (I2 a R ae S) (I2 a R2 ae S2) := hmv.trans ((Moves.of_below hbx _).trans (hM1.trans hM2))
              have hop1 := own_keep hop hbx
              have hop2 := hM1.own hop1 hoi.out
              have ho2 : ap ≠ none → ¬ I2 a R1 ae S1 (ablk ap) := fun hn => hM1.not (own_ne hop1 hn).2 (hoi.out hn)
              have hop3 := hM2.own hop2 ho2
              have ho3 : ap ≠ none → ¬ I2 a R2 ae S2 (ablk ap) := fun hn => hM2.not (own_ne hop2 hn).2 (ho2 hn)
              have Ho3 := Lib.hid ho3
              clear k0 k1 k2 k3 c0 c1 c2 ct tr ti tc tp i0 i1 i2 it ir ic ig hop hop1 hop2 ho2 ho3 hel
              generalize normRow G.ops L1 P.length k = L2 at *
              go_upto_region 19 with fail
              go_wp2_with fail
              go_loopw [98] (fun iv wx => ∃ i : Nat, i ≤ n ∧ iv = .int .i64 i ∧ OMat2 wx w0.heap.size a n c R2 ae ce S2 len (clearTo G.ops P.length k L2 i) ∧ Moves T wx (I2 a R2 ae S2) (I2 a R2 ae S2)) (fun iv _ => n - (intOf iv).toNat)
              case atStart => exact ⟨0, Nat.zero_le _, rfl, hO2, Moves.refl _ _⟩
              case round =>
                obtain ⟨i, hi, rfl, hOi, hMi⟩ := hrel
                generalize wr = X at *
                have x0 := hMi.cell t0 HK.out.1
                have x1 := hMi.cell t1 HK.out.2.1
                have x2 := hMi.cell t2 HK.out.2.2.1
                have xt := hMi.cell tt HK.out.2.2.2
                have hcx : Below w0.heap.size w0 X := hc2.trans (hMi.below (fun b' hb' => (hO2.lt b' hb').1) hc2.size)
                by_cases hin : i < n
                · have hrwi := Rws.clear (Tbl.cl h) hrw2 (t := P.length) (c := k) (by rw [Hl2.out]; exact hPl) (by omega) i (by rw [Hl2.out]; exact hi)
                  have hli : (clearTo G.ops P.length k L2 i).length = n := by rw [clearTo_length]; exact Hl2.out
                  have hstep : clearTo G.ops P.length k L2 (i + 1) = if i = P.length then clearTo G.ops P.length k L2 i else (clearTo G.ops P.length k L2 i).set i (clearRow G.ops (nthR (clearTo G.ops P.length k L2 i) P.length) k (nthR (clearTo G.ops P.length k L2 i) i)) := rfl
                  have Hstep := Lib.hid hstep
                  clear hstep
                  generalize clearTo G.ops P.length k L2 i = Li at *
                  have hri := hrwi.row (i := i) (by omega)
                  have hrt := hrwi.row (i := P.length) (by omega)
                  have ci := hOi.cell hin (by rw [hri.1]; exact hlt)
                  have ii := hOi.ints hin (by rw [hri.1]; exact hlt)
                  have ck := ii.cell k (by omega)
                  rw [nth_takeL _ (show k < len by omega)] at ck
                  have hpi := ii.pl
                  have hxel : G.El (nth (nthR Li i) k) := hri.2 _ (nth_mem (by rw [hri.1]; omega))
                  have Hri := Lib.hid hri
                  have Hrt := Lib.hid hrt
                  clear hri hrt hli
                  have a1 := cell_box x1 (.cells #[.int .i64 i] 3)
                  have a2 := cell_new X (.int .i64 i) 3
                  have a3 := cell_box ci (.cells #[.int .i64 i] 3)
                  have a4 := cell_box ck (.cells #[.int .i64 i] 3)
                  have b1 := cell_box a1 (.cells #[.int .i64 (nth (nthR Li i) k)] 3)
                  have b2 := cell_box a2 (.cells #[.int .i64 (nth (nthR Li i) k)] 3)
                  have b3 := cell_box (cell_box xt (.cells #[.int .i64 i] 3)) (.cells #[.int .i64 (nth (nthR Li i) k)] 3)
                  have b4 : ((X.alloc (.cells #[.int .i64 i] 3)).alloc (.cells #[.int .i64 (nth (nthR Li i) k)] 3)).cell? ⟨X.heap.size + 1, 0, none⟩ = some (.int .i64 (nth (nthR Li i) k)) := cell_new' _ _ _ (by simp)
                  by_cases hit : i = P.length
                  · have hit' : ((i : Int) != P.length) = false := by simp [hit]
                    have Hn : Hid (clearTo G.ops P.length k L2 (i + 1) = Li) := by show _ = _; rw [Hstep.out, if_pos hit]
                    clear hit
                    go_wp2_with fail
                    go_roundw
                    case rel => exact ⟨i + 1, by omega, by go_num, by rw [Hn.out]; exact hOi.keep (((Below.refl _ _).alloc (Nat.le_refl _) _).alloc (by simp) _), hMi.trans (Moves.of_below (((Below.refl _ _).alloc (Nat.le_refl _) _).alloc (by simp) _) _)⟩
                    case measure => simp [intOf] <;> omega
                  · have hit' : ((i : Int) != P.length) = true := by simp; omega
                    by_cases hx0 : nth (nthR Li i) k = 0
                    · have hx0' : (nth (nthR Li i) k != 0) = false := by simp [hx0]
                      have Hn : Hid (clearTo G.ops P.length k L2 (i + 1) = Li) := by show _ = _; rw [Hstep.out, if_neg hit, clearRow, if_pos hx0, set_nthR]
                      clear hit hx0
                      go_wp2_with fail
                      go_roundw
                      case rel => exact ⟨i + 1, by omega, by go_num, by rw [Hn.out]; exact hOi.keep (((Below.refl _ _).alloc (Nat.le_refl _) _).alloc (by simp) _), hMi.trans (Moves.of_below (((Below.refl _ _).alloc (Nat.le_refl _) _).alloc (by simp) _) _)⟩
                      case measure => simp [intOf] <;> omega
                    · have hx0' : (nth (nthR Li i) k != 0) = true := by simpa using hx0
                      have Hn : Hid (clearTo G.ops P.length k L2 (i + 1) = Li.set i (addRow G.ops (nthR Li i) (G.neg (nth (nthR Li i) k)) (nthR Li P.length))) := by show _ = _; rw [Hstep.out, if_neg hit, clearRow, if_neg hx0]; rfl
                      have hbz : Below X.heap.size X ((X.alloc (.cells #[.int .i64 i] 3)).alloc (.cells #[.int .i64 (nth (nthR Li i) k)] 3)) := ((Below.refl _ _).alloc (Nat.le_refl _) _).alloc (by simp) _
                      have zi : ((X.alloc (.cells #[.int .i64 i] 3)).alloc (.cells #[.int .i64 (nth (nthR Li i) k)] 3)).cell? ⟨X.heap.size, 0, none⟩ = some (.int .i64 i) := cell_box (cell_new _ _ _) _
                      have zx : ((X.alloc (.cells #[.int .i64 i] 3)).alloc (.cells #[.int .i64 (nth (nthR Li i) k)] 3)).cell? ⟨X.heap.size + 1, 0, none⟩ = some (.int .i64 (nth (nthR Li i) k)) := cell_new' _ _ _ (by simp)
                      have hea := sweep2_any w0 a n c R2 ae ce S2 len tot Li (w.heap.size + 1) (w.heap.size + 1 + 1) w.heap.size X.heap.size (X.heap.size + 1) V.heap.size i (nth (nthR Li i) k) P.length (hOi.keep hbz) (cell_keep hbz x1) (cell_keep hbz x2) HK.out.2.2.1 h (hcx.trans (hbz.mono hcx.size)) (cell_keep hbz x0) zi zx (cell_keep hbz xt) hin hPl hit hxel
                        HK.out.1 (hOi.new (Nat.le_refl _)) (hOi.new (by omega)) HK.out.2.2.2 Hri.out.2 Hrt.out.2 Hri.out.1 Hrt.out.1 hlt hn
                      have hmz := hMi.trans (Moves.of_below hbz _)
                      have Hmz := Lib.hid hmz
                      have Hea := Lib.hid hea
                      clear hit hx0 hea zi zx hbz hmz
                      go_wp2_with fail
                      refine Hea.out.mono ?_
                      rintro e w5 ⟨rfl, hO5, hM5⟩
                      go_wp2_with fail
                      go_roundw
                      case rel => exact ⟨i + 1, by omega, by go_num, by rw [Hn.out]; exact hO5, Hmz.out.trans hM5⟩
                      case measure => simp [intOf] <;> omega
                · obtain rfl : i = n := by omega
                  have hopx := hMi.own hop3 Ho3.out
                  have hsz0 : w.heap.size + 1 + 1 + 1 ≤ X.heap.size := by
                    have e1 := HsW0.out
                    have e2 := (hmT.trans hMi).size
                    omega
                  have hcn := cell_new X (.int .i64 k) 3
                  have hbX := (Below.refl X.heap.size X).alloc (Nat.le_refl _) (.cells #[.int .i64 k] 3)
                  have hpl8 := HPn.out
                  go_wp2_with (at_builtin; refine wpList_push rfl _ _ 22 3 rfl (.int .i64 0) 8 Try.underlying22 infoInt rfl (w.heap.size + 1 + 1 + 1) ap P.length cp _ rfl (hopx.alloc _) ⟨X.heap.size, 0, none⟩ 1 (.int .i64 k) rfl hcn rfl (by omega) (by unfold maxLen; omega) (Nat.le_trans hsz0 hbX.size) ?_; intro a3 c3 w3 hown3 hgr hap3)
                  go_roundw
                  case rel =>
                    have hnx : elimTo G.ops L (k + 1) = (clearTo G.ops P.length k L2 i, P ++ [(k : Int)]) := by
                      rw [elimTo_next hst.out (by rw [HLkn.out]; exact hPl), if_neg (by rw [Hf.out, HLkn.out]; omega), Hf.out, HL1.out]
                    have hne : ∀ b', I2 a R2 ae S2 b' → Apt ap b' := fun b' hb' => by
                      by_cases hn : ap = none
                      · exact .inl hn
                      · exact .inr fun e => Ho3.out hn (by rw [e]; exact hb')
                    have hO3 : OMat2 w3 w0.heap.size a i c R2 ae ce S2 len (clearTo G.ops P.length k L2 i) :=
                      (hOi.keep hbX).of_blocks fun b' hb' => hgr.block b' ((hOi.keep hbX).lt b' hb').2 fun e => (hne b' hb').own P.length cp e.symm
                    have hb3 : Below (w.heap.size + 1 + 1 + 1) X w3 := Below.app (hbX.mono hsz0) (hopx.alloc _) hgr (Nat.le_refl _) (Nat.le_trans hsz0 hbX.size)
                    have hm3 : Moves W0 w3 (I2 a R ae S) (I2 a R2 ae S2) := by
                      have h1 := hmT.trans hMi
                      refine ⟨hb3.os.trans h1.os, hb3.tape.trans h1.tape, hb3.output.trans h1.output, Nat.le_trans h1.size hb3.size, fun b' hb' hI => (hb3.block b' (by rw [HsW0.out]; exact hb')).trans (h1.block b' hb' hI), h1.grow⟩
                    have hrw3 := Rws.clear (Tbl.cl h) hrw2 (t := P.length) (c := k) (by rw [Hl2.out]; exact hPl) (by omega) i (by rw [Hl2.out]; exact hi)
                    have ho4 : a3 ≠ none → ¬ I2 a R2 ae S2 (ablk a3) := fun hn hI => by
                      rcases hap3 _ ((hOi.keep hbX).lt _ hI).2 (hne _ hI) with h1 | h1
                      · exact hn h1
                      · exact h1 rfl
                    refine ⟨k + 1, R2, S2, a3, c3, d2, clearTo G.ops P.length k L2 i, P ++ [(k : Int)], by omega, by go_num, by simp, rfl, hnx.symm, hO3, ?_, ho4, hm3, hrw3, hde2, by simp; omega⟩
                    simpa using hown3
                  case measure => simp [intOf] <;> omega
          · obtain rfl : j = n := by omega
            have Hn : Hid ((Lk, P) = elimTo G.ops L (k + 1)) := by
              show _ = _; rw [elimTo_next hst.out (by rw [HLkn.out]; exact hPl), if_pos (by rw [hfr.out, findRow_end (by rw [HLkn.out]; exact Nat.le_refl _), HLkn.out])]
            go_wp2_with fail
            go_roundw
            case rel =>
              have hmx : Moves W0 wr (I2 a R ae S) (I2 a R' ae S') := hmv.trans (Moves.of_below hbx _)
              exact ⟨k + 1, R', S', ap, cp, d, Lk, P, by omega, by go_num, rfl, rfl, Hn.out, hOx, own_keep hop hbx, hoi.out, hmx, hrw, hde, HPn.out⟩
            case measure => simp [intOf] <;> omega
      · have hPe : P.length = n := by omega
        have hfull : (Lk, P) = elimTo G.ops L m := by
          rw [show m = k + (m - k) by omega, elimTo_full (by rw [← hst.out, hPe, ← hO.ll]), ← hst.out]
        have Hfull := Lib.hid hfull
        have hPe' : ((P.length : Int) < n) = False := by simp; omega
        clear hfull hPe
        go_wp2_with fail
        go_ret2
        exact Hfin.out _ _ _ _ _ _ _ _ Hfull.out hOr (own_mono hop (by omega)) hmw
    · obtain rfl : k = m := by omega
      go_wp2_with fail
      go_ret2
      exact Hfin.out _ _ _ _ _ _ _ _ hst.out hOr (own_mono hop (by omega)) hmw
end

/- The dual code is a code; its dimensions. -/
section
theorem mod_len {P M : Int} {mod : List Int} (h : fieldB P M mod = true) : mod.length ≤ 8 := by
  unfold fieldB shapeB at h
  simp only [Bool.and_eq_true, bne_iff_ne, ne_eq] at h
  obtain ⟨⟨⟨h1, _⟩, h3⟩, _⟩ := h
  have h2 := orderS_ne h1
  by_cases hM : M = 1
  · rw [if_pos hM] at h3
    have : mod.length = 0 := by simpa using h3
    omega
  · rw [if_neg hM] at h3
    simp only [Bool.and_eq_true, decide_eq_true_eq] at h3
    omega
/-- the dual code is a code, and its dimensions are those of the code -/
theorem dual_code {P M : Int} {mod : List Int} {m : Nat} {L : List (List Int)} (hE : codeE P M mod m L = 0) :
    codeE P M mod m (dualL (tblOf P M.toNat mod) L m) = 0 ∧ ∀ x, dimS (tblOf P M.toNat mod).ops (dualL (tblOf P M.toNat mod) L m) m x = dimS (tblOf P M.toNat mod).ops L m x := by
  obtain ⟨N', e, hm1, hm64, F, hR⟩ := codeE_fld hE
  obtain rfl : m = N' := by omega
  obtain ⟨hfB, h1, h64, h4⟩ := codeE_zero hE
  obtain ⟨h5, h6⟩ := spaceE_zero h4
  rw [Int.toNat_natCast] at h6
  have hcan : canO (tblOf P M.toNat mod).ops m L = L := h6
  obtain ⟨hPv, hLd⟩ := canO_piv F hR
  have hcl := canO_len F hR
  rw [hcan] at hPv hLd hcl
  have hK := kerL_rws F hR hPv hcl
  have hdl : dualL (tblOf P M.toNat mod) L m = canO (tblOf P M.toNat mod).ops m (kerL (tblOf P M.toNat mod).ops m L (elimTo (tblOf P M.toNat mod).ops L m).2 m) := by
    unfold dualL pivS
    rw [h6]
    rfl
  obtain ⟨k1, k2⟩ := ker_canon F hR hPv hLd hcl
  have hKR := canO_rws F hK
  have hidem := canO_idem F hK
  have hrk := canO_rk F hK
  have hrg := canO_rk F hR
  rw [hcan] at hrg
  rw [← hdl] at k1 k2 hKR hidem hrk
  generalize dualL (tblOf P M.toNat mod) L m = D at *
  constructor
  · have hq : ((tblOf P M.toNat mod).q : Int) = orderS P M ∨ True := .inr trivial
    have hm : matE (tblOf P M.toNat mod).q m D = 0 := by
      unfold matE
      rw [if_neg (by omega)]
      have hsh : shapeQ (m : Int) D = true := by
        unfold shapeQ
        rw [List.all_eq_true]
        intro r hr
        have := (hKR r hr).1
        simp; omega
      rw [if_neg (by rw [hsh]; decide), if_pos]
      rw [List.all_eq_true]
      intro r hr
      unfold elsQ isQ
      rw [List.all_eq_true]
      intro x hx
      have := (hKR r hr).2 x hx
      unfold Tbl.El at this
      simp
      exact this
    have hf : fmatE P M mod m D = 0 := by unfold fmatE; rw [if_pos hfB]; exact hm
    have hsp : spaceE P M mod m D = 0 := by
      unfold spaceE
      rw [if_pos hf, Int.toNat_natCast, if_pos]
      exact hidem
    have hle : lenE (m : Int) = 0 := lenE_in (by omega) (by omega)
    unfold codeE
    rw [if_pos hfB, if_pos hle]
    exact hsp
  · intro x
    have hs := grS_rk F hKR (bitsTo x m)
    have hc := grS_rk F hKR (bitsTo (cplU x) m)
    have gs := grS_rk F hR (bitsTo x m)
    have gc := grS_rk F hR (bitsTo (cplU x) m)
    have hb := bits_parts x m hm64
    have hgl : ∀ Q : List Int, ∀ k, (grL Q k).length = k := fun Q k => by
      induction k with
      | zero => rfl
      | succ k ih => rw [grL, List.length_cons, ih]
    have hS : ∀ i ∈ grL (bitsTo x m) (bitsTo x m).length, i < m := fun i hi => ((mem_grBits x m i).1 hi).1
    have hC : ∀ i ∈ grL (bitsTo (cplU x) m) (bitsTo (cplU x) m).length, i < m := fun i hi => ((mem_grBits (cplU x) m i).1 hi).1
    have hSC : ∀ p, p < m → p ∈ grL (bitsTo x m) (bitsTo x m).length ∨ p ∈ grL (bitsTo (cplU x) m) (bitsTo (cplU x) m).length := fun p hp => by
      rw [mem_grBits, mem_grBits, cplU_test _ _ (by omega)]
      cases hx : x.testBit p
      · exact .inr ⟨hp, rfl⟩
      · exact .inl ⟨hp, rfl⟩
    have r1 := dual_rk F hR hKR k2 k1 hrg hrk hS hC hSC (by rw [hgl, hgl]; exact hb) gc hs
    have r2 := dual_rk F hR hKR k2 k1 hrg hrk hC hS (fun p hp => (hSC p hp).symm) (by rw [hgl, hgl]; omega) gs hc
    rw [hgl] at r1 r2
    unfold dimS
    omega
end

/- A code with its positions in another order (plain law). -/
section
/-- the numbers from lo on, n of them -/
def spanL (lo n : Nat) : List Int := (List.range n).map fun t => ((lo + t : Nat) : Int)
theorem spanL_len (lo n : Nat) : (spanL lo n).length = n := by simp [spanL]
theorem nth_spanL {lo n j : Nat} (h : j < n) : nth (spanL lo n) j = ((lo + j : Nat) : Int) := by
  rw [nth_getElem (by rw [spanL_len]; exact h)]; simp [spanL]
theorem mem_grSpan (lo n x : Nat) : x ∈ grL (spanL lo n) (spanL lo n).length ↔ lo ≤ x ∧ x < lo + n := by
  rw [mem_grL, spanL_len]
  constructor
  · rintro ⟨j, hj, e⟩
    rw [nth_spanL hj, Int.toNat_natCast] at e
    omega
  · rintro ⟨h1, h2⟩
    exact ⟨x - lo, by omega, by rw [nth_spanL (by omega), Int.toNat_natCast]; omega⟩

section
variable {O : FOps} {El : Int → Prop} {m : Nat}

/-- the rows of the code with its positions in the order Q -/
def reoL (O : FOps) (m : Nat) (Q : List Int) (L : List (List Int)) : List (List Int) := canO O m (L.map (pickL Q))
theorem reo_rws (F : Fld O El) {L : List (List Int)} (hL : Rws El m L) {Q : List Int} (hQ : InN m Q) (hl : Q.length = m) : Rws El m (L.map (pickL Q)) := by
  have h := pick_rws hL hQ
  rw [hl] at h
  exact h
theorem reo_rk (F : Fld O El) {L : List (List Int)} (hL : Rws El m L) {Q : List Int} (hQ : InN m Q) (hl : Q.length = m) {S : List Nat} {r : Nat} (hS : ∀ x ∈ S, x < m)
    (h : Rk (clV O El (reoL O m Q L).length (colS (reoL O m Q L))) S r) : Rk (clV O El L.length (colS L)) (S.map fun j => (nth Q j).toNat) r := by
  have hR := reo_rws F hL hQ hl
  obtain ⟨r1, r2⟩ := canO_rsub F hR
  have hcol : ∀ j, j < m → colS (L.map (pickL Q)) j = colS L (nth Q j).toNat := fun j hj => by
    unfold colS
    rw [List.map_map]
    exact List.map_congr_left fun r _ => nth_pickL Q r (by omega)
  refine Rk.map (fun j => j < m) _ (fun l x hl' hx => ?_) h hS
  have e1 : clV O El (reoL O m Q L).length (colS (reoL O m Q L)) l x ↔ clV O El (L.map (pickL Q)).length (colS (L.map (pickL Q))) l x := ⟨r2.cl hl' hx, r1.cl hl' hx⟩
  rw [e1]
  unfold clV
  rw [List.length_map]
  constructor
  · intro h φ hφ h0
    rw [← hcol x hx]
    refine h φ hφ fun y hy => ?_
    rw [hcol y (hl' y hy)]
    exact h0 _ (List.mem_map.2 ⟨y, hy, rfl⟩)
  · intro h φ hφ h0
    rw [hcol x hx]
    refine h φ hφ fun y hy => ?_
    obtain ⟨j, hj, rfl⟩ := List.mem_map.1 hy
    rw [← hcol j (hl' j hj)]
    exact h0 j hj
end

/-- an order has each position, and has it once -/
theorem ord_has {n : Nat} {Q : List Int} (hn : n ≤ 64) (h : ordB n Q = true) {p : Nat} (hp : p < n) : ∃ j, j < n ∧ nth Q j = (p : Int) := by
  obtain ⟨hI, hl⟩ := ordB_in h
  unfold ordB at h
  simp only [Bool.and_eq_true] at h
  have h2 := bits_ord (by omega) h.2 n rfl
  rw [hl] at h2
  have h3 := maskTo_ltp (n := n) (Q := Q) n fun j hj => hI j (by omega)
  have h4 := bits_all h3 h2
  have h5 : (maskTo Q n).testBit p = true := by rw [h4, Nat.testBit_two_pow_sub_one]; simp [hp]
  exact (maskTo_test n (fun j hj => by have := hI j (by omega); omega) p).1 h5
theorem ord_once {n : Nat} {Q : List Int} (hn : n ≤ 64) (h : ordB n Q = true) {i j : Nat} (hi : i < n) (hj : j < n) (e : nth Q i = nth Q j) : i = j := by
  obtain ⟨hI, hl⟩ := ordB_in h
  unfold ordB at h
  simp only [Bool.and_eq_true] at h
  have key : ∀ i j, i < j → j < n → nth Q i = nth Q j → False := fun i j hij hj e => by
    have h1 := ordTo_at h.2 j (by omega)
    have h2 : (maskTo Q j).testBit (nth Q j).toNat = true := (maskTo_test j (fun t ht => by have := hI t (by omega); omega) _).2 ⟨i, hij, by rw [e]; omega⟩
    rw [h1.2.2] at h2
    exact absurd h2 (by decide)
  apply Classical.byContradiction
  intro hne
  rcases Nat.lt_or_gt_of_ne hne with h1 | h1
  · exact key i j h1 hj e
  · exact key j i h1 hi e.symm

section
variable {P M : Int} {mod : List Int} {m : Nat} {L : List (List Int)} {Q : List Int}
/-- the ranks of the beginnings and of the ends of the reordered code -/
theorem reo_ranks (hE : codeE P M mod m L = 0) (hO : ordB m Q = true) {i : Nat} (hi : i ≤ m) :
    (grS (tblOf P M.toNat mod).ops (reoL (tblOf P M.toNat mod).ops m Q L) (spanL 0 i)).length = (grS (tblOf P M.toNat mod).ops L (bitsTo (maskTo Q i) m)).length ∧
    (grS (tblOf P M.toNat mod).ops (reoL (tblOf P M.toNat mod).ops m Q L) (spanL i (m - i))).length = (grS (tblOf P M.toNat mod).ops L (bitsTo (cplU (maskTo Q i)) m)).length := by
  obtain ⟨N', e, hm1, hm64, F, hR⟩ := codeE_fld hE
  obtain rfl : m = N' := by omega
  obtain ⟨hI, hl⟩ := ordB_in hO
  have hR2 := reo_rws F hR hI hl
  have hD := canO_rws F hR2
  have hbd : ∀ k, k ≤ m → ∀ j, j < k → 0 ≤ nth Q j ∧ nth Q j < 64 := fun k hk j hj => by have := hI j (by omega); omega
  constructor
  · have h1 := reo_rk F hR hI hl (S := grL (spanL 0 i) (spanL 0 i).length) (fun x hx => by have := (mem_grSpan 0 i x).1 hx; omega) (grS_rk F hD (spanL 0 i))
    refine Rk.same (col_clo F hR) h1 (grS_rk F hR _) fun x => ?_
    rw [mem_grBits, maskTo_test i (hbd i hi), List.mem_map]
    constructor
    · rintro ⟨j, hj, rfl⟩
      have hj' := (mem_grSpan 0 i j).1 hj
      have := hI j (by omega)
      exact ⟨by omega, j, by omega, by omega⟩
    · rintro ⟨_, j, hj, e⟩
      exact ⟨j, (mem_grSpan 0 i j).2 (by omega), by omega⟩
  · have h1 := reo_rk F hR hI hl (S := grL (spanL i (m - i)) (spanL i (m - i)).length) (fun x hx => by have := (mem_grSpan i (m - i) x).1 hx; omega) (grS_rk F hD (spanL i (m - i)))
    refine Rk.same (col_clo F hR) h1 (grS_rk F hR _) fun x => ?_
    rw [mem_grBits, List.mem_map]
    constructor
    · rintro ⟨j, hj, rfl⟩
      have hj' := (mem_grSpan i (m - i) j).1 hj
      have hb := hI j (by omega)
      refine ⟨by omega, ?_⟩
      rw [cplU_test _ _ (by omega)]
      have : (maskTo Q i).testBit (nth Q j).toNat = false := by
        apply Classical.byContradiction
        intro hc
        obtain ⟨t, ht, e⟩ := (maskTo_test i (hbd i hi) _).1 (by simpa using hc)
        have := ord_once hm64 hO (i := t) (j := j) (by omega) (by omega) (by omega)
        omega
      rw [this]; rfl
    · rintro ⟨hx, hc⟩
      rw [cplU_test _ _ (by omega)] at hc
      obtain ⟨j, hj, e⟩ := ord_has hm64 hO hx
      have hij : i ≤ j := by
        apply Classical.byContradiction
        intro h
        have : (maskTo Q i).testBit x = true := (maskTo_test i (hbd i hi) _).2 ⟨j, by omega, e⟩
        rw [this] at hc
        exact absurd hc (by decide)
      exact ⟨j, (mem_grSpan i (m - i) j).2 (by omega), by omega⟩
theorem reo_len (hE : codeE P M mod m L = 0) (hO : ordB m Q = true) : (reoL (tblOf P M.toNat mod).ops m Q L).length = L.length := by
  obtain ⟨N', e, hm1, hm64, F, hR⟩ := codeE_fld hE
  obtain rfl : m = N' := by omega
  obtain ⟨hI, hl⟩ := ordB_in hO
  obtain ⟨h5, h6⟩ := spaceE_zero (codeE_zero hE).2.2.2
  rw [Int.toNat_natCast] at h6
  have hcan : canO (tblOf P M.toNat mod).ops m L = L := h6
  have hR2 := reo_rws F hR hI hl
  have h1 := reo_rk F hR hI hl (S := List.range m) (fun x hx => List.mem_range.1 hx) (canO_rk F hR2)
  have h2 := canO_rk F hR
  rw [hcan] at h2
  refine Rk.same (col_clo F hR) h1 h2 fun x => ?_
  rw [List.mem_map, List.mem_range]
  constructor
  · rintro ⟨j, hj, rfl⟩
    have := hI j (by have := List.mem_range.1 hj; omega)
    omega
  · intro hx
    obtain ⟨j, hj, e⟩ := ord_has hm64 hO hx
    exact ⟨j, List.mem_range.2 hj, by omega⟩
/-- the reordered code is a code -/
theorem reo_code (hE : codeE P M mod m L = 0) (hO : ordB m Q = true) : codeE P M mod m (reoL (tblOf P M.toNat mod).ops m Q L) = 0 := by
  obtain ⟨N', e, hm1, hm64, F, hR⟩ := codeE_fld hE
  obtain rfl : m = N' := by omega
  obtain ⟨hI, hl⟩ := ordB_in hO
  have hlen := reo_len hE hO
  have hL256 := (codeE_rws hE).choose_spec.2.2.2.1
  have hR2 := reo_rws F hR hI hl
  have hKR := canO_rws F hR2
  have hidem := canO_idem F hR2
  have hfB := (codeE_zero hE).1
  show codeE P M mod m (canO (tblOf P M.toNat mod).ops m (L.map (pickL Q))) = 0
  have hlen' : (canO (tblOf P M.toNat mod).ops m (L.map (pickL Q))).length = L.length := hlen
  generalize canO (tblOf P M.toNat mod).ops m (L.map (pickL Q)) = D at *
  have hm : matE (tblOf P M.toNat mod).q m D = 0 := by
    unfold matE
    rw [if_neg (by omega)]
    have hsh : shapeQ (m : Int) D = true := by
      unfold shapeQ
      rw [List.all_eq_true]
      intro r hr
      have := (hKR r hr).1
      simp; omega
    rw [if_neg (by rw [hsh]; decide), if_pos]
    rw [List.all_eq_true]
    intro r hr
    unfold elsQ isQ
    rw [List.all_eq_true]
    intro x hx
    have := (hKR r hr).2 x hx
    unfold Tbl.El at this
    simp
    exact this
  have hf : fmatE P M mod m D = 0 := by unfold fmatE; rw [if_pos hfB]; exact hm
  have hsp : spaceE P M mod m D = 0 := by
    unfold spaceE
    rw [if_pos hf, Int.toNat_natCast, if_pos]
    exact hidem
  have hle : lenE (m : Int) = 0 := lenE_in (by omega) (by omega)
  unfold codeE
  rw [if_pos hfB, if_pos hle]
  exact hsp
/-- the profile's entries are the dimensions of the order's beginnings -/
theorem reo_prof (hE : codeE P M mod m L = 0) (hO : ordB m Q = true) {i : Nat} (hi : i ≤ m) :
    ((grS (tblOf P M.toNat mod).ops (reoL (tblOf P M.toNat mod).ops m Q L) (spanL 0 i)).length : Int) + (grS (tblOf P M.toNat mod).ops (reoL (tblOf P M.toNat mod).ops m Q L) (spanL i (m - i))).length - (reoL (tblOf P M.toNat mod).ops m Q L).length =
      dimS (tblOf P M.toNat mod).ops L m (maskTo Q i) := by
  obtain ⟨h1, h2⟩ := reo_ranks hE hO hi
  rw [h1, h2, reo_len hE hO]
  rfl
end
end

/- Words of a code: reduced by canonical rows they vanish; combinations of rows (plain law). -/
section
section
variable {O : FOps} {El : Int → Prop} {m : Nat} {R : List (List Int)} {P : List Int}
theorem piv_inv (hR : Rws El m R) (hP : Piv R P m) (hlen : R.length = P.length) : BS.Inv El m ⟨R, P⟩ where
  ok := ⟨hR, hlen.symm, fun i hi => hP.lt i (by rw [← hlen]; exact hi)⟩
  one := fun i hi => by
    show nth (nthR R i) (nth P i).toNat = 1
    rw [hP.one i i (by rw [← hlen]; exact hi) hi, if_pos rfl]
  zero := fun j i hj hi => by
    have hi' : i < R.length := hi
    show nth (nthR R i) (nth P j).toNat = 0
    rw [hP.one j i (by omega) hi', if_neg (by omega)]
theorem red_rs (F : Fld O El) (hI : BS.Inv El m ⟨R, P⟩) {v : List Int} (hv : Vc El m v) (hs : RS O El m R (fun x => nth v x)) : ∀ k, k ≤ R.length → RS O El m R (fun x => nth (redTo O R P v k) x)
  | 0, _ => hs
  | k + 1, hk => by
    have hu : Vc El m (redTo O R P v k) := Vc.redTo F hI.ok hv k (show k ≤ R.length by omega)
    have hp : (nth P k).toNat < m := hI.ok.pl (show k < R.length by omega)
    have hr : Vc El m (nthR R k) := hI.ok.row (show k < R.length by omega)
    refine ((red_rs F hI hv hs k (by omega)).comb F (.row F (i := k) (by omega)) (hu.at hp)).congr fun x hx => ?_
    rw [redTo, nth_redStep F hu hr hp hx, F.mul_comm _ _ (hu.at hp) (hr.at hx)]
/-- a word of the row space, reduced by the canonical rows, is 0 -/
theorem red_zero (F : Fld O El) (hR : Rws El m R) (hP : Piv R P m) (hlen : R.length = P.length) {v : List Int} (hv : Vc El m v) (hs : RS O El m R (fun x => nth v x)) : ∀ x, x < m → nth (redTo O R P v R.length) x = 0 := by
  have hI := piv_inv hR hP hlen
  obtain ⟨e, he, h⟩ := red_rs F hI hv hs R.length (Nat.le_refl _)
  intro x hx
  have h1 : nth (redTo O R P v R.length) x = e (colS R x) := h x hx
  rw [h1]
  refine hP.all F hR hx e he fun y hy => ?_
  obtain ⟨j, hj, rfl⟩ := (mem_grL P _ _).1 hy
  rw [← h _ (by have := hP.lt j hj; omega)]
  exact hI.place F hv R.length (Nat.le_refl _) j (by omega)

/-- the sum of the first k rows, each times its entry -/
def cmbTo (O : FOps) (m : Nat) (x : List Int) (L : List (List Int)) : Nat → List Int
  | 0 => List.replicate m 0
  | k + 1 => if nth x k = 0 then cmbTo O m x L k else addRow O (cmbTo O m x L k) (nth x k) (nthR L k)
theorem RS.add (F : Fld O El) {L : List (List Int)} {f g : Nat → Int} (hL : Rws El m L) (hf : RS O El m L f) (hg : RS O El m L g) {s : Int} (hs : El s) : RS O El m L (fun x => O.add (f x) (O.mul (g x) s)) := by
  refine (hf.comb F hg (F.cl.neg s hs)).congr fun x hx => ?_
  obtain ⟨e, he, h⟩ := hg
  have hgx : El (g x) := by rw [h x hx]; exact he.el _ (colS_vc hL F.zero x)
  rw [F.mul_neg hgx hs, F.neg_neg (F.cl.mul _ _ hgx hs)]
theorem cmb_rs (F : Fld O El) {L : List (List Int)} (hL : Rws El m L) {x : List Int} (hx : ∀ k, k < L.length → El (nth x k)) : ∀ k, k ≤ L.length → Vc El m (cmbTo O m x L k) ∧ RS O El m L (fun i => nth (cmbTo O m x L k) i)
  | 0, _ => by
    have h0 : ∀ i, nth (List.replicate m (0 : Int)) i = 0 := fun i => by
      unfold nth
      simp only [List.getD_eq_getElem?_getD, List.getElem?_replicate]
      split <;> rfl
    exact ⟨⟨by simp [cmbTo], fun y hy => by rw [List.eq_of_mem_replicate hy]; exact F.zero⟩, RS.nul F fun i _ => h0 i⟩
  | k + 1, hk => by
    obtain ⟨h1, h2⟩ := cmb_rs F hL hx k (by omega)
    have hr := hL.row (i := k) (by omega)
    have hs := hx k (by omega)
    rw [cmbTo]
    split
    · exact ⟨h1, h2⟩
    · have hl : (nthR L k).length = (cmbTo O m x L k).length := by rw [hr.1, h1.1]
      refine ⟨⟨by rw [addRow_length _ _ _ _ hl]; exact h1.1, addRow_el F.cl h1.2 hr.2 hs⟩, (RS.add F hL h2 (.row F (i := k) (by omega)) hs).congr fun i hi => ?_⟩
      have hri : El (nth (nthR L k) i) := Vc.at hr hi
      rw [nth_addRow O _ _ _ i hl (by rw [h1.1]; exact hi)]
      split
      · rename_i e0
        rw [e0, F.zmul hs, F.add_zero _ (h1.at hi)]
      · rw [F.mul_comm _ _ hs hri]
/-- the entries of a word of the row space by an order are a word of the picked rows -/
theorem RS.pick {L : List (List Int)} {w Q : List Int} (hQ : Q.length = m) (hI : InN m Q) (h : RS O El m L (fun x => nth w x)) : RS O El m (L.map (pickL Q)) (fun x => nth (pickL Q w) x) := by
  obtain ⟨e, he, h⟩ := h
  refine ⟨e, by rw [List.length_map]; exact he, fun x hx => ?_⟩
  have hq := hI x (by omega)
  have hcol : colS (L.map (pickL Q)) x = colS L (nth Q x).toNat := by
    unfold colS
    rw [List.map_map]
    exact List.map_congr_left fun r _ => nth_pickL Q r (by omega)
  show nth (pickL Q w) x = _
  rw [nth_pickL Q w (by omega), hcol]
  exact h _ (by omega)
theorem pick_vc {w Q : List Int} (hQ : Q.length = m) (hI : InN m Q) (hw : Vc El m w) : Vc El m (pickL Q w) := by
  refine ⟨by simp [pickL, hQ], fun y hy => ?_⟩
  obtain ⟨q, hq, rfl⟩ := List.mem_map.1 hy
  obtain ⟨j, hj, rfl⟩ := List.mem_iff_getElem.1 hq
  have := hI j hj
  rw [nth_getElem hj] at this
  exact hw.at (by omega)
end

/-- the entries by an order of a word of a code vanish behind the reduction by the reordered code -/
theorem reo_has {P M : Int} {mod : List Int} {m : Nat} {L : List (List Int)} {Q x : List Int} (hE : codeE P M mod m L = 0) (hO : ordB m Q = true) (hx : ∀ k, k < L.length → (tblOf P M.toNat mod).El (nth x k)) :
    Vc (tblOf P M.toNat mod).El m (pickL Q (cmbTo (tblOf P M.toNat mod).ops m x L L.length)) ∧
    ∀ i, i < m → nth (redTo (tblOf P M.toNat mod).ops (reoL (tblOf P M.toNat mod).ops m Q L) (elimTo (tblOf P M.toNat mod).ops (reoL (tblOf P M.toNat mod).ops m Q L) m).2 (pickL Q (cmbTo (tblOf P M.toNat mod).ops m x L L.length)) (reoL (tblOf P M.toNat mod).ops m Q L).length) i = 0 := by
  obtain ⟨N', e, hm1, hm64, F, hR⟩ := codeE_fld hE
  obtain rfl : m = N' := by omega
  obtain ⟨hI, hl⟩ := ordB_in hO
  have hR2 := reo_rws F hR hI hl
  obtain ⟨hv, hs⟩ := cmb_rs F hR hx L.length (Nat.le_refl _)
  have hpv := pick_vc hl hI hv
  have hps := (canO_rsub F hR2).2.rs (hs.pick hl hI)
  have hD : Rws (tblOf P M.toNat mod).El m (reoL (tblOf P M.toNat mod).ops m Q L) := canO_rws F hR2
  have hidem : canO (tblOf P M.toNat mod).ops m (reoL (tblOf P M.toNat mod).ops m Q L) = reoL (tblOf P M.toNat mod).ops m Q L := canO_idem F hR2
  have hpiv := (canO_piv F hD).1
  have hlen := canO_len F hD
  rw [hidem] at hpiv hlen
  exact ⟨hpv, red_zero F hD hpiv hlen hpv hps⟩
end

end Go.Proofs.Ytapjcccpokhhhaa
