/- ExclusionSoundCoset: the statement. -/
import Derived.Test.YtapjcccpokhhhaaGreatG30
import Derived.Test.YtapjcccpokhhhaaGreatG29
import Derived.Test.YtapjcccpokhhhaaGreatG28
import Derived.Test.YtapjcccpokhhhaaGreatG31
import Derived.Test.YtapjcccpokhhhaaGreatG32
namespace Go.Proofs.YtapjcccpokhhhaaGreat
set_option linter.unusedVariables false
set_option linter.unusedSimpArgs false
set_option linter.unusedSectionVars false

/- The walk of ExclusionSound. -/
section
open Go.RowKit

theorem els_nth {q : Nat} {l : List Int} {n : Nat} (h : lstE q l n = 0) : l.length = n ∧ ∀ k, k < n → 0 ≤ nth l k ∧ nth l k < q := by
  unfold lstE at h
  split at h
  · rename_i hl
    unfold elsE at h
    split at h
    · rename_i hq
      refine ⟨hl, fun k hk => ?_⟩
      have h1 := List.all_eq_true.1 hq (nth l k) (nth_mem (by omega))
      simpa [isQ] using h1
    · cases h
  · cases h
end

/- The walk of ExclusionSoundCoset. -/
section
open Go.RowKit

set_option maxRecDepth 100000 in
set_option maxHeartbeats 8000000 in
theorem exLawSoundCoset_any (P M : Int) (am : Option Addr) (mn cm : Nat) (mod : List Int) (N : Int) (a : Option Addr) (n c : Nat) (L : List (List Int)) (ay : Option Addr) (ny cy : Nat) (y : List Int) (av : Option Addr) (nv cv : Nat) (v : List Int) (zw : Int) (ax : Option Addr) (nx cx : Nat) (ts : List (List Int)) (w : World)
    (hmod : Ints w am mn mod) (hi : Mat w a n L) (hy : Ints w ay ny y) (hv : Ints w av nv v) (hts : Mat w ax nx ts) (hnc : nx ≤ cx) :
    Calls Tryz.prog 10 #[.agg #[.int .i64 P, .int .i64 M, .slice am mn cm, .int .i64 N, .slice a n c], .agg #[.slice ay ny cy, .slice av nv cv], .agg #[.int .i64 zw, .slice ax nx cx]] w fun e w' => e = .returned (.bool true) ∧ Below w.heap.size w w' := by
  have HF : Hid (∀ V, Below w.heap.size w V → Calls Tryz.prog 15 #[.agg #[.int .i64 P, .int .i64 M, .slice am mn cm, .int .i64 N, .slice a n c]] V (SomeBool V)) :=
    fun V hV => few26_any P M am mn cm N a n c L V (hi.keep hV)
  have HF2 : Hid (∀ V, Below w.heap.size w V → Calls Tryz.prog 16 #[.agg #[.slice ax nx cx]] V (SomeBool V)) :=
    fun V hV => rFew26_any ax nx cx ts V (hts.keep hV)
  have HCk := Lib.hid (fun V (hV : Below w.heap.size w V) => rCheck_any P M am mn cm mod N a n c L V (hmod.keep hV) (hi.keep hV))
  have Hil := Lib.hid hi.len
  have Hyl := Lib.hid hy.len
  go_enter Tryz.func10, Tryz.ntmps10
  go_wp2_with fail
  obtain ⟨W, hW⟩ : ∃ W : World, W = ((w.alloc (.cells #[.int .i64 P, .int .i64 M, .slice am mn cm, .int .i64 N, .slice a n c] 27)).alloc (.cells #[.slice ay ny cy, .slice av nv cv] 69)).alloc (.cells #[.int .i64 zw, .slice ax nx cx] 46) := ⟨_, rfl⟩
  rw [← hW]
  have hbW : Below w.heap.size w W := by rw [hW]; exact below3 _ _ _ _
  have x0 : Box W w.heap.size [.int .i64 P, .int .i64 M, .slice am mn cm, .int .i64 N, .slice a n c] := by rw [hW]; exact ((Box.new _ _ _ rfl).alloc _).alloc _
  have t0 : Box W (w.heap.size + 1) [.slice ay ny cy, .slice av nv cv] := by rw [hW]; exact (Box.new _ _ _ (by simp)).alloc _
  have y0 : Box W (w.heap.size + 1 + 1) [.int .i64 zw, .slice ax nx cx] := by rw [hW]; exact Box.new _ _ _ (by simp)
  have HS : Hid (∀ V, Below W.heap.size W V → V.cell? ⟨w.heap.size, 0, none⟩ = some (.int .i64 P) ∧ V.cell? ⟨w.heap.size, 1, none⟩ = some (.int .i64 M) ∧ V.cell? ⟨w.heap.size, 2, none⟩ = some (.slice am mn cm) ∧ V.cell? ⟨w.heap.size, 3, none⟩ = some (.int .i64 N) ∧ V.cell? ⟨w.heap.size, 4, none⟩ = some (.slice a n c) ∧
      V.cell? ⟨w.heap.size + 1 + 1, 0, none⟩ = some (.int .i64 zw) ∧ V.cell? ⟨w.heap.size + 1 + 1, 1, none⟩ = some (.slice ax nx cx) ∧ V.cell? ⟨w.heap.size + 1, 0, none⟩ = some (.slice ay ny cy) ∧ V.cell? ⟨w.heap.size + 1, 1, none⟩ = some (.slice av nv cv)) := fun V hV => by
    have x1 := x0.keep hV
    have y1 := y0.keep hV
    have t1 := t0.keep hV
    exact ⟨x1.cell 0 rfl, x1.cell 1 rfl, x1.cell 2 rfl, x1.cell 3 rfl, x1.cell 4 rfl, y1.cell 0 rfl, y1.cell 1 rfl, t1.cell 0 rfl, t1.cell 1 rfl⟩
  have HbW := Lib.hid hbW
  clear hW x0 hbW y0 t0
  refine (awake26_any W).mono ?_
  rintro e w1 ⟨rfl, hb1⟩
  obtain ⟨c0, c1, c2, c3, c4, d0, d1, f0, f1⟩ := HS.out w1 hb1
  go_wp2_with fail
  refine (HF.out w1 (Below.next HbW.out hb1)).mono ?_
  rintro e w2 ⟨z, rfl, hb2⟩
  have hB2 := Below.next hb1 hb2
  clear c0 c1 c2 c3 c4 d0 d1 f0 f1 HF
  cases z
  · go_wp2_with fail
    refine (awake26_any w2).mono ?_
    rintro e w3 ⟨rfl, hb3⟩
    have hF := Below.next HbW.out (Below.next hB2 hb3)
    go_wp2_with fail
    go_ret
    exact ⟨rfl, hF⟩
  obtain ⟨c0, c1, c2, c3, c4, d0, d1, f0, f1⟩ := HS.out w2 hB2
  go_wp2_with fail
  refine (HF2.out w2 (Below.next HbW.out hB2)).mono ?_
  rintro e w4 ⟨z, rfl, hb4⟩
  have hB4 := Below.next hB2 hb4
  clear c0 c1 c2 c3 c4 d0 d1 f0 f1 HF2
  cases z
  · go_wp2_with fail
    refine (awake26_any w4).mono ?_
    rintro e w3 ⟨rfl, hb3⟩
    have hF := Below.next HbW.out (Below.next hB4 hb3)
    go_wp2_with fail
    go_ret
    exact ⟨rfl, hF⟩
  obtain ⟨c0, c1, c2, c3, c4, d0, d1, f0, f1⟩ := HS.out w4 hB4
  have Hck := Lib.hid (HCk.out w4 (Below.next HbW.out hB4))
  go_wp2_with fail
  refine Hck.out.mono ?_
  rintro e w5 ⟨rfl, hb5⟩
  have hB5 := Below.next hB4 hb5
  clear c0 c1 c2 c3 c4 d0 d1 f0 f1 Hck HCk hb1 hb2 hb4
  by_cases hE : codeE P M mod N L = 0
  rotate_left
  · have hE2 : (codeE P M mod N L != 0) = true := by simpa using hE
    clear hE
    generalize codeE P M mod N L = er at *
    go_wp2_with fail
    refine (awake26_any w5).mono ?_
    rintro e w3 ⟨rfl, hb3⟩
    have hF := Below.next HbW.out (Below.next hB5 hb3)
    go_wp2_with fail
    go_ret
    exact ⟨rfl, hF⟩
  obtain ⟨c0, c1, c2, c3, c4, d0, d1, f0, f1⟩ := HS.out w5 hB5
  by_cases hno : 64 < ny
  · have hd : decide ((64 : Int) < ny) = true := by simp; omega
    rw [hE]
    clear hno hE
    go_wp2_with fail
    refine (awake26_any w5).mono ?_
    rintro e w3 ⟨rfl, hb3⟩
    have hF := Below.next HbW.out (Below.next hB5 hb3)
    go_wp2_with fail
    go_ret
    exact ⟨rfl, hF⟩
  have hd64 : decide ((64 : Int) < ny) = false := by simp; omega
  clear hno
  by_cases hno : 64 < nv
  · have hd : decide ((64 : Int) < nv) = true := by simp; omega
    rw [hE]
    clear hno hE
    go_wp2_with fail
    refine (awake26_any w5).mono ?_
    rintro e w3 ⟨rfl, hb3⟩
    have hF := Below.next HbW.out (Below.next hB5 hb3)
    go_wp2_with fail
    go_ret
    exact ⟨rfl, hF⟩
  have hd64v : decide ((64 : Int) < nv) = false := by simp; omega
  clear hno
  obtain ⟨m, rfl, hm1, hm64, F, hR⟩ := codeE_fld hE
  have hn256 : n ≤ 256 := by rw [← Hil.out]; exact (codeE_rws hE).choose_spec.2.2.2.1
  obtain ⟨r, hr⟩ : ∃ r, chkCE P M mod m L y zw ts = r := ⟨_, rfl⟩
  have HCr : Hid (∀ V, Below w.heap.size w V → Calls Tryz.prog 27 #[.agg #[.int .i64 P, .int .i64 M, .slice am mn cm, .int .i64 m, .slice a n c], .slice ay ny cy, .int .i64 zw, .agg #[.slice ax nx cx]] V fun e w' => e = .returned (.int .i64 r) ∧ Below V.heap.size V w') := fun V hV => by
    rw [← hr]; exact exCheckCoset_any P M am mn cm mod m a n c L ay ny cy y zw ax nx cx ts V (hmod.keep hV) (hi.keep hV) (hy.keep hV) (hts.keep hV)
  have hq : ((tblOf P M.toNat mod).q : Int) = orderS P M := by
    obtain ⟨m1, e1, _, h1, _⟩ := eq_ops (codeE_zero hE).1
    rw [show M.toNat = m1 by omega]; exact h1
  have HEn : Hid (∀ V, Below w.heap.size w V → Calls Tryz.prog 42 #[.agg #[.int .i64 P, .int .i64 M, .slice am mn cm, .int .i64 m, .slice a n c], .slice av nv cv] V fun e w' => Below V.heap.size V w' ∧
      ((lstE (orderS P M) v n ≠ 0 ∧ e = .returned (.tuple #[.slice none 0 0, .int .i64 (lstE (orderS P M) v n)])) ∨
       (lstE (orderS P M) v n = 0 ∧ ∃ a1 c1, e = .returned (.tuple #[.slice a1 m c1, .int .i64 0]) ∧ Ints w' a1 m (cmbTo (tblOf P M.toNat mod).ops m v L n)))) := fun V hV => by
    have h := encode_any P M am mn cm mod m a n c L av nv cv v V (hmod.keep hV) (hi.keep hV) (hv.keep hV) hE
    rw [hq] at h
    exact h
  have HLi : Hid (∀ V, Below w.heap.size w V → Calls Tryz.prog 43 #[.agg #[.int .i64 P, .int .i64 M, .slice am mn cm], .slice av nv cv, .int .i64 n] V fun e w' => e = .returned (.int .i64 (lstE (orderS P M) v n)) ∧ Below V.heap.size V w') := fun V hV => rList12_any P M am mn cm av nv cv v n V (hv.keep hV)
  have HLy : Hid (∀ V, Below w.heap.size w V → Calls Tryz.prog 43 #[.agg #[.int .i64 P, .int .i64 M, .slice am mn cm], .slice ay ny cy, .int .i64 m] V fun e w' => e = .returned (.int .i64 (lstE (orderS P M) y m)) ∧ Below V.heap.size V w') := fun V hV => rList12_any P M am mn cm ay ny cy y m V (hy.keep hV)
  have HY0 : Hid (r = 0 → ny = m ∧ lstE (orderS P M) y m = 0 ∧ Vc (tblOf P M.toNat mod).El m y) := fun h => by
    rw [h] at hr
    have h0 : cosE P M mod m L y zw = 0 := by
      refine Classical.byContradiction fun hn => ?_
      unfold chkCE at hr
      rw [if_neg hn] at hr
      exact hn hr
    obtain ⟨_, h1, h2, _⟩ := cosE_zero h0
    refine ⟨by rw [← Hyl.out]; exact h1.1, ?_, h1⟩
    rw [lstE, if_pos h1.1, elsE, ← hq, if_pos h2]
  have HLaw : Hid (r = 0 → lstE (orderS P M) v n = 0 → zw < (wtL (addRow (tblOf P M.toNat mod).ops y 1 (cmbTo (tblOf P M.toNat mod).ops m v L n)) : Int)) := fun h hl => by
    rw [h] at hr
    rw [← hq] at hl
    obtain ⟨h1, h2⟩ := els_nth hl
    have hil := Hil.out
    subst hil
    exact cos_law hr fun k hk => h2 k hk
  have HVc : Hid (lstE (orderS P M) v n = 0 → Vc (tblOf P M.toNat mod).El m (cmbTo (tblOf P M.toNat mod).ops m v L n)) := fun hl => by
    rw [← hq] at hl
    obtain ⟨h1, h2⟩ := els_nth hl
    have hil := Hil.out
    subst hil
    exact (cmb_rs F hR (fun k hk => h2 k hk) _ (Nat.le_refl _)).1
  have HAd : Hid (∀ V a1 k1 X, Below w.heap.size w V → ny = m → Vc (tblOf P M.toNat mod).El m y → Vc (tblOf P M.toNat mod).El m X → Ints V a1 m X → Calls Tryz.prog 45 #[.agg #[.int .i64 P, .int .i64 M, .slice am mn cm], .slice ay m cy, .int .i64 1, .slice a1 m k1] V fun e w' => ∃ a2 c2, e = .returned (.slice a2 m c2) ∧ Ints w' a2 m (addRow (tblOf P M.toNat mod).ops y 1 X) ∧ Below V.heap.size V w') := fun V a1 k1 X hV hn h1 h2 h3 => by
    subst hn
    exact rAddC_any hE ay cy y 1 a1 k1 X V (hmod.keep hV) (hy.keep hV) h3 h1 F.one h2
  rw [hE]
  obtain ⟨er, her⟩ : ∃ er, lstE (orderS P M) v n = er := ⟨_, rfl⟩
  obtain ⟨ey, hey⟩ : ∃ ey, lstE (orderS P M) y m = ey := ⟨_, rfl⟩
  obtain ⟨X, hX⟩ : ∃ X, cmbTo (tblOf P M.toNat mod).ops m v L n = X := ⟨_, rfl⟩
  rw [her, hX] at HEn HLaw HVc
  rw [her] at HLi
  rw [hey] at HLy HY0
  generalize (tblOf P M.toNat mod).ops = O at *
  generalize (tblOf P M.toNat mod).El = El at *
  clear hE hr hR F hmod hi hts hv her hX hq hey hy
  go_wp2_with fail
  refine (HCr.out w5 (Below.next HbW.out hB5)).mono ?_
  rintro e w6 ⟨rfl, hb6⟩
  have hB6 := Below.next hB5 hb6
  clear c0 c1 c2 c3 c4 d0 d1 f0 f1
  obtain ⟨c0, c1, c2, c3, c4, d0, d1, f0, f1⟩ := HS.out w6 hB6
  have Hly := Lib.hid (HLy.out w6 (Below.next HbW.out hB6))
  by_cases hr0 : r = 0
  rotate_left
  · have hr2 : (r != 0) = true := by simpa using hr0
    clear hr0
    go_wp2_with fail
    refine Hly.out.mono ?_
    rintro e w7 ⟨rfl, hb7⟩
    have hB7 := Below.next hB6 hb7
    have hF := Below.next HbW.out hB7
    clear c0 c1 c2 c3 c4 d0 d1 f0 f1 Hly
    by_cases hey0 : ey = 0
    · have he : (ey == 0) = true := by simpa using hey0
      clear hey0
      go_wp2_with fail
      go_ret
      exact ⟨rfl, hF⟩
    · have he : (ey == 0) = false := by simpa using hey0
      have Hcr := Lib.hid (HCr.out w7 hF)
      obtain ⟨c0, c1, c2, c3, c4, d0, d1, f0, f1⟩ := HS.out w7 hB7
      clear hey0
      go_wp2_with fail
      refine Hcr.out.mono ?_
      rintro e w8 ⟨rfl, hb8⟩
      have hF := Below.next hF hb8
      clear c0 c1 c2 c3 c4 d0 d1 f0 f1
      go_wp2_with fail
      go_ret
      exact ⟨rfl, hF⟩
  subst hr0
  obtain ⟨rfl, rfl, hyv⟩ := HY0.out rfl
  have Hlaw := Lib.hid (HLaw.out rfl)
  have Hyv := Lib.hid hyv
  clear HLaw HY0 hyv HCr HLy
  go_wp2_with fail
  refine Hly.out.mono ?_
  rintro e w6' ⟨rfl, hb6'⟩
  have hB6' := Below.next hB6 hb6'
  clear c0 c1 c2 c3 c4 d0 d1 f0 f1 Hly hb6 hb6' hb5
  obtain ⟨c0, c1, c2, c3, c4, d0, d1, f0, f1⟩ := HS.out w6' hB6'
  have Hen := Lib.hid (HEn.out w6' (Below.next HbW.out hB6'))
  clear HEn
  go_wp2_with fail
  refine Hen.out.mono ?_
  rintro e w7 ⟨hb7, ⟨hne, rfl⟩ | ⟨hz, a1, k1, rfl, hX⟩⟩
  · have hB7 := Below.next hB6' hb7
    have hne' : (er != 0) = true := by simpa using hne
    have Hne := Lib.hid hne'
    clear c0 c1 c2 c3 c4 d0 d1 f0 f1 Hen hb7 hne
    obtain ⟨c0, c1, c2, c3, c4, d0, d1, f0, f1⟩ := HS.out w7 hB7
    have Hli := Lib.hid (HLi.out w7 (Below.next HbW.out hB7))
    go_wp2_with fail
    refine Hli.out.mono ?_
    rintro e w8 ⟨rfl, hb8⟩
    have hF := Below.next HbW.out (Below.next hB7 hb8)
    clear c0 c1 c2 c3 c4 d0 d1 f0 f1 Hli
    go_wp2_with fail
    go_ret
    exact ⟨ret_bool (by first | exact Hne.out | rfl), hF⟩
  · have hB7 := Below.next hB6' hb7
    have hl2 := Hlaw.out hz
    have hXv := HVc.out hz
    have HX := Lib.hid (And.intro hX hXv)
    subst hz
    have HA2 : Hid (∀ V, Below w7.heap.size w7 V → Calls Tryz.prog 45 #[.agg #[.int .i64 P, .int .i64 M, .slice am mn cm], .slice ay ny cy, .int .i64 1, .slice a1 ny k1] V fun e w' => ∃ a2 c2, e = .returned (.slice a2 ny c2) ∧ Ints w' a2 ny (addRow O y 1 X) ∧ Below V.heap.size V w') := fun V hV =>
      HAd.out V a1 k1 X (Below.next (Below.next HbW.out hB7) hV) (by simp) Hyv.out HX.out.2 (HX.out.1.keep hV)
    obtain ⟨Z, hZ⟩ : ∃ Z, addRow O y 1 X = Z := ⟨_, rfl⟩
    rw [hZ] at HA2 hl2
    obtain ⟨t2, ht2⟩ : ∃ t2, wtL Z = t2 := ⟨_, rfl⟩
    rw [ht2] at hl2
    have HW2 : Hid (∀ V a2 c2, Ints V a2 ny Z → Calls Tryz.prog 44 #[.slice a2 ny c2] V fun e w' => e = .returned (.int .i64 t2) ∧ w' = V) := fun V a2 c2 hV => by
      rw [← ht2]; exact rWeight25_any a2 ny c2 Z V hV
    have HS7 : Hid (∀ V, Below w7.heap.size w7 V → V.cell? ⟨w.heap.size, 0, none⟩ = some (.int .i64 P) ∧ V.cell? ⟨w.heap.size, 1, none⟩ = some (.int .i64 M) ∧ V.cell? ⟨w.heap.size, 2, none⟩ = some (.slice am mn cm) ∧ V.cell? ⟨w.heap.size, 3, none⟩ = some (.int .i64 ny) ∧ V.cell? ⟨w.heap.size, 4, none⟩ = some (.slice a n c) ∧
      V.cell? ⟨w.heap.size + 1 + 1, 0, none⟩ = some (.int .i64 zw) ∧ V.cell? ⟨w.heap.size + 1 + 1, 1, none⟩ = some (.slice ax nx cx) ∧ V.cell? ⟨w.heap.size + 1, 0, none⟩ = some (.slice ay ny cy) ∧ V.cell? ⟨w.heap.size + 1, 1, none⟩ = some (.slice av nv cv) ∧ Below w7.heap.size w7 V) := fun V hV => by
      obtain ⟨q0, q1, q2, q3, q4, q5, q6, q7, q8⟩ := HS.out V (Below.next hB7 hV)
      exact ⟨q0, q1, q2, q3, q4, q5, q6, q7, q8, hV⟩
    have e1 : ((ny : Int) == (ny : Int)) = true := by simp
    have e2 : decide (zw < (t2 : Int)) = true := by simpa using hl2
    have hF7 := Below.next HbW.out hB7
    clear c0 c1 c2 c3 c4 d0 d1 f0 f1 Hen hb7 hX hXv HLi Hlaw HVc HAd hZ ht2 hl2
    go_upto_region 8 with fail
    go_region_held3 (fun V => V.cell? ⟨w.heap.size, 0, none⟩ = some (.int .i64 P) ∧ V.cell? ⟨w.heap.size, 1, none⟩ = some (.int .i64 M) ∧ V.cell? ⟨w.heap.size, 2, none⟩ = some (.slice am mn cm) ∧ V.cell? ⟨w.heap.size, 3, none⟩ = some (.int .i64 ny) ∧ V.cell? ⟨w.heap.size, 4, none⟩ = some (.slice a n c) ∧
      V.cell? ⟨w.heap.size + 1 + 1, 0, none⟩ = some (.int .i64 zw) ∧ V.cell? ⟨w.heap.size + 1 + 1, 1, none⟩ = some (.slice ax nx cx) ∧ V.cell? ⟨w.heap.size + 1, 0, none⟩ = some (.slice ay ny cy) ∧ V.cell? ⟨w.heap.size + 1, 1, none⟩ = some (.slice av nv cv) ∧ Below w7.heap.size w7 V)
      ((refine HS7.out _ ?_; first | exact hb9w | exact hb8w | exact (Below.refl _ _).drew | assumption | (go_split_ands; assumption)))
      (first
      | (go_at_call 45; ((with_reducible refine (HA2.out _ (by go_split_ands; assumption)).mono ?_); rintro e w8 ⟨a2, c2, rfl, hI8, hb8⟩; have hb8w : Below w7.heap.size w7 w8 := (by go_split_ands; exact Below.next (by assumption) hb8)))
      | (go_at_call 44; ((with_reducible refine (HW2.out _ a2 c2 hI8).mono ?_); rintro e w9 ⟨rfl, rfl⟩; have hb9w := hb8w)))
    all_goals (
      go_wp2_with fail
      go_ret
      exact ⟨rfl, Below.next hF7 hb8w⟩)
end

/- ExclusionSoundCoset: the statement. -/
section
open Go.ChangeShapes Go.WideShapes Go.ChangeAt Go.RowKit

set_option maxRecDepth 100000 in
theorem exSoundCoset_lifted (os : Os) (started : os.Started) (H : Type) (enc : TypeId × Value → H) :
    ReturnsInHanded {} Tryz.checked os 10 .any (Rows.exclusionSoundCosetSpec.pre6 enc Tryz.prog Tryz.f10 Rows.exclusionSoundCosetRow.domain false) (Rows.exclusionSoundCosetSpec.post enc Tryz.prog Tryz.f10 false true false false) := by
  refine returnsInHanded_of_change (C := Tryz.checked) Tryz.own started (by kernel_rfl) Tryz.func10
    (ChangeSpec.witness6 (enc := enc) (C := Tryz.checked) false ⟨#[], #[.agg #[.int .i64 0, .int .i64 0, .slice none 0 0, .int .i64 0, .slice none 0 0], .agg #[.slice none 0 0, .slice none 0 0], .agg #[.int .i64 0, .slice none 0 0]], []⟩ 8 (by kernel_rfl) (by kernel_rfl) (by kernel_rfl) (by kernel_rfl)) ?_
  intro W base args ds gs before hval0 hW hcnd _
  have hval : ∀ (j : Nat) t v, Tryz.f10.params[j]? = some t → args[j]? = some v → Value.okWide Tryz.prog W .any base t v := hval0
  have hW' := hW
  obtain ⟨p, q, hA0, hV, rfl, hfz, hnd⟩ := hW
  have hA : DataW.TrodAll enc Tryz.prog W 0 (fun _ => true) true Tryz.f10.params.toList args.toList ds p := hA0
  rw [Tryz.params10] at hA hval
  obtain ⟨v0, vs0, d0, ds0, p0, q0, hargs, rfl, rfl, h0, r0⟩ := trodAll_cons hA
  obtain ⟨v1, vs1, d1, ds1, p1, q1, rfl, rfl, rfl, h1, r1⟩ := trodAll_cons r0
  obtain ⟨v2, vs2, d2, ds2, p2, q2, rfl, rfl, rfl, h2, r2⟩ := trodAll_cons r1
  obtain ⟨rfl, rfl, rfl⟩ := trodAll_nil r2
  obtain rfl : args = #[v0, v1, v2] := by cases args; simp_all
  obtain ⟨rfl, rfl⟩ := trodVars_none hV
  have k0 := h0
  have k1 := h1
  have k2 := h2
  have lt0 : ∀ x ∈ p0, x.block < W.heap.size := by obtain ⟨m, hm⟩ := k0; exact DataW.trod_lt m _ _ _ hm
  have lt1 : ∀ x ∈ p1, x.block < W.heap.size := by obtain ⟨m, hm⟩ := k1; exact DataW.trod_lt m _ _ _ hm
  have lt2 : ∀ x ∈ p2, x.block < W.heap.size := by obtain ⟨m, hm⟩ := k2; exact DataW.trod_lt m _ _ _ hm
  obtain ⟨P, M, am, mn, cm, mod, N, a, n, c, L, rfl, hI0, hM0⟩ := arg_code (hval 0 _ v0 rfl rfl) h0
  obtain ⟨a1x, n1x, c1x, Q1, a1y, n1y, c1y, R1, rfl, hQ1, hR1⟩ := arg_two (hval 1 _ v1 rfl rfl) h1
  obtain ⟨z2w, a2x, n2x, c2x, T2, rfl, hT2, hc2⟩ := arg_proof (hval 2 _ v2 rfl rfl) h2
  clear hA0 hval0
  refine (exLawSoundCoset_any P M am mn cm mod N a n c L a1x n1x c1x Q1 a1y n1y c1y R1 z2w a2x n2x c2x T2 W hI0 hM0 hQ1 hR1 hT2 hc2).mono fun e W' ⟨he, bel⟩ => ?_
  subst he
  exact ⟨_, rfl, _, _, _, [], _, [], hW', trodAll_mk1 (shut_bool Tryz.underlying4 _), (trodAll_cons_mk (Below.trod Tryz.laid (by kernel_rfl) (of_decide_eq_true (by kernel_rfl)) k0 bel lt0) (trodAll_cons_mk (Below.trod Tryz.laid (by kernel_rfl) (of_decide_eq_true (by kernel_rfl)) k1 bel lt1) (trodAll_cons_mk (Below.trod Tryz.laid (by kernel_rfl) (of_decide_eq_true (by kernel_rfl)) k2 bel lt2) trodAll_mk0))), rfl, bel.frame _, fun h => by cases h⟩

theorem exSoundCoset_over : Rows.exclusionSoundCosetRow.holds Tryz.pinned (OpenSpec.ofChange Rows.exclusionSoundCosetSpec) :=
  OpenClaim.holds_of_wide 10 Tryz.f10 rfl rfl rfl rfl rfl rfl rfl ⟨rfl, rfl, rfl, rfl, rfl⟩ rfl rfl rfl rfl rfl (by kernel_rfl) Tryz.func10 exSoundCoset_joined
    (of_decide_eq_true (by kernel_rfl)) (by unfold Func.isWrapper; first | (rw [if_pos (by decide +kernel)]; kernel_rfl) | (rw [if_neg (by decide +kernel)]; exact ⟨rfl, rfl⟩))
    (fun os started H enc _ => exSoundCoset_lifted os started H enc)

theorem exSoundCoset_holds : Rows.ExclusionSoundCosetSaid := exSoundCoset_over
#print axioms exSoundCoset_holds
end

end Go.Proofs.YtapjcccpokhhhaaGreat
