/- InfosetSystematic: the statement. -/
import Derived.Test.YtapjcccpokhhhaaGreatG27
import Derived.Test.YtapjcccpokhhhaaGreatG28
import Derived.Test.YtapjcccpokhhhaaGreatG21
import Derived.Test.YtapjcccpokhhhaaGreatG29
import Derived.Test.YtapjcccpokhhhaaGreatG30
import Derived.Test.YtapjcccpokhhhaaGreatG32
import Derived.Test.YtapjcccpokhhhaaGreatG31
namespace Go.Proofs.YtapjcccpokhhhaaGreat
set_option linter.unusedVariables false
set_option linter.unusedSimpArgs false
set_option linter.unusedSectionVars false

/- The walk of InfosetSystematic. -/
section
open Go.RowKit

theorem rSameM_any (x : Int) (a : Option Addr) (n c : Nat) (T : List (List Int)) (a' : Option Addr) (n' c' : Nat) (w : World) (h : Mat w a n T) (h' : Mat w a' n' T) :
    Calls Tryz.prog 35 #[.agg #[.int .i64 x, .slice a n c], .agg #[.int .i64 x, .slice a' n' c']] w fun e w' => e = .returned (.bool true) ∧ Below w.heap.size w w' := by
  have HF : Hid (∀ V, Below w.heap.size w V → Calls Tryz.prog 38 #[.slice a n c, .slice a' n' c'] V (QuietBool V true)) := fun V hV => by
    have h1 := rSameRows_any a n c T a' n' c' T (h.keep hV) (h'.keep hV)
    rw [decide_eq_true (rfl : T = T)] at h1
    exact h1
  have hx : (x == x) = true := by simp
  clear h h'
  go_enter Tryz.func35, Tryz.ntmps35
  go_wp2_with fail
  refine (HF.out _ (below2 _ _ _)).mono ?_
  rintro e w1 ⟨rfl, hq⟩
  have hF := Below.next (below2 w (.cells #[.int .i64 x, .slice a n c] 52) (.cells #[.int .i64 x, .slice a' n' c'] 52)) (Drawn.below hq)
  go_wp2_with fail
  go_ret
  exact ⟨rfl, hF⟩

def SysB (z : Int) (T : List (List Int)) (er : Int) (V : World) (e : Ending) (w' : World) : Prop := ∃ av nv cv, e = .returned (.tuple #[.agg #[.int .i64 z, .slice av nv cv], .int .i64 er]) ∧ Mat w' av nv T ∧ Below V.heap.size V w'
theorem SysPost.sysB {P M : Int} {mod : List Int} {N : Int} {L : List (List Int)} {Q : List Int} {w w' : World} {e : Ending} (h : SysPost P M mod N L Q w e w') :
    SysB (if sysE P M mod N L Q = 0 then N else 0) (if sysE P M mod N L Q = 0 then sysL (tblOf P M.toNat mod).ops N.toNat L Q else []) (sysE P M mod N L Q) w e w' := by
  obtain ⟨hb, ⟨h1, rfl⟩ | ⟨h1, m, rfl, a, c, rfl, hM⟩⟩ := h
  · rw [if_neg h1, if_neg h1]
    exact ⟨none, 0, 0, rfl, ⟨rfl, fun h => by omega, by unfold maxLen; omega, fun i hi => by omega⟩, hb⟩
  · rw [if_pos h1, if_pos h1, Int.toNat_natCast]
    exact ⟨a, _, c, by rw [h1], hM.mat, hb⟩
theorem sysE_z {P M : Int} {mod : List Int} {N : Int} {L : List (List Int)} {Q : List Int} (h : sysE P M mod N L Q = 0) : ∃ m : Nat, N = m ∧ codeE P M mod m L = 0 ∧ InN m Q ∧ Q.length = L.length ∧ (grS (tblOf P M.toNat mod).ops L Q).length = Q.length := by
  unfold sysE at h
  by_cases hr : rankE P M mod N L Q = 0
  · rw [if_neg (by simpa using hr)] at h
    by_cases hv : isV P M mod N L Q = true
    · obtain ⟨h1, h2, h3, h4⟩ := isV_true hv
      obtain ⟨m, rfl, _⟩ := codeE_rws h1
      exact ⟨m, rfl, h1, set_in h2, h4, h3⟩
    · rw [if_neg hv] at h; cases h
  · rw [if_pos hr] at h; exact absurd h hr

set_option maxRecDepth 100000 in
set_option maxHeartbeats 8000000 in
theorem infSystematic_any (P M : Int) (am : Option Addr) (mn cm : Nat) (mod : List Int) (N : Int) (a : Option Addr) (n c : Nat) (L : List (List Int)) (ao : Option Addr) (no co : Nat) (Q : List Int) (w : World)
    (hmod : Ints w am mn mod) (hi : Mat w a n L) (hq : Ints w ao no Q) :
    Calls Tryz.prog 8 #[.agg #[.int .i64 P, .int .i64 M, .slice am mn cm, .int .i64 N, .slice a n c], .slice ao no co] w fun e w' => e = .returned (.bool true) ∧ Below w.heap.size w w' := by
  have HF : Hid (∀ V, Below w.heap.size w V → Calls Tryz.prog 32 #[.agg #[.int .i64 P, .int .i64 M, .slice am mn cm, .int .i64 N, .slice a n c]] V (SomeBool V)) :=
    fun V hV => few25_any P M am mn cm N a n c L V (hi.keep hV)
  obtain ⟨zz, T, er, HY1, HY2, HY3⟩ : ∃ (zz : Int) (T : List (List Int)) (er : Int), Hid (∀ V, Below w.heap.size w V → Calls Tryz.prog 33 #[.agg #[.int .i64 P, .int .i64 M, .slice am mn cm, .int .i64 N, .slice a n c], .slice ao no co] V (SysB zz T er V)) ∧
      Hid (∀ V, Below w.heap.size w V → Calls Tryz.prog 34 #[.agg #[.int .i64 P, .int .i64 M, .slice am mn cm, .int .i64 N, .slice a n c], .slice ao no co] V (SysB zz T er V)) ∧
      Hid (er = 0 → ∃ m : Nat, N = m ∧ zz = m ∧ codeE P M mod m L = 0 ∧ InN m Q ∧ Rws (tblOf P M.toNat mod).El m T ∧ T.length = L.length ∧ T.map (pickL Q) = unitL Q.length ∧ canS (tblOf P M.toNat mod) T m = L) := by
    refine ⟨_, _, _, fun V hV => (systematic_any P M am mn cm mod N a n c L ao no co Q V (hmod.keep hV) (hi.keep hV) (hq.keep hV)).mono fun e w' h => h.sysB, fun V hV => (rSystematic25_any P M am mn cm mod N a n c L ao no co Q V ?_ (hmod.keep hV) (hi.keep hV) (hq.keep hV)).mono fun e w' h => h.sysB, fun h => ?_⟩
    · intro k m a1 c1 A V2 h1 h2 h3 h4 h5 h6 h7 h8 h9
      exact rMul09_any P M am mn cm mod k a1 k c1 A m a c L V2 h1 h2 h3 h4 h5 h6 h7 h8 h9 h7
    · obtain ⟨m, rfl, hE, hQ, hl, hg⟩ := sysE_z h
      rw [if_pos h, if_pos h, Int.toNat_natCast]
      obtain ⟨k1, k2, k3, k4⟩ := sys_law hE hQ hl hg
      exact ⟨m, rfl, rfl, hE, hQ, k1, k2, k3, k4⟩
  have Hml := Lib.hid hmod.len
  have Hql := Lib.hid hq.len
  have Hil := Lib.hid hi.len
  have Hmod := Lib.hid hmod
  have Hi := Lib.hid hi
  have Hq := Lib.hid hq
  clear hmod hi hq
  go_enter Tryz.func8, Tryz.ntmps8
  go_wp2_with fail
  obtain ⟨W, hW⟩ : ∃ W : World, W = w.alloc (.cells #[.int .i64 P, .int .i64 M, .slice am mn cm, .int .i64 N, .slice a n c] 27) := ⟨_, rfl⟩
  rw [← hW]
  have hbW : Below w.heap.size w W := by rw [hW]; exact below1 _ _
  have x0 : Box W w.heap.size [.int .i64 P, .int .i64 M, .slice am mn cm, .int .i64 N, .slice a n c] := by rw [hW]; exact Box.new _ _ _ rfl
  have HS : Hid (∀ V, Below W.heap.size W V → V.cell? ⟨w.heap.size, 0, none⟩ = some (.int .i64 P) ∧ V.cell? ⟨w.heap.size, 1, none⟩ = some (.int .i64 M) ∧ V.cell? ⟨w.heap.size, 2, none⟩ = some (.slice am mn cm) ∧ V.cell? ⟨w.heap.size, 3, none⟩ = some (.int .i64 N) ∧ V.cell? ⟨w.heap.size, 4, none⟩ = some (.slice a n c)) := fun V hV => by
    have x1 := x0.keep hV
    exact ⟨x1.cell 0 rfl, x1.cell 1 rfl, x1.cell 2 rfl, x1.cell 3 rfl, x1.cell 4 rfl⟩
  have HbW := Lib.hid hbW
  clear hW x0 hbW
  refine (awake_any W).mono ?_
  rintro e w1 ⟨rfl, hb1⟩
  obtain ⟨c0, c1, c2, c3, c4⟩ := HS.out w1 hb1
  go_wp2_with fail
  refine (HF.out w1 (Below.next HbW.out hb1)).mono ?_
  rintro e w2 ⟨z, rfl, hb2⟩
  have hB2 := Below.next hb1 hb2
  clear c0 c1 c2 c3 c4 HF
  cases z
  · go_wp2_with fail
    refine (awake_any w2).mono ?_
    rintro e wz ⟨rfl, hbz⟩
    have hF := Below.next HbW.out (Below.next hB2 hbz)
    go_wp2_with fail
    go_ret
    exact ⟨rfl, hF⟩
  by_cases hno : 100 < no
  · have hd : decide ((100 : Int) < no) = true := by simp; omega
    clear hno
    go_wp2_with fail
    refine (awake_any w2).mono ?_
    rintro e wz ⟨rfl, hbz⟩
    have hF := Below.next HbW.out (Below.next hB2 hbz)
    go_wp2_with fail
    go_ret
    exact ⟨rfl, hF⟩
  have hd100 : decide ((100 : Int) < no) = false := by simp; omega
  have Hno := Lib.hid hno
  clear hno
  obtain ⟨c0, c1, c2, c3, c4⟩ := HS.out w2 hB2
  go_wp2_with fail
  refine (HY1.out w2 (Below.next HbW.out hB2)).mono ?_
  rintro e w4 ⟨av, nv, cv, rfl, hM4, hb4⟩
  have hB4 := Below.next hB2 hb4
  clear c0 c1 c2 c3 c4 HY1
  obtain ⟨U4, hU4⟩ : ∃ U : World, U = w4.alloc (.cells #[.int .i64 zz, .slice av nv cv] 52) := ⟨_, rfl⟩
  have hb4' : Below w4.heap.size w4 U4 := by rw [hU4]; exact below1 _ _
  have hX4 : Box U4 w4.heap.size [.int .i64 zz, .slice av nv cv] := by rw [hU4]; exact Box.new _ _ _ rfl
  have hBU4 := Below.next hB4 hb4'
  obtain ⟨c0, c1, c2, c3, c4⟩ := HS.out U4 hBU4
  rw [hU4] at c0 c1 c2 c3 c4
  have HU4 := Lib.hid hU4
  clear hU4
  go_wp2_with fail
  rw [← HU4.out]
  refine (HY2.out U4 (Below.next HbW.out hBU4)).mono ?_
  rintro e w5 ⟨bv, nb, cb, rfl, hM5, hb5⟩
  have hB5 := Below.next hBU4 hb5
  clear c0 c1 c2 c3 c4 HY2
  obtain ⟨U5, hU5⟩ : ∃ U : World, U = w5.alloc (.cells #[.int .i64 zz, .slice bv nb cb] 52) := ⟨_, rfl⟩
  have hb5' : Below w5.heap.size w5 U5 := by rw [hU5]; exact below1 _ _
  have hX5 : Box U5 w5.heap.size [.int .i64 zz, .slice bv nb cb] := by rw [hU5]; exact Box.new _ _ _ rfl
  have hX4' := (hX4.keep hb5).keep hb5'
  have hBU5 := Below.next hB5 hb5'
  have hMa := ((hM4.keep hb4').keep hb5).keep hb5'
  have hMb := hM5.keep hb5'
  have HX := Lib.hid (And.intro hX4' (And.intro hX5 (And.intro hMa hMb)))
  have HZ : Hid (∀ V, Below U5.heap.size U5 V → (V.cell? ⟨w.heap.size, 0, none⟩ = some (.int .i64 P) ∧ V.cell? ⟨w.heap.size, 1, none⟩ = some (.int .i64 M) ∧ V.cell? ⟨w.heap.size, 2, none⟩ = some (.slice am mn cm) ∧ V.cell? ⟨w.heap.size, 3, none⟩ = some (.int .i64 N) ∧ V.cell? ⟨w.heap.size, 4, none⟩ = some (.slice a n c)) ∧
      V.cell? ⟨w4.heap.size, 0, none⟩ = some (.int .i64 zz) ∧ V.cell? ⟨w4.heap.size, 1, none⟩ = some (.slice av nv cv) ∧ V.cell? ⟨w5.heap.size, 0, none⟩ = some (.int .i64 zz) ∧ V.cell? ⟨w5.heap.size, 1, none⟩ = some (.slice bv nb cb)) := fun V hV =>
    ⟨HS.out V (Below.next hBU5 hV), (HX.out.1.keep hV).cell 0 rfl, (HX.out.1.keep hV).cell 1 rfl, (HX.out.2.1.keep hV).cell 0 rfl, (HX.out.2.1.keep hV).cell 1 rfl⟩
  obtain ⟨⟨c0, c1, c2, c3, c4⟩, d0, d1, f0, f1⟩ := HZ.out U5 (Below.refl _ _)
  rw [hU5] at c0 c1 c2 c3 c4 d0 d1 f0 f1
  have HU5 := Lib.hid hU5
  have e0 : (er != er) = false := by simp
  clear hU5 hX4 hX5 hX4' hMa hMb hM4 hM5 HU4
  go_wp2_with fail
  rw [← HU5.out] at c0 c1 c2 c3 c4 d0 d1 f0 f1 ⊢
  refine (rSameM_any zz av nv cv T bv nb cb U5 HX.out.2.2.1 HX.out.2.2.2).mono ?_
  rintro e w6 ⟨rfl, hb6⟩
  have hB6 := Below.next hBU5 hb6
  clear c0 c1 c2 c3 c4 d0 d1 f0 f1
  by_cases h1 : er = 0
  rotate_left
  · have e3 : (er != 0) = true := by simpa using h1
    have hF := Below.next HbW.out hB6
    clear h1
    go_wp2_with fail
    go_ret
    exact ⟨rfl, hF⟩
  obtain ⟨m, rfl, rfl, hE, hQ, hR, hTl, hTu, hTc⟩ := HY3.out h1
  subst h1
  have hm1 := (codeE_zero hE).2.1
  have hm64 := (codeE_zero hE).2.2.1
  have hn64 : L.length ≤ 256 := (codeE_rws hE).choose_spec.2.2.2.1
  have hfE : fmatE P M mod m T = 0 := fmatE_mk (codeE_zero hE).1 (by omega) (by omega) hR
  have hmn : mn ≤ 1000000 := by
    have h1 := Hml.out
    have h2 := mod_len (codeE_zero hE).1
    omega
  have hNw := (codeNew_any P M am mn cm mod m av nv cv T w6 (Hmod.out.keep (Below.next HbW.out hB6)) (HX.out.2.2.1.keep hb6) hfE (by omega) (by omega) hmn)
  unfold CNewPost at hNw
  rw [hTc] at hNw
  have HNw := Lib.hid hNw
  have HKp : Hid (∀ V, Below w6.heap.size w6 V → Calls Tryz.prog 39 #[.slice av nv cv, .slice ao no co] V fun e w' => ∃ a1 c1, e = .returned (.slice a1 nv c1) ∧ Mat w' a1 nv (unitL no) ∧ Below V.heap.size V w') := fun V hV => by
    have hMv := (HX.out.2.2.1.keep hb6).keep hV
    refine (rKeep_any m av nv cv T ao no co Q V hMv (Hq.out.keep (Below.next (Below.next HbW.out hB6) hV)) (fun r hr => (hR r hr).1) hQ (by rw [← hMv.len]; omega) (by have := Hno.out; omega)).mono ?_
    rintro e w' ⟨a1, c1, R, rfl, hO, hb⟩
    rw [hTu, Hql.out] at hO
    exact ⟨a1, c1, rfl, hO.mat, hb⟩
  have HUn : Hid (∀ V, Calls Tryz.prog 40 #[.int .i64 no] V fun e w' => ∃ a1 c1, e = .returned (.slice a1 no c1) ∧ Mat w' a1 no (unitL no) ∧ Below V.heap.size V w') := fun V => by
    refine (rUnit09_any no V (by have := Hno.out; omega)).mono ?_
    rintro e w' ⟨a1, c1, R, rfl, hO, hb⟩
    exact ⟨a1, c1, rfl, hO.mat, hb⟩
  obtain ⟨⟨c0, c1, c2, c3, c4⟩, d0, d1, f0, f1⟩ := HZ.out w6 hb6
  have Hc3 := Lib.hid (And.intro hR hTu)
  have HQ2 := Lib.hid hQ
  clear hE hQ hR hTl hTu hTc hfE hmn hNw hm1 hm64 hn64 hb1 hb2 hb4 hb5 hb4' hb5'
  go_wp2_with fail
  refine HNw.out.mono ?_
  rintro e w7 ⟨a1, c1', a2, c2', rfl, hI7, hM7, hb7⟩
  have hb67 := Below.next hb6 hb7
  clear c0 c1 c2 c3 c4 d0 d1 f0 f1
  obtain ⟨U8, hU8⟩ : ∃ U : World, U = w7.alloc (.cells #[.int .i64 P, .int .i64 M, .slice a1 mod.length c1', .int .i64 m, .slice a2 L.length c2'] 27) := ⟨_, rfl⟩
  have hb8 : Below w7.heap.size w7 U8 := by rw [hU8]; exact below1 _ _
  have hX8 : Box U8 w7.heap.size [.int .i64 P, .int .i64 M, .slice a1 mod.length c1', .int .i64 m, .slice a2 L.length c2'] := by rw [hU8]; exact Box.new _ _ _ rfl
  have hb58 := Below.next hb67 hb8
  have hb68 := Below.next hb7 hb8
  have hBU8 := Below.next hBU5 hb58
  have HSm := Lib.hid (rSame12_any P M am mn cm mod a1 mod.length c1' m a n c L a2 L.length c2' U8 (Hmod.out.keep (Below.next HbW.out hBU8)) (hI7.ints.keep hb8) (Hi.out.keep (Below.next HbW.out hBU8)) (hM7.mat.keep hb8))
  obtain ⟨⟨c0, c1, c2, c3, c4⟩, d0, d1, f0, f1⟩ := HZ.out U8 hb58
  have g0 := hX8.cell 0 rfl
  have g1 := hX8.cell 1 rfl
  have g2 := hX8.cell 2 rfl
  have g3 := hX8.cell 3 rfl
  have g4 := hX8.cell 4 rfl
  rw [hU8] at c0 c1 c2 c3 c4 d0 d1 f0 f1 g0 g1 g2 g3 g4
  have HU8 := Lib.hid hU8
  clear hU8 hX8 hI7 hM7
  go_wp2_with fail
  rw [← HU8.out]
  refine HSm.out.mono ?_
  rintro e w9 ⟨rfl, hb9⟩
  have hb59 := Below.next hb58 hb9
  have hb69 := Below.next hb68 hb9
  clear c0 c1 c2 c3 c4 d0 d1 f0 f1 g0 g1 g2 g3 g4
  obtain ⟨⟨c0, c1, c2, c3, c4⟩, d0, d1, f0, f1⟩ := HZ.out w9 hb59
  have Hkp := Lib.hid (HKp.out w9 hb69)
  go_wp2_with fail
  refine Hkp.out.mono ?_
  rintro e w10 ⟨a10, c10, rfl, hM10, hb10⟩
  have Hun := Lib.hid (HUn.out w10)
  clear c0 c1 c2 c3 c4 d0 d1 f0 f1
  go_wp2_with fail
  refine Hun.out.mono ?_
  rintro e w11 ⟨a11, c11, rfl, hM11, hb11⟩
  have hsr := rSameRows_any a10 nv c10 (unitL no) a11 no c11 (unitL no) (hM10.keep hb11) hM11
  rw [decide_eq_true (rfl : unitL no = unitL no)] at hsr
  have Hsr := Lib.hid hsr
  clear hsr
  go_wp2_with fail
  refine Hsr.out.mono ?_
  rintro e w12 ⟨rfl, hd⟩
  have hF := Below.next HbW.out (Below.next hBU5 (Below.next hb59 (Below.next hb10 (Below.next hb11 (Drawn.below hd)))))
  go_wp2_with fail
  go_ret
  exact ⟨rfl, hF⟩
end

/- InfosetSystematic: the statement. -/
section
open Go.ChangeShapes Go.WideShapes Go.ChangeAt Go.RowKit

set_option maxRecDepth 100000 in
theorem infSystematic_lifted (os : Os) (started : os.Started) (H : Type) (enc : TypeId × Value → H) :
    ReturnsInHanded {} Tryz.checked os 8 .any (Rows.infosetSystematicSpec.pre6 enc Tryz.prog Tryz.f8 Rows.infosetSystematicRow.domain false) (Rows.infosetSystematicSpec.post enc Tryz.prog Tryz.f8 false true false false) := by
  refine returnsInHanded_of_change (C := Tryz.checked) Tryz.own started (by kernel_rfl) Tryz.func8
    (ChangeSpec.witness6 (enc := enc) (C := Tryz.checked) false ⟨#[], #[.agg #[.int .i64 0, .int .i64 0, .slice none 0 0, .int .i64 0, .slice none 0 0], .slice none 0 0], []⟩ 8 (by kernel_rfl) (by kernel_rfl) (by kernel_rfl) (by kernel_rfl)) ?_
  intro W base args ds gs before hval0 hW hcnd _
  have hval : ∀ (j : Nat) t v, Tryz.f8.params[j]? = some t → args[j]? = some v → Value.okWide Tryz.prog W .any base t v := hval0
  have hW' := hW
  obtain ⟨p, q, hA0, hV, rfl, hfz, hnd⟩ := hW
  have hA : DataW.TrodAll enc Tryz.prog W 0 (fun _ => true) true Tryz.f8.params.toList args.toList ds p := hA0
  rw [Tryz.params8] at hA hval
  obtain ⟨v0, vs0, d0, ds0, p0, q0, hargs, rfl, rfl, h0, r0⟩ := trodAll_cons hA
  obtain ⟨v1, vs1, d1, ds1, p1, q1, rfl, rfl, rfl, h1, r1⟩ := trodAll_cons r0
  obtain ⟨rfl, rfl, rfl⟩ := trodAll_nil r1
  obtain rfl : args = #[v0, v1] := by cases args; simp_all
  obtain ⟨rfl, rfl⟩ := trodVars_none hV
  have k0 := h0
  have k1 := h1
  have lt0 : ∀ x ∈ p0, x.block < W.heap.size := by obtain ⟨m, hm⟩ := k0; exact DataW.trod_lt m _ _ _ hm
  have lt1 : ∀ x ∈ p1, x.block < W.heap.size := by obtain ⟨m, hm⟩ := k1; exact DataW.trod_lt m _ _ _ hm
  obtain ⟨P, M, am, mn, cm, mod, N, a, n, c, L, rfl, hI0, hM0⟩ := arg_code (hval 0 _ v0 rfl rfl) h0
  obtain ⟨a1x, n1x, c1x, Q1, rfl, hQ1⟩ := arg_ints (hval 1 _ v1 rfl rfl) h1
  clear hA0 hval0
  refine (infSystematic_any P M am mn cm mod N a n c L a1x n1x c1x Q1 W hI0 hM0 hQ1).mono fun e W' ⟨he, bel⟩ => ?_
  subst he
  exact ⟨_, rfl, _, _, _, [], _, [], hW', trodAll_mk1 (shut_bool Tryz.underlying4 _), (trodAll_cons_mk (Below.trod Tryz.laid (by kernel_rfl) (of_decide_eq_true (by kernel_rfl)) k0 bel lt0) (trodAll_cons_mk (Below.trod Tryz.laid (by kernel_rfl) (of_decide_eq_true (by kernel_rfl)) k1 bel lt1) trodAll_mk0)), rfl, bel.frame _, fun h => by cases h⟩

theorem infSystematic_over : Rows.infosetSystematicRow.holds Tryz.pinned (OpenSpec.ofChange Rows.infosetSystematicSpec) :=
  OpenClaim.holds_of_wide 8 Tryz.f8 rfl rfl rfl rfl rfl rfl rfl ⟨rfl, rfl, rfl, rfl, rfl⟩ rfl rfl rfl rfl rfl (by kernel_rfl) Tryz.func8 infSystematic_joined
    (of_decide_eq_true (by kernel_rfl)) (by unfold Func.isWrapper; first | (rw [if_pos (by decide +kernel)]; kernel_rfl) | (rw [if_neg (by decide +kernel)]; exact ⟨rfl, rfl⟩))
    (fun os started H enc _ => infSystematic_lifted os started H enc)

theorem infSystematic_holds : Rows.InfosetSystematicSaid := infSystematic_over
#print axioms infSystematic_holds
end

end Go.Proofs.YtapjcccpokhhhaaGreat
