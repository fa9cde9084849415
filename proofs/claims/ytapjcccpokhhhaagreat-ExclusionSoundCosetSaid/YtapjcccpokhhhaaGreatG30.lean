/- Plain: what light counts, and what an accepted tree proves of a coset. -/
import Derived.Test.YtapjcccpokhhhaaGreatG29
import Derived.Test.YtapjcccpokhhhaaGreatG19
import Derived.Test.YtapjcccpokhhhaaGreatG28
import Derived.Test.YtapjcccpokhhhaaGreatG21
import Derived.Test.YtapjcccpokhhhaaGreatG23
namespace Go.Proofs.YtapjcccpokhhhaaGreat
set_option linter.unusedVariables false
set_option linter.unusedSimpArgs false
set_option linter.unusedSectionVars false

/- The walk of codewrightlaw26.awake. -/
section
open Go.RowKit

theorem lits (V : World) (l : List Int) (cs : Array Value) (h : cs = (l.map (Value.int .i64)).toArray) (hl : l.length ≤ 1000) {g : Nat} (hg : g = V.heap.size) : Ints (V.alloc (.cells cs 3)) (some ⟨g, 0, none⟩) l.length l := by
  subst h
  refine ⟨rfl, fun _ => rfl, by unfold maxLen; omega, fun i hi => ?_⟩
  have h1 := cell_alloc_at V ((l.map (Value.int .i64)).toArray) 3 hg i
  rw [nth_getElem hi]
  simpa [ablk, aoff, hi] using h1
theorem mlit1 (V : World) {p : Addr} {n1 c1 : Nat} {l1 : List Int} (h1 : Ints V (some p) n1 l1) {g : Nat} (hg : g = V.heap.size) : Mat (V.alloc (.cells #[.slice (some p) n1 c1] 22)) (some ⟨g, 0, none⟩) 1 [l1] :=
  ⟨rfl, fun _ => rfl, by unfold maxLen; omega, fun k hk => by
    have h := cell_alloc_at V #[.slice (some p) n1 c1] 22 hg k
    match k, hk with
    | 0, _ => exact ⟨some p, n1, c1, h, h1.keep (below1 _ _)⟩⟩
theorem mlit2 (V : World) {p q : Addr} {n1 n2 c1 c2 : Nat} {l1 l2 : List Int} (h1 : Ints V (some p) n1 l1) (h2 : Ints V (some q) n2 l2) {g : Nat} (hg : g = V.heap.size) : Mat (V.alloc (.cells #[.slice (some p) n1 c1, .slice (some q) n2 c2] 22)) (some ⟨g, 0, none⟩) 2 [l1, l2] :=
  ⟨rfl, fun _ => rfl, by unfold maxLen; omega, fun k hk => by
    have h := cell_alloc_at V #[.slice (some p) n1 c1, .slice (some q) n2 c2] 22 hg k
    match k, hk with
    | 0, _ => exact ⟨some p, n1, c1, h, h1.keep (below1 _ _)⟩
    | 1, _ => exact ⟨some q, n2, c2, h, h2.keep (below1 _ _)⟩⟩
theorem mlit3 (V : World) {p q r : Addr} {n1 n2 n3 c1 c2 c3 : Nat} {l1 l2 l3 : List Int} (h1 : Ints V (some p) n1 l1) (h2 : Ints V (some q) n2 l2) (h3 : Ints V (some r) n3 l3) {g : Nat} (hg : g = V.heap.size) :
    Mat (V.alloc (.cells #[.slice (some p) n1 c1, .slice (some q) n2 c2, .slice (some r) n3 c3] 22)) (some ⟨g, 0, none⟩) 3 [l1, l2, l3] :=
  ⟨rfl, fun _ => rfl, by unfold maxLen; omega, fun k hk => by
    have h := cell_alloc_at V #[.slice (some p) n1 c1, .slice (some q) n2 c2, .slice (some r) n3 c3] 22 hg k
    match k, hk with
    | 0, _ => exact ⟨some p, n1, c1, h, h1.keep (below1 _ _)⟩
    | 1, _ => exact ⟨some q, n2, c2, h, h2.keep (below1 _ _)⟩
    | 2, _ => exact ⟨some r, n3, c3, h, h3.keep (below1 _ _)⟩⟩
/-- three lists of two, literal -/
theorem two3 (V : World) (x1 y1 x2 y2 x3 y3 : Int) : Mat ((((V.alloc (.cells #[.int .i64 x1, .int .i64 y1] 3)).alloc (.cells #[.int .i64 x2, .int .i64 y2] 3)).alloc (.cells #[.int .i64 x3, .int .i64 y3] 3)).alloc
    (.cells #[.slice (some ⟨V.heap.size, 0, none⟩) 2 2, .slice (some ⟨V.heap.size + 1, 0, none⟩) 2 2, .slice (some ⟨V.heap.size + 1 + 1, 0, none⟩) 2 2] 22)) (some ⟨V.heap.size + 1 + 1 + 1, 0, none⟩) 3 [[x1, y1], [x2, y2], [x3, y3]] := by
  have i1 := lits V [x1, y1] #[.int .i64 x1, .int .i64 y1] rfl (by simp) rfl
  have i2 := lits (V.alloc (.cells #[.int .i64 x1, .int .i64 y1] 3)) [x2, y2] #[.int .i64 x2, .int .i64 y2] rfl (by simp) (g := V.heap.size + 1) (by simp)
  have i3 := lits ((V.alloc (.cells #[.int .i64 x1, .int .i64 y1] 3)).alloc (.cells #[.int .i64 x2, .int .i64 y2] 3)) [x3, y3] #[.int .i64 x3, .int .i64 y3] rfl (by simp) (g := V.heap.size + 1 + 1) (by simp)
  exact mlit3 _ ((i1.keep (below1 _ _)).keep (below1 _ _)) (i2.keep (below1 _ _)) i3 (by simp)
theorem one3 (V : World) (x1 x2 x3 : Int) : Mat ((((V.alloc (.cells #[.int .i64 x1] 3)).alloc (.cells #[.int .i64 x2] 3)).alloc (.cells #[.int .i64 x3] 3)).alloc
    (.cells #[.slice (some ⟨V.heap.size, 0, none⟩) 1 1, .slice (some ⟨V.heap.size + 1, 0, none⟩) 1 1, .slice (some ⟨V.heap.size + 1 + 1, 0, none⟩) 1 1] 22)) (some ⟨V.heap.size + 1 + 1 + 1, 0, none⟩) 3 [[x1], [x2], [x3]] := by
  have i1 := lits V [x1] #[.int .i64 x1] rfl (by simp) rfl
  have i2 := lits (V.alloc (.cells #[.int .i64 x1] 3)) [x2] #[.int .i64 x2] rfl (by simp) (g := V.heap.size + 1) (by simp)
  have i3 := lits ((V.alloc (.cells #[.int .i64 x1] 3)).alloc (.cells #[.int .i64 x2] 3)) [x3] #[.int .i64 x3] rfl (by simp) (g := V.heap.size + 1 + 1) (by simp)
  exact mlit3 _ ((i1.keep (below1 _ _)).keep (below1 _ _)) (i2.keep (below1 _ _)) i3 (by simp)
theorem two1 (V : World) (x1 y1 : Int) : Mat ((V.alloc (.cells #[.int .i64 x1, .int .i64 y1] 3)).alloc (.cells #[.slice (some ⟨V.heap.size, 0, none⟩) 2 2] 22)) (some ⟨V.heap.size + 1, 0, none⟩) 1 [[x1, y1]] :=
  mlit1 _ (lits V [x1, y1] #[.int .i64 x1, .int .i64 y1] rfl (by simp) rfl) (by simp)
theorem below4 (w : World) (o1 o2 o3 o4 : Obj) : Below w.heap.size w ((((w.alloc o1).alloc o2).alloc o3).alloc o4) := Below.next (below3 w o1 o2 o3) (below1 _ _)
set_option maxRecDepth 100000 in
set_option maxHeartbeats 16000000 in
theorem awake26_any (w : World) : Calls Tryz.prog 14 #[] w fun e w' => e = .returned (.bool true) ∧ Below w.heap.size w w' := by
  go_enter Tryz.func14, Tryz.ntmps14
  go_upto_region 1 with fail
  go_cut [1] (fun v wx => ∃ g gm, v = .pointer (some ⟨g, 0, none⟩) ∧ Box wx g [.int .i64 2, .int .i64 1, .slice none 0 0, .int .i64 4, .slice (some ⟨gm, 0, none⟩) 2 2] ∧ Mat wx (some ⟨gm, 0, none⟩) 2 awG26 ∧ Below w.heap.size w wx)
  case first =>
    go_wp2_with fail
    go_meet
    have i1 := lits w [1, 0, 1, 0] #[.int .i64 1, .int .i64 0, .int .i64 1, .int .i64 0] rfl (by decide) rfl
    have i2 := lits (w.alloc (.cells #[.int .i64 1, .int .i64 0, .int .i64 1, .int .i64 0] 3)) [0, 1, 1, 1] #[.int .i64 0, .int .i64 1, .int .i64 1, .int .i64 1] rfl (by decide) (g := w.heap.size + 1) (by simp)
    have hm := mlit2 (c1 := 4) (c2 := 4) _ (i1.keep (below1 _ (.cells #[.int .i64 0, .int .i64 1, .int .i64 1, .int .i64 1] 3))) i2 (g := w.heap.size + 1 + 1) (by simp)
    have hm2 := hm.keep (below1 _ (.cells #[.int .i64 2, .int .i64 1, .slice none 0 0, .int .i64 4, .slice (some ⟨w.heap.size + 1 + 1, 0, none⟩) 2 2] 27))
    exact ⟨_, w.heap.size + 1 + 1, rfl, Box.new _ [.int .i64 2, .int .i64 1, .slice none 0 0, .int .i64 4, .slice (some ⟨w.heap.size + 1 + 1, 0, none⟩) 2 2] _ (by simp), hm2, below4 _ _ _ _ _⟩
  obtain ⟨g, gm, rfl, hx, hM, hbW⟩ := hcut
  generalize wc = W at *
  have HS : Hid (∀ V, Below W.heap.size W V → V.cell? ⟨g, 0, none⟩ = some (.int .i64 2) ∧ V.cell? ⟨g, 1, none⟩ = some (.int .i64 1) ∧ V.cell? ⟨g, 2, none⟩ = some (.slice none 0 0) ∧ V.cell? ⟨g, 3, none⟩ = some (.int .i64 4) ∧ V.cell? ⟨g, 4, none⟩ = some (.slice (some ⟨gm, 0, none⟩) 2 2)) := fun V hV => by
    have h := hx.keep hV
    exact ⟨h.cell 0 rfl, h.cell 1 rfl, h.cell 2 rfl, h.cell 3 rfl, h.cell 4 rfl⟩
  have HB2 : Hid (∀ V, Below W.heap.size W V → Calls Tryz.prog 23 #[.agg #[.int .i64 2, .int .i64 1, .slice none 0 0, .int .i64 4, .slice (some ⟨gm, 0, none⟩) 2 2], .int .i64 2] V (ExBldPost ((0, [[0, 1], [1, 2], [0, 2]])) V)) := fun V hV => by
    have h := exBuildDistance_any 2 1 none 0 0 [] 4 (some ⟨gm, 0, none⟩) 2 2 awG26 2 V (Ints.nil _ _) (hM.keep hV)
    rw [aw26_w2] at h
    rw [← aw26_b2]
    exact h
  have HB3 : Hid (∀ V, Below W.heap.size W V → Calls Tryz.prog 23 #[.agg #[.int .i64 2, .int .i64 1, .slice none 0 0, .int .i64 4, .slice (some ⟨gm, 0, none⟩) 2 2], .int .i64 3] V (ExBldPost ((11, [])) V)) := fun V hV => by
    have h := exBuildDistance_any 2 1 none 0 0 [] 4 (some ⟨gm, 0, none⟩) 2 2 awG26 3 V (Ints.nil _ _) (hM.keep hV)
    rw [aw26_w3] at h
    rw [← aw26_b3]
    exact h
  have HBR : Hid (∀ V, Below W.heap.size W V → Calls Tryz.prog 20 #[.agg #[.int .i64 2, .int .i64 1, .slice none 0 0, .int .i64 4, .slice (some ⟨gm, 0, none⟩) 2 2], .int .i64 1, .int .i64 2] V (ExBldPost ((0, [[0], [1], [2]])) V)) := fun V hV => by
    rw [← aw26_b12]
    exact exBuildRank_any 2 1 none 0 0 [] 4 (some ⟨gm, 0, none⟩) 2 2 awG26 1 2 V (Ints.nil _ _) (hM.keep hV)
  have HBC0 : Hid (∀ V gy, Below W.heap.size W V → Ints V (some ⟨gy, 0, none⟩) 4 [1, 0, 0, 0] → Calls Tryz.prog 29 #[.agg #[.int .i64 2, .int .i64 1, .slice none 0 0, .int .i64 4, .slice (some ⟨gm, 0, none⟩) 2 2], .slice (some ⟨gy, 0, none⟩) 4 4, .int .i64 0] V (ExBldPost ((0, [[0, 1]])) V)) := fun V gy hV hy => by
    rw [← aw26_u]
    exact exBuildCoset_any 2 1 none 0 0 [] 4 (some ⟨gm, 0, none⟩) 2 2 awG26 (some ⟨gy, 0, none⟩) 4 4 [1, 0, 0, 0] 0 V (Ints.nil _ _) (hM.keep hV) hy
  have HBC1 : Hid (∀ V gy, Below W.heap.size W V → Ints V (some ⟨gy, 0, none⟩) 4 [1, 0, 0, 0] → Calls Tryz.prog 29 #[.agg #[.int .i64 2, .int .i64 1, .slice none 0 0, .int .i64 4, .slice (some ⟨gm, 0, none⟩) 2 2], .slice (some ⟨gy, 0, none⟩) 4 4, .int .i64 1] V (ExBldPost ((11, [])) V)) := fun V gy hV hy => by
    rw [← aw26_v]
    exact exBuildCoset_any 2 1 none 0 0 [] 4 (some ⟨gm, 0, none⟩) 2 2 awG26 (some ⟨gy, 0, none⟩) 4 4 [1, 0, 0, 0] 1 V (Ints.nil _ _) (hM.keep hV) hy
  have HCD : Hid (∀ V ax cx d ts r, wtD 4 d = r → Below W.heap.size W V → Mat V ax 3 ts → Calls Tryz.prog 25 #[.agg #[.int .i64 2, .int .i64 1, .slice none 0 0, .int .i64 4, .slice (some ⟨gm, 0, none⟩) 2 2], .int .i64 d, .agg #[.slice ax 3 cx]] V fun e w' => e = .returned (.int .i64 (chkRE 2 1 [] 4 awG26 2 r ts)) ∧ Below V.heap.size V w') := fun V ax cx d ts r hr hV ht => by
    rw [← hr]
    exact exCheckDistance_any 2 1 none 0 0 [] 4 (some ⟨gm, 0, none⟩) 2 2 awG26 d ax 3 cx ts V (Ints.nil _ _) (hM.keep hV) ht
  have HCC : Hid (∀ V gy ax cx k ts, Below W.heap.size W V → Ints V (some ⟨gy, 0, none⟩) 4 [1, 0, 0, 0] → Mat V ax 1 ts → Calls Tryz.prog 27 #[.agg #[.int .i64 2, .int .i64 1, .slice none 0 0, .int .i64 4, .slice (some ⟨gm, 0, none⟩) 2 2], .slice (some ⟨gy, 0, none⟩) 4 4, .int .i64 k, .agg #[.slice ax 1 cx]] V fun e w' => e = .returned (.int .i64 (chkCE 2 1 [] 4 awG26 [1, 0, 0, 0] k ts)) ∧ Below V.heap.size V w') := fun V gy ax cx k ts hV hy ht =>
    exCheckCoset_any 2 1 none 0 0 [] 4 (some ⟨gm, 0, none⟩) 2 2 awG26 (some ⟨gy, 0, none⟩) 4 4 [1, 0, 0, 0] k ax 1 cx ts V (Ints.nil _ _) (hM.keep hV) hy ht
  have HCR : Hid (∀ V ax cx ts, Below W.heap.size W V → Mat V ax 3 ts → Calls Tryz.prog 17 #[.agg #[.int .i64 2, .int .i64 1, .slice none 0 0, .int .i64 4, .slice (some ⟨gm, 0, none⟩) 2 2], .int .i64 1, .int .i64 2, .agg #[.slice ax 3 cx]] V fun e w' => e = .returned (.int .i64 (chkRE 2 1 [] 4 awG26 1 2 ts)) ∧ Below V.heap.size V w') := fun V ax cx ts hV ht =>
    exCheckRank_any 2 1 none 0 0 [] 4 (some ⟨gm, 0, none⟩) 2 2 awG26 1 2 ax 3 cx ts V (Ints.nil _ _) (hM.keep hV) ht
  have HW := Lib.hid hbW
  clear hx hM hbW
  have ky := below1 W (.cells #[.int .i64 1, .int .i64 0, .int .i64 0, .int .i64 0] 3)
  have HY := Lib.hid (fun V hV => (lits W [1, 0, 0, 0] #[.int .i64 1, .int .i64 0, .int .i64 0, .int .i64 0] rfl (by decide) rfl).keep hV : ∀ V, Below (W.alloc (.cells #[.int .i64 1, .int .i64 0, .int .i64 0, .int .i64 0] 3)).heap.size (W.alloc (.cells #[.int .i64 1, .int .i64 0, .int .i64 0, .int .i64 0] 3)) V → Ints V (some ⟨W.heap.size, 0, none⟩) 4 [1, 0, 0, 0])
  obtain ⟨c0, c1, c2, c3, c4⟩ := HS.out _ ky
  have Hc := Lib.hid (HB2.out _ ky)
  go_wp2_with fail
  refine Hc.out.mono ?_
  rintro e V1 ⟨b1, ⟨h0, _⟩ | ⟨_, a1, k1, R1, rfl, hO1⟩⟩
  · exact absurd rfl h0
  have n1 := below1 V1 (.cells #[.slice a1 3 k1] 30)
  have e1 := Below.next b1 n1
  have HT1 := Lib.hid (fun V hV => ⟨((Box.new V1 [.slice a1 3 k1] 30 rfl).keep hV).cell 0 rfl, (hO1.mat.keep n1).keep hV⟩ : ∀ V, Below (V1.alloc (.cells #[.slice a1 3 k1] 30)).heap.size (V1.alloc (.cells #[.slice a1 3 k1] 30)) V → V.cell? ⟨V1.heap.size, 0, none⟩ = some (.slice a1 3 k1) ∧ Mat V a1 3 [[0, 1], [1, 2], [0, 2]])
  clear c0 c1 c2 c3 c4 Hc hO1
  obtain ⟨c0, c1, c2, c3, c4⟩ := HS.out _ (Below.next ky e1)
  have Hc := Lib.hid (HB3.out _ (Below.next ky e1))
  go_wp2_with fail
  refine Hc.out.mono ?_
  rintro e V2 ⟨b2, ⟨_, rfl⟩ | ⟨h0, _⟩⟩
  rotate_left
  · exact absurd h0 (by decide)
  have n2 := below1 V2 (.cells #[.slice none 0 0] 30)
  have f2 := Below.next b2 n2
  have e2 := Below.next e1 f2
  clear c0 c1 c2 c3 c4 Hc
  obtain ⟨c0, c1, c2, c3, c4⟩ := HS.out _ (Below.next ky e2)
  have Hc := Lib.hid (HBC0.out _ W.heap.size (Below.next ky e2) (HY.out _ e2))
  go_wp2_with fail
  refine Hc.out.mono ?_
  rintro e V3 ⟨b3, ⟨h0, _⟩ | ⟨_, a3, k3, R3, rfl, hO3⟩⟩
  · exact absurd rfl h0
  have n3 := below1 V3 (.cells #[.slice a3 1 k3] 30)
  have f3 := Below.next b3 n3
  have e3 := Below.next e2 f3
  have HT3 := Lib.hid (fun V hV => ⟨((Box.new V3 [.slice a3 1 k3] 30 rfl).keep hV).cell 0 rfl, (hO3.mat.keep n3).keep hV⟩ : ∀ V, Below (V3.alloc (.cells #[.slice a3 1 k3] 30)).heap.size (V3.alloc (.cells #[.slice a3 1 k3] 30)) V → V.cell? ⟨V3.heap.size, 0, none⟩ = some (.slice a3 1 k3) ∧ Mat V a3 1 [[0, 1]])
  clear c0 c1 c2 c3 c4 Hc hO3
  obtain ⟨c0, c1, c2, c3, c4⟩ := HS.out _ (Below.next ky e3)
  have Hc := Lib.hid (HBC1.out _ W.heap.size (Below.next ky e3) (HY.out _ e3))
  go_wp2_with fail
  refine Hc.out.mono ?_
  rintro e V4 ⟨b4, ⟨_, rfl⟩ | ⟨h0, _⟩⟩
  rotate_left
  · exact absurd h0 (by decide)
  have n4 := below1 V4 (.cells #[.slice none 0 0] 30)
  have f4 := Below.next b4 n4
  have e4 := Below.next e3 f4
  clear c0 c1 c2 c3 c4 Hc
  obtain ⟨c0, c1, c2, c3, c4⟩ := HS.out _ (Below.next ky e4)
  have Hc := Lib.hid (HBR.out _ (Below.next ky e4))
  go_wp2_with fail
  refine Hc.out.mono ?_
  rintro e V5 ⟨b5, ⟨h0, _⟩ | ⟨_, a5, k5, R5, rfl, hO5⟩⟩
  · exact absurd rfl h0
  have n5 := below1 V5 (.cells #[.slice a5 3 k5] 30)
  have f5 := Below.next b5 n5
  have e5 := Below.next e4 f5
  have g35 := Below.next f4 f5
  have g15 := Below.next (Below.next f2 f3) g35
  have HT5 := Lib.hid (fun V hV => ⟨((Box.new V5 [.slice a5 3 k5] 30 rfl).keep hV).cell 0 rfl, (hO5.mat.keep n5).keep hV⟩ : ∀ V, Below (V5.alloc (.cells #[.slice a5 3 k5] 30)).heap.size (V5.alloc (.cells #[.slice a5 3 k5] 30)) V → V.cell? ⟨V5.heap.size, 0, none⟩ = some (.slice a5 3 k5) ∧ Mat V a5 3 [[0], [1], [2]])
  have HE5 := Lib.hid (Below.next ky e5)
  have HE5y := Lib.hid e5
  have HG15 := Lib.hid g15
  have HG35 := Lib.hid g35
  clear c0 c1 c2 c3 c4 Hc hO5 b1 b2 b3 b4 b5 n1 n2 n3 n4 n5 e1 e2 e3 e4 e5 f2 f3 f4 f5 g15 g35
  have dd1 := (HT1.out _ HG15.out).1
  go_upto_region 8 with fail
  obtain ⟨X, hX⟩ : ∃ X, X = V5.alloc (.cells #[.slice a5 3 k5] 30) := ⟨_, rfl⟩
  rw [← hX] at HE5 HE5y HT5 HG15 HG35 dd1 ⊢
  clear hX
  have q1 := below4 X (.cells #[.int .i64 0, .int .i64 1] 3) (.cells #[.int .i64 1, .int .i64 2] 3) (.cells #[.int .i64 0, .int .i64 2] 3) (.cells #[.slice (some ⟨X.heap.size, 0, none⟩) 2 2, .slice (some ⟨X.heap.size + 1, 0, none⟩) 2 2, .slice (some ⟨X.heap.size + 1 + 1, 0, none⟩) 2 2] 22)
  have Hc := Lib.hid (rSameRows_any a1 3 k1 [[0, 1], [1, 2], [0, 2]] _ 3 3 [[0, 1], [1, 2], [0, 2]] (HT1.out _ (Below.next HG15.out q1)).2 (two3 X 0 1 1 2 0 2))
  rw [decide_eq_true rfl] at Hc
  go_wp2_with fail
  refine Hc.out.mono ?_
  rintro e Y1 ⟨rfl, r1⟩
  have s1 := Below.next q1 r1.below
  have dd3 := (HT3.out _ (Below.next HG35.out s1)).1
  have q2 := below2 Y1 (.cells #[.int .i64 0, .int .i64 1] 3) (.cells #[.slice (some ⟨Y1.heap.size, 0, none⟩) 2 2] 22)
  have Hc2 := Lib.hid (rSameRows_any a3 1 k3 [[0, 1]] _ 1 1 [[0, 1]] (HT3.out _ (Below.next HG35.out (Below.next s1 q2))).2 (two1 Y1 0 1))
  rw [decide_eq_true rfl] at Hc2
  clear Hc q1 r1 dd1
  go_wp2_with fail
  refine Hc2.out.mono ?_
  rintro e Y2 ⟨rfl, r2⟩
  have s2 := Below.next s1 (Below.next q2 r2.below)
  have dd5 := (HT5.out _ s2).1
  have q3 := below4 Y2 (.cells #[.int .i64 0] 3) (.cells #[.int .i64 1] 3) (.cells #[.int .i64 2] 3) (.cells #[.slice (some ⟨Y2.heap.size, 0, none⟩) 1 1, .slice (some ⟨Y2.heap.size + 1, 0, none⟩) 1 1, .slice (some ⟨Y2.heap.size + 1 + 1, 0, none⟩) 1 1] 22)
  have Hc3 := Lib.hid (rSameRows_any a5 3 k5 [[0], [1], [2]] _ 3 3 [[0], [1], [2]] (HT5.out _ (Below.next s2 q3)).2 (one3 Y2 0 1 2))
  rw [decide_eq_true rfl] at Hc3
  clear Hc2 q2 r2 dd3 s1
  go_wp2_with fail
  refine Hc3.out.mono ?_
  rintro e Y3 ⟨rfl, r3⟩
  have s3 := Below.next s2 (Below.next q3 r3.below)
  clear Hc3 q3 r3 dd5 s2
  go_upto_region 13 with fail
  have w4 := below4 Y3 (.cells #[.int .i64 0, .int .i64 1] 3) (.cells #[.int .i64 1, .int .i64 3] 3) (.cells #[.int .i64 0, .int .i64 2] 3) (.cells #[.slice (some ⟨Y3.heap.size, 0, none⟩) 2 2, .slice (some ⟨Y3.heap.size + 1, 0, none⟩) 2 2, .slice (some ⟨Y3.heap.size + 1 + 1, 0, none⟩) 2 2] 22)
  have hbad := two3 Y3 0 1 1 3 0 2
  obtain ⟨Y4, hY4⟩ : ∃ Y4, Y4 = ((((Y3.alloc (.cells #[.int .i64 0, .int .i64 1] 3)).alloc (.cells #[.int .i64 1, .int .i64 3] 3)).alloc (.cells #[.int .i64 0, .int .i64 2] 3)).alloc (.cells #[.slice (some ⟨Y3.heap.size, 0, none⟩) 2 2, .slice (some ⟨Y3.heap.size + 1, 0, none⟩) 2 2, .slice (some ⟨Y3.heap.size + 1 + 1, 0, none⟩) 2 2] 22)) := ⟨_, rfl⟩
  have hsz4 : Y4.heap.size = Y3.heap.size + 1 + 1 + 1 + 1 := by rw [hY4]; simp
  rw [← hY4] at w4 hbad ⊢
  have nb := below1 Y4 (.cells #[.slice (some ⟨Y3.heap.size + 1 + 1 + 1, 0, none⟩) 3 3] 30)
  have HBad := Lib.hid (fun V hV => ⟨((Box.new Y4 [.slice (some ⟨Y3.heap.size + 1 + 1 + 1, 0, none⟩) 3 3] 30 hsz4.symm).keep hV).cell 0 rfl, (hbad.keep nb).keep hV⟩ : ∀ V, Below (Y4.alloc (.cells #[.slice (some ⟨Y3.heap.size + 1 + 1 + 1, 0, none⟩) 3 3] 30)).heap.size (Y4.alloc (.cells #[.slice (some ⟨Y3.heap.size + 1 + 1 + 1, 0, none⟩) 3 3] 30)) V →
    V.cell? ⟨Y3.heap.size + 1 + 1 + 1 + 1, 0, none⟩ = some (.slice (some ⟨Y3.heap.size + 1 + 1 + 1, 0, none⟩) 3 3) ∧ Mat V (some ⟨Y3.heap.size + 1 + 1 + 1, 0, none⟩) 3 [[0, 1], [1, 3], [0, 2]])
  obtain ⟨Z, hZ⟩ : ∃ Z, Z = Y4.alloc (.cells #[.slice (some ⟨Y3.heap.size + 1 + 1 + 1, 0, none⟩) 3 3] 30) := ⟨_, rfl⟩
  rw [← hZ] at nb HBad ⊢
  have z0 := Below.next s3 (Below.next w4 nb)
  clear hY4 hZ hbad w4 nb hsz4 s3
  obtain ⟨c0, c1, c2, c3, c4⟩ := HS.out _ (Below.next HE5.out z0)
  have dt := (HT1.out _ (Below.next HG15.out z0))
  have dt1 := dt.1
  have Hk := Lib.hid (HCD.out _ a1 k1 2 [[0, 1], [1, 2], [0, 2]] 1 aw26_w2 (Below.next HE5.out z0) dt.2)
  rw [aw26_k1] at Hk
  go_wp2_with fail
  refine Hk.out.mono ?_
  rintro e Z1 ⟨rfl, m1⟩
  have z1 := Below.next z0 m1
  clear c0 c1 c2 c3 c4 Hk
  clear dt dt1
  obtain ⟨c0, c1, c2, c3, c4⟩ := HS.out _ (Below.next HE5.out z1)
  have dt := (HBad.out _ m1)
  have dt1 := dt.1
  have Hk := Lib.hid (HCD.out _ _ 3 2 [[0, 1], [1, 3], [0, 2]] 1 aw26_w2 (Below.next HE5.out z1) dt.2)
  rw [aw26_k2] at Hk
  go_wp2_with fail
  refine Hk.out.mono ?_
  rintro e Z2 ⟨rfl, m2⟩
  have z2 := Below.next z1 m2
  clear c0 c1 c2 c3 c4 Hk
  clear dt dt1
  obtain ⟨c0, c1, c2, c3, c4⟩ := HS.out _ (Below.next HE5.out z2)
  have dt := (HT1.out _ (Below.next HG15.out z2))
  have dt1 := dt.1
  have Hk := Lib.hid (HCD.out _ a1 k1 1 [[0, 1], [1, 2], [0, 2]] 0 aw26_w1 (Below.next HE5.out z2) dt.2)
  rw [aw26_k3] at Hk
  go_wp2_with fail
  refine Hk.out.mono ?_
  rintro e Z3 ⟨rfl, m3⟩
  have z3 := Below.next z2 m3
  clear c0 c1 c2 c3 c4 Hk
  clear dt dt1
  obtain ⟨c0, c1, c2, c3, c4⟩ := HS.out _ (Below.next HE5.out z3)
  have dt := (HT3.out _ (Below.next HG35.out z3))
  have dt1 := dt.1
  have Hk := Lib.hid (HCC.out _ W.heap.size a3 k3 0 [[0, 1]] (Below.next HE5.out z3) (HY.out _ (Below.next HE5y.out z3)) dt.2)
  rw [aw26_k4] at Hk
  go_wp2_with fail
  refine Hk.out.mono ?_
  rintro e Z4 ⟨rfl, m4⟩
  have z4 := Below.next z3 m4
  clear c0 c1 c2 c3 c4 Hk
  clear dt dt1
  obtain ⟨c0, c1, c2, c3, c4⟩ := HS.out _ (Below.next HE5.out z4)
  have dt := (HT3.out _ (Below.next HG35.out z4))
  have dt1 := dt.1
  have Hk := Lib.hid (HCC.out _ W.heap.size a3 k3 1 [[0, 1]] (Below.next HE5.out z4) (HY.out _ (Below.next HE5y.out z4)) dt.2)
  rw [aw26_k5] at Hk
  go_wp2_with fail
  refine Hk.out.mono ?_
  rintro e Z5 ⟨rfl, m5⟩
  have z5 := Below.next z4 m5
  clear c0 c1 c2 c3 c4 Hk
  clear dt dt1
  obtain ⟨c0, c1, c2, c3, c4⟩ := HS.out _ (Below.next HE5.out z5)
  have dt := (HT5.out _ z5)
  have dt1 := dt.1
  have Hk := Lib.hid (HCR.out _ a5 k5 [[0], [1], [2]] (Below.next HE5.out z5) dt.2)
  rw [aw26_k6] at Hk
  go_wp2_with fail
  refine Hk.out.mono ?_
  rintro e Z6 ⟨rfl, m6⟩
  have z6 := Below.next z5 m6
  clear c0 c1 c2 c3 c4 Hk
  clear dt dt1
  have hF := Below.next HW.out (Below.next HE5.out z6)
  go_wp2_with fail
  go_ret
  exact ⟨rfl, hF⟩
end

/- The walk of codewrightref10.Rising. -/
section
open Go.RowKit
end

/- The walks of codewrightref09.Few, codewrightref12.Few, codewrightlaw25.few: they end with some answer. -/
section
open Go.RowKit

def SomeBool (w : World) (e : Ending) (w' : World) : Prop := ∃ z, e = .returned (.bool z) ∧ Below w.heap.size w w'

set_option maxRecDepth 100000 in
set_option maxHeartbeats 3200000 in
theorem rFew9_any (a : Option Addr) (n c K : Nat) (L : List (List Int)) (w : World) (hi : Mat w a n L) (hK : K ≤ 100000) :
    Calls Tryz.prog 50 #[.agg #[.int .i64 0, .slice a n c], .int .i64 K] w (SomeBool w) := by
  have Hlen := Lib.hid hi.len
  have hpl := hi.pl
  have hmax := hi.max
  unfold maxLen at hmax
  go_enter Tryz.func50, Tryz.ntmps50
  go_upto_region 1 with fail
  obtain ⟨W, hW⟩ : ∃ W : World, W = w.alloc (.cells #[.int .i64 0, .slice a n c] 52) := ⟨_, rfl⟩
  rw [← hW]
  have hbW : Below w.heap.size w W := by rw [hW]; exact below1 _ _
  have x0 : Box W w.heap.size [.int .i64 0, .slice a n c] := by rw [hW]; exact Box.new _ _ _ rfl
  have c0 := x0.cell 0 rfl
  have c1 := x0.cell 1 rfl
  have hiW := hi.keep hbW
  have HbW := Lib.hid hbW
  clear hW x0 hi hbW
  by_cases h1 : K < n
  · have d1 : decide (K < n) = true := by simpa using h1
    have d1' : decide ((K : Int) < n) = true := by simp; omega
    go_wp2_with fail
    go_ret
    exact ⟨_, rfl, HbW.out⟩
  · have d1 : decide (K < n) = false := by simpa using h1
    have d1' : decide ((K : Int) < n) = false := by simp; omega
    go_wp2_with fail
    go_loopw [5, 6] (fun lv iv wr => ∃ k m : Nat, k ≤ n ∧ m ≤ K ∧ lv = .int .i64 m ∧ iv = .int .i64 k ∧ wr = W) (fun _ iv _ => n - (intOf iv).toNat)
    case atStart => exact ⟨0, K - n, Nat.zero_le _, by omega, by go_num, rfl, rfl⟩
    case round =>
      obtain ⟨k, m, hk, hm, rfl, rfl, rfl⟩ := hrel
      by_cases hlt : k < n
      · obtain ⟨ra, rn, rc, hcell, hrow⟩ := hiW.cell k hlt
        by_cases h2 : m < rn
        · have d2 : decide (m < rn) = true := by simpa using h2
          have d2' : decide ((m : Int) < rn) = true := by simp; omega
          go_wp2_with fail
          go_ret
          exact ⟨_, rfl, HbW.out⟩
        · have d2 : decide (m < rn) = false := by simpa using h2
          have d2' : decide ((m : Int) < rn) = false := by simp; omega
          have d3 : (rn : Int) ≤ m := by omega
          go_wp2_with fail
          go_roundw
          case rel => exact ⟨k + 1, m - rn, by omega, by omega, by go_num, by go_num, by first | rfl | trivial⟩
          case measure => simp [intOf] <;> omega
      · obtain rfl : k = n := by omega
        go_wp2_with fail
        go_ret
        exact ⟨_, rfl, HbW.out⟩

set_option maxRecDepth 100000 in
theorem rFew12_any (P M : Int) (am : Option Addr) (mn cm : Nat) (N : Int) (a : Option Addr) (n c K : Nat) (L : List (List Int)) (w : World) (hi : Mat w a n L) (hK : K ≤ 100000) :
    Calls Tryz.prog 49 #[.agg #[.int .i64 P, .int .i64 M, .slice am mn cm, .int .i64 N, .slice a n c], .int .i64 K] w (SomeBool w) := by
  have H := Lib.hid (fun V hV => rFew9_any a n c K L V (hi.keep hV) hK : ∀ V, Below w.heap.size w V → _)
  clear hi
  go_enter Tryz.func49, Tryz.ntmps49
  go_wp2_with fail
  have hbW := below1 w (.cells #[.int .i64 P, .int .i64 M, .slice am mn cm, .int .i64 N, .slice a n c] 27)
  refine (H.out _ hbW).mono ?_
  rintro e w1 ⟨z, rfl, hb1⟩
  have hF := Below.next hbW hb1
  go_wp2_with fail
  go_ret
  exact ⟨z, rfl, hF⟩
end

/- The walks of few of the law 26 and of Few of the reference's exclusion. -/
section
open Go.RowKit

set_option maxRecDepth 100000 in
set_option maxHeartbeats 3200000 in
theorem few26_any (P M : Int) (am : Option Addr) (mn cm : Nat) (N : Int) (a : Option Addr) (n c : Nat) (L : List (List Int)) (w : World) (hi : Mat w a n L) :
    Calls Tryz.prog 15 #[.agg #[.int .i64 P, .int .i64 M, .slice am mn cm, .int .i64 N, .slice a n c]] w (SomeBool w) := by
  have H : Hid (∀ V, Below w.heap.size w V → Calls Tryz.prog 49 #[.agg #[.int .i64 P, .int .i64 M, .slice am mn cm, .int .i64 N, .slice a n c], .int .i64 100] V (SomeBool V)) := fun V hV => rFew12_any P M am mn cm N a n c 100 L V (hi.keep hV) (by omega)
  clear hi
  go_enter Tryz.func15, Tryz.ntmps15
  go_upto_region 1 with fail
  obtain ⟨W, hW⟩ : ∃ W : World, W = w.alloc (.cells #[.int .i64 P, .int .i64 M, .slice am mn cm, .int .i64 N, .slice a n c] 27) := ⟨_, rfl⟩
  rw [← hW]
  have hbW : Below w.heap.size w W := by rw [hW]; exact below1 _ _
  have x0 : Box W w.heap.size [.int .i64 P, .int .i64 M, .slice am mn cm, .int .i64 N, .slice a n c] := by rw [hW]; exact Box.new _ _ _ rfl
  have HX := Lib.hid x0
  have c0 := x0.cell 0 rfl
  have c1 := x0.cell 1 rfl
  have c2 := x0.cell 2 rfl
  have c3 := x0.cell 3 rfl
  have c4 := x0.cell 4 rfl
  clear hW x0
  have Hf := Lib.hid (H.out W hbW)
  clear H
  by_cases h1 : N ≤ 14
  · have d1 : decide (N ≤ 14) = true := by simpa using h1
    clear h1
    go_wp2_with (go_at_call 49; refine Hf.out.mono ?_; rintro e w1 ⟨z, rfl, hb1⟩; have q1 := (HX.out.keep hb1).cell 3 rfl; have hF := Below.next hbW hb1; cases z)
    all_goals (go_wp2_with fail; go_ret; exact ⟨_, rfl, hF⟩)
  · have d1 : decide (N ≤ 14) = false := by simpa using h1
    clear h1
    by_cases h2 : 64 < N
    · have d2 : decide (64 < N) = true := by simpa using h2
      clear h2
      go_wp2_with (go_at_call 49; refine Hf.out.mono ?_; rintro e w1 ⟨z, rfl, hb1⟩; have q1 := (HX.out.keep hb1).cell 3 rfl; have hF := Below.next hbW hb1; cases z)
      all_goals (go_wp2_with fail; go_ret; exact ⟨_, rfl, hF⟩)
    · have d2 : decide (64 < N) = false := by simpa using h2
      clear h2
      go_wp2_with (go_at_call 49; refine Hf.out.mono ?_; rintro e w1 ⟨z, rfl, hb1⟩; have q1 := (HX.out.keep hb1).cell 3 rfl; have hF := Below.next hbW hb1; cases z)
      all_goals (go_wp2_with fail; go_ret; exact ⟨_, rfl, hF⟩)


theorem rFew26_any (ax : Option Addr) (nx cx : Nat) (ts : List (List Int)) (w : World) (h : Mat w ax nx ts) : Calls Tryz.prog 16 #[.agg #[.slice ax nx cx]] w (SomeBool w) := by
  have HF := Lib.hid (fun V (hV : Below w.heap.size w V) => rFew9_any ax nx cx 20000 ts V (h.keep hV) (by omega))
  clear h
  go_enter Tryz.func16, Tryz.ntmps16
  go_wp2_with fail
  refine (HF.out _ (below1 _ _)).mono ?_
  rintro e w1 ⟨z, rfl, hb1⟩
  have hF := Below.next (below1 w (.cells #[.slice ax nx cx] 30)) hb1
  go_wp2_with fail
  go_ret
  exact ⟨z, rfl, hF⟩
end

/- Elimination with columns put behind (plain law): the pivots stay. -/
section
section
variable {O : FOps} {k : Nat}
end
section
variable {O : FOps} {El : Int → Prop} {m : Nat}
end
end

/- The walk of matrix.Columns, at positions in range. -/
section
open Go.RowKit
end

/- The walk of infoset.Systematic. -/
section
open Go.RowKit
end

/- Canonical rows are determined by their row space; the systematic matrix (plain laws). -/
section
section
variable {O : FOps} {El : Int → Prop} {m : Nat}
theorem Piv.lessT (F : Fld O El) {L : List (List Int)} {P : List Int} {c : Nat} (h : Piv L P c) (hL : Rws El m L) {v : List Int} (hv : Vc El L.length v) {φ : List Int → Int} (hφ : Lin O El L.length φ)
    {t : Nat} (ht : t ≤ P.length) (h0 : ∀ j, j < t → φ (colS L (nth P j).toNat) = 0) : ∀ k, k ≤ t → Vc El L.length (lessTo O L P v k) ∧ φ (lessTo O L P v k) = φ v ∧ ∀ i, i < L.length → nth (lessTo O L P v k) i = if i < k then 0 else nth v i
  | 0, _ => ⟨hv, rfl, fun i _ => by rw [if_neg (by omega)]; rfl⟩
  | k + 1, hk => by
    obtain ⟨h1, h2, h3⟩ := h.lessT F hL hv hφ ht h0 k (by omega)
    have hle := h.le
    have hcol := colS_vc hL F.zero (nth P k).toNat
    have hx := h1.at (i := k) (by omega)
    refine ⟨h1.sub F hcol hx, ?_, fun i hi => ?_⟩
    · rw [lessTo, hφ.sub _ _ _ h1 hcol hx, h0 k (by omega), F.mzero hx, F.nzero, F.add_zero _ (hφ.el _ h1), h2]
    · rw [lessTo, nth_subRow O _ _ _ i (by rw [hcol.1, h1.1]) (by rw [h1.1]; exact hi), nth_colS L _ i hi, h.one k i (by omega) hi]
      by_cases e : i = k
      · subst e
        rw [if_pos rfl, F.mone hx, F.add_neg _ hx, if_pos (by omega)]
      · rw [if_neg e, F.mzero hx, F.nzero, F.add_zero _ (h1.at hi), h3 i hi]
        by_cases e2 : i < k
        · rw [if_pos e2, if_pos (by omega)]
        · rw [if_neg e2, if_neg (by omega)]
/-- a form is the combination of its values at the unit vectors -/
theorem unitR_vc (F : Fld O El) (n k : Nat) : Vc El n (unitR n k) := by
  refine ⟨unitR_len n k, fun x hx => ?_⟩
  unfold unitR at hx
  rcases List.mem_or_eq_of_mem_set hx with hx | rfl
  · rw [List.eq_of_mem_replicate hx]; exact F.zero
  · exact F.one
theorem nth_unitR {n k i : Nat} (hk : k < n) : nth (unitR n k) i = if i = k then 1 else 0 := by
  unfold unitR
  rw [nth_set _ _ _ _ (by simpa using hk)]
  split
  · rfl
  · unfold nth
    simp only [List.getD_eq_getElem?_getD, List.getElem?_replicate]
    split <;> rfl
def cutTo (O : FOps) (n : Nat) (v : List Int) : Nat → List Int
  | 0 => v
  | k + 1 => subRow O (cutTo O n v k) (nth v k) (unitR n k)
theorem cut_form (F : Fld O El) {n : Nat} {φ : List Int → Int} (hφ : Lin O El n φ) {v : List Int} (hv : Vc El n v) : ∀ k, k ≤ n → Vc El n (cutTo O n v k) ∧ (∀ i, i < n → nth (cutTo O n v k) i = if i < k then 0 else nth v i) ∧
    O.add (φ (cutTo O n v k)) (dotN O (fun t => φ (unitR n t)) (fun t => nth v t) k) = φ v
  | 0, _ => ⟨hv, fun i _ => by rw [if_neg (by omega)]; rfl, by rw [dotN]; exact F.add_zero _ (hφ.el _ hv)⟩
  | k + 1, hk => by
    obtain ⟨h1, h2, h3⟩ := cut_form F hφ hv k (by omega)
    have hu := unitR_vc F n k
    have hx := hv.at (i := k) (by omega)
    refine ⟨h1.sub F hu hx, fun i hi => ?_, ?_⟩
    · rw [cutTo, nth_subRow O _ _ _ i (by rw [hu.1, h1.1]) (by rw [h1.1]; exact hi), nth_unitR (by omega), h2 i hi]
      by_cases e : i = k
      · subst e
        rw [if_pos rfl, if_neg (by omega), F.mone hx, F.add_neg _ hx, if_pos (by omega)]
      · rw [if_neg e, F.mzero hx, F.nzero]
        by_cases e2 : i < k
        · rw [if_pos e2, if_pos (by omega), F.add_zero _ F.zero]
        · rw [if_neg e2, if_neg (by omega), F.add_zero _ (hv.at hi)]
    · have hm := F.cl.mul _ _ hx (hφ.el _ hu)
      have hd := dotN_el F (a := fun t => φ (unitR n t)) (b := fun t => nth v t) k (fun p _ => hφ.el _ (unitR_vc F n p)) (fun p hp => hv.at (by omega))
      rw [cutTo, hφ.sub _ _ _ h1 hu hx, dotN, F.mul_comm _ _ (hφ.el _ hu) hx, F.add4 (hφ.el _ h1) (F.cl.neg _ hm) hd hm, F.negadd hm, F.add_zero _ (F.cl.add _ _ (hφ.el _ h1) hd), h3]
theorem form_unit (F : Fld O El) {n : Nat} {φ : List Int → Int} (hφ : Lin O El n φ) {v : List Int} (hv : Vc El n v) : φ v = dotN O (fun t => φ (unitR n t)) (fun t => nth v t) n := by
  obtain ⟨h1, h2, h3⟩ := cut_form F hφ hv n (Nat.le_refl _)
  rw [← h3, hφ.zero F h1 fun i hi => by rw [h2 i hi, if_pos hi], F.zadd (dotN_el F n (fun p _ => hφ.el _ (unitR_vc F n p)) (fun p hp => hv.at hp))]
end
section
variable {P M : Int} {mod : List Int} {m : Nat} {L : List (List Int)}
end
end

/- Plain: what an accepted tree proves of ranks and of weights. -/
section
section
variable {O : FOps} {El : Int → Prop} {m : Nat} {L : List (List Int)} {C : Clm}
end

/-- the positions where a word is not 0 -/
def supp (x : List Int) (m : Nat) : List Int := ((List.range m).filter fun j => decide (nth x j ≠ 0)).map Int.ofNat
theorem mem_supp {x : List Int} {m : Nat} {y : Int} : y ∈ supp x m ↔ ∃ j : Nat, j < m ∧ nth x j ≠ 0 ∧ y = j := by
  unfold supp
  rw [List.mem_map]
  constructor
  · rintro ⟨j, hj, rfl⟩
    rw [List.mem_filter, List.mem_range] at hj
    exact ⟨j, hj.1, by simpa using hj.2, rfl⟩
  · rintro ⟨j, h1, h2, rfl⟩
    exact ⟨j, by rw [List.mem_filter, List.mem_range]; exact ⟨h1, by simpa using h2⟩, rfl⟩
theorem supp_len {x : List Int} {m : Nat} (h : x.length = m) : (supp x m).length = wtL x := by
  have e : x = (List.range m).map (nth x) := by
    refine List.ext_getElem (by simp [h]) fun i h1 h2 => ?_
    rw [List.getElem_map, List.getElem_range, nth_getElem h1]
  unfold supp wtL
  rw [List.length_map, ← List.countP_eq_length_filter]
  conv => rhs; rw [e, List.countP_map]
  rfl
section
variable {P M : Int} {mod : List Int} {m : Nat} {L : List (List Int)}
end
end

/- The walk of codewrightref25.sets. -/
section
open Go.RowKit

theorem rCheck_any (P M : Int) (am : Option Addr) (mn cm : Nat) (mod : List Int) (N : Int) (a : Option Addr) (n c : Nat) (L : List (List Int)) (w : World) (hmod : Ints w am mn mod) (hi : Mat w a n L) :
    Calls Tryz.prog 41 #[.agg #[.int .i64 P, .int .i64 M, .slice am mn cm, .int .i64 N, .slice a n c]] w fun e w' => e = .returned (.int .i64 (codeE P M mod N L)) ∧ Below w.heap.size w w' := by
  rw [← rcodeE_eq]
  exact rCodeCheck_any P M am mn cm mod N a n c L w hmod hi hinv_all
end

/- Plain: what light counts, and what an accepted tree proves of a coset. -/
section
open Go.RowKit

variable {O : FOps} {El : Int → Prop} {m : Nat} {L : List (List Int)}

/-- entries of a cleared row -/
theorem nth_clrV (F : Fld O El) {v r : List Int} {i x : Nat} (hv : Vc El m v) (hr : Vc El m r) (hi : i < m) (hx : x < m) : nth (clrS O v i r) x = O.add (nth v x) (O.neg (O.mul (nth r x) (nth v i))) := by
  by_cases h0 : nth v i = 0
  · have e : clrS O v i r = v := by unfold clrS; rw [if_pos h0]
    rw [e, h0, F.mzero (hr.at hx), F.nzero, F.add_zero _ (hv.at hx)]
  · rw [nth_clrS O v i r x (by rw [hr.1, hv.1]) (by rw [hv.1]; exact hx) h0]
    split
    · rename_i h1
      rw [h1, F.zmul (hv.at hi), F.nzero, F.add_zero _ (hv.at hx)]
    · rw [F.mul_comm _ _ (hv.at hi) (hr.at hx)]
theorem clr_vc (F : Fld O El) {v r : List Int} {i : Nat} (hv : Vc El m v) (hr : Vc El m r) (hi : i < m) : Vc El m (clrS O v i r) :=
  ⟨by rw [clrS_length _ _ _ _ (by rw [hr.1, hv.1])]; exact hv.1, clrS_el F.cl hv.2 hr.2 (by rw [hr.1, hv.1]) (by rw [hv.1]; exact hi)⟩
theorem nthR_clr (O : FOps) (t i : Nat) (L : List (List Int)) : ∀ l, l ≤ L.length → ∀ j, nthR (clrTo O t i L l) j = if j < l ∧ t < j then clrS O (nthR L j) i (nthR L t) else nthR L j
  | 0, _, j => by rw [clrTo, if_neg (by omega)]
  | l + 1, hl, j => by
    have ih := nthR_clr O t i L l (by omega)
    rw [clrTo]
    by_cases htl : t < l
    · rw [if_pos htl, nthR_set _ _ _ _ (by rw [clrTo_length]; omega)]
      by_cases e : j = l
      · subst e; rw [if_pos rfl, ih j, ih t, if_neg (by omega), if_neg (by omega), if_pos ⟨by omega, htl⟩]
      · rw [if_neg e, ih j]
        by_cases h : j < l ∧ t < j
        · rw [if_pos h, if_pos ⟨by omega, h.2⟩]
        · rw [if_neg h, if_neg fun hh => h ⟨by omega, hh.2⟩]
    · rw [if_neg htl, ih j]
      by_cases h : j < l ∧ t < j
      · rw [if_pos h, if_pos ⟨by omega, h.2⟩]
      · rw [if_neg h, if_neg fun hh => h ⟨by omega, hh.2⟩]
/-- the rows behind a step -/
theorem nthR_lgt (O : FOps) {L : List (List Int)} {t k : Nat} (i : Nat) (ht : t < L.length) (hk : k < L.length) (htk : t ≤ k) {j : Nat} (hj : j < L.length) :
    nthR (lgtPiv O L t k i) j = if t < j then clrS O (nthR L (flipN t k j)) i ((nthR L k).map (O.mul (O.inv (nth (nthR L k) i)))) else if j = t then (nthR L k).map (O.mul (O.inv (nth (nthR L k) i))) else nthR L j := by
  have hft : flipN t k t = k := by
    unfold flipN
    by_cases e : t = k
    · rw [if_pos e]; exact e
    · rw [if_neg e, if_pos rfl]
  unfold lgtPiv
  rw [nthR_swap _ _ _ _ ht hk, hft, nthR_clr _ _ _ _ _ (by rw [List.length_set, swapRow_length]; exact Nat.le_refl _)]
  rw [nthR_set _ _ _ _ (by rw [swapRow_length]; exact ht), nthR_set _ _ _ _ (by rw [swapRow_length]; exact ht), if_pos rfl, nthR_swap _ _ _ _ ht hk]
  by_cases h : t < j
  · rw [if_pos ⟨hj, h⟩, if_pos h, if_neg (by omega)]
  · rw [if_neg fun hh => h hh.2, if_neg h]
    by_cases e : j = t
    · rw [if_pos e, if_pos e]
    · rw [if_neg e, if_neg e]
      have hf : flipN t k j = j := by unfold flipN; rw [if_neg (by omega), if_neg e]
      rw [hf]
structure LInv (O : FOps) (El : Int → Prop) (m : Nat) (L : List (List Int)) (y t : List Int) (k : Nat) (st : LS) : Prop where
  rws : Rws El m st.rows
  len : st.rows.length = L.length
  vc : Vc El m st.sum
  top : st.top = k
  kl : k ≤ L.length
  sup : RSub O El m L st.rows
  sub : RSub O El m st.rows L
  cos : ∃ f, RS O El m L f ∧ (∀ x, x < m → El (f x)) ∧ ∀ x, x < m → nth st.sum x = O.add (nth y x) (f x)
  one : ∀ i, i < k → nth (nthR st.rows i) (nth t i).toNat = 1
  zero : ∀ j i, j < k → j < i → i < L.length → nth (nthR st.rows i) (nth t j).toNat = 0
  sz : ∀ j, j < k → nth st.sum (nth t j).toNat = 0

/-- a column that is 0 from the k-th row on depends on the columns ahead -/
theorem tri_clo (F : Fld O El) {R : List (List Int)} {t : List Int} {k : Nat} (hR : Rws El m R) (hk : k ≤ R.length) (hone : ∀ i, i < k → nth (nthR R i) (nth t i).toNat = 1) (hzero : ∀ j i, j < k → j < i → i < R.length → nth (nthR R i) (nth t j).toNat = 0)
    {x : Nat} (hx : ∀ i, k ≤ i → i < R.length → nth (nthR R i) x = 0) : clV O El R.length (colS R) (grL t k) x := by
  intro φ hφ h0
  have hc := colS_vc hR F.zero
  have hu : ∀ j, j < k → φ (unitR R.length j) = 0 := by
    intro j
    induction j using Nat.strongRecOn with
    | ind j ih =>
      intro hj
      have h1 := h0 (nth t j).toNat ((mem_grL t _ k).2 ⟨j, hj, rfl⟩)
      rw [form_unit F hφ (hc _)] at h1
      have hel := hφ.el _ (unitR_vc F R.length j)
      have h2 : ∀ p, p < R.length → nth (colS R (nth t j).toNat) p = nth (nthR R p) (nth t j).toNat := fun p hp => nth_colS R _ p hp
      rw [dotN_one F (x := j) (by
        show El (O.mul (φ (unitR R.length j)) (nth (colS R (nth t j).toNat) j))
        rw [h2 j (by omega), hone j hj, F.mone hel]; exact hel) R.length (fun p hp hpj => by
        show O.mul (φ (unitR R.length p)) (nth (colS R (nth t j).toNat) p) = 0
        rw [h2 p hp]
        by_cases e : p < j
        · rw [ih p e (by omega), ← h2 p hp, F.zmul ((hc _).at hp)]
        · rw [hzero j p hj (by omega) hp, F.mzero (hφ.el _ (unitR_vc F _ p))]), if_pos (by omega)] at h1
      have h3 : O.mul (φ (unitR R.length j)) (nth (colS R (nth t j).toNat) j) = 0 := h1
      rw [h2 j (by omega), hone j hj, F.mone hel] at h3
      exact h3
  rw [form_unit F hφ (hc _)]
  refine dotN_zero F _ fun p hp => ?_
  show O.mul (φ (unitR R.length p)) (nth (colS R x) p) = 0
  by_cases e : p < k
  · rw [hu p e, F.zmul ((hc _).at hp)]
  · rw [nth_colS R _ p hp, hx p (by omega) hp, F.mzero (hφ.el _ (unitR_vc F _ p))]

theorem gA_take {t : List Int} {k : Nat} (hk : k ≤ t.length) {y : Nat} (h : y ∈ grL t k) : y ∈ gA (t.take k) := by
  obtain ⟨j, hj, rfl⟩ := (mem_grL t _ k).1 h
  refine mem_gA.2 ⟨nth t j, ?_, rfl⟩
  rw [nth_getElem (show j < t.length by omega)]
  rw [List.mem_take_iff_getElem]
  exact ⟨j, by omega, rfl⟩
/-- no entry of an independent list depends on those ahead -/
theorem ind_step (F : Fld O El) (hL : Rws El m L) {t : List Int} (ht : rkQ O L t = t.length) {k : Nat} (hk : k < t.length) : ¬ clV O El L.length (colS L) (gA (t.take k)) (nth t k).toNat := fun hc => by
  have h1 : rkQ O L (t.take (k + 1)) = (t.take (k + 1)).length := ind_left F hL (A := t.drop (k + 1)) (by rw [List.take_append_drop]; exact ht)
  have h2 := rkQ_le O L (t.take k)
  have h3 := rkQ_rk F hL (t.take k ++ [nth t k])
  rw [gA_snoc] at h3
  have h4 := h3.uniq (Rk.dep _ hc (rkQ_rk F hL (t.take k)))
  have e : t.take (k + 1) = t.take k ++ [nth t k] := by rw [List.take_succ_eq_append_getElem hk, nth_getElem hk]
  rw [e] at h1
  rw [List.length_append, List.length_take, List.length_singleton] at h1
  rw [List.length_take] at h2
  omega

theorem lgt_next (F : Fld O El) (hL : Rws El m L) {y t : List Int} (hT : InN m t) (ht : rkQ O L t = t.length) {k : Nat} (hk : k < t.length) {st : LS} (h : LInv O El m L y t k st) (hy : Vc El m y) : LInv O El m L y t (k + 1) (lgtStep O st (nth t k).toNat) := by
  have hi0 := hT k hk
  have hi : (nth t k).toNat < m := by omega
  obtain ⟨i, hie⟩ : ∃ i, (nth t k).toNat = i := ⟨_, rfl⟩
  have htop := h.top
  have hlen := h.len
  have hkl : k ≤ st.rows.length := by rw [hlen]; exact h.kl
  have hfound : findRow st.rows i st.top ≠ st.rows.length := fun hf => by
    refine ind_step F hL ht hk ?_
    have h1 : clV O El st.rows.length (colS st.rows) (grL t k) i := tri_clo F h.rws hkl h.one (fun j i' h1 h2 h3 => h.zero j i' h1 h2 (by omega)) fun p hp hpl => by
      refine findTo_zero st.rows i (st.rows.length - st.top) st.top p (by omega) ?_
      unfold findRow at hf
      omega
    have h2 := RSub.cl h.sup (fun z hz => by
      obtain ⟨j, hj, rfl⟩ := (mem_grL t _ k).1 hz
      have := hT j (by omega)
      omega) (by omega) h1
    rw [hie]
    exact (col_clo F hL).sub (fun z hz => gA_take (by omega) hz) h2
  obtain ⟨a1, a2, a3⟩ := find_lt (by omega) hfound
  have hq : ∃ q, findRow st.rows i st.top = q := ⟨_, rfl⟩
  obtain ⟨q, hqe⟩ := hq
  rw [hqe] at a1 a2 a3 hfound
  have hkn : k < st.rows.length := by omega
  rw [hie] at hi ⊢
  have hstep : lgtStep O st i = ⟨lgtPiv O st.rows st.top q i, clrS O st.sum i (nthR (lgtPiv O st.rows st.top q i) st.top), st.top + 1⟩ := by
    unfold lgtStep
    rw [hqe, if_neg hfound]
  rw [hstep, htop]
  rw [htop] at a1
  -- the new row
  have hrq := h.rws.row (i := q) a2
  have hp : El (nth (nthR st.rows q) i) := Vc.at hrq hi
  have hpi := F.cl.inv _ hp a3
  obtain ⟨N, hN⟩ : ∃ N, (nthR st.rows q).map (O.mul (O.inv (nth (nthR st.rows q) i))) = N := ⟨_, rfl⟩
  have hNv : Vc El m N := by rw [← hN]; exact Vc.scl F hrq hpi
  have hNx : ∀ x, x < m → nth N x = O.mul (O.inv (nth (nthR st.rows q) i)) (nth (nthR st.rows q) x) := fun x hx => by rw [← hN]; exact nth_scl O _ _ (by rw [hrq.1]; exact hx)
  have hNi : nth N i = 1 := by rw [hNx i hi, F.mul_comm _ _ hpi hp, F.mul_inv _ hp a3]
  obtain ⟨R', hR'⟩ : ∃ R', lgtPiv O st.rows k q i = R' := ⟨_, rfl⟩
  have hrow : ∀ j, j < st.rows.length → nthR R' j = if k < j then clrS O (nthR st.rows (flipN k q j)) i N else if j = k then N else nthR st.rows j := fun j hj => by
    rw [← hR', nthR_lgt O i hkn a2 a1 hj, hN]
  have hR'l : R'.length = st.rows.length := by rw [← hR', lgtPiv_length]
  have hR'r : Rws El m R' := by rw [← hR']; exact lgtPiv_rws F.cl h.rws hkn a2 hi a3
  have hrk : nthR R' k = N := by rw [hrow k hkn, if_neg (by omega), if_pos rfl]
  have hfl : ∀ j, j < st.rows.length → flipN k q j < st.rows.length := fun j hj => flipN_lt hkn a2 hj
  have hclx : ∀ j x, j < st.rows.length → k < j → x < m → nth (nthR R' j) x = O.add (nth (nthR st.rows (flipN k q j)) x) (O.neg (O.mul (nth N x) (nth (nthR st.rows (flipN k q j)) i))) := fun j x hj hkj hx => by
    rw [hrow j hj, if_pos hkj]
    exact nth_clrV F (h.rws.row (hfl j hj)) hNv hi hx
  have hNrs : RS O El m st.rows (fun x => nth N x) := ((RS.row F a2).smul F hpi).congr fun x hx => hNx x hx
  have hsub' : RSub O El m R' st.rows := fun j hj => by
    rw [hR'l] at hj
    by_cases h1 : k < j
    · exact ((RS.row F (hfl j hj)).comb F hNrs (Vc.at (h.rws.row (hfl j hj)) hi)).congr fun x hx => hclx j x hj h1 hx
    · by_cases h2 : j = k
      · subst h2
        rw [hrk]; exact hNrs
      · rw [hrow j hj, if_neg h1, if_neg h2]
        exact RS.row F hj
  have hkR : k < R'.length := by omega
  have hsup' : RSub O El m st.rows R' := fun j hj => by
    by_cases h1 : j < k
    · refine (RS.row F (i := j) (by omega)).congr fun x hx => ?_
      rw [hrow j hj, if_neg (by omega), if_neg (by omega)]
    · by_cases h2 : j = q
      · subst h2
        refine ((RS.row F hkR).smul F hp).congr fun x hx => ?_
        have hx1 : El (nth (nthR st.rows j) x) := Vc.at hrq hx
        rw [hrk, hNx x hx, ← F.mul_assoc _ _ _ hp hpi hx1, F.mul_inv _ hp a3, F.one_mul _ hx1]
      · obtain ⟨j', hj', hkj, hfj⟩ : ∃ j', j' < st.rows.length ∧ k < j' ∧ flipN k q j' = j := by
          by_cases h3 : j = k
          · refine ⟨q, a2, by omega, ?_⟩
            unfold flipN
            rw [if_pos rfl, h3]
          · refine ⟨j, hj, by omega, ?_⟩
            unfold flipN
            rw [if_neg h2, if_neg h3]
        have hs : El (nth (nthR st.rows j) i) := Vc.at (h.rws.row hj) hi
        refine ((RS.row F (i := j') (by omega)).comb F (RS.row F hkR) (F.cl.neg _ hs)).congr fun x hx => ?_
        have hx2 : El (nth (nthR st.rows j) x) := Vc.at (h.rws.row hj) hx
        have hq := F.cl.mul _ _ (hNv.at hx) hs
        rw [hclx j' x hj' hkj hx, hfj, hrk, F.mul_neg (hNv.at hx) hs, F.neg_neg hq, F.add_assoc _ _ _ hx2 (F.cl.neg _ hq) hq, F.negadd hq, F.add_zero _ hx2]
  rw [hR', hrk]
  -- zeros of the rows from k on
  have hlow : ∀ j p, j < k → k ≤ p → p < st.rows.length → nth (nthR st.rows p) (nth t j).toNat = 0 := fun j p h1 h2 h3 => h.zero j p h1 (by omega) (by omega)
  have hNj : ∀ j, j < k → nth N (nth t j).toNat = 0 := fun j hj => by
    have := hT j (by omega)
    rw [hNx _ (by omega), hlow j q hj a1 a2, F.mzero hpi]
  refine ⟨hR'r, (show R'.length = L.length by omega), clr_vc F h.vc hNv hi, rfl, by omega, h.sup.trans hsup', hsub'.trans h.sub, ?_, ?_, ?_, ?_⟩
  · obtain ⟨f, hf, hfe, hfx⟩ := h.cos
    have hs := h.vc.at hi
    refine ⟨_, hf.comb F (h.sub.rs hNrs) hs, fun x hx => F.cl.add _ _ (hfe x hx) (F.cl.neg _ (F.cl.mul _ _ (hNv.at hx) hs)), fun x hx => ?_⟩
    have hq := F.cl.neg _ (F.cl.mul _ _ (hNv.at hx) hs)
    show nth (clrS O st.sum i N) x = _
    rw [nth_clrV F h.vc hNv hi hx, hfx x hx, F.add_assoc _ _ _ (hy.at hx) (hfe x hx) hq]
  · intro i' hi'
    show nth (nthR R' i') _ = 1
    by_cases e : i' = k
    · subst e
      rw [hrk, hie]; exact hNi
    · rw [hrow i' (by omega), if_neg (by omega), if_neg e]
      exact h.one i' (by omega)
  · intro j i' hj hji hil
    show nth (nthR R' i') _ = 0
    have htj := hT j (by omega)
    by_cases e : j = k
    · subst e
      rw [hie, hclx i' i (by omega) hji hi, hNi]
      have hv : El (nth (nthR st.rows (flipN j q i')) i) := Vc.at (h.rws.row (hfl i' (by omega))) hi
      rw [F.one_mul _ hv, F.add_neg _ hv]
    · by_cases e2 : k < i'
      · rw [hclx i' _ (by omega) e2 (by omega), hNj j (by omega)]
        have hv : El (nth (nthR st.rows (flipN k q i')) i) := Vc.at (h.rws.row (hfl i' (by omega))) hi
        have hfk : k ≤ flipN k q i' := by unfold flipN; split <;> (try split) <;> omega
        rw [hlow j _ (by omega) hfk (hfl i' (by omega)), F.zmul hv, F.nzero, F.add_zero _ F.zero]
      · by_cases e3 : i' = k
        · subst e3
          rw [hrk]; exact hNj j (by omega)
        · rw [hrow i' (by omega), if_neg e2, if_neg e3]
          exact h.zero j i' (by omega) hji hil
  · intro j hj
    show nth (clrS O st.sum i N) _ = 0
    have htj := hT j (by omega)
    have hs := h.vc.at hi
    by_cases e : j = k
    · subst e
      rw [hie, nth_clrV F h.vc hNv hi hi, hNi, F.one_mul _ hs, F.add_neg _ hs]
    · rw [nth_clrV F h.vc hNv hi (by omega), hNj j (by omega), h.sz j (by omega), F.zmul hs, F.nzero, F.add_zero _ F.zero]
theorem lgt_inv (F : Fld O El) (hL : Rws El m L) {y t : List Int} (hT : InN m t) (ht : rkQ O L t = t.length) (hy : Vc El m y) : ∀ k, k ≤ t.length → LInv O El m L y t k (lgtTo O L y t k)
  | 0, _ => by
    refine ⟨hL, rfl, hy, rfl, Nat.zero_le _, RSub.refl F L, RSub.refl F L, ?_, fun i hi => by omega, fun j i hj => by omega, fun j hj => by omega⟩
    refine ⟨fun _ => 0, ?_, fun x _ => F.zero, fun x hx => by show nth y x = _; rw [F.add_zero _ (hy.at hx)]⟩
    exact RS.nul F fun _ _ => rfl
  | k + 1, hk => by
    rw [lgtTo]
    exact lgt_next F hL hT ht (by omega) (lgt_inv F hL hT ht hy k (by omega)) hy

/-- a word of the coset of y -/
def Cos (O : FOps) (El : Int → Prop) (m : Nat) (L : List (List Int)) (y X : List Int) : Prop := Vc El m X ∧ ∃ f, RS O El m L f ∧ (∀ x, x < m → El (f x)) ∧ ∀ x, x < m → nth X x = O.add (nth y x) (f x)
/-- words of a coset that are 0 at columns which span are equal there -/
theorem cos_uniq (F : Fld O El) (hL : Rws El m L) {y X X' t Q : List Int} (hy : Vc El m y) (hX : Cos O El m L y X) (hX' : Cos O El m L y X') (hT : InN m t) (ht : rkQ O L Q ≤ rkQ O L t) (hQ : ∀ x ∈ t, x ∈ Q)
    (h0 : ∀ x ∈ t, nth X x.toNat = 0) (h0' : ∀ x ∈ t, nth X' x.toNat = 0) {x : Int} (hx : x ∈ Q) (hxm : x.toNat < m) : nth X x.toNat = nth X' x.toNat := by
  obtain ⟨hXv, f, ⟨e, he, hfe⟩, hfel, hfx⟩ := hX
  obtain ⟨hXv', f', ⟨e', he', hfe'⟩, hfel', hfx'⟩ := hX'
  have hone := F.one
  have hc : clV O El L.length (colS L) (gA t) x.toNat := by
    refine Classical.byContradiction fun hn => ?_
    have h1 := rkQ_out F hL (Q := t) (x := x) hn
    have h2 := rkQ_mono F hL (Q := t ++ [x]) (Q' := Q) fun z hz => by
      rcases List.mem_append.1 hz with hz | hz
      · exact hQ z hz
      · rw [List.mem_singleton.1 hz]; exact hx
    omega
  have hd := hc _ (he.comb F he' hone) fun z hz => by
    obtain ⟨p, hp, rfl⟩ := mem_gA.1 hz
    obtain ⟨j, hj, rfl⟩ := List.mem_iff_getElem.1 hp
    have hb := hT j hj
    rw [nth_getElem hj] at hb
    show O.add (e (colS L (t[j]).toNat)) (O.neg (O.mul (e' (colS L (t[j]).toNat)) 1)) = 0
    have k1 := h0 _ hp
    have k2 := h0' _ hp
    rw [hfx _ (by omega)] at k1
    rw [hfx' _ (by omega)] at k2
    have yv := hy.at (i := (t[j]).toNat) (by omega)
    have q1 := F.neg_of yv (hfel _ (by omega)) k1
    have q2 := F.neg_of yv (hfel' _ (by omega)) k2
    rw [← hfe _ (by omega), ← hfe' _ (by omega), q1, q2, F.mone (F.cl.neg _ yv), F.add_neg _ (F.cl.neg _ yv)]
  have hd' : O.add (e (colS L x.toNat)) (O.neg (O.mul (e' (colS L x.toNat)) 1)) = 0 := hd
  rw [← hfe _ hxm, ← hfe' _ hxm, F.mone (hfel' _ hxm)] at hd'
  have q := F.neg_of (hfel _ hxm) (F.cl.neg _ (hfel' _ hxm)) hd'
  have q2 := congrArg O.neg q
  rw [F.neg_neg (hfel' _ hxm), F.neg_neg (hfel _ hxm)] at q2
  rw [hfx _ hxm, hfx' _ hxm, q2]

/-! ### weights -/
theorem wt_split (s v : List Int) : ∀ k, (List.range k).countP (fun j => decide (nth v j ≠ 0)) = cntTo s v k + (List.range k).countP fun j => decide (nth v j ≠ 0 ∧ (j : Int) ∈ s)
  | 0 => by simp [cntTo]
  | k + 1 => by
    have ih := wt_split s v k
    have hc : cntTo s v (k + 1) = cntTo s v k + if nth v k ≠ 0 ∧ ¬ (k : Int) ∈ s then 1 else 0 := by rw [cntTo]; split <;> rfl
    rw [List.range_succ, List.countP_append, List.countP_append, hc]
    simp only [List.countP_singleton]
    by_cases h1 : nth v k = 0
    · simp [h1] at ih ⊢
      omega
    · by_cases h2 : (k : Int) ∈ s
      · simp [h1, h2] at ih ⊢
        omega
      · simp [h1, h2] at ih ⊢
        omega
theorem cntTo_congr {s v v' : List Int} : ∀ k : Nat, (∀ j : Nat, j < k → ¬ (j : Int) ∈ s → nth v j = nth v' j) → cntTo s v k = cntTo s v' k
  | 0, _ => rfl
  | k + 1, h => by
    have ih := cntTo_congr k fun j hj => h j (by omega)
    rw [cntTo, cntTo, ih]
    by_cases h2 : (k : Int) ∈ s
    · rw [if_neg fun hh => hh.2 h2, if_neg fun hh => hh.2 h2]
    · rw [h k (by omega) h2]
theorem wt_ge {s X : List Int} {m : Nat} (hX : X.length = m) (hn : s.Nodup) (hs : ∀ x ∈ s, x ∈ supp X m) : s.length + cntTo s X m ≤ wtL X := by
  have h1 := wt_split s X m
  have h2 : wtL X = (List.range m).countP fun j => decide (nth X j ≠ 0) := by
    rw [← supp_len hX, supp, List.length_map, ← List.countP_eq_length_filter]
  have h3 := wtU_add X m s [] hn fun x hx => by
    obtain ⟨j, hj, _, rfl⟩ := mem_supp.1 (hs x hx)
    omega
  have h4 : s.countP (fun x => decide (nth X x.toNat ≠ 0 ∧ ¬ x ∈ ([] : List Int))) = s.length := by
    rw [List.countP_eq_length]
    intro x hx
    obtain ⟨j, hj, h5, rfl⟩ := mem_supp.1 (hs x hx)
    simpa using h5
  have h5 : wtU X [] m = 0 := by simp [wtU]
  rw [List.nil_append, h4, h5] at h3
  unfold wtU at h3
  omega
/-- what light counts: any word of the coset that is 0 at the set -/
theorem light_cnt (F : Fld O El) (hL : Rws El m L) {y s t X : List Int} (hy : Vc El m y) (hT : InN m t) (ht : rkQ O L t = t.length) (hr : rkQ O L (frTo false s m) = t.length) (hts : ∀ x ∈ t, ¬ x ∈ s) (hX : Cos O El m L y X) (h0 : ∀ x ∈ t, nth X x.toNat = 0) :
    lightS O L y s t = cntTo s X m := by
  have h := lgt_inv F hL hT ht hy t.length (Nat.le_refl _)
  unfold lightS
  rw [h.vc.1]
  refine cntTo_congr m fun j hj hjs => ?_
  have hZ : Cos O El m L y (lgtTo O L y t t.length).sum := ⟨h.vc, h.cos⟩
  refine cos_uniq F hL hy hZ hX hT (Q := frTo false s m) (by omega) (fun x hx => ?_) (fun x hx => ?_) h0 (x := (j : Int)) ((mem_frTo m).2 ⟨j, hj, rfl, by simpa using hjs⟩) (by simpa using hj)
  · obtain ⟨q, hq, rfl⟩ := List.mem_iff_getElem.1 hx
    have hb := hT q hq
    rw [nth_getElem hq] at hb
    exact (mem_frTo m).2 ⟨(t[q]).toNat, by omega, by omega, by rw [Int.toNat_of_nonneg hb.1]; simpa using hts _ hx⟩
  · obtain ⟨q, hq, rfl⟩ := List.mem_iff_getElem.1 hx
    have := h.sz q hq
    rwa [nth_getElem hq] at this
/-- an accepted coset claim -/
theorem prov_coset (F : Fld O El) (hL : Rws El m L) {C : Clm} (hc : C.cos = true) (hy : Vc El m C.y) {ts : List (List Int)} (h : provS O L m C ts = 0) {X : List Int} (hX : Cos O El m L C.y X) : C.W < wtL X := by
  refine Classical.byContradiction fun hw => ?_
  have hXl := hX.1.1
  obtain ⟨s, t, hr, hn, hs, ht⟩ := prov_node h (supp X m) (by rw [supp_len hXl]; omega)
  obtain ⟨hok, hts⟩ := right_ok hr
  obtain ⟨h1, h2⟩ := right_len hr
  have hT : InN m t := fun j hj => okSet_rng hok j hj
  unfold sizK at h1
  rw [if_pos hc] at h1
  unfold rightS at hr
  rw [Bool.and_eq_true, Bool.and_eq_true, if_pos hc, Bool.and_eq_true, decide_eq_true_eq, decide_eq_true_eq, decide_eq_true_eq] at hr
  have h3 := hr.2.2.2
  have h4 := light_cnt F hL hy hT h2 h1.symm hts hX fun x hx => by
    refine Classical.byContradiction fun hne => ?_
    obtain ⟨q, hq, rfl⟩ := List.mem_iff_getElem.1 hx
    have hb := hT q hq
    rw [nth_getElem hq] at hb
    refine ht _ hx (mem_supp.2 ⟨(t[q]).toNat, by omega, hne, by omega⟩)
  have h5 := wt_ge hXl hn hs
  omega
end

end Go.Proofs.YtapjcccpokhhhaaGreat
