/- The arguments, opened: a number with a tree; pairs of numbers below 2 to the 32nd. -/
import Derived.Test.YtapjcccpokhhhaaGreatG29
import Derived.Test.YtapjcccpokhhhaaGreatG19
import Derived.Test.YtapjcccpokhhhaaGreatG28
import Derived.Test.YtapjcccpokhhhaaGreatG21
import Derived.Test.YtapjcccpokhhhaaGreatG16
import Derived.WalkKit
import Derived.ProofKit
import Derived.OpenShut
import Derived.ShutString
import Derived.ChangeOld
import Derived.Below
import Derived.Deep.Matrix
namespace Go.Proofs.YtapjcccpokhhhaaGreat
set_option linter.unusedVariables false
set_option linter.unusedSimpArgs false
set_option linter.unusedSectionVars false

/- The walk of codewrightlaw26.awake. -/
section
open Go.RowKit

theorem lits (V : World) (l : List Int) (cs : Array Value) (h : cs = (l.map (Value.int .i64)).toArray) (hl : l.length ≤ 1000) {g : Nat} (hg : g = V.heap.size) : Ints (V.alloc (.cells cs 3)) (some ⟨g, 0, none⟩) l.length l := by
  subst h
  refine ⟨rfl, fun _ => rfl, by unfold maxLen; omega, fun i hi => ?_⟩
  have h1 := cell_alloc_at V ((l.map (Value.int .i64)).toArray) 3 hg i
  rw [nth_getElem hi]
  simpa [ablk, aoff, hi] using h1
theorem mlit1 (V : World) {p : Addr} {n1 c1 : Nat} {l1 : List Int} (h1 : Ints V (some p) n1 l1) {g : Nat} (hg : g = V.heap.size) : Mat (V.alloc (.cells #[.slice (some p) n1 c1] 22)) (some ⟨g, 0, none⟩) 1 [l1] :=
  ⟨rfl, fun _ => rfl, by unfold maxLen; omega, fun k hk => by
    have h := cell_alloc_at V #[.slice (some p) n1 c1] 22 hg k
    match k, hk with
    | 0, _ => exact ⟨some p, n1, c1, h, h1.keep (below1 _ _)⟩⟩
theorem mlit2 (V : World) {p q : Addr} {n1 n2 c1 c2 : Nat} {l1 l2 : List Int} (h1 : Ints V (some p) n1 l1) (h2 : Ints V (some q) n2 l2) {g : Nat} (hg : g = V.heap.size) : Mat (V.alloc (.cells #[.slice (some p) n1 c1, .slice (some q) n2 c2] 22)) (some ⟨g, 0, none⟩) 2 [l1, l2] :=
  ⟨rfl, fun _ => rfl, by unfold maxLen; omega, fun k hk => by
    have h := cell_alloc_at V #[.slice (some p) n1 c1, .slice (some q) n2 c2] 22 hg k
    match k, hk with
    | 0, _ => exact ⟨some p, n1, c1, h, h1.keep (below1 _ _)⟩
    | 1, _ => exact ⟨some q, n2, c2, h, h2.keep (below1 _ _)⟩⟩
theorem mlit3 (V : World) {p q r : Addr} {n1 n2 n3 c1 c2 c3 : Nat} {l1 l2 l3 : List Int} (h1 : Ints V (some p) n1 l1) (h2 : Ints V (some q) n2 l2) (h3 : Ints V (some r) n3 l3) {g : Nat} (hg : g = V.heap.size) :
    Mat (V.alloc (.cells #[.slice (some p) n1 c1, .slice (some q) n2 c2, .slice (some r) n3 c3] 22)) (some ⟨g, 0, none⟩) 3 [l1, l2, l3] :=
  ⟨rfl, fun _ => rfl, by unfold maxLen; omega, fun k hk => by
    have h := cell_alloc_at V #[.slice (some p) n1 c1, .slice (some q) n2 c2, .slice (some r) n3 c3] 22 hg k
    match k, hk with
    | 0, _ => exact ⟨some p, n1, c1, h, h1.keep (below1 _ _)⟩
    | 1, _ => exact ⟨some q, n2, c2, h, h2.keep (below1 _ _)⟩
    | 2, _ => exact ⟨some r, n3, c3, h, h3.keep (below1 _ _)⟩⟩
/-- three lists of two, literal -/
theorem two3 (V : World) (x1 y1 x2 y2 x3 y3 : Int) : Mat ((((V.alloc (.cells #[.int .i64 x1, .int .i64 y1] 3)).alloc (.cells #[.int .i64 x2, .int .i64 y2] 3)).alloc (.cells #[.int .i64 x3, .int .i64 y3] 3)).alloc
    (.cells #[.slice (some ⟨V.heap.size, 0, none⟩) 2 2, .slice (some ⟨V.heap.size + 1, 0, none⟩) 2 2, .slice (some ⟨V.heap.size + 1 + 1, 0, none⟩) 2 2] 22)) (some ⟨V.heap.size + 1 + 1 + 1, 0, none⟩) 3 [[x1, y1], [x2, y2], [x3, y3]] := by
  have i1 := lits V [x1, y1] #[.int .i64 x1, .int .i64 y1] rfl (by simp) rfl
  have i2 := lits (V.alloc (.cells #[.int .i64 x1, .int .i64 y1] 3)) [x2, y2] #[.int .i64 x2, .int .i64 y2] rfl (by simp) (g := V.heap.size + 1) (by simp)
  have i3 := lits ((V.alloc (.cells #[.int .i64 x1, .int .i64 y1] 3)).alloc (.cells #[.int .i64 x2, .int .i64 y2] 3)) [x3, y3] #[.int .i64 x3, .int .i64 y3] rfl (by simp) (g := V.heap.size + 1 + 1) (by simp)
  exact mlit3 _ ((i1.keep (below1 _ _)).keep (below1 _ _)) (i2.keep (below1 _ _)) i3 (by simp)
theorem one3 (V : World) (x1 x2 x3 : Int) : Mat ((((V.alloc (.cells #[.int .i64 x1] 3)).alloc (.cells #[.int .i64 x2] 3)).alloc (.cells #[.int .i64 x3] 3)).alloc
    (.cells #[.slice (some ⟨V.heap.size, 0, none⟩) 1 1, .slice (some ⟨V.heap.size + 1, 0, none⟩) 1 1, .slice (some ⟨V.heap.size + 1 + 1, 0, none⟩) 1 1] 22)) (some ⟨V.heap.size + 1 + 1 + 1, 0, none⟩) 3 [[x1], [x2], [x3]] := by
  have i1 := lits V [x1] #[.int .i64 x1] rfl (by simp) rfl
  have i2 := lits (V.alloc (.cells #[.int .i64 x1] 3)) [x2] #[.int .i64 x2] rfl (by simp) (g := V.heap.size + 1) (by simp)
  have i3 := lits ((V.alloc (.cells #[.int .i64 x1] 3)).alloc (.cells #[.int .i64 x2] 3)) [x3] #[.int .i64 x3] rfl (by simp) (g := V.heap.size + 1 + 1) (by simp)
  exact mlit3 _ ((i1.keep (below1 _ _)).keep (below1 _ _)) (i2.keep (below1 _ _)) i3 (by simp)
theorem two1 (V : World) (x1 y1 : Int) : Mat ((V.alloc (.cells #[.int .i64 x1, .int .i64 y1] 3)).alloc (.cells #[.slice (some ⟨V.heap.size, 0, none⟩) 2 2] 22)) (some ⟨V.heap.size + 1, 0, none⟩) 1 [[x1, y1]] :=
  mlit1 _ (lits V [x1, y1] #[.int .i64 x1, .int .i64 y1] rfl (by simp) rfl) (by simp)
theorem below4 (w : World) (o1 o2 o3 o4 : Obj) : Below w.heap.size w ((((w.alloc o1).alloc o2).alloc o3).alloc o4) := Below.next (below3 w o1 o2 o3) (below1 _ _)
set_option maxRecDepth 100000 in
set_option maxHeartbeats 16000000 in
theorem awake26_any (w : World) : Calls Tryz.prog 14 #[] w fun e w' => e = .returned (.bool true) ∧ Below w.heap.size w w' := by
  go_enter Tryz.func14, Tryz.ntmps14
  go_upto_region 1 with fail
  go_cut [1] (fun v wx => ∃ g gm, v = .pointer (some ⟨g, 0, none⟩) ∧ Box wx g [.int .i64 2, .int .i64 1, .slice none 0 0, .int .i64 4, .slice (some ⟨gm, 0, none⟩) 2 2] ∧ Mat wx (some ⟨gm, 0, none⟩) 2 awG26 ∧ Below w.heap.size w wx)
  case first =>
    go_wp2_with fail
    go_meet
    have i1 := lits w [1, 0, 1, 0] #[.int .i64 1, .int .i64 0, .int .i64 1, .int .i64 0] rfl (by decide) rfl
    have i2 := lits (w.alloc (.cells #[.int .i64 1, .int .i64 0, .int .i64 1, .int .i64 0] 3)) [0, 1, 1, 1] #[.int .i64 0, .int .i64 1, .int .i64 1, .int .i64 1] rfl (by decide) (g := w.heap.size + 1) (by simp)
    have hm := mlit2 (c1 := 4) (c2 := 4) _ (i1.keep (below1 _ (.cells #[.int .i64 0, .int .i64 1, .int .i64 1, .int .i64 1] 3))) i2 (g := w.heap.size + 1 + 1) (by simp)
    have hm2 := hm.keep (below1 _ (.cells #[.int .i64 2, .int .i64 1, .slice none 0 0, .int .i64 4, .slice (some ⟨w.heap.size + 1 + 1, 0, none⟩) 2 2] 27))
    exact ⟨_, w.heap.size + 1 + 1, rfl, Box.new _ [.int .i64 2, .int .i64 1, .slice none 0 0, .int .i64 4, .slice (some ⟨w.heap.size + 1 + 1, 0, none⟩) 2 2] _ (by simp), hm2, below4 _ _ _ _ _⟩
  obtain ⟨g, gm, rfl, hx, hM, hbW⟩ := hcut
  generalize wc = W at *
  have HS : Hid (∀ V, Below W.heap.size W V → V.cell? ⟨g, 0, none⟩ = some (.int .i64 2) ∧ V.cell? ⟨g, 1, none⟩ = some (.int .i64 1) ∧ V.cell? ⟨g, 2, none⟩ = some (.slice none 0 0) ∧ V.cell? ⟨g, 3, none⟩ = some (.int .i64 4) ∧ V.cell? ⟨g, 4, none⟩ = some (.slice (some ⟨gm, 0, none⟩) 2 2)) := fun V hV => by
    have h := hx.keep hV
    exact ⟨h.cell 0 rfl, h.cell 1 rfl, h.cell 2 rfl, h.cell 3 rfl, h.cell 4 rfl⟩
  have HB2 : Hid (∀ V, Below W.heap.size W V → Calls Tryz.prog 23 #[.agg #[.int .i64 2, .int .i64 1, .slice none 0 0, .int .i64 4, .slice (some ⟨gm, 0, none⟩) 2 2], .int .i64 2] V (ExBldPost ((0, [[0, 1], [1, 2], [0, 2]])) V)) := fun V hV => by
    have h := exBuildDistance_any 2 1 none 0 0 [] 4 (some ⟨gm, 0, none⟩) 2 2 awG26 2 V (Ints.nil _ _) (hM.keep hV)
    rw [aw26_w2] at h
    rw [← aw26_b2]
    exact h
  have HB3 : Hid (∀ V, Below W.heap.size W V → Calls Tryz.prog 23 #[.agg #[.int .i64 2, .int .i64 1, .slice none 0 0, .int .i64 4, .slice (some ⟨gm, 0, none⟩) 2 2], .int .i64 3] V (ExBldPost ((11, [])) V)) := fun V hV => by
    have h := exBuildDistance_any 2 1 none 0 0 [] 4 (some ⟨gm, 0, none⟩) 2 2 awG26 3 V (Ints.nil _ _) (hM.keep hV)
    rw [aw26_w3] at h
    rw [← aw26_b3]
    exact h
  have HBR : Hid (∀ V, Below W.heap.size W V → Calls Tryz.prog 20 #[.agg #[.int .i64 2, .int .i64 1, .slice none 0 0, .int .i64 4, .slice (some ⟨gm, 0, none⟩) 2 2], .int .i64 1, .int .i64 2] V (ExBldPost ((0, [[0], [1], [2]])) V)) := fun V hV => by
    rw [← aw26_b12]
    exact exBuildRank_any 2 1 none 0 0 [] 4 (some ⟨gm, 0, none⟩) 2 2 awG26 1 2 V (Ints.nil _ _) (hM.keep hV)
  have HBC0 : Hid (∀ V gy, Below W.heap.size W V → Ints V (some ⟨gy, 0, none⟩) 4 [1, 0, 0, 0] → Calls Tryz.prog 29 #[.agg #[.int .i64 2, .int .i64 1, .slice none 0 0, .int .i64 4, .slice (some ⟨gm, 0, none⟩) 2 2], .slice (some ⟨gy, 0, none⟩) 4 4, .int .i64 0] V (ExBldPost ((0, [[0, 1]])) V)) := fun V gy hV hy => by
    rw [← aw26_u]
    exact exBuildCoset_any 2 1 none 0 0 [] 4 (some ⟨gm, 0, none⟩) 2 2 awG26 (some ⟨gy, 0, none⟩) 4 4 [1, 0, 0, 0] 0 V (Ints.nil _ _) (hM.keep hV) hy
  have HBC1 : Hid (∀ V gy, Below W.heap.size W V → Ints V (some ⟨gy, 0, none⟩) 4 [1, 0, 0, 0] → Calls Tryz.prog 29 #[.agg #[.int .i64 2, .int .i64 1, .slice none 0 0, .int .i64 4, .slice (some ⟨gm, 0, none⟩) 2 2], .slice (some ⟨gy, 0, none⟩) 4 4, .int .i64 1] V (ExBldPost ((11, [])) V)) := fun V gy hV hy => by
    rw [← aw26_v]
    exact exBuildCoset_any 2 1 none 0 0 [] 4 (some ⟨gm, 0, none⟩) 2 2 awG26 (some ⟨gy, 0, none⟩) 4 4 [1, 0, 0, 0] 1 V (Ints.nil _ _) (hM.keep hV) hy
  have HCD : Hid (∀ V ax cx d ts r, wtD 4 d = r → Below W.heap.size W V → Mat V ax 3 ts → Calls Tryz.prog 25 #[.agg #[.int .i64 2, .int .i64 1, .slice none 0 0, .int .i64 4, .slice (some ⟨gm, 0, none⟩) 2 2], .int .i64 d, .agg #[.slice ax 3 cx]] V fun e w' => e = .returned (.int .i64 (chkRE 2 1 [] 4 awG26 2 r ts)) ∧ Below V.heap.size V w') := fun V ax cx d ts r hr hV ht => by
    rw [← hr]
    exact exCheckDistance_any 2 1 none 0 0 [] 4 (some ⟨gm, 0, none⟩) 2 2 awG26 d ax 3 cx ts V (Ints.nil _ _) (hM.keep hV) ht
  have HCC : Hid (∀ V gy ax cx k ts, Below W.heap.size W V → Ints V (some ⟨gy, 0, none⟩) 4 [1, 0, 0, 0] → Mat V ax 1 ts → Calls Tryz.prog 27 #[.agg #[.int .i64 2, .int .i64 1, .slice none 0 0, .int .i64 4, .slice (some ⟨gm, 0, none⟩) 2 2], .slice (some ⟨gy, 0, none⟩) 4 4, .int .i64 k, .agg #[.slice ax 1 cx]] V fun e w' => e = .returned (.int .i64 (chkCE 2 1 [] 4 awG26 [1, 0, 0, 0] k ts)) ∧ Below V.heap.size V w') := fun V gy ax cx k ts hV hy ht =>
    exCheckCoset_any 2 1 none 0 0 [] 4 (some ⟨gm, 0, none⟩) 2 2 awG26 (some ⟨gy, 0, none⟩) 4 4 [1, 0, 0, 0] k ax 1 cx ts V (Ints.nil _ _) (hM.keep hV) hy ht
  have HCR : Hid (∀ V ax cx ts, Below W.heap.size W V → Mat V ax 3 ts → Calls Tryz.prog 17 #[.agg #[.int .i64 2, .int .i64 1, .slice none 0 0, .int .i64 4, .slice (some ⟨gm, 0, none⟩) 2 2], .int .i64 1, .int .i64 2, .agg #[.slice ax 3 cx]] V fun e w' => e = .returned (.int .i64 (chkRE 2 1 [] 4 awG26 1 2 ts)) ∧ Below V.heap.size V w') := fun V ax cx ts hV ht =>
    exCheckRank_any 2 1 none 0 0 [] 4 (some ⟨gm, 0, none⟩) 2 2 awG26 1 2 ax 3 cx ts V (Ints.nil _ _) (hM.keep hV) ht
  have HW := Lib.hid hbW
  clear hx hM hbW
  have ky := below1 W (.cells #[.int .i64 1, .int .i64 0, .int .i64 0, .int .i64 0] 3)
  have HY := Lib.hid (fun V hV => (lits W [1, 0, 0, 0] #[.int .i64 1, .int .i64 0, .int .i64 0, .int .i64 0] rfl (by decide) rfl).keep hV : ∀ V, Below (W.alloc (.cells #[.int .i64 1, .int .i64 0, .int .i64 0, .int .i64 0] 3)).heap.size (W.alloc (.cells #[.int .i64 1, .int .i64 0, .int .i64 0, .int .i64 0] 3)) V → Ints V (some ⟨W.heap.size, 0, none⟩) 4 [1, 0, 0, 0])
  obtain ⟨c0, c1, c2, c3, c4⟩ := HS.out _ ky
  have Hc := Lib.hid (HB2.out _ ky)
  go_wp2_with fail
  refine Hc.out.mono ?_
  rintro e V1 ⟨b1, ⟨h0, _⟩ | ⟨_, a1, k1, R1, rfl, hO1⟩⟩
  · exact absurd rfl h0
  have n1 := below1 V1 (.cells #[.slice a1 3 k1] 30)
  have e1 := Below.next b1 n1
  have HT1 := Lib.hid (fun V hV => ⟨((Box.new V1 [.slice a1 3 k1] 30 rfl).keep hV).cell 0 rfl, (hO1.mat.keep n1).keep hV⟩ : ∀ V, Below (V1.alloc (.cells #[.slice a1 3 k1] 30)).heap.size (V1.alloc (.cells #[.slice a1 3 k1] 30)) V → V.cell? ⟨V1.heap.size, 0, none⟩ = some (.slice a1 3 k1) ∧ Mat V a1 3 [[0, 1], [1, 2], [0, 2]])
  clear c0 c1 c2 c3 c4 Hc hO1
  obtain ⟨c0, c1, c2, c3, c4⟩ := HS.out _ (Below.next ky e1)
  have Hc := Lib.hid (HB3.out _ (Below.next ky e1))
  go_wp2_with fail
  refine Hc.out.mono ?_
  rintro e V2 ⟨b2, ⟨_, rfl⟩ | ⟨h0, _⟩⟩
  rotate_left
  · exact absurd h0 (by decide)
  have n2 := below1 V2 (.cells #[.slice none 0 0] 30)
  have f2 := Below.next b2 n2
  have e2 := Below.next e1 f2
  clear c0 c1 c2 c3 c4 Hc
  obtain ⟨c0, c1, c2, c3, c4⟩ := HS.out _ (Below.next ky e2)
  have Hc := Lib.hid (HBC0.out _ W.heap.size (Below.next ky e2) (HY.out _ e2))
  go_wp2_with fail
  refine Hc.out.mono ?_
  rintro e V3 ⟨b3, ⟨h0, _⟩ | ⟨_, a3, k3, R3, rfl, hO3⟩⟩
  · exact absurd rfl h0
  have n3 := below1 V3 (.cells #[.slice a3 1 k3] 30)
  have f3 := Below.next b3 n3
  have e3 := Below.next e2 f3
  have HT3 := Lib.hid (fun V hV => ⟨((Box.new V3 [.slice a3 1 k3] 30 rfl).keep hV).cell 0 rfl, (hO3.mat.keep n3).keep hV⟩ : ∀ V, Below (V3.alloc (.cells #[.slice a3 1 k3] 30)).heap.size (V3.alloc (.cells #[.slice a3 1 k3] 30)) V → V.cell? ⟨V3.heap.size, 0, none⟩ = some (.slice a3 1 k3) ∧ Mat V a3 1 [[0, 1]])
  clear c0 c1 c2 c3 c4 Hc hO3
  obtain ⟨c0, c1, c2, c3, c4⟩ := HS.out _ (Below.next ky e3)
  have Hc := Lib.hid (HBC1.out _ W.heap.size (Below.next ky e3) (HY.out _ e3))
  go_wp2_with fail
  refine Hc.out.mono ?_
  rintro e V4 ⟨b4, ⟨_, rfl⟩ | ⟨h0, _⟩⟩
  rotate_left
  · exact absurd h0 (by decide)
  have n4 := below1 V4 (.cells #[.slice none 0 0] 30)
  have f4 := Below.next b4 n4
  have e4 := Below.next e3 f4
  clear c0 c1 c2 c3 c4 Hc
  obtain ⟨c0, c1, c2, c3, c4⟩ := HS.out _ (Below.next ky e4)
  have Hc := Lib.hid (HBR.out _ (Below.next ky e4))
  go_wp2_with fail
  refine Hc.out.mono ?_
  rintro e V5 ⟨b5, ⟨h0, _⟩ | ⟨_, a5, k5, R5, rfl, hO5⟩⟩
  · exact absurd rfl h0
  have n5 := below1 V5 (.cells #[.slice a5 3 k5] 30)
  have f5 := Below.next b5 n5
  have e5 := Below.next e4 f5
  have g35 := Below.next f4 f5
  have g15 := Below.next (Below.next f2 f3) g35
  have HT5 := Lib.hid (fun V hV => ⟨((Box.new V5 [.slice a5 3 k5] 30 rfl).keep hV).cell 0 rfl, (hO5.mat.keep n5).keep hV⟩ : ∀ V, Below (V5.alloc (.cells #[.slice a5 3 k5] 30)).heap.size (V5.alloc (.cells #[.slice a5 3 k5] 30)) V → V.cell? ⟨V5.heap.size, 0, none⟩ = some (.slice a5 3 k5) ∧ Mat V a5 3 [[0], [1], [2]])
  have HE5 := Lib.hid (Below.next ky e5)
  have HE5y := Lib.hid e5
  have HG15 := Lib.hid g15
  have HG35 := Lib.hid g35
  clear c0 c1 c2 c3 c4 Hc hO5 b1 b2 b3 b4 b5 n1 n2 n3 n4 n5 e1 e2 e3 e4 e5 f2 f3 f4 f5 g15 g35
  have dd1 := (HT1.out _ HG15.out).1
  go_upto_region 8 with fail
  obtain ⟨X, hX⟩ : ∃ X, X = V5.alloc (.cells #[.slice a5 3 k5] 30) := ⟨_, rfl⟩
  rw [← hX] at HE5 HE5y HT5 HG15 HG35 dd1 ⊢
  clear hX
  have q1 := below4 X (.cells #[.int .i64 0, .int .i64 1] 3) (.cells #[.int .i64 1, .int .i64 2] 3) (.cells #[.int .i64 0, .int .i64 2] 3) (.cells #[.slice (some ⟨X.heap.size, 0, none⟩) 2 2, .slice (some ⟨X.heap.size + 1, 0, none⟩) 2 2, .slice (some ⟨X.heap.size + 1 + 1, 0, none⟩) 2 2] 22)
  have Hc := Lib.hid (rSameRows_any a1 3 k1 [[0, 1], [1, 2], [0, 2]] _ 3 3 [[0, 1], [1, 2], [0, 2]] (HT1.out _ (Below.next HG15.out q1)).2 (two3 X 0 1 1 2 0 2))
  rw [decide_eq_true rfl] at Hc
  go_wp2_with fail
  refine Hc.out.mono ?_
  rintro e Y1 ⟨rfl, r1⟩
  have s1 := Below.next q1 r1.below
  have dd3 := (HT3.out _ (Below.next HG35.out s1)).1
  have q2 := below2 Y1 (.cells #[.int .i64 0, .int .i64 1] 3) (.cells #[.slice (some ⟨Y1.heap.size, 0, none⟩) 2 2] 22)
  have Hc2 := Lib.hid (rSameRows_any a3 1 k3 [[0, 1]] _ 1 1 [[0, 1]] (HT3.out _ (Below.next HG35.out (Below.next s1 q2))).2 (two1 Y1 0 1))
  rw [decide_eq_true rfl] at Hc2
  clear Hc q1 r1 dd1
  go_wp2_with fail
  refine Hc2.out.mono ?_
  rintro e Y2 ⟨rfl, r2⟩
  have s2 := Below.next s1 (Below.next q2 r2.below)
  have dd5 := (HT5.out _ s2).1
  have q3 := below4 Y2 (.cells #[.int .i64 0] 3) (.cells #[.int .i64 1] 3) (.cells #[.int .i64 2] 3) (.cells #[.slice (some ⟨Y2.heap.size, 0, none⟩) 1 1, .slice (some ⟨Y2.heap.size + 1, 0, none⟩) 1 1, .slice (some ⟨Y2.heap.size + 1 + 1, 0, none⟩) 1 1] 22)
  have Hc3 := Lib.hid (rSameRows_any a5 3 k5 [[0], [1], [2]] _ 3 3 [[0], [1], [2]] (HT5.out _ (Below.next s2 q3)).2 (one3 Y2 0 1 2))
  rw [decide_eq_true rfl] at Hc3
  clear Hc2 q2 r2 dd3 s1
  go_wp2_with fail
  refine Hc3.out.mono ?_
  rintro e Y3 ⟨rfl, r3⟩
  have s3 := Below.next s2 (Below.next q3 r3.below)
  clear Hc3 q3 r3 dd5 s2
  go_upto_region 13 with fail
  have w4 := below4 Y3 (.cells #[.int .i64 0, .int .i64 1] 3) (.cells #[.int .i64 1, .int .i64 3] 3) (.cells #[.int .i64 0, .int .i64 2] 3) (.cells #[.slice (some ⟨Y3.heap.size, 0, none⟩) 2 2, .slice (some ⟨Y3.heap.size + 1, 0, none⟩) 2 2, .slice (some ⟨Y3.heap.size + 1 + 1, 0, none⟩) 2 2] 22)
  have hbad := two3 Y3 0 1 1 3 0 2
  obtain ⟨Y4, hY4⟩ : ∃ Y4, Y4 = ((((Y3.alloc (.cells #[.int .i64 0, .int .i64 1] 3)).alloc (.cells #[.int .i64 1, .int .i64 3] 3)).alloc (.cells #[.int .i64 0, .int .i64 2] 3)).alloc (.cells #[.slice (some ⟨Y3.heap.size, 0, none⟩) 2 2, .slice (some ⟨Y3.heap.size + 1, 0, none⟩) 2 2, .slice (some ⟨Y3.heap.size + 1 + 1, 0, none⟩) 2 2] 22)) := ⟨_, rfl⟩
  have hsz4 : Y4.heap.size = Y3.heap.size + 1 + 1 + 1 + 1 := by rw [hY4]; simp
  rw [← hY4] at w4 hbad ⊢
  have nb := below1 Y4 (.cells #[.slice (some ⟨Y3.heap.size + 1 + 1 + 1, 0, none⟩) 3 3] 30)
  have HBad := Lib.hid (fun V hV => ⟨((Box.new Y4 [.slice (some ⟨Y3.heap.size + 1 + 1 + 1, 0, none⟩) 3 3] 30 hsz4.symm).keep hV).cell 0 rfl, (hbad.keep nb).keep hV⟩ : ∀ V, Below (Y4.alloc (.cells #[.slice (some ⟨Y3.heap.size + 1 + 1 + 1, 0, none⟩) 3 3] 30)).heap.size (Y4.alloc (.cells #[.slice (some ⟨Y3.heap.size + 1 + 1 + 1, 0, none⟩) 3 3] 30)) V →
    V.cell? ⟨Y3.heap.size + 1 + 1 + 1 + 1, 0, none⟩ = some (.slice (some ⟨Y3.heap.size + 1 + 1 + 1, 0, none⟩) 3 3) ∧ Mat V (some ⟨Y3.heap.size + 1 + 1 + 1, 0, none⟩) 3 [[0, 1], [1, 3], [0, 2]])
  obtain ⟨Z, hZ⟩ : ∃ Z, Z = Y4.alloc (.cells #[.slice (some ⟨Y3.heap.size + 1 + 1 + 1, 0, none⟩) 3 3] 30) := ⟨_, rfl⟩
  rw [← hZ] at nb HBad ⊢
  have z0 := Below.next s3 (Below.next w4 nb)
  clear hY4 hZ hbad w4 nb hsz4 s3
  obtain ⟨c0, c1, c2, c3, c4⟩ := HS.out _ (Below.next HE5.out z0)
  have dt := (HT1.out _ (Below.next HG15.out z0))
  have dt1 := dt.1
  have Hk := Lib.hid (HCD.out _ a1 k1 2 [[0, 1], [1, 2], [0, 2]] 1 aw26_w2 (Below.next HE5.out z0) dt.2)
  rw [aw26_k1] at Hk
  go_wp2_with fail
  refine Hk.out.mono ?_
  rintro e Z1 ⟨rfl, m1⟩
  have z1 := Below.next z0 m1
  clear c0 c1 c2 c3 c4 Hk
  clear dt dt1
  obtain ⟨c0, c1, c2, c3, c4⟩ := HS.out _ (Below.next HE5.out z1)
  have dt := (HBad.out _ m1)
  have dt1 := dt.1
  have Hk := Lib.hid (HCD.out _ _ 3 2 [[0, 1], [1, 3], [0, 2]] 1 aw26_w2 (Below.next HE5.out z1) dt.2)
  rw [aw26_k2] at Hk
  go_wp2_with fail
  refine Hk.out.mono ?_
  rintro e Z2 ⟨rfl, m2⟩
  have z2 := Below.next z1 m2
  clear c0 c1 c2 c3 c4 Hk
  clear dt dt1
  obtain ⟨c0, c1, c2, c3, c4⟩ := HS.out _ (Below.next HE5.out z2)
  have dt := (HT1.out _ (Below.next HG15.out z2))
  have dt1 := dt.1
  have Hk := Lib.hid (HCD.out _ a1 k1 1 [[0, 1], [1, 2], [0, 2]] 0 aw26_w1 (Below.next HE5.out z2) dt.2)
  rw [aw26_k3] at Hk
  go_wp2_with fail
  refine Hk.out.mono ?_
  rintro e Z3 ⟨rfl, m3⟩
  have z3 := Below.next z2 m3
  clear c0 c1 c2 c3 c4 Hk
  clear dt dt1
  obtain ⟨c0, c1, c2, c3, c4⟩ := HS.out _ (Below.next HE5.out z3)
  have dt := (HT3.out _ (Below.next HG35.out z3))
  have dt1 := dt.1
  have Hk := Lib.hid (HCC.out _ W.heap.size a3 k3 0 [[0, 1]] (Below.next HE5.out z3) (HY.out _ (Below.next HE5y.out z3)) dt.2)
  rw [aw26_k4] at Hk
  go_wp2_with fail
  refine Hk.out.mono ?_
  rintro e Z4 ⟨rfl, m4⟩
  have z4 := Below.next z3 m4
  clear c0 c1 c2 c3 c4 Hk
  clear dt dt1
  obtain ⟨c0, c1, c2, c3, c4⟩ := HS.out _ (Below.next HE5.out z4)
  have dt := (HT3.out _ (Below.next HG35.out z4))
  have dt1 := dt.1
  have Hk := Lib.hid (HCC.out _ W.heap.size a3 k3 1 [[0, 1]] (Below.next HE5.out z4) (HY.out _ (Below.next HE5y.out z4)) dt.2)
  rw [aw26_k5] at Hk
  go_wp2_with fail
  refine Hk.out.mono ?_
  rintro e Z5 ⟨rfl, m5⟩
  have z5 := Below.next z4 m5
  clear c0 c1 c2 c3 c4 Hk
  clear dt dt1
  obtain ⟨c0, c1, c2, c3, c4⟩ := HS.out _ (Below.next HE5.out z5)
  have dt := (HT5.out _ z5)
  have dt1 := dt.1
  have Hk := Lib.hid (HCR.out _ a5 k5 [[0], [1], [2]] (Below.next HE5.out z5) dt.2)
  rw [aw26_k6] at Hk
  go_wp2_with fail
  refine Hk.out.mono ?_
  rintro e Z6 ⟨rfl, m6⟩
  have z6 := Below.next z5 m6
  clear c0 c1 c2 c3 c4 Hk
  clear dt dt1
  have hF := Below.next HW.out (Below.next HE5.out z6)
  go_wp2_with fail
  go_ret
  exact ⟨rfl, hF⟩
end

/- The walk of codewrightref10.Rising. -/
section
open Go.RowKit
end

/- The walks of codewrightref09.Few, codewrightref12.Few, codewrightlaw25.few: they end with some answer. -/
section
open Go.RowKit

def SomeBool (w : World) (e : Ending) (w' : World) : Prop := ∃ z, e = .returned (.bool z) ∧ Below w.heap.size w w'

set_option maxRecDepth 100000 in
set_option maxHeartbeats 3200000 in
theorem rFew9_any (a : Option Addr) (n c K : Nat) (L : List (List Int)) (w : World) (hi : Mat w a n L) (hK : K ≤ 100000) :
    Calls Tryz.prog 50 #[.agg #[.int .i64 0, .slice a n c], .int .i64 K] w (SomeBool w) := by
  have Hlen := Lib.hid hi.len
  have hpl := hi.pl
  have hmax := hi.max
  unfold maxLen at hmax
  go_enter Tryz.func50, Tryz.ntmps50
  go_upto_region 1 with fail
  obtain ⟨W, hW⟩ : ∃ W : World, W = w.alloc (.cells #[.int .i64 0, .slice a n c] 52) := ⟨_, rfl⟩
  rw [← hW]
  have hbW : Below w.heap.size w W := by rw [hW]; exact below1 _ _
  have x0 : Box W w.heap.size [.int .i64 0, .slice a n c] := by rw [hW]; exact Box.new _ _ _ rfl
  have c0 := x0.cell 0 rfl
  have c1 := x0.cell 1 rfl
  have hiW := hi.keep hbW
  have HbW := Lib.hid hbW
  clear hW x0 hi hbW
  by_cases h1 : K < n
  · have d1 : decide (K < n) = true := by simpa using h1
    have d1' : decide ((K : Int) < n) = true := by simp; omega
    go_wp2_with fail
    go_ret
    exact ⟨_, rfl, HbW.out⟩
  · have d1 : decide (K < n) = false := by simpa using h1
    have d1' : decide ((K : Int) < n) = false := by simp; omega
    go_wp2_with fail
    go_loopw [5, 6] (fun lv iv wr => ∃ k m : Nat, k ≤ n ∧ m ≤ K ∧ lv = .int .i64 m ∧ iv = .int .i64 k ∧ wr = W) (fun _ iv _ => n - (intOf iv).toNat)
    case atStart => exact ⟨0, K - n, Nat.zero_le _, by omega, by go_num, rfl, rfl⟩
    case round =>
      obtain ⟨k, m, hk, hm, rfl, rfl, rfl⟩ := hrel
      by_cases hlt : k < n
      · obtain ⟨ra, rn, rc, hcell, hrow⟩ := hiW.cell k hlt
        by_cases h2 : m < rn
        · have d2 : decide (m < rn) = true := by simpa using h2
          have d2' : decide ((m : Int) < rn) = true := by simp; omega
          go_wp2_with fail
          go_ret
          exact ⟨_, rfl, HbW.out⟩
        · have d2 : decide (m < rn) = false := by simpa using h2
          have d2' : decide ((m : Int) < rn) = false := by simp; omega
          have d3 : (rn : Int) ≤ m := by omega
          go_wp2_with fail
          go_roundw
          case rel => exact ⟨k + 1, m - rn, by omega, by omega, by go_num, by go_num, by first | rfl | trivial⟩
          case measure => simp [intOf] <;> omega
      · obtain rfl : k = n := by omega
        go_wp2_with fail
        go_ret
        exact ⟨_, rfl, HbW.out⟩

set_option maxRecDepth 100000 in
theorem rFew12_any (P M : Int) (am : Option Addr) (mn cm : Nat) (N : Int) (a : Option Addr) (n c K : Nat) (L : List (List Int)) (w : World) (hi : Mat w a n L) (hK : K ≤ 100000) :
    Calls Tryz.prog 49 #[.agg #[.int .i64 P, .int .i64 M, .slice am mn cm, .int .i64 N, .slice a n c], .int .i64 K] w (SomeBool w) := by
  have H := Lib.hid (fun V hV => rFew9_any a n c K L V (hi.keep hV) hK : ∀ V, Below w.heap.size w V → _)
  clear hi
  go_enter Tryz.func49, Tryz.ntmps49
  go_wp2_with fail
  have hbW := below1 w (.cells #[.int .i64 P, .int .i64 M, .slice am mn cm, .int .i64 N, .slice a n c] 27)
  refine (H.out _ hbW).mono ?_
  rintro e w1 ⟨z, rfl, hb1⟩
  have hF := Below.next hbW hb1
  go_wp2_with fail
  go_ret
  exact ⟨z, rfl, hF⟩
end

/- The walks of few of the law 26 and of Few of the reference's exclusion. -/
section
open Go.RowKit

set_option maxRecDepth 100000 in
set_option maxHeartbeats 3200000 in
theorem few26_any (P M : Int) (am : Option Addr) (mn cm : Nat) (N : Int) (a : Option Addr) (n c : Nat) (L : List (List Int)) (w : World) (hi : Mat w a n L) :
    Calls Tryz.prog 15 #[.agg #[.int .i64 P, .int .i64 M, .slice am mn cm, .int .i64 N, .slice a n c]] w (SomeBool w) := by
  have H : Hid (∀ V, Below w.heap.size w V → Calls Tryz.prog 49 #[.agg #[.int .i64 P, .int .i64 M, .slice am mn cm, .int .i64 N, .slice a n c], .int .i64 100] V (SomeBool V)) := fun V hV => rFew12_any P M am mn cm N a n c 100 L V (hi.keep hV) (by omega)
  clear hi
  go_enter Tryz.func15, Tryz.ntmps15
  go_upto_region 1 with fail
  obtain ⟨W, hW⟩ : ∃ W : World, W = w.alloc (.cells #[.int .i64 P, .int .i64 M, .slice am mn cm, .int .i64 N, .slice a n c] 27) := ⟨_, rfl⟩
  rw [← hW]
  have hbW : Below w.heap.size w W := by rw [hW]; exact below1 _ _
  have x0 : Box W w.heap.size [.int .i64 P, .int .i64 M, .slice am mn cm, .int .i64 N, .slice a n c] := by rw [hW]; exact Box.new _ _ _ rfl
  have HX := Lib.hid x0
  have c0 := x0.cell 0 rfl
  have c1 := x0.cell 1 rfl
  have c2 := x0.cell 2 rfl
  have c3 := x0.cell 3 rfl
  have c4 := x0.cell 4 rfl
  clear hW x0
  have Hf := Lib.hid (H.out W hbW)
  clear H
  by_cases h1 : N ≤ 14
  · have d1 : decide (N ≤ 14) = true := by simpa using h1
    clear h1
    go_wp2_with (go_at_call 49; refine Hf.out.mono ?_; rintro e w1 ⟨z, rfl, hb1⟩; have q1 := (HX.out.keep hb1).cell 3 rfl; have hF := Below.next hbW hb1; cases z)
    all_goals (go_wp2_with fail; go_ret; exact ⟨_, rfl, hF⟩)
  · have d1 : decide (N ≤ 14) = false := by simpa using h1
    clear h1
    by_cases h2 : 64 < N
    · have d2 : decide (64 < N) = true := by simpa using h2
      clear h2
      go_wp2_with (go_at_call 49; refine Hf.out.mono ?_; rintro e w1 ⟨z, rfl, hb1⟩; have q1 := (HX.out.keep hb1).cell 3 rfl; have hF := Below.next hbW hb1; cases z)
      all_goals (go_wp2_with fail; go_ret; exact ⟨_, rfl, hF⟩)
    · have d2 : decide (64 < N) = false := by simpa using h2
      clear h2
      go_wp2_with (go_at_call 49; refine Hf.out.mono ?_; rintro e w1 ⟨z, rfl, hb1⟩; have q1 := (HX.out.keep hb1).cell 3 rfl; have hF := Below.next hbW hb1; cases z)
      all_goals (go_wp2_with fail; go_ret; exact ⟨_, rfl, hF⟩)


theorem rFew26_any (ax : Option Addr) (nx cx : Nat) (ts : List (List Int)) (w : World) (h : Mat w ax nx ts) : Calls Tryz.prog 16 #[.agg #[.slice ax nx cx]] w (SomeBool w) := by
  have HF := Lib.hid (fun V (hV : Below w.heap.size w V) => rFew9_any ax nx cx 20000 ts V (h.keep hV) (by omega))
  clear h
  go_enter Tryz.func16, Tryz.ntmps16
  go_wp2_with fail
  refine (HF.out _ (below1 _ _)).mono ?_
  rintro e w1 ⟨z, rfl, hb1⟩
  have hF := Below.next (below1 w (.cells #[.slice ax nx cx] 30)) hb1
  go_wp2_with fail
  go_ret
  exact ⟨z, rfl, hF⟩
end

/- Elimination with columns put behind (plain law): the pivots stay. -/
section
section
variable {O : FOps} {k : Nat}
end
section
variable {O : FOps} {El : Int → Prop} {m : Nat}
end
end

/- The walk of matrix.Columns, at positions in range. -/
section
open Go.RowKit
end

/- The walk of infoset.Systematic. -/
section
open Go.RowKit
end

/- Canonical rows are determined by their row space; the systematic matrix (plain laws). -/
section
section
variable {O : FOps} {El : Int → Prop} {m : Nat}
theorem Piv.lessT (F : Fld O El) {L : List (List Int)} {P : List Int} {c : Nat} (h : Piv L P c) (hL : Rws El m L) {v : List Int} (hv : Vc El L.length v) {φ : List Int → Int} (hφ : Lin O El L.length φ)
    {t : Nat} (ht : t ≤ P.length) (h0 : ∀ j, j < t → φ (colS L (nth P j).toNat) = 0) : ∀ k, k ≤ t → Vc El L.length (lessTo O L P v k) ∧ φ (lessTo O L P v k) = φ v ∧ ∀ i, i < L.length → nth (lessTo O L P v k) i = if i < k then 0 else nth v i
  | 0, _ => ⟨hv, rfl, fun i _ => by rw [if_neg (by omega)]; rfl⟩
  | k + 1, hk => by
    obtain ⟨h1, h2, h3⟩ := h.lessT F hL hv hφ ht h0 k (by omega)
    have hle := h.le
    have hcol := colS_vc hL F.zero (nth P k).toNat
    have hx := h1.at (i := k) (by omega)
    refine ⟨h1.sub F hcol hx, ?_, fun i hi => ?_⟩
    · rw [lessTo, hφ.sub _ _ _ h1 hcol hx, h0 k (by omega), F.mzero hx, F.nzero, F.add_zero _ (hφ.el _ h1), h2]
    · rw [lessTo, nth_subRow O _ _ _ i (by rw [hcol.1, h1.1]) (by rw [h1.1]; exact hi), nth_colS L _ i hi, h.one k i (by omega) hi]
      by_cases e : i = k
      · subst e
        rw [if_pos rfl, F.mone hx, F.add_neg _ hx, if_pos (by omega)]
      · rw [if_neg e, F.mzero hx, F.nzero, F.add_zero _ (h1.at hi), h3 i hi]
        by_cases e2 : i < k
        · rw [if_pos e2, if_pos (by omega)]
        · rw [if_neg e2, if_neg (by omega)]
theorem cmb_dot (F : Fld O El) {L : List (List Int)} (hL : Rws El m L) {x : List Int} (hx : ∀ k, k < L.length → El (nth x k)) {y : Nat} (hy : y < m) : ∀ k, k ≤ L.length → nth (cmbTo O m x L k) y = dotN O (fun t => nth x t) (fun t => nth (nthR L t) y) k
  | 0, _ => by
    rw [cmbTo, dotN]
    unfold nth
    simp only [List.getD_eq_getElem?_getD, List.getElem?_replicate]
    split <;> rfl
  | k + 1, hk => by
    have ih := cmb_dot F hL hx hy k (by omega)
    obtain ⟨h1, _⟩ := cmb_rs F hL hx k (by omega)
    have hr := hL.row (i := k) (by omega)
    have hd := dotN_el F (a := fun t => nth x t) (b := fun t => nth (nthR L t) y) k (fun p hp => hx p (by omega)) (fun p hp => Vc.at (hL.row (i := p) (by omega)) hy)
    rw [cmbTo, dotN]
    split
    · rename_i e0
      rw [ih, e0, F.zmul (Vc.at hr hy), F.add_zero _ hd]
    · rw [nth_addRow O _ _ _ y (by rw [hr.1, h1.1]) (by rw [h1.1]; exact hy), ih]
      split
      · rename_i e1
        show _ = O.add _ (O.mul (nth x k) (nth (nthR L k) y))
        rw [e1, F.mzero (hx k (by omega)), F.add_zero _ hd]
      · rfl
end
section
variable {P M : Int} {mod : List Int} {m : Nat} {L : List (List Int)}
end
end

/- Plain: what an accepted tree proves of ranks and of weights. -/
section
section
variable {O : FOps} {El : Int → Prop} {m : Nat} {L : List (List Int)} {C : Clm}
/-- an accepted rank claim -/
theorem prov_rank (F : Fld O El) (hL : Rws El m L) (hc : C.cos = false) {ts : List (List Int)} (h : provS O L m C ts = 0) {T Q : List Int} (hT : T.length ≤ C.W) (hQ : ∀ x : Int, 0 ≤ x → x < m → ¬ x ∈ T → x ∈ Q) : C.M ≤ rkQ O L Q := by
  obtain ⟨s', t, hr, hn, hs, ht⟩ := prov_node h T hT
  have h1 := right_len hr
  have h2 := right_ok hr
  have h3 : t.length = C.M := by
    have h4 := h1.1
    unfold sizK at h4
    rw [if_neg (by rw [hc]; decide)] at h4
    exact h4
  have h4 := rkQ_mono F hL (Q := t) (Q' := Q) fun x hx => by
    obtain ⟨q, hq, rfl⟩ := List.mem_iff_getElem.1 hx
    have h5 := okSet_rng h2.1 q hq
    rw [nth_getElem hq] at h5
    exact hQ _ h5.1 h5.2 (ht _ hx)
  omega
end

/-- the positions where a word is not 0 -/
def supp (x : List Int) (m : Nat) : List Int := ((List.range m).filter fun j => decide (nth x j ≠ 0)).map Int.ofNat
theorem mem_supp {x : List Int} {m : Nat} {y : Int} : y ∈ supp x m ↔ ∃ j : Nat, j < m ∧ nth x j ≠ 0 ∧ y = j := by
  unfold supp
  rw [List.mem_map]
  constructor
  · rintro ⟨j, hj, rfl⟩
    rw [List.mem_filter, List.mem_range] at hj
    exact ⟨j, hj.1, by simpa using hj.2, rfl⟩
  · rintro ⟨j, h1, h2, rfl⟩
    exact ⟨j, by rw [List.mem_filter, List.mem_range]; exact ⟨h1, by simpa using h2⟩, rfl⟩
theorem supp_len {x : List Int} {m : Nat} (h : x.length = m) : (supp x m).length = wtL x := by
  have e : x = (List.range m).map (nth x) := by
    refine List.ext_getElem (by simp [h]) fun i h1 h2 => ?_
    rw [List.getElem_map, List.getElem_range, nth_getElem h1]
  unfold supp wtL
  rw [List.length_map, ← List.countP_eq_length_filter]
  conv => rhs; rw [e, List.countP_map]
  rfl
theorem wtL_zero {x : List Int} : wtL x = 0 ↔ ∀ k, k < x.length → nth x k = 0 := by
  unfold wtL
  rw [List.countP_eq_zero]
  constructor
  · intro h k hk
    have h1 := h _ (nth_mem hk)
    simpa using h1
  · intro h y hy
    obtain ⟨k, hk, rfl⟩ := List.mem_iff_getElem.1 hy
    have h1 := h k hk
    rw [nth_getElem hk] at h1
    simp [h1]

section
variable {P M : Int} {mod : List Int} {m : Nat} {L : List (List Int)}
theorem code_piv (hE : codeE P M mod m L = 0) : ∃ p : List Int, Piv L p m ∧ L.length = p.length := by
  obtain ⟨N', e, hm1, hm64, F, hR⟩ := codeE_fld hE
  obtain rfl : m = N' := by omega
  have h6 := (spaceE_zero (codeE_zero hE).2.2.2).2
  rw [Int.toNat_natCast] at h6
  have hcan : canO (tblOf P M.toNat mod).ops m L = L := h6
  obtain ⟨hPv, hLd⟩ := canO_piv F hR
  have hcl := canO_len F hR
  rw [hcan] at hPv hcl
  exact ⟨_, hPv, hcl⟩
/-- columns of full rank determine every column -/
theorem full_clo (hE : codeE P M mod m L = 0) {Q : List Int} (hr : L.length ≤ rkQ (tblOf P M.toNat mod).ops L Q) (hQ : ∀ x ∈ Q, 0 ≤ x ∧ x < (m : Int)) {x : Nat} (hx : x < m) : clV (tblOf P M.toNat mod).ops (tblOf P M.toNat mod).El L.length (colS L) (gA Q) x := by
  obtain ⟨N', e, hm1, hm64, F, hR⟩ := codeE_fld hE
  obtain rfl : m = N' := by omega
  have hfull := code_full hE
  refine Classical.byContradiction fun hn => ?_
  have h1 := rkQ_out F hR (Q := Q) (x := (x : Int)) (by simpa using hn)
  have h2 := Rk.le (col_clo F hR) (rkQ_rk F hR (Q ++ [(x : Int)])) hfull fun y hy => by
    refine (col_clo F hR).mem _ _ ?_
    rw [List.mem_range]
    obtain ⟨z, hz, rfl⟩ := mem_gA.1 hy
    rcases List.mem_append.1 hz with hz | hz
    · have := hQ z hz
      omega
    · rw [List.mem_singleton] at hz; subst hz; simpa using hx
  omega
/-- the entries of a combination at the pivots -/
theorem cmb_piv (hE : codeE P M mod m L = 0) {p : List Int} (hp : Piv L p m) (hl : L.length = p.length) {v : List Int} (hv : ∀ k, k < L.length → (tblOf P M.toNat mod).El (nth v k)) {k : Nat} (hk : k < L.length) :
    nth (cmbTo (tblOf P M.toNat mod).ops m v L L.length) (nth p k).toNat = nth v k := by
  obtain ⟨N', e, hm1, hm64, F, hR⟩ := codeE_fld hE
  obtain rfl : m = N' := by omega
  have hpk := hp.lt k (by omega)
  rw [cmb_dot F hR hv (by omega) _ (Nat.le_refl _)]
  have hone : ∀ t, t < L.length → nth (nthR L t) (nth p k).toNat = if t = k then 1 else 0 := fun t ht => hp.one k t (by omega) ht
  have hvj := hv k hk
  rw [dotN_one F (x := k) (by
    show (tblOf P M.toNat mod).El ((tblOf P M.toNat mod).ops.mul (nth v k) (nth (nthR L k) (nth p k).toNat))
    rw [hone k hk, if_pos rfl, F.mone hvj]; exact hvj) L.length (fun q hq hqk => by
    show (tblOf P M.toNat mod).ops.mul (nth v q) (nth (nthR L q) (nth p k).toNat) = 0
    rw [hone q hq, if_neg hqk, F.mzero (hv q hq)]), if_pos hk]
  show (tblOf P M.toNat mod).ops.mul (nth v k) (nth (nthR L k) (nth p k).toNat) = _
  rw [hone k hk, if_pos rfl, F.mone hvj]
/-- a combination that is 0 where the columns have full rank has the message 0 -/
theorem zero_msg (hE : codeE P M mod m L = 0) {Q : List Int} (hr : L.length ≤ rkQ (tblOf P M.toNat mod).ops L Q) (hQ : ∀ x ∈ Q, 0 ≤ x ∧ x < (m : Int)) {v : List Int} (hv : ∀ k, k < L.length → (tblOf P M.toNat mod).El (nth v k))
    (h0 : ∀ x ∈ Q, nth (cmbTo (tblOf P M.toNat mod).ops m v L L.length) x.toNat = 0) : ∀ k, k < L.length → nth v k = 0 := fun k hk => by
  obtain ⟨N', e, hm1, hm64, F, hR⟩ := codeE_fld hE
  obtain rfl : m = N' := by omega
  obtain ⟨p, hp, hl⟩ := code_piv hE
  obtain ⟨c1, f, hf, c2⟩ := cmb_rs F hR hv L.length (Nat.le_refl _)
  have hpk := hp.lt k (by omega)
  rw [← cmb_piv hE hp hl hv hk]
  have h1 : nth (cmbTo (tblOf P M.toNat mod).ops m v L L.length) (nth p k).toNat = f (colS L (nth p k).toNat) := c2 _ (by omega)
  rw [h1]
  refine full_clo hE hr hQ (x := (nth p k).toNat) (by omega) f hf fun y hy => ?_
  obtain ⟨z, hz, rfl⟩ := mem_gA.1 hy
  have h2 := hQ z hz
  have h3 : nth (cmbTo (tblOf P M.toNat mod).ops m v L L.length) z.toNat = f (colS L z.toNat) := c2 _ (by omega)
  rw [← h3]
  exact h0 z hz

theorem chk_prov {mm W : Int} {ts : List (List Int)} (h : chkRE P M mod m L mm W ts = 0) : codeE P M mod m L = 0 ∧ 0 ≤ mm ∧ mm ≤ L.length ∧ 0 ≤ W ∧ W ≤ m ∧ provS (tblOf P M.toNat mod).ops L m ⟨mm.toNat, W.toNat, false, []⟩ ts = 0 := by
  unfold chkRE at h
  by_cases h0 : rkcE P M mod m L mm W = 0
  · rw [if_pos h0, Int.toNat_natCast] at h
    unfold rkcE at h0
    by_cases hE : codeE P M mod m L = 0
    · rw [if_pos hE] at h0
      by_cases hx : mm < 0 ∨ (L.length : Int) < mm ∨ W < 0 ∨ (m : Int) < W
      · rw [if_pos hx] at h0; cases h0
      · exact ⟨hE, by omega, by omega, by omega, by omega, h⟩
    · rw [if_neg hE] at h0; exact absurd h0 hE
  · rw [if_neg h0] at h; exact absurd h h0
theorem rank_law {mm W : Int} {ts : List (List Int)} (h : chkRE P M mod m L mm W ts = 0) {T Q : List Int} (hT : (T.length : Int) ≤ W) (hQ : ∀ x : Int, 0 ≤ x → x < m → ¬ x ∈ T → x ∈ Q) : mm ≤ (grS (tblOf P M.toNat mod).ops L Q).length := by
  obtain ⟨hE, h1, h2, h3, h4, h5⟩ := chk_prov h
  obtain ⟨N', e, hm1, hm64, F, hR⟩ := codeE_fld hE
  obtain rfl : m = N' := by omega
  have h6 := prov_rank F hR rfl h5 (T := T) (Q := Q) (by show T.length ≤ W.toNat; omega) hQ
  have h7 : mm.toNat ≤ (grS (tblOf P M.toNat mod).ops L Q).length := h6
  omega
theorem dist_law {d : Int} {ts : List (List Int)} (h : chkRE P M mod m L L.length (wtD m d) ts = 0) {v : List Int} (hvl : v.length = L.length) (hv : ∀ k, k < L.length → (tblOf P M.toNat mod).El (nth v k)) :
    wtL v = 0 ∨ d ≤ (wtL (cmbTo (tblOf P M.toNat mod).ops m v L L.length) : Int) := by
  obtain ⟨hE, h1, h2, h3, h4, h5⟩ := chk_prov h
  obtain ⟨N', e, hm1, hm64, F, hR⟩ := codeE_fld hE
  obtain rfl : m = N' := by omega
  obtain ⟨c1, _⟩ := cmb_rs F hR hv L.length (Nat.le_refl _)
  have hd : wtD m d = d - 1 := by
    unfold wtD at h3 ⊢
    split
    · rename_i hh; rw [if_pos hh] at h3; omega
    · rfl
  by_cases hw : d ≤ (wtL (cmbTo (tblOf P M.toNat mod).ops m v L L.length) : Int)
  · exact .inr hw
  · refine .inl (wtL_zero.2 fun k hk => ?_)
    have hs := supp_len c1.1
    have h6 := rank_law h (T := supp (cmbTo (tblOf P M.toNat mod).ops m v L L.length) m) (Q := frTo false (supp (cmbTo (tblOf P M.toNat mod).ops m v L L.length) m) m) (by omega) fun x hx0 hxm hxT => by
      exact (mem_frTo m).2 ⟨x.toNat, by omega, by omega, by rw [Int.toNat_of_nonneg hx0]; simpa using hxT⟩
    refine zero_msg hE (Q := frTo false (supp (cmbTo (tblOf P M.toNat mod).ops m v L L.length) m) m) (by unfold rkQ; omega) (fun x hx => ?_) hv (fun x hx => ?_) k (by omega)
    · obtain ⟨j, hj, rfl, _⟩ := (mem_frTo m).1 hx
      omega
    · obtain ⟨j, hj, rfl, hdj⟩ := (mem_frTo m).1 hx
      refine Classical.byContradiction fun hne => ?_
      have hn : ¬ (j : Int) ∈ supp (cmbTo (tblOf P M.toNat mod).ops m v L L.length) m := by simpa using hdj
      exact hn (mem_supp.2 ⟨j, hj, by simpa using hne, rfl⟩)
end
end

/- The walk of codewrightref25.sets. -/
section
open Go.RowKit

theorem rCheck_any (P M : Int) (am : Option Addr) (mn cm : Nat) (mod : List Int) (N : Int) (a : Option Addr) (n c : Nat) (L : List (List Int)) (w : World) (hmod : Ints w am mn mod) (hi : Mat w a n L) :
    Calls Tryz.prog 41 #[.agg #[.int .i64 P, .int .i64 M, .slice am mn cm, .int .i64 N, .slice a n c]] w fun e w' => e = .returned (.int .i64 (codeE P M mod N L)) ∧ Below w.heap.size w w' := by
  rw [← rcodeE_eq]
  exact rCodeCheck_any P M am mn cm mod N a n c L w hmod hi hinv_all
end

/- The walk of codewrightlaw48.alive. -/
section
open Go.RowKit
end

/- The arguments, opened: numbers, lists, lists of lists, codes. -/
section
open Go.ChangeShapes Go.WideShapes Go.ChangeAt Go.RowKit

theorem Tryz.own : ownKnob Tryz.prog.godebug = none := by kernel_rfl
theorem Tryz.laid : laidOutB Tryz.prog = true := by kernel_rfl

section
variable {H : Type} {enc : TypeId × Value → H} {W : World} {held : Bool} {fuel : Nat} {cs : List Value} {x : DataW H × List MemPlace}

theorem add_cell {a : Addr} {v : Value} {i : Nat} (h : W.cell? (a.add i) = some v) : W.cell? ⟨a.block, a.off + i, none⟩ = some v := by
  have hs := World.cell?_spot h
  obtain ⟨b, o, s⟩ := a
  by_cases h0 : i = 0
  · subst h0
    simp only [Addr.add, if_true] at hs h
    subst hs
    exact h
  · simpa [Addr.add, h0] using h
theorem plain_of {a : Addr} {v : Value} (h : W.cell? (a.add 0) = some v) : a = ⟨a.block, a.off, none⟩ := by
  have hs := World.cell?_spot h
  obtain ⟨b, o, s⟩ := a
  simp only [Addr.add, if_true] at hs
  subst hs
  rfl
theorem nth_take_getD (l : List Int) (n i : Nat) (h : i < n) : nth (l.take n) i = l.getD i 0 := by
  unfold nth
  simp only [List.getD_eq_getElem?_getD, List.getElem?_take]
  rw [if_pos h]

theorem opened_ints (h : DataW.trod enc Tryz.prog W 0 (fun _ => true) held fuel 22 cs = some x) : ∃ a n c l, cs = [.slice a n c] ∧ Ints W a n l := by
  rcases open_ints Tryz.underlying22 Tryz.underlying3 (by kernel_rfl) h with ⟨hcs, _⟩ | ⟨a, len, cap, zs, hcs, _, hl, hm, hz, _, hcell, _⟩
  · exact ⟨none, 0, 0, [], hcs, Ints.nil _ _⟩
  · simp only [if_true] at hz
    refine ⟨some a, len, cap, zs.take len, hcs, ⟨by simp; omega, fun h0 => ?_, by omega, fun i hi => ?_⟩⟩
    · exact congrArg some (plain_of (hcell 0 (by omega)))
    · rw [nth_take_getD _ _ _ hi]
      exact add_cell (hcell i (by omega))
theorem opened_mat (h : DataW.trod enc Tryz.prog W 0 (fun _ => true) held fuel 25 cs = some x) : ∃ a n c L, cs = [.slice a n c] ∧ Mat W a n L := by
  rcases Go.Deep.open_int_rows Tryz.underlying25 Tryz.underlying22 Tryz.underlying3 (by kernel_rfl) (by kernel_rfl) h with ⟨hcs, _⟩ | ⟨a, len, cap, A, Ln, C, Z, hcs, _, hl, hm, _, hrows⟩
  · exact ⟨none, 0, 0, [], hcs, ⟨rfl, fun h0 => by omega, by unfold maxLen; omega, fun i hi => by omega⟩⟩
  · refine ⟨some a, len, cap, (List.range len).map (fun r => (Z r).take (Ln r)), hcs, ⟨by simp, fun h0 => congrArg some (plain_of (hrows 0 (by omega)).1), by omega, fun r hr => ?_⟩⟩
    obtain ⟨h1, h2, h3, h4, _, h5, h6⟩ := hrows r (by omega)
    refine ⟨A r, Ln r, C r, add_cell h1, ?_⟩
    have e : nthR ((List.range len).map (fun r => (Z r).take (Ln r))) r = (Z r).take (Ln r) := by
      unfold nthR
      simp [List.getD_eq_getElem?_getD, List.getElem?_map, List.getElem?_range hr]
    rw [e]
    match hA : A r, h5, h6 with
    | none, h5, _ =>
      have h0 : Ln r = 0 := by have := h5 rfl; omega
      rw [h0]
      exact Ints.nil _ _
    | some b, _, h6 =>
      obtain ⟨_, h7⟩ := h6 b rfl
      exact ⟨by simp; omega, fun h0 => congrArg some (plain_of (h7 0 (by omega))), by omega, fun i hi => by
        rw [nth_take_getD _ _ _ hi]
        exact add_cell (h7 i (by omega))⟩
end

section
variable {H : Type} {enc : TypeId × Value → H} {W : World} {held : Bool} {b0 : Nat} {v : Value} {d : DataW H} {p : List MemPlace}

set_option maxRecDepth 100000 in
theorem arg_ints (hv : Value.okWide Tryz.prog W .any b0 22 v) (h : DataW.Trod enc Tryz.prog W 0 (fun _ => true) held 22 v d p) : ∃ a n c l, v = .slice a n c ∧ Ints W a n l := by
  obtain ⟨a, n, c, rfl⟩ := okWide_slice Tryz.underlying22 hv
  obtain ⟨fuel, hf⟩ := h
  obtain ⟨a', n', c', l, e, hi⟩ := opened_ints hf
  simp [Value.cells] at e
  obtain ⟨rfl, rfl, rfl⟩ := e
  exact ⟨_, _, _, l, rfl, hi⟩
set_option maxRecDepth 100000 in
theorem arg_code (hv : Value.okWide Tryz.prog W .any b0 27 v) (h : DataW.Trod enc Tryz.prog W 0 (fun _ => true) held 27 v d p) :
    ∃ (P M : Int) (am : Option Addr) (mn cm : Nat) (mod : List Int) (N : Int) (a : Option Addr) (n c : Nat) (L : List (List Int)), v = .agg #[.int .i64 P, .int .i64 M, .slice am mn cm, .int .i64 N, .slice a n c] ∧ Ints W am mn mod ∧ Mat W a n L := by
  obtain ⟨cs, rfl, hsz⟩ := okWide_struct Tryz.underlying27 hv
  rw [show Tryz.prog.cellsOf 27 = 5 by kernel_rfl] at hsz
  obtain ⟨l⟩ := cs
  match l, hsz with
  | [v0, v1, v2, v3, v4], _ =>
  obtain ⟨fuel, hf⟩ := h
  obtain ⟨xs, n0, _, _, _, hlen, hfs⟩ := DataW.trod_struct Tryz.underlying27 hf
  obtain ⟨y0, y1, y2, rfl⟩ : ∃ y0 y1 y2, xs = [y0, y1, y2] := by
    match xs, hlen with
    | [y0, y1, y2], _ => exact ⟨y0, y1, y2, rfl⟩
  have k24 : Tryz.prog.cellsOf 24 = 3 := by kernel_rfl
  have k3 : Tryz.prog.cellsOf 3 = 1 := by kernel_rfl
  have k22 : Tryz.prog.cellsOf 22 = 1 := by kernel_rfl
  have k25 : Tryz.prog.cellsOf 25 = 1 := by kernel_rfl
  have g0 : DataW.trod enc Tryz.prog W 0 (fun _ => true) held n0 24 [v0, v1, v2] = some y0 := by simpa [Value.cells, k24] using hfs 0 _ rfl
  have g1 : DataW.trod enc Tryz.prog W 0 (fun _ => true) held n0 3 [v3] = some y1 := by simpa [Value.cells, k3] using hfs 1 _ rfl
  have g2 : DataW.trod enc Tryz.prog W 0 (fun _ => true) held n0 25 [v4] = some y2 := by simpa [Value.cells, k25] using hfs 2 _ rfl
  obtain ⟨xs', n1, _, _, _, hlen', hfs'⟩ := DataW.trod_struct Tryz.underlying24 g0
  obtain ⟨z0, z1, z2, rfl⟩ : ∃ z0 z1 z2, xs' = [z0, z1, z2] := by
    match xs', hlen' with
    | [z0, z1, z2], _ => exact ⟨z0, z1, z2, rfl⟩
  have q0 : DataW.trod enc Tryz.prog W 0 (fun _ => true) held n1 3 [v0] = some z0 := by simpa [k3] using hfs' 0 _ rfl
  have q1 : DataW.trod enc Tryz.prog W 0 (fun _ => true) held n1 3 [v1] = some z1 := by simpa [k3] using hfs' 1 _ rfl
  have q2 : DataW.trod enc Tryz.prog W 0 (fun _ => true) held n1 22 [v2] = some z2 := by simpa [k22] using hfs' 2 _ rfl
  obtain ⟨P, eP, _, _⟩ := DataW.trod_int Tryz.underlying3 q0
  obtain ⟨M, eM, _, _⟩ := DataW.trod_int Tryz.underlying3 q1
  obtain ⟨N, eN, _, _⟩ := DataW.trod_int Tryz.underlying3 g1
  obtain ⟨am, mn, cm, mod, eI, hI⟩ := opened_ints q2
  obtain ⟨a, n, c, L, eL, hL⟩ := opened_mat g2
  simp at eP eM eN eI eL
  subst eP eM eN eI eL
  exact ⟨P, M, am, mn, cm, mod, N, a, n, c, L, rfl, hI, hL⟩
end
end

/- The arguments, opened: pairs of numbers, exclusions. -/
section
open Go.ChangeShapes Go.WideShapes Go.ChangeAt Go.RowKit

section
variable {H : Type} {enc : TypeId × Value → H} {W : World} {held : Bool} {fuel : Nat} {cs : List Value} {x : DataW H × List MemPlace}
theorem opened_matC (h : DataW.trod enc Tryz.prog W 0 (fun _ => true) held fuel 25 cs = some x) : ∃ a n c L, cs = [.slice a n c] ∧ Mat W a n L ∧ n ≤ c := by
  obtain ⟨a, n, c, L, e, hL⟩ := opened_mat h
  refine ⟨a, n, c, L, e, hL, ?_⟩
  rcases Go.Deep.open_int_rows Tryz.underlying25 Tryz.underlying22 Tryz.underlying3 (by kernel_rfl) (by kernel_rfl) h with ⟨hcs, _⟩ | ⟨a', len, cap, _, _, _, _, hcs, _, hl, _⟩
  · rw [hcs] at e
    simp at e
    omega
  · rw [hcs] at e
    simp at e
    omega
end

section
variable {H : Type} {enc : TypeId × Value → H} {W : World} {held : Bool} {b0 : Nat} {v : Value} {d : DataW H} {p : List MemPlace}
end
end

/- The arguments, opened: a number with a tree; pairs of numbers below 2 to the 32nd. -/
section
open Go.ChangeShapes Go.WideShapes Go.ChangeAt Go.RowKit

section
variable {H : Type} {enc : TypeId × Value → H} {W : World} {held : Bool} {b0 : Nat} {v : Value} {d : DataW H} {p : List MemPlace}
set_option maxRecDepth 100000 in
theorem arg_proof (hv : Value.okWide Tryz.prog W .any b0 46 v) (h : DataW.Trod enc Tryz.prog W 0 (fun _ => true) held 46 v d p) :
    ∃ (z : Int) (ax : Option Addr) (nx cx : Nat) (ts : List (List Int)), v = .agg #[.int .i64 z, .slice ax nx cx] ∧ Mat W ax nx ts ∧ nx ≤ cx := by
  obtain ⟨cs, rfl, hsz⟩ := okWide_struct Tryz.underlying46 hv
  rw [show Tryz.prog.cellsOf 46 = 2 by kernel_rfl] at hsz
  obtain ⟨l⟩ := cs
  match l, hsz with
  | [v0, v1], _ =>
  obtain ⟨fuel, hf⟩ := h
  obtain ⟨xs, n0, _, _, _, hlen, hfs⟩ := DataW.trod_struct Tryz.underlying46 hf
  obtain ⟨y0, y1, rfl⟩ : ∃ y0 y1, xs = [y0, y1] := by
    match xs, hlen with
    | [y0, y1], _ => exact ⟨y0, y1, rfl⟩
  have k3 : Tryz.prog.cellsOf 3 = 1 := by kernel_rfl
  have k30 : Tryz.prog.cellsOf 30 = 1 := by kernel_rfl
  have k25 : Tryz.prog.cellsOf 25 = 1 := by kernel_rfl
  have g0 : DataW.trod enc Tryz.prog W 0 (fun _ => true) held n0 3 [v0] = some y0 := by simpa [Value.cells, k3] using hfs 0 _ rfl
  have g1 : DataW.trod enc Tryz.prog W 0 (fun _ => true) held n0 30 [v1] = some y1 := by simpa [Value.cells, k30] using hfs 1 _ rfl
  obtain ⟨xs', n1, _, _, _, hlen', hfs'⟩ := DataW.trod_struct Tryz.underlying30 g1
  obtain ⟨y2, rfl⟩ : ∃ y2, xs' = [y2] := by
    match xs', hlen' with
    | [y2], _ => exact ⟨y2, rfl⟩
  have g2 : DataW.trod enc Tryz.prog W 0 (fun _ => true) held n1 25 [v1] = some y2 := by simpa [Value.cells, k25] using hfs' 0 _ rfl
  obtain ⟨z, e, _, _⟩ := DataW.trod_int Tryz.underlying3 g0
  obtain ⟨ax, nx, cx, ts, e1, hM, hc⟩ := opened_matC g2
  simp at e e1
  subst e e1
  exact ⟨z, ax, nx, cx, ts, rfl, hM, hc⟩
end
end

end Go.Proofs.YtapjcccpokhhhaaGreat
