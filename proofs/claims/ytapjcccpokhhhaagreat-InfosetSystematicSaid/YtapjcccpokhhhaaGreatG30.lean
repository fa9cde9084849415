/- The walk of codewrightlaw25.awake. -/
import Derived.Test.YtapjcccpokhhhaaGreatG29
namespace Go.Proofs.YtapjcccpokhhhaaGreat
set_option linter.unusedVariables false
set_option linter.unusedSimpArgs false
set_option linter.unusedSectionVars false

/- The walk of codewrightlaw25.awake. -/
section
open Go.RowKit

theorem ints_lit (V : World) (l : List Int) (cs : Array Value) (h : cs = (l.map (Value.int .i64)).toArray) (hl : l.length ≤ 1000) : Ints (V.alloc (.cells cs 3)) (some ⟨V.heap.size, 0, none⟩) l.length l := by
  subst h
  refine ⟨rfl, fun _ => rfl, by unfold maxLen; omega, fun i hi => ?_⟩
  have h1 := cell_alloc_at V ((l.map (Value.int .i64)).toArray) 3 rfl i
  rw [nth_getElem hi]
  simp [ablk, aoff, hi]

theorem mat_lit2 (V : World) {p q : Addr} {n1 n2 c1 c2 : Nat} {l1 l2 : List Int} (h1 : Ints V (some p) n1 l1) (h2 : Ints V (some q) n2 l2) : Mat (V.alloc (.cells #[.slice (some p) n1 c1, .slice (some q) n2 c2] 22)) (some ⟨V.heap.size, 0, none⟩) 2 [l1, l2] :=
  ⟨rfl, fun _ => rfl, by unfold maxLen; omega, fun k hk => by
    have h := cell_alloc_at V #[.slice (some p) n1 c1, .slice (some q) n2 c2] 22 rfl k
    match k, hk with
    | 0, _ => exact ⟨some p, n1, c1, h, h1.keep (below1 _ _)⟩
    | 1, _ => exact ⟨some q, n2, c2, h, h2.keep (below1 _ _)⟩⟩
theorem str_lit2 (V : World) {p q : Addr} {n1 n2 c1 c2 : Nat} {l1 l2 : List Int} {r1 r2 : Int} (h1 : Ints V (some p) n1 l1) (h2 : Ints V (some q) n2 l2) :
    StR (V.alloc (.cells #[.slice (some p) n1 c1, .int .i64 r1, .slice (some q) n2 c2, .int .i64 r2] 105)) (some ⟨V.heap.size, 0, none⟩) 2 [(l1, r1), (l2, r2)] :=
  ⟨rfl, fun _ => rfl, by unfold maxLen; omega, fun k hk => by
    have h := fun i => cell_alloc_at V #[.slice (some p) n1 c1, .int .i64 r1, .slice (some q) n2 c2, .int .i64 r2] 105 rfl i
    obtain rfl := h1.len
    obtain rfl := h2.len
    match k, hk with
    | 0, _ => exact ⟨some p, c1, h 0, h 1, h1.keep (below1 _ _)⟩
    | 1, _ => exact ⟨some q, c2, h 2, h 3, h2.keep (below1 _ _)⟩⟩

set_option maxRecDepth 100000 in
set_option maxHeartbeats 16000000 in
theorem awake_any (w : World) : Calls Tryz.prog 31 #[] w fun e w' => e = .returned (.bool true) ∧ Below w.heap.size w w' := by
  go_enter Tryz.func31, Tryz.ntmps31
  go_upto_region 1 with fail
  go_cut [1] (fun v wx => ∃ g gm, v = .pointer (some ⟨g, 0, none⟩) ∧ Box wx g [.int .i64 2, .int .i64 1, .slice none 0 0, .int .i64 4, .slice (some ⟨gm, 0, none⟩) 2 2] ∧ Mat wx (some ⟨gm, 0, none⟩) 2 awG ∧ Below w.heap.size w wx)
  case first =>
    go_wp2_with fail
    go_meet
    have i1 := ints_lit w [1, 0, 1, 0] #[.int .i64 1, .int .i64 0, .int .i64 1, .int .i64 0] rfl (by decide)
    have i2 := ints_lit (w.alloc (.cells #[.int .i64 1, .int .i64 0, .int .i64 1, .int .i64 0] 3)) [0, 1, 1, 1] #[.int .i64 0, .int .i64 1, .int .i64 1, .int .i64 1] rfl (by decide)
    have hm := mat_lit2 (c1 := 4) (c2 := 4) _ (i1.keep (below1 _ (.cells #[.int .i64 0, .int .i64 1, .int .i64 1, .int .i64 1] 3))) i2
    have hm2 := hm.keep (below1 _ (.cells #[.int .i64 2, .int .i64 1, .slice none 0 0, .int .i64 4, .slice (some ⟨w.heap.size + 1 + 1, 0, none⟩) 2 2] 27))
    refine ⟨_, w.heap.size + 1 + 1, rfl, Box.new _ [.int .i64 2, .int .i64 1, .slice none 0 0, .int .i64 4, .slice (some ⟨w.heap.size + 1 + 1, 0, none⟩) 2 2] _ (by simp), by unfold awG; simpa using hm2, ?_⟩
    exact (((below1 w _).alloc (by simp) _).alloc (by simp; omega) _).alloc (by simp; omega) _
  obtain ⟨g, gm, rfl, hx, hM, hbW⟩ := hcut
  generalize wc = W at *
  have HS : Hid (∀ V, Below W.heap.size W V → V.cell? ⟨g, 0, none⟩ = some (.int .i64 2) ∧ V.cell? ⟨g, 1, none⟩ = some (.int .i64 1) ∧ V.cell? ⟨g, 2, none⟩ = some (.slice none 0 0) ∧ V.cell? ⟨g, 3, none⟩ = some (.int .i64 4) ∧ V.cell? ⟨g, 4, none⟩ = some (.slice (some ⟨gm, 0, none⟩) 2 2)) := fun V hV => by
    have h := hx.keep hV
    exact ⟨h.cell 0 rfl, h.cell 1 rfl, h.cell 2 rfl, h.cell 3 rfl, h.cell 4 rfl⟩
  have HIs : Hid (∀ V s Q, Below W.heap.size W V → Ints V s 2 Q → Calls Tryz.prog 61 #[.agg #[.int .i64 2, .int .i64 1, .slice none 0 0, .int .i64 4, .slice (some ⟨gm, 0, none⟩) 2 2], .slice s 2 2] V fun e w' => e = .returned (.tuple #[.bool (isV 2 1 [] 4 awG Q), .int .i64 (rankE 2 1 [] 4 awG Q)]) ∧ Below V.heap.size V w') := fun V s Q hV hq =>
    infIs_any 2 1 none 0 0 [] 4 _ 2 2 awG s 2 2 Q V (Ints.nil _ _) (hM.keep hV) hq
  have HRk : Hid (∀ V s, Below W.heap.size W V → Ints V s 2 [1, 3] → Calls Tryz.prog 46 #[.agg #[.int .i64 2, .int .i64 1, .slice none 0 0, .int .i64 4, .slice (some ⟨gm, 0, none⟩) 2 2], .slice s 2 2] V fun e w' => e = .returned (.tuple #[.int .i64 1, .int .i64 0]) ∧ Below V.heap.size V w') := fun V s hV hq => by
    refine (rank_any 2 1 none 0 0 [] 4 _ 2 2 awG s 2 2 [1, 3] V (Ints.nil _ _) (hM.keep hV) hq).mono ?_
    rintro e w' ⟨hb, ⟨h0, _⟩ | ⟨_, rfl⟩⟩
    · exact absurd aw_is2.2 h0
    · refine ⟨?_, hb⟩
      have h := aw_rank
      rw [show (1 : Int).toNat = 1 from rfl, h]; rfl
  have HGr : Hid (∀ V s, Below W.heap.size W V → Ints V s 3 [1, 3, 2] → Calls Tryz.prog 62 #[.agg #[.int .i64 2, .int .i64 1, .slice none 0 0, .int .i64 4, .slice (some ⟨gm, 0, none⟩) 2 2], .slice s 3 3] V fun e w' => ∃ a c, e = .returned (.tuple #[.slice a 2 c, .int .i64 0]) ∧ Ints w' a 2 [1, 2] ∧ Below V.heap.size V w') := fun V s hV hq => by
    refine (infGreedy_any 2 1 none 0 0 [] 4 _ 2 2 awG s 3 3 [1, 3, 2] V (Ints.nil _ _) (hM.keep hV) hq (by decide)).mono ?_
    rintro e w' ⟨hb, ⟨h0, _⟩ | ⟨_, a, c, rfl, hown⟩⟩
    · exact absurd aw_gre h0
    · rw [show (1 : Int).toNat = 1 from rfl, aw_gr, aw_s2] at hown
      refine ⟨a, c, ?_, (Ints.own hown).1, hb⟩
      rw [show (1 : Int).toNat = 1 from rfl, aw_gr]; rfl
  have HSy : Hid (∀ V s, Below W.heap.size W V → Ints V s 2 [2, 3] → Calls Tryz.prog 33 #[.agg #[.int .i64 2, .int .i64 1, .slice none 0 0, .int .i64 4, .slice (some ⟨gm, 0, none⟩) 2 2], .slice s 2 2] V fun e w' => ∃ a c, e = .returned (.tuple #[.agg #[.int .i64 4, .slice a 2 c], .int .i64 0]) ∧ Mat w' a 2 [[1, 0, 1, 0], [1, 1, 0, 1]] ∧ Below V.heap.size V w') := fun V s hV hq => by
    refine (systematic_any 2 1 none 0 0 [] 4 _ 2 2 awG s 2 2 [2, 3] V (Ints.nil _ _) (hM.keep hV) hq).mono ?_
    rintro e w' ⟨hb, ⟨h0, _⟩ | ⟨_, m, hm, a, c, rfl, hMn⟩⟩
    · exact absurd aw_sys h0
    · obtain rfl : m = 4 := by omega
      rw [show (1 : Int).toNat = 1 from rfl, aw_sysl] at hMn
      exact ⟨a, c, rfl, hMn.mat, hb⟩
  have HFa : Hid (∀ V, Below W.heap.size W V → Calls Tryz.prog 63 #[.agg #[.int .i64 2, .int .i64 1, .slice none 0 0, .int .i64 4, .slice (some ⟨gm, 0, none⟩) 2 2]] V fun e w' => ∃ a c, e = .returned (.tuple #[.slice a 2 c, .int .i64 0]) ∧ StR w' a 2 [([0, 1], 2), ([2, 3], 2)] ∧ Below V.heap.size V w') := fun V hV => by
    refine (family_any 2 1 none 0 0 [] 4 _ 2 2 awG V (Ints.nil _ _) (hM.keep hV)).mono ?_
    rintro e w' ⟨hb, ⟨h0, _⟩ | ⟨_, m, hm, k, a, c, R, T, hT, rfl, hO⟩⟩
    · exact absurd aw_code h0
    · obtain rfl : m = 4 := by omega
      rw [show (1 : Int).toNat = 1 from rfl, aw_fam] at hT
      subst hT
      obtain rfl : 2 = k := hO.tl
      exact ⟨a, c, rfl, hO.str, hb⟩
  have HEx : Hid (∀ V s t, Below W.heap.size W V → Ints V s 2 [0, 1] → Ints V t 2 [2, 3] → Calls Tryz.prog 64 #[.agg #[.int .i64 2, .int .i64 1, .slice none 0 0, .int .i64 4, .slice (some ⟨gm, 0, none⟩) 2 2], .slice s 2 2, .slice t 2 2, .int .i64 0] V fun e w' => e = .returned (.tuple #[.int .i64 2, .int .i64 0]) ∧ Below V.heap.size V w') := fun V s t hV hs ht => by
    have h := exchange_any 2 1 none 0 0 [] 4 _ 2 2 awG s 2 2 [0, 1] t 2 2 [2, 3] 0 V (Ints.nil _ _) (hM.keep hV) hs ht
    rw [aw_ex] at h
    exact h
  have HFl : Hid (∀ V s, Ints V s 2 [2, 2] → Calls Tryz.prog 65 #[.int .i64 2, .slice s 2 2, .int .i64 1] V fun e w' => e = .returned (.tuple #[.int .i64 4, .int .i64 0]) ∧ w' = V) := fun V s hs => by
    have h := floor_any 2 s 2 2 [2, 2] 1 V hs
    rw [aw_fl] at h
    exact h
  have HW := Lib.hid hbW
  clear hx hM hbW
  obtain ⟨c0, c1, c2, c3, c4⟩ := HS.out W (Below.refl _ _)
  have k1 := below1 W (.cells #[.int .i64 0, .int .i64 1] 3)
  have Hc := Lib.hid (HIs.out _ _ [0, 1] k1 (ints_lit W [0, 1] _ rfl (by decide)))
  rw [aw_is1.1, aw_is1.2] at Hc
  go_wp2_with fail
  refine Hc.out.mono ?_
  rintro e V1 ⟨rfl, b1⟩
  have b1' := Below.next k1 b1
  clear c0 c1 c2 c3 c4 Hc k1 b1
  obtain ⟨c0, c1, c2, c3, c4⟩ := HS.out V1 b1'
  have k2 := below1 V1 (.cells #[.int .i64 1, .int .i64 3] 3)
  have Hc := Lib.hid (HIs.out _ _ [1, 3] (Below.next b1' k2) (ints_lit V1 [1, 3] _ rfl (by decide)))
  rw [aw_is2.1, aw_is2.2] at Hc
  go_wp2_with fail
  refine Hc.out.mono ?_
  rintro e V2 ⟨rfl, b2⟩
  have b2' := Below.next (Below.next b1' k2) b2
  clear c0 c1 c2 c3 c4 Hc k2 b2
  obtain ⟨c0, c1, c2, c3, c4⟩ := HS.out V2 b2'
  have k3 := below1 V2 (.cells #[.int .i64 1, .int .i64 3] 3)
  have Hc := Lib.hid (HRk.out _ _ (Below.next b2' k3) (ints_lit V2 [1, 3] _ rfl (by decide)))
  go_wp2_with fail
  refine Hc.out.mono ?_
  rintro e V3 ⟨rfl, b3⟩
  have b3' := Below.next (Below.next b2' k3) b3
  clear c0 c1 c2 c3 c4 Hc k3 b3
  obtain ⟨c0, c1, c2, c3, c4⟩ := HS.out V3 b3'
  have k4 := below1 V3 (.cells #[.int .i64 1, .int .i64 3, .int .i64 2] 3)
  have Hc := Lib.hid (HGr.out _ _ (Below.next b3' k4) (ints_lit V3 [1, 3, 2] _ rfl (by decide)))
  go_wp2_with fail
  refine Hc.out.mono ?_
  rintro e V4 ⟨ag, cg, rfl, hIg, b4⟩
  have b4' := Below.next (Below.next b3' k4) b4
  clear c0 c1 c2 c3 c4 Hc k4 b4
  obtain ⟨c0, c1, c2, c3, c4⟩ := HS.out V4 b4'
  have k5 := below1 V4 (.cells #[.int .i64 2, .int .i64 3] 3)
  have Hc := Lib.hid (HSy.out _ _ (Below.next b4' k5) (ints_lit V4 [2, 3] _ rfl (by decide)))
  go_wp2_with fail
  refine Hc.out.mono ?_
  rintro e V5 ⟨asx, csx, rfl, hMs, b5⟩
  have k45 := Below.next k5 b5
  have k55 := below1 V5 (.cells #[.int .i64 4, .slice asx 2 csx] 52)
  have xs := Box.new V5 [.int .i64 4, .slice asx 2 csx] 52 rfl
  have hMs' := hMs.keep k55
  have hIg' := (hIg.keep k45).keep k55
  have b5' := Below.next (Below.next b4' k45) k55
  clear c0 c1 c2 c3 c4 Hc k5 b5 hMs hIg
  obtain ⟨c0, c1, c2, c3, c4⟩ := HS.out _ b5'
  have Hc := Lib.hid (HFa.out _ b5')
  have Hxs := Lib.hid xs
  have Hk := Lib.hid (And.intro hMs' (And.intro hIg' b5'))
  clear xs hMs' hIg' k45 k55
  go_wp2_with fail
  refine Hc.out.mono ?_
  rintro e V6 ⟨af, cf, rfl, hF, b6⟩
  have b6' := Below.next b5' b6
  clear c0 c1 c2 c3 c4 Hc b5'
  obtain ⟨c0, c1, c2, c3, c4⟩ := HS.out V6 b6'
  have k7 := below1 V6 (.cells #[.int .i64 0, .int .i64 1] 3)
  have k8 := below1 (V6.alloc (.cells #[.int .i64 0, .int .i64 1] 3)) (.cells #[.int .i64 2, .int .i64 3] 3)
  have Hc := Lib.hid (HEx.out _ _ _ (Below.next (Below.next b6' k7) k8) ((ints_lit V6 [0, 1] _ rfl (by decide)).keep k8) (ints_lit (V6.alloc (.cells #[.int .i64 0, .int .i64 1] 3)) [2, 3] _ rfl (by decide)))
  simp only [World.size_alloc] at Hc
  go_wp2_with fail
  refine Hc.out.mono ?_
  rintro e V7 ⟨rfl, b7⟩
  have k67 := (Below.next k7 k8).trans (b7.mono (show V6.heap.size ≤ V6.heap.size + 1 + 1 by omega))
  have b7' := Below.next b6' k67
  clear c0 c1 c2 c3 c4 Hc k7 k8 b7
  have k9 := below1 V7 (.cells #[.int .i64 2, .int .i64 2] 3)
  have Hc := Lib.hid (HFl.out _ _ (ints_lit V7 [2, 2] _ rfl (by decide)))
  go_wp2_with fail
  refine Hc.out.mono ?_
  rintro e V8 ⟨rfl, hX0⟩
  have kX0 : Below V7.heap.size V7 V8 := by rw [hX0]; exact below1 _ _
  clear hX0 Hc k9 HFl HEx HFa HSy HGr HRk HIs HS
  have b8' := Below.next b7' kX0
  have k58 := Below.next (Below.next b6 k67) kX0
  have kX1 := below1 V8 (.cells #[.int .i64 1, .int .i64 2] 3)
  have hc := rSameInts_any ag 2 cg [1, 2] _ 2 2 [1, 2] ((Hk.out.2.1.keep k58).keep kX1) (ints_lit V8 [1, 2] #[.int .i64 1, .int .i64 2] rfl (by decide))
  rw [decide_eq_true (rfl : ([1, 2] : List Int) = [1, 2])] at hc
  have Hc := Lib.hid hc
  have HF := Lib.hid ((hF.keep k67).keep kX0)
  clear hc hF
  go_wp2_with fail
  refine Hc.out.mono ?_
  rintro e Y ⟨rfl, hd⟩
  have kY := Below.next kX1 hd.below
  have k5Y := Below.next k58 kY
  have b8Y := Below.next b8' kY
  have y1 := (Hxs.out.keep k5Y).cell 1 rfl
  have z1 := below1 Y (.cells #[.int .i64 1, .int .i64 0, .int .i64 1, .int .i64 0] 3)
  have z2 := below1 (Y.alloc (.cells #[.int .i64 1, .int .i64 0, .int .i64 1, .int .i64 0] 3)) (.cells #[.int .i64 1, .int .i64 1, .int .i64 0, .int .i64 1] 3)
  have j1 := (ints_lit Y [1, 0, 1, 0] #[.int .i64 1, .int .i64 0, .int .i64 1, .int .i64 0] rfl (by decide)).keep z2
  have j2 := ints_lit (Y.alloc (.cells #[.int .i64 1, .int .i64 0, .int .i64 1, .int .i64 0] 3)) [1, 1, 0, 1] #[.int .i64 1, .int .i64 1, .int .i64 0, .int .i64 1] rfl (by decide)
  have hm := mat_lit2 (c1 := 4) (c2 := 4) _ j1 j2
  have z3 := below1 ((Y.alloc (.cells #[.int .i64 1, .int .i64 0, .int .i64 1, .int .i64 0] 3)).alloc (.cells #[.int .i64 1, .int .i64 1, .int .i64 0, .int .i64 1] 3)) (.cells #[.slice (some ⟨Y.heap.size, 0, none⟩) 4 4, .slice (some ⟨Y.heap.size + 1, 0, none⟩) 4 4] 22)
  have zz := (Below.next (Below.next z1 z2) z3)
  simp only [World.size_alloc] at hm
  have hc := rSameRows_any asx 2 csx [[1, 0, 1, 0], [1, 1, 0, 1]] _ 2 2 [[1, 0, 1, 0], [1, 1, 0, 1]] ((Hk.out.1.keep k5Y).keep zz) hm
  rw [decide_eq_true (rfl : ([[1, 0, 1, 0], [1, 1, 0, 1]] : List (List Int)) = [[1, 0, 1, 0], [1, 1, 0, 1]])] at hc
  have Hc2 := Lib.hid hc
  have Hzz := Lib.hid zz
  clear hc hm j1 j2 z1 z2 z3 Hc zz
  go_wp2_with fail
  refine Hc2.out.mono ?_
  rintro e Y2 ⟨rfl, hd2⟩
  have kY2 := Below.next Hzz.out hd2.below
  have u1 := below1 Y2 (.cells #[.int .i64 0, .int .i64 1] 3)
  have u2 := below1 (Y2.alloc (.cells #[.int .i64 0, .int .i64 1] 3)) (.cells #[.int .i64 2, .int .i64 3] 3)
  have j1 := (ints_lit Y2 [0, 1] #[.int .i64 0, .int .i64 1] rfl (by decide)).keep u2
  have j2 := ints_lit (Y2.alloc (.cells #[.int .i64 0, .int .i64 1] 3)) [2, 3] #[.int .i64 2, .int .i64 3] rfl (by decide)
  have hs := str_lit2 (c1 := 2) (c2 := 2) (r1 := 2) (r2 := 2) _ j1 j2
  have u3 := below1 ((Y2.alloc (.cells #[.int .i64 0, .int .i64 1] 3)).alloc (.cells #[.int .i64 2, .int .i64 3] 3)) (.cells #[.slice (some ⟨Y2.heap.size, 0, none⟩) 2 2, .int .i64 2, .slice (some ⟨Y2.heap.size + 1, 0, none⟩) 2 2, .int .i64 2] 105)
  have zz2 := Below.next (Below.next u1 u2) u3
  simp only [World.size_alloc] at hs
  have Hc3 := Lib.hid (sameSteps_any af 2 cf _ 2 2 [([0, 1], 2), ([2, 3], 2)] _ (((HF.out.keep kY).keep kY2).keep zz2) hs)
  have Hend := Lib.hid (Below.next HW.out (Below.next (Below.next b8Y kY2) zz2))
  clear hs j1 j2 u1 u2 u3 zz2 Hc2 y1
  go_wp2_with fail
  refine Hc3.out.mono ?_
  rintro e Y3 ⟨rfl, hd3⟩
  have hFin := Below.next Hend.out hd3.below
  clear Hc3
  go_wp2_with fail
  go_ret
  exact ⟨rfl, hFin⟩
end

end Go.Proofs.YtapjcccpokhhhaaGreat
