/- The arguments, opened: pairs of numbers, exclusions. -/
import Derived.Test.YtcflcogbpnmjeaaGreatK29
import Derived.Test.YtcflcogbpnmjeaaGreatK36
import Derived.Test.YtcflcogbpnmjeaaGreatK34
import Derived.Test.YtcflcogbpnmjeaaGreatK31
import Derived.Test.YtcflcogbpnmjeaaGreatK20
import Derived.Test.YtcflcogbpnmjeaaGreatK33
import Derived.Test.YtcflcogbpnmjeaaGreatK35
import Derived.Test.YtcflcogbpnmjeaaGreatK16
import Derived.WalkKit
import Derived.ProofKit
import Derived.OpenShut
import Derived.ShutString
import Derived.ChangeOld
import Derived.Below
import Derived.Deep.Matrix
namespace Go.Proofs.YtcflcogbpnmjeaaGreat
set_option linter.unusedVariables false
set_option linter.unusedSimpArgs false
set_option linter.unusedSectionVars false

/- Plain: a tree for a coset claim is built exactly if every word of the coset is heavier. -/
section
open Go.RowKit

theorem cnt_in_le (v : List Int) : ∀ (s : List Int) (k : Nat), ((List.range k).countP fun j => decide (nth v j ≠ 0 ∧ (j : Int) ∈ s)) ≤ s.length := fun s k => by
  rw [List.countP_eq_length_filter]
  have h := nodup_sub_len (s := ((List.range k).filter fun j => decide (nth v j ≠ 0 ∧ (j : Int) ∈ s)).map Int.ofNat) (T := s) ?_ fun x hx => ?_
  · rwa [List.length_map] at h
  · unfold List.Nodup
    rw [List.pairwise_map]
    exact List.Pairwise.imp (fun h e => h (Int.ofNat.inj e)) (List.Pairwise.filter _ (List.nodup_range (n := k)))
  · obtain ⟨j, hj, rfl⟩ := List.mem_map.1 hx
    rw [List.mem_filter] at hj
    have := hj.2
    simp only [decide_eq_true_eq] at this
    exact this.2

section
variable {P M : Int} {mod : List Int} {m : Nat} {L : List (List Int)}
theorem coset_complete {y : List Int} {W : Int} (h0 : cosE P M mod m L y W = 0) (hb : bn L.length W.toNat ≤ 65536) :
    ((bldCE P M mod m L y W).1 = 0 ∨ (bldCE P M mod m L y W).1 = 11) ∧
    ((bldCE P M mod m L y W).1 = 0 ↔ ∀ v : List Int, v.length = L.length → (∀ x ∈ v, (tblOf P M.toNat mod).El x) → W < (wtL (addRow (tblOf P M.toNat mod).ops y 1 (cmbTo (tblOf P M.toNat mod).ops m v L L.length)) : Int)) := by
  obtain ⟨hE, hy, _, hW0, hWm⟩ := cosE_zero h0
  obtain ⟨N', e, hm1, hm64, F, hR⟩ := codeE_fld hE
  obtain rfl : m = N' := by omega
  have hbl : bldCE P M mod m L y W = treeS (tblOf P M.toNat mod).ops L m ⟨0, W.toNat, true, y⟩ := by
    unfold bldCE; rw [if_pos h0]; simp
  have hrkL : rkQ (tblOf P M.toNat mod).ops L (frTo false [] m) ≤ L.length := Rk.le (col_clo F hR) (rkQ_rk F hR _) (code_full hE) fun y hy => (col_clo F hR).mem _ _ (by
    obtain ⟨z, hz, rfl⟩ := mem_gA.1 hy
    obtain ⟨j, hj, rfl, _⟩ := (mem_frTo m).1 hz
    rw [List.mem_range]; omega)
  have hcnt := bld_cnt F hR (C := ⟨0, W.toNat, true, y⟩) W.toNat [] [] [] L.length NodeOk.root (by simp) (by unfold sizK; simpa using hrkL) (by simpa using hb)
  have herr := bld_err (tblOf P M.toNat mod).ops L m ⟨0, W.toNat, true, y⟩ W.toNat [] [] []
  rw [hbl]
  change ((treeS _ L m _).1 ≠ 8 ∧ _) at hcnt
  change Err3 (treeS _ L m _).1 at herr
  have h011 : (treeS (tblOf P M.toNat mod).ops L m ⟨0, W.toNat, true, y⟩).1 = 0 ∨ (treeS (tblOf P M.toNat mod).ops L m ⟨0, W.toNat, true, y⟩).1 = 11 := by
    rcases herr with h | h | h
    · exact .inl h
    · exact absurd h hcnt.1
    · exact .inr h
  refine ⟨h011, fun hz v hvl hve => ?_, fun hcl => h011.resolve_right (hcnt.2.2 fun s z hn hs => ?_)⟩
  · have hp := tree_prov (T := (treeS (tblOf P M.toNat mod).ops L m ⟨0, W.toNat, true, y⟩).2) (by rw [← hz])
    refine cos_law (ts := (treeS (tblOf P M.toNat mod).ops L m ⟨0, W.toNat, true, y⟩).2) ?_ fun k hk => hve _ (nth_mem (by omega))
    unfold chkCE
    rw [if_pos h0]
    simpa using hp
  · rw [cset_right F hR hn]
    rw [if_pos rfl]
    obtain ⟨t, ht⟩ : ∃ t, csetS (tblOf P M.toNat mod).ops L m ⟨0, W.toNat, true, y⟩ s z = t := ⟨_, rfl⟩
    have h1 := cset_rk F hR s z (C := ⟨0, W.toNat, true, y⟩)
    have h2 := cset_len F hR hn
    have h3 := setOk_ok (cset_ok hn)
    rw [ht] at h1 h2 h3 ⊢
    rw [if_pos rfl] at h2
    have h4 := Nat.le_trans (rkQ_le (tblOf P M.toNat mod).ops L (frTo false s m)) (frTo_len false s m)
    have hT : InN m t := fun j hj => okSet_rng h3.1 j hj
    obtain ⟨v1, v2, v3, _⟩ := van_cos F hR hy hT h1
    have h5 := light_cnt F hR hy hT h1 (by omega) h3.2 v1 v2
    have h6 := hcl (vanX (tblOf P M.toNat mod).ops L y t) (solTo_len _ _ _ _) fun x hx => by
      obtain ⟨q, hq, rfl⟩ := List.mem_iff_getElem.1 hx
      have hq' := hq
      rw [show (vanX (tblOf P M.toNat mod).ops L y t).length = L.length from solTo_len _ _ _ _] at hq'
      have := v3 q hq'
      rwa [nth_getElem hq] at this
    have h7 : W < (wtL (vanL (tblOf P M.toNat mod).ops m L y t) : Int) := h6
    have h8 := wt_split s (vanL (tblOf P M.toNat mod).ops m L y t) m
    have h9 : wtL (vanL (tblOf P M.toNat mod).ops m L y t) = (List.range m).countP fun j => decide (nth (vanL (tblOf P M.toNat mod).ops m L y t) j ≠ 0) := by
      rw [← supp_len v1.1.1, supp, List.length_map, ← List.countP_eq_length_filter]
    have h10 := cnt_in_le (vanL (tblOf P M.toNat mod).ops m L y t) s m
    show W.toNat < s.length + lightS (tblOf P M.toNat mod).ops L y s t
    omega
theorem cosE_of (hE : codeE P M mod m L = 0) {y : List Int} (hl : lstE (tblOf P M.toNat mod).q y m = 0) {W : Int} (h0 : 0 ≤ W) (h1 : W ≤ m) : cosE P M mod m L y W = 0 ∧ Vc (tblOf P M.toNat mod).El m y := by
  unfold lstE at hl
  by_cases h2 : y.length = m
  · rw [if_pos h2] at hl
    unfold elsE at hl
    by_cases h3 : elsQ (tblOf P M.toNat mod).q y = true
    · refine ⟨?_, h2, elsQ_els h3⟩
      unfold cosE
      rw [if_pos hE, if_neg (by omega), if_neg (by rw [h3]; decide), if_neg (by omega)]
    · rw [if_neg h3] at hl; exact absurd hl (by decide)
  · rw [if_neg h2] at hl; exact absurd hl (by decide)
end

/-- at all places: the words of all messages -/
theorem wlk_each {O : FOps} {m : Nat} {q : Nat} {L : List (List Int)} {p : List Int → Prop} :
    (∀ i, i < (wlkS O q L (List.replicate m 0)).length → p (nthR (wlkS O q L (List.replicate m 0)) i)) ↔ ∀ v : List Int, v.length = L.length → (∀ x ∈ v, 0 ≤ x ∧ x < (q : Int)) → p (cmbTo O m v L L.length) := by
  rw [wlk_cmb]
  constructor
  · intro h v h1 h2
    obtain ⟨i, hi, e⟩ := List.mem_iff_getElem.1 (mem_msgs.2 ⟨h1, h2⟩)
    have h3 := h i (by simpa using hi)
    rw [nthR_getElem (by simpa using hi), List.getElem_map, e] at h3
    exact h3
  · intro h i hi
    have hi' : i < (msgs q L.length).length := by simpa using hi
    rw [nthR_getElem hi, List.getElem_map]
    have hm := mem_msgs.1 (List.getElem_mem hi')
    exact h _ hm.1 hm.2
end

/- The walks of codewrightref09: Unit, square, Rank. -/
section
open Go.RowKit
end

/- The walks of codewrightref09 at valid matrices: square, Canonical, Rank, two. -/
section
open Go.RowKit
end

/- The walk of codewrightref09.Transform, at valid square matrices. -/
section
open Go.RowKit

theorem Ints.drop {w : World} {b o : Nat} {n k : Nat} {l : List Int} (h : Ints w (some ⟨b, o, none⟩) n l) (hk : k ≤ n) : Ints w (some ⟨b, o + k, none⟩) (n - k) (l.drop k) :=
  ⟨by rw [List.length_drop, h.len], fun _ => rfl, by have := h.max; omega, fun i hi => by
    have h1 := h.cell (k + i) (by omega)
    have e : nth (l.drop k) i = nth l (k + i) := by unfold nth; simp only [List.getD_eq_getElem?_getD, List.getElem?_drop]
    rw [e]
    simp only [ablk_some, aoff_some] at h1 ⊢
    rw [Nat.add_assoc]; exact h1⟩
end

/- The walk of Solve of the reference of layer 09, at independent equations. -/
section
open Go.RowKit
end

/- The walk of Turn of the reference of layer 09. -/
section
open Go.RowKit
end

/- The walk of Vanish of the reference's exclusion. -/
section
open Go.RowKit
end

/- The walk of right of the reference's exclusion, for coset claims. -/
section
open Go.RowKit
end

/- The walks of Word of layer 12 and of coset of the reference's exclusion. -/
section
open Go.RowKit
end

/- The walks of CheckCoset and BuildCoset of the reference's exclusion. -/
section
open Go.RowKit
end

/- The walks of ExclusionCoset and ExclusionCosets. -/
section
open Go.RowKit

theorem bldC_chk {P M : Int} {mod : List Int} {N : Int} {L : List (List Int)} {y : List Int} {W : Int} (h : (bldCE P M mod N L y W).1 = 0) : chkCE P M mod N L y W (bldCE P M mod N L y W).2 = 0 := by
  unfold bldCE chkCE at *
  by_cases h0 : cosE P M mod N L y W = 0
  · rw [if_pos h0] at h ⊢
    rw [if_pos h0]
    refine tree_prov ?_
    rw [← h]
  · rw [if_neg h0] at h
    exact absurd h h0
end

/- The walk of ExclusionCompleteCoset. -/
section
open Go.RowKit

set_option maxRecDepth 100000 in
set_option maxHeartbeats 8000000 in
theorem exLawCompleteCoset_any (P M : Int) (am : Option Addr) (mn cm : Nat) (mod : List Int) (N : Int) (a : Option Addr) (n c : Nat) (L : List (List Int)) (ay : Option Addr) (ny cy : Nat) (y : List Int) (x : Nat) (hx : x < 256) (w : World)
    (hmod : Ints w am mn mod) (hi : Mat w a n L) (hy : Ints w ay ny y) :
    Calls Tryz.prog 4 #[.agg #[.int .i64 P, .int .i64 M, .slice am mn cm, .int .i64 N, .slice a n c], .slice ay ny cy, .int .u8 x] w fun e w' => e = .returned (.bool true) ∧ Below w.heap.size w w' := by
  have HF : Hid (∀ V, Below w.heap.size w V → Calls Tryz.prog 15 #[.agg #[.int .i64 P, .int .i64 M, .slice am mn cm, .int .i64 N, .slice a n c]] V (SomeBool V)) :=
    fun V hV => few26_any P M am mn cm N a n c L V (hi.keep hV)
  have HCn : Hid (∀ V, Below w.heap.size w V → Calls Tryz.prog 16 #[.agg #[.int .i64 P, .int .i64 M, .slice am mn cm, .int .i64 N, .slice a n c], .int .i64 600] V fun e w' => e = .returned (.int .i64 (cntS P M mod N L)) ∧ Below V.heap.size V w') :=
    fun V hV => rCount12_any P M am mn cm mod N a n c L V (hmod.keep hV) (hi.keep hV)
  have Hil := Lib.hid hi.len
  have Hyl := Lib.hid hy.len
  go_enter Tryz.func4, Tryz.ntmps4
  go_wp2_with fail
  obtain ⟨W, hW⟩ : ∃ W : World, W = w.alloc (.cells #[.int .i64 P, .int .i64 M, .slice am mn cm, .int .i64 N, .slice a n c] 27) := ⟨_, rfl⟩
  rw [← hW]
  have hbW : Below w.heap.size w W := by rw [hW]; exact below1 _ _
  have x0 : Box W w.heap.size [.int .i64 P, .int .i64 M, .slice am mn cm, .int .i64 N, .slice a n c] := by rw [hW]; exact Box.new _ _ _ rfl
  have HS : Hid (∀ V, Below W.heap.size W V → V.cell? ⟨w.heap.size, 0, none⟩ = some (.int .i64 P) ∧ V.cell? ⟨w.heap.size, 1, none⟩ = some (.int .i64 M) ∧ V.cell? ⟨w.heap.size, 2, none⟩ = some (.slice am mn cm) ∧ V.cell? ⟨w.heap.size, 3, none⟩ = some (.int .i64 N) ∧ V.cell? ⟨w.heap.size, 4, none⟩ = some (.slice a n c)) := fun V hV => by
    have x1 := x0.keep hV
    exact ⟨x1.cell 0 rfl, x1.cell 1 rfl, x1.cell 2 rfl, x1.cell 3 rfl, x1.cell 4 rfl⟩
  have HbW := Lib.hid hbW
  clear hW x0 hbW
  refine (awake26_any W).mono ?_
  rintro e w1 ⟨rfl, hb1⟩
  obtain ⟨c0, c1, c2, c3, c4⟩ := HS.out w1 hb1
  go_wp2_with fail
  refine (HF.out w1 (Below.next HbW.out hb1)).mono ?_
  rintro e w2 ⟨z, rfl, hb2⟩
  have hB2 := Below.next hb1 hb2
  clear c0 c1 c2 c3 c4 HF
  cases z
  · go_wp2_with fail
    refine (awake26_any w2).mono ?_
    rintro e w3 ⟨rfl, hb3⟩
    have hF := Below.next HbW.out (Below.next hB2 hb3)
    go_wp2_with fail
    go_ret
    exact ⟨rfl, hF⟩
  obtain ⟨c0, c1, c2, c3, c4⟩ := HS.out w2 hB2
  go_wp2_with fail
  refine (HCn.out w2 (Below.next HbW.out hB2)).mono ?_
  rintro e w4 ⟨rfl, hb4⟩
  have hB4 := Below.next hB2 hb4
  clear c0 c1 c2 c3 c4 hb1 hb2 hb4
  by_cases h0 : cntS P M mod N L = 0
  · have hd : (cntS P M mod N L == 0) = true := by simpa using h0
    clear h0
    generalize cntS P M mod N L = er at *
    go_wp2_with fail
    refine (awake26_any w4).mono ?_
    rintro e w3 ⟨rfl, hb3⟩
    have hF := Below.next HbW.out (Below.next hB4 hb3)
    go_wp2_with fail
    go_ret
    exact ⟨rfl, hF⟩
  obtain ⟨hE, h600, hcnt⟩ := cntS_ne h0
  obtain ⟨m, hm, hm1, hm64, F, hR⟩ := codeE_fld hE
  subst hm
  have hd : (cntS P M mod (m : Int) L == 0) = false := by simpa using h0
  obtain ⟨c0, c1, c2, c3, c4⟩ := HS.out w4 hB4
  have Hcnt := Lib.hid hcnt
  clear hcnt h0
  generalize cntS P M mod (m : Int) L = er at *
  have hq : ((tblOf P M.toNat mod).q : Int) = orderS P M := by
    obtain ⟨m1, e1, _, h1, _⟩ := eq_ops (codeE_zero hE).1
    rw [show M.toNat = m1 by omega]; exact h1
  have Hly := Lib.hid (rList12_any P M am mn cm ay ny cy y m w4 (hy.keep (Below.next HbW.out hB4)))
  have HY0 : Hid (lstE (orderS P M) y m = 0 → ny = m ∧ lstE (tblOf P M.toNat mod).q y m = 0) := fun h => by
    rw [← hq] at h
    refine ⟨?_, h⟩
    rw [← Hyl.out]
    exact (els_nth h).1
  clear hq
  generalize lstE (orderS P M) y m = ey at *
  go_wp2_with fail
  refine Hly.out.mono ?_
  rintro e w4' ⟨rfl, hb4'⟩
  have hB4 := Below.next hB4 hb4'
  clear c0 c1 c2 c3 c4 Hly hb4'
  by_cases hey0 : ey = 0
  rotate_left
  · have he : (ey != 0) = true := by simpa using hey0
    clear hey0
    go_wp2_with fail
    refine (awake26_any w4').mono ?_
    rintro e w3 ⟨rfl, hb3⟩
    have hF := Below.next HbW.out (Below.next hB4 hb3)
    go_wp2_with fail
    go_ret
    exact ⟨rfl, hF⟩
  obtain ⟨rfl, hylst⟩ := HY0.out hey0
  subst hey0
  have Hylst := Lib.hid hylst
  clear HY0 hylst
  generalize w4' = w4 at *
  obtain ⟨c0, c1, c2, c3, c4⟩ := HS.out w4 hB4
  have hm0 : (ny : Int) + 1 ≠ 0 := by omega
  have hr0 : 0 ≤ (x : Int) % ((ny : Int) + 1) := Int.emod_nonneg _ hm0
  have hr1 : (x : Int) % ((ny : Int) + 1) ≤ ny := by have := Int.emod_lt_of_pos (x : Int) (show (0 : Int) < (ny : Int) + 1 by omega); omega
  go_wp2_with fail
  generalize (x : Int) % ((ny : Int) + 1) = r at *
  have hn256 : n ≤ 256 := by rw [← Hil.out]; exact (codeE_rws hE).choose_spec.2.2.2.1
  refine (small26_ok P M am mn cm ny a n c _ w4 hn256).mono ?_
  rintro e w5 ⟨⟨z, rfl, hz⟩, hb5⟩
  have hB5 := Below.next hB4 hb5
  clear c0 c1 c2 c3 c4 hb5
  cases z
  · have hF := Below.next HbW.out hB5
    clear hz
    go_wp2_with fail
    go_ret
    exact ⟨rfl, hF⟩
  have Hbn : Hid (bn L.length r.toNat ≤ 2000) := by
    show _ ≤ _
    have h1 := hz rfl (by omega) (by omega) (by omega)
    rw [Hil.out]
    exact h1
  clear hz
  obtain ⟨NN, hNN⟩ : ∃ NN, (tblOf P M.toNat mod).q ^ n = NN := ⟨_, rfl⟩
  rw [Hil.out, hNN] at h600
  have Hcn : Hid (er = (NN : Nat)) := by show _ = _; rw [Hcnt.out, Hil.out, hNN]
  have hw := words_any P M am mn cm mod ny a n c L w5 NN hE (hmod.keep (Below.next HbW.out hB5)) (hi.keep (Below.next HbW.out hB5)) hNN (by omega)
  have Hw := Lib.hid hw
  have hlen : (wlkS (tblOf P M.toNat mod).ops (tblOf P M.toNat mod).q L (List.replicate ny 0)).length = NN := by rw [wlkS_length, Hil.out, hNN]
  obtain ⟨c0, c1, c2, c3, c4⟩ := HS.out w5 hB5
  clear hw hNN
  go_wp2_with fail
  refine Hw.out.mono ?_
  rintro e w6 ⟨ao, co, rfl, hM6, hb6⟩
  have hB6 := Below.next hB5 hb6
  clear c0 c1 c2 c3 c4 Hw hb6
  obtain ⟨c0, c1, c2, c3, c4⟩ := HS.out w6 hB6
  go_wp2_with fail
  refine (HCn.out w6 (Below.next HbW.out hB6)).mono ?_
  rintro e w7 ⟨rfl, hb7⟩
  have hB7 := Below.next hB6 hb7
  have hM7 := hM6.keep hb7
  rw [Hcn.out]
  clear c0 c1 c2 c3 c4 hb7 hM6 h600
  obtain ⟨hcos, hyv⟩ := cosE_of hE Hylst.out hr0 hr1
  have hRv : ∀ j, j < NN → Vc (tblOf P M.toNat mod).El ny (nthR (wlkS (tblOf P M.toNat mod).ops (tblOf P M.toNat mod).q L (List.replicate ny 0)) j) := by
    have h1 := (wlk_each (O := (tblOf P M.toNat mod).ops) (m := ny) (q := (tblOf P M.toNat mod).q) (L := L) (p := fun X => Vc (tblOf P M.toNat mod).El ny X)).2 fun v h1 h2 => (cmb_rs F hR (fun k hk => h2 _ (nth_mem (by omega))) _ (Nat.le_refl _)).1
    rw [hlen] at h1
    exact h1
  have hall : (∀ j, j < NN → r < (wtL (addRow (tblOf P M.toNat mod).ops y 1 (nthR (wlkS (tblOf P M.toNat mod).ops (tblOf P M.toNat mod).q L (List.replicate ny 0)) j)) : Int)) ↔ ∀ v : List Int, v.length = L.length → (∀ x ∈ v, (tblOf P M.toNat mod).El x) → r < (wtL (addRow (tblOf P M.toNat mod).ops y 1 (cmbTo (tblOf P M.toNat mod).ops ny v L L.length)) : Int) := by
    have h1 := wlk_each (O := (tblOf P M.toNat mod).ops) (m := ny) (q := (tblOf P M.toNat mod).q) (L := L) (p := fun X => r < (wtL (addRow (tblOf P M.toNat mod).ops y 1 X) : Int))
    rw [hlen] at h1
    exact h1
  have hlaw := coset_complete hcos (Nat.le_trans Hbn.out (by decide))
  have HAd : Hid (∀ V a1 k1 X, Below w.heap.size w V → Vc (tblOf P M.toNat mod).El ny X → Ints V a1 ny X → Calls Tryz.prog 23 #[.agg #[.int .i64 P, .int .i64 M, .slice am mn cm], .slice ay ny cy, .int .i64 1, .slice a1 ny k1] V fun e w' => ∃ a2 c2, e = .returned (.slice a2 ny c2) ∧ Ints w' a2 ny (addRow (tblOf P M.toNat mod).ops y 1 X) ∧ Below V.heap.size V w') := fun V a1 k1 X hV h2 h3 =>
    rAddC_any hE ay cy y 1 a1 k1 X V (hmod.keep hV) (hy.keep hV) h3 hyv F.one h2
  have HBc : Hid (∀ V, Below w.heap.size w V → Calls Tryz.prog 24 #[.agg #[.int .i64 P, .int .i64 M, .slice am mn cm, .int .i64 ny, .slice a n c], .slice ay ny cy, .int .i64 r] V (BldP (if (bldCE P M mod ny L y r).1 = 0 then (bldCE P M mod ny L y r).2 else []) (bldCE P M mod ny L y r).1 V)) := fun V hV =>
    (exBuildCoset_any P M am mn cm mod ny a n c L ay ny cy y r V (hmod.keep hV) (hi.keep hV) (hy.keep hV)).mono fun e w' h => h.bldP
  have HCk : Hid ((bldCE P M mod ny L y r).1 = 0 → ∀ V ax nx cx, Below w.heap.size w V → Mat V ax nx (if (bldCE P M mod ny L y r).1 = 0 then (bldCE P M mod ny L y r).2 else []) → Calls Tryz.prog 25 #[.agg #[.int .i64 P, .int .i64 M, .slice am mn cm, .int .i64 ny, .slice a n c], .slice ay ny cy, .int .i64 r, .agg #[.slice ax nx cx]] V fun e w' => e = .returned (.int .i64 0) ∧ Below V.heap.size V w') := by
    intro h V ax nx cx hV hM
    rw [if_pos h] at hM
    have h2 := exCheckCoset_any P M am mn cm mod ny a n c L ay ny cy y r ax nx cx _ V (hmod.keep hV) (hi.keep hV) (hy.keep hV) hM
    rw [bldC_chk h] at h2
    exact h2
  have HT : Hid ((bldCE P M mod ny L y r).1 ≠ 0 → (if (bldCE P M mod ny L y r).1 = 0 then (bldCE P M mod ny L y r).2 else []) = []) := fun h => if_neg h
  have hlaw2 : ((bldCE P M mod ny L y r).1 = 0 ∨ (bldCE P M mod ny L y r).1 = 11) ∧ ((bldCE P M mod ny L y r).1 = 0 ↔ ∀ j, j < NN → r < (wtL (addRow (tblOf P M.toNat mod).ops y 1 (nthR (wlkS (tblOf P M.toNat mod).ops (tblOf P M.toNat mod).q L (List.replicate ny 0)) j)) : Int)) := ⟨hlaw.1, hlaw.2.trans hall.symm⟩
  have Hlaw := Lib.hid hlaw2
  clear hlaw hall hlaw2 hcos hyv F hR
  generalize (if (bldCE P M mod ny L y r).1 = 0 then (bldCE P M mod ny L y r).2 else []) = T at *
  generalize (bldCE P M mod ny L y r).1 = ER at *
  obtain ⟨R, hR0⟩ : ∃ R, wlkS (tblOf P M.toNat mod).ops (tblOf P M.toNat mod).q L (List.replicate ny 0) = R := ⟨_, rfl⟩
  rw [hR0] at hM7 hlen hRv Hlaw
  have HRv := Lib.hid hRv
  have hplR := hM7.pl
  have HM7 := Lib.hid hM7
  have hmaxR := hM7.max
  unfold maxLen at hmaxR
  clear hR0 hlen hM7 hRv hE hmod hi hy
  generalize (tblOf P M.toNat mod).ops = O at *
  generalize (tblOf P M.toNat mod).El = El at *
  go_wp2_with fail
  go_loopw [10, 62] (fun bv iv wr => ∃ (i : Nat) (z : Bool), i ≤ NN ∧ bv = .bool z ∧ iv = .int .i64 i ∧ Hid (z = true ↔ ∀ j, j < i → r < (wtL (addRow O y 1 (nthR R j)) : Int)) ∧ Below w7.heap.size w7 wr) (fun _ iv _ => NN - (intOf iv).toNat)
  case atStart => exact ⟨0, true, Nat.zero_le _, rfl, rfl, ⟨fun _ j hj => absurd hj (by omega), fun _ => rfl⟩, Below.refl _ _⟩
  case round =>
    obtain ⟨i, z, hiN, rfl, rfl, hcl, hbr⟩ := hrel
    have hBr := Below.next hB7 hbr
    obtain ⟨c0, c1, c2, c3, c4⟩ := HS.out wr hBr
    by_cases hlt : i < NN
    · obtain ⟨bx, mx, cx, hcx, hix⟩ := (HM7.out.keep hbr).cell i hlt
      obtain rfl : mx = ny := by rw [← (HRv.out i hlt).1]; exact hix.len.symm
      cases z
      · have hcl2 : Hid (false = true ↔ ∀ j, j < i + 1 → r < (wtL (addRow O y 1 (nthR R j)) : Int)) := ⟨fun h => absurd h (by decide), fun h => hcl.out.2 fun j hj => h j (by omega)⟩
        clear hix
        go_wp2_with fail
        go_roundw
        case rel => exact ⟨i + 1, false, by omega, rfl, by go_num, hcl2, hbr⟩
        case measure => simp [intOf] <;> omega
      · obtain ⟨Z, hZ⟩ : ∃ Z, addRow O y 1 (nthR R i) = Z := ⟨_, rfl⟩
        obtain ⟨t, ht⟩ : ∃ t : Int, (wtL Z : Int) = t := ⟨_, rfl⟩
        have hX : Hid (r < t ↔ ∀ j, j < i + 1 → r < (wtL (addRow O y 1 (nthR R j)) : Int)) := by
          refine ⟨fun h j hj => ?_, fun h => ?_⟩
          · by_cases e : j = i
            · subst e; rw [hZ, ht]; exact h
            · exact hcl.out.1 rfl j (by omega)
          · have := h i (by omega)
            rw [hZ, ht] at this; exact this
        have HW2 : Hid (∀ V a2 c2, Ints V a2 mx Z → Calls Tryz.prog 19 #[.slice a2 mx c2] V fun e w' => e = .returned (.int .i64 t) ∧ w' = V) := fun V a2 c2 hV => by
          rw [← ht]; exact rWeight25_any a2 mx c2 Z V hV
        have HA2 : Hid (∀ V, Below wr.heap.size wr V → Calls Tryz.prog 23 #[.agg #[.int .i64 P, .int .i64 M, .slice am mn cm], .slice ay mx cy, .int .i64 1, .slice bx mx cx] V fun e w' => ∃ a2 c2, e = .returned (.slice a2 mx c2) ∧ Ints w' a2 mx Z ∧ Below V.heap.size V w') := fun V hV => by
          rw [← hZ]
          exact HAd.out V bx cx _ (Below.next (Below.next HbW.out hBr) hV) (HRv.out i hlt) (hix.keep hV)
        have HS7 : Hid (∀ V, Below wr.heap.size wr V → V.cell? ⟨w.heap.size, 0, none⟩ = some (.int .i64 P) ∧ V.cell? ⟨w.heap.size, 1, none⟩ = some (.int .i64 M) ∧ V.cell? ⟨w.heap.size, 2, none⟩ = some (.slice am mn cm) ∧ V.cell? ⟨w.heap.size, 3, none⟩ = some (.int .i64 mx) ∧ V.cell? ⟨w.heap.size, 4, none⟩ = some (.slice a n c) ∧ Below wr.heap.size wr V) := fun V hV => by
          obtain ⟨q0, q1, q2, q3, q4⟩ := HS.out V (Below.next hBr hV)
          exact ⟨q0, q1, q2, q3, q4, hV⟩
        have e1 : ((mx : Int) != (mx : Int)) = false := by simp
        clear hZ ht hix
        by_cases hge : r < t
        · have hge' : decide (r < t) = true := by simpa using hge
          have HX := Lib.hid (hX.out.1 hge)
          clear hge
          go_wp2_with fail
          refine (HA2.out wr (Below.refl _ _)).mono ?_
          rintro e w8 ⟨a2, c2', rfl, hI8, hb8⟩
          have hb8w : Below wr.heap.size wr w8 := hb8
          clear c0 c1 c2 c3 c4
          go_wp2_with fail
          refine (HW2.out w8 a2 c2' hI8).mono ?_
          rintro e w9 ⟨rfl, rfl⟩
          all_goals (
            go_wp2_with fail
            go_roundw
            case rel => exact ⟨i + 1, true, by omega, rfl, by go_num, ⟨fun _ => HX.out, fun _ => rfl⟩, Below.next hbr hb8w⟩
            case measure => simp [intOf] <;> omega)
        · have hge' : decide (r < t) = false := by simpa using hge
          have hcl2 : Hid (false = true ↔ ∀ j, j < i + 1 → r < (wtL (addRow O y 1 (nthR R j)) : Int)) := ⟨fun h => absurd h (by decide), fun h => absurd (hX.out.2 h) hge⟩
          clear hge
          go_wp2_with fail
          refine (HA2.out wr (Below.refl _ _)).mono ?_
          rintro e w8 ⟨a2, c2', rfl, hI8, hb8⟩
          have hb8w : Below wr.heap.size wr w8 := hb8
          clear c0 c1 c2 c3 c4
          go_wp2_with fail
          refine (HW2.out w8 a2 c2' hI8).mono ?_
          rintro e w9 ⟨rfl, rfl⟩
          all_goals (
            go_wp2_with fail
            go_roundw
            case rel => exact ⟨i + 1, false, by omega, rfl, by go_num, hcl2, Below.next hbr hb8w⟩
            case measure => simp [intOf] <;> omega)
    · obtain rfl : i = NN := by omega
      have hbw := Below.next HbW.out hBr
      have HB := Lib.hid (HBc.out wr hbw)
      clear HBc HAd
      cases z
      · have hER : ER = 11 := Hlaw.out.1.resolve_left fun h0 => absurd (hcl.out.2 (Hlaw.out.2.1 h0)) (by decide)
        have hT0 := HT.out (by omega)
        subst hT0
        subst hER
        go_upto_region 18 with (go_at_call 24; refine HB.out.mono ?_; rintro e w8 ⟨av, nv, cv, R8, rfl, hO, hb8⟩)
        have hnv : nv = 0 := by have := hO.ll; simpa using this.symm
        subst hnv
        obtain ⟨W8, hW8⟩ : ∃ W8 : World, W8 = w8.alloc (.cells #[.slice av 0 cv] 37) := ⟨_, rfl⟩
        rw [← hW8]
        have hb88 : Below w8.heap.size w8 W8 := by rw [hW8]; exact below1 _ _
        have t8 : Box W8 w8.heap.size [.slice av 0 cv] := by rw [hW8]; exact Box.new _ _ _ rfl
        have d0 := t8.cell 0 rfl
        have hF := Below.next hbw (Below.next hb8 hb88)
        clear hW8 t8 c0 c1 c2 c3 c4
        go_wp2_with fail
        go_ret
        exact ⟨rfl, hF⟩
      · have hER : ER = 0 := Hlaw.out.2.2 (hcl.out.1 rfl)
        subst hER
        go_upto_region 18 with (go_at_call 24; refine HB.out.mono ?_; rintro e w8 ⟨av, nv, cv, R8, rfl, hO, hb8⟩)
        obtain ⟨W8, hW8⟩ : ∃ W8 : World, W8 = w8.alloc (.cells #[.slice av nv cv] 37) := ⟨_, rfl⟩
        rw [← hW8]
        have hb88 : Below w8.heap.size w8 W8 := by rw [hW8]; exact below1 _ _
        have t8 : Box W8 w8.heap.size [.slice av nv cv] := by rw [hW8]; exact Box.new _ _ _ rfl
        have d0 := t8.cell 0 rfl
        have hb78 := Below.next hb8 hb88
        have hM8 : Mat W8 av nv T := hO.mat.keep hb88
        have hF := Below.next hBr hb78
        clear hW8 t8 c0 c1 c2 c3 c4
        obtain ⟨c0, c1, c2, c3, c4⟩ := HS.out W8 hF
        have HFF := Lib.hid (Below.next HbW.out hF)
        have HC8 := Lib.hid (HCk.out (by first | exact rfl | trivial) W8 av nv cv HFF.out hM8)
        go_wp2_with (go_at_call 25; refine HC8.out.mono ?_; rintro e w9 ⟨rfl, hb9⟩)
        go_ret
        exact ⟨rfl, Below.next HFF.out hb9⟩

theorem exLawCompleteCoset_z (P M : Int) (am : Option Addr) (mn cm : Nat) (mod : List Int) (N : Int) (a : Option Addr) (n c : Nat) (L : List (List Int)) (ay : Option Addr) (ny cy : Nat) (y : List Int) (z : Int) (w : World)
    (hmod : Ints w am mn mod) (hi : Mat w a n L) (hy : Ints w ay ny y) (hz : 0 ≤ z ∧ z ≤ 255) :
    Calls Tryz.prog 4 #[.agg #[.int .i64 P, .int .i64 M, .slice am mn cm, .int .i64 N, .slice a n c], .slice ay ny cy, .int .u8 z] w fun e w' => e = .returned (.bool true) ∧ Below w.heap.size w w' := by
  obtain ⟨x, rfl⟩ : ∃ x : Nat, z = x := ⟨z.toNat, by omega⟩
  exact exLawCompleteCoset_any P M am mn cm mod N a n c L ay ny cy y x (by omega) w hmod hi hy
end

/- The walk of codewrightlaw48.alive. -/
section
open Go.RowKit
end

/- The arguments, opened: numbers, lists, lists of lists, codes. -/
section
open Go.ChangeShapes Go.WideShapes Go.ChangeAt Go.RowKit

theorem Tryz.own : ownKnob Tryz.prog.godebug = none := by kernel_rfl
theorem Tryz.laid : laidOutB Tryz.prog = true := by kernel_rfl

section
variable {H : Type} {enc : TypeId × Value → H} {W : World} {held : Bool} {fuel : Nat} {cs : List Value} {x : DataW H × List MemPlace}

theorem add_cell {a : Addr} {v : Value} {i : Nat} (h : W.cell? (a.add i) = some v) : W.cell? ⟨a.block, a.off + i, none⟩ = some v := by
  have hs := World.cell?_spot h
  obtain ⟨b, o, s⟩ := a
  by_cases h0 : i = 0
  · subst h0
    simp only [Addr.add, if_true] at hs h
    subst hs
    exact h
  · simpa [Addr.add, h0] using h
theorem plain_of {a : Addr} {v : Value} (h : W.cell? (a.add 0) = some v) : a = ⟨a.block, a.off, none⟩ := by
  have hs := World.cell?_spot h
  obtain ⟨b, o, s⟩ := a
  simp only [Addr.add, if_true] at hs
  subst hs
  rfl
theorem nth_take_getD (l : List Int) (n i : Nat) (h : i < n) : nth (l.take n) i = l.getD i 0 := by
  unfold nth
  simp only [List.getD_eq_getElem?_getD, List.getElem?_take]
  rw [if_pos h]

theorem opened_ints (h : DataW.trod enc Tryz.prog W 0 (fun _ => true) held fuel 22 cs = some x) : ∃ a n c l, cs = [.slice a n c] ∧ Ints W a n l := by
  rcases open_ints Tryz.underlying22 Tryz.underlying3 (by kernel_rfl) h with ⟨hcs, _⟩ | ⟨a, len, cap, zs, hcs, _, hl, hm, hz, _, hcell, _⟩
  · exact ⟨none, 0, 0, [], hcs, Ints.nil _ _⟩
  · simp only [if_true] at hz
    refine ⟨some a, len, cap, zs.take len, hcs, ⟨by simp; omega, fun h0 => ?_, by omega, fun i hi => ?_⟩⟩
    · exact congrArg some (plain_of (hcell 0 (by omega)))
    · rw [nth_take_getD _ _ _ hi]
      exact add_cell (hcell i (by omega))
theorem opened_mat (h : DataW.trod enc Tryz.prog W 0 (fun _ => true) held fuel 25 cs = some x) : ∃ a n c L, cs = [.slice a n c] ∧ Mat W a n L := by
  rcases Go.Deep.open_int_rows Tryz.underlying25 Tryz.underlying22 Tryz.underlying3 (by kernel_rfl) (by kernel_rfl) h with ⟨hcs, _⟩ | ⟨a, len, cap, A, Ln, C, Z, hcs, _, hl, hm, _, hrows⟩
  · exact ⟨none, 0, 0, [], hcs, ⟨rfl, fun h0 => by omega, by unfold maxLen; omega, fun i hi => by omega⟩⟩
  · refine ⟨some a, len, cap, (List.range len).map (fun r => (Z r).take (Ln r)), hcs, ⟨by simp, fun h0 => congrArg some (plain_of (hrows 0 (by omega)).1), by omega, fun r hr => ?_⟩⟩
    obtain ⟨h1, h2, h3, h4, _, h5, h6⟩ := hrows r (by omega)
    refine ⟨A r, Ln r, C r, add_cell h1, ?_⟩
    have e : nthR ((List.range len).map (fun r => (Z r).take (Ln r))) r = (Z r).take (Ln r) := by
      unfold nthR
      simp [List.getD_eq_getElem?_getD, List.getElem?_map, List.getElem?_range hr]
    rw [e]
    match hA : A r, h5, h6 with
    | none, h5, _ =>
      have h0 : Ln r = 0 := by have := h5 rfl; omega
      rw [h0]
      exact Ints.nil _ _
    | some b, _, h6 =>
      obtain ⟨_, h7⟩ := h6 b rfl
      exact ⟨by simp; omega, fun h0 => congrArg some (plain_of (h7 0 (by omega))), by omega, fun i hi => by
        rw [nth_take_getD _ _ _ hi]
        exact add_cell (h7 i (by omega))⟩
end

section
variable {H : Type} {enc : TypeId × Value → H} {W : World} {held : Bool} {b0 : Nat} {v : Value} {d : DataW H} {p : List MemPlace}

set_option maxRecDepth 100000 in
theorem arg_ints (hv : Value.okWide Tryz.prog W .any b0 22 v) (h : DataW.Trod enc Tryz.prog W 0 (fun _ => true) held 22 v d p) : ∃ a n c l, v = .slice a n c ∧ Ints W a n l := by
  obtain ⟨a, n, c, rfl⟩ := okWide_slice Tryz.underlying22 hv
  obtain ⟨fuel, hf⟩ := h
  obtain ⟨a', n', c', l, e, hi⟩ := opened_ints hf
  simp [Value.cells] at e
  obtain ⟨rfl, rfl, rfl⟩ := e
  exact ⟨_, _, _, l, rfl, hi⟩
set_option maxRecDepth 100000 in
theorem arg_code (hv : Value.okWide Tryz.prog W .any b0 27 v) (h : DataW.Trod enc Tryz.prog W 0 (fun _ => true) held 27 v d p) :
    ∃ (P M : Int) (am : Option Addr) (mn cm : Nat) (mod : List Int) (N : Int) (a : Option Addr) (n c : Nat) (L : List (List Int)), v = .agg #[.int .i64 P, .int .i64 M, .slice am mn cm, .int .i64 N, .slice a n c] ∧ Ints W am mn mod ∧ Mat W a n L := by
  obtain ⟨cs, rfl, hsz⟩ := okWide_struct Tryz.underlying27 hv
  rw [show Tryz.prog.cellsOf 27 = 5 by kernel_rfl] at hsz
  obtain ⟨l⟩ := cs
  match l, hsz with
  | [v0, v1, v2, v3, v4], _ =>
  obtain ⟨fuel, hf⟩ := h
  obtain ⟨xs, n0, _, _, _, hlen, hfs⟩ := DataW.trod_struct Tryz.underlying27 hf
  obtain ⟨y0, y1, y2, rfl⟩ : ∃ y0 y1 y2, xs = [y0, y1, y2] := by
    match xs, hlen with
    | [y0, y1, y2], _ => exact ⟨y0, y1, y2, rfl⟩
  have k24 : Tryz.prog.cellsOf 24 = 3 := by kernel_rfl
  have k3 : Tryz.prog.cellsOf 3 = 1 := by kernel_rfl
  have k22 : Tryz.prog.cellsOf 22 = 1 := by kernel_rfl
  have k25 : Tryz.prog.cellsOf 25 = 1 := by kernel_rfl
  have g0 : DataW.trod enc Tryz.prog W 0 (fun _ => true) held n0 24 [v0, v1, v2] = some y0 := by simpa [Value.cells, k24] using hfs 0 _ rfl
  have g1 : DataW.trod enc Tryz.prog W 0 (fun _ => true) held n0 3 [v3] = some y1 := by simpa [Value.cells, k3] using hfs 1 _ rfl
  have g2 : DataW.trod enc Tryz.prog W 0 (fun _ => true) held n0 25 [v4] = some y2 := by simpa [Value.cells, k25] using hfs 2 _ rfl
  obtain ⟨xs', n1, _, _, _, hlen', hfs'⟩ := DataW.trod_struct Tryz.underlying24 g0
  obtain ⟨z0, z1, z2, rfl⟩ : ∃ z0 z1 z2, xs' = [z0, z1, z2] := by
    match xs', hlen' with
    | [z0, z1, z2], _ => exact ⟨z0, z1, z2, rfl⟩
  have q0 : DataW.trod enc Tryz.prog W 0 (fun _ => true) held n1 3 [v0] = some z0 := by simpa [k3] using hfs' 0 _ rfl
  have q1 : DataW.trod enc Tryz.prog W 0 (fun _ => true) held n1 3 [v1] = some z1 := by simpa [k3] using hfs' 1 _ rfl
  have q2 : DataW.trod enc Tryz.prog W 0 (fun _ => true) held n1 22 [v2] = some z2 := by simpa [k22] using hfs' 2 _ rfl
  obtain ⟨P, eP, _, _⟩ := DataW.trod_int Tryz.underlying3 q0
  obtain ⟨M, eM, _, _⟩ := DataW.trod_int Tryz.underlying3 q1
  obtain ⟨N, eN, _, _⟩ := DataW.trod_int Tryz.underlying3 g1
  obtain ⟨am, mn, cm, mod, eI, hI⟩ := opened_ints q2
  obtain ⟨a, n, c, L, eL, hL⟩ := opened_mat g2
  simp at eP eM eN eI eL
  subst eP eM eN eI eL
  exact ⟨P, M, am, mn, cm, mod, N, a, n, c, L, rfl, hI, hL⟩
end
end

/- The arguments, opened: pairs of numbers, exclusions. -/
section
open Go.ChangeShapes Go.WideShapes Go.ChangeAt Go.RowKit

section
variable {H : Type} {enc : TypeId × Value → H} {W : World} {held : Bool} {fuel : Nat} {cs : List Value} {x : DataW H × List MemPlace}
end

section
variable {H : Type} {enc : TypeId × Value → H} {W : World} {held : Bool} {b0 : Nat} {v : Value} {d : DataW H} {p : List MemPlace}
end
end

end Go.Proofs.YtcflcogbpnmjeaaGreat
