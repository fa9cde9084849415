/- OrderingModular: the statement. -/
import Derived.Test.YtnielheglicbmaaC7
import Derived.Test.YtnielheglicbmaaRows
namespace Go.Proofs.Ytnielheglicbmaa
set_option linter.unusedVariables false
set_option linter.unusedSimpArgs false
set_option linter.unusedSectionVars false

/- The walk of OrderingModular. -/
section
open Go.RowKit

def bI (b : Bool) : Int := if b then 1 else 0
/-- the counts of the positions -/
def cnL (m : Nat) (F : Nat → Int) : List Int := (List.range m).map F
theorem cnL_length (m : Nat) (F : Nat → Int) : (cnL m F).length = m := by simp [cnL]
theorem nth_cnL {m : Nat} (F : Nat → Int) {i : Nat} (hi : i < m) : nth (cnL m F) i = F i := by
  rw [nth_getElem (by rw [cnL_length]; exact hi)]; simp [cnL]
theorem okSet_lt {N : Int} {l : List Int} (h : okSet N l = true) : ∀ k j, j < k → k < l.length → nth l j < nth l k
  | 0, j, hj, _ => by omega
  | k + 1, j, hj, hk => by
    have h1 := (okSet_at h hk).2.2 (by omega)
    rw [Nat.add_sub_cancel] at h1
    by_cases e : j = k
    · subst e; exact h1
    · exact Int.lt_trans (okSet_lt h k j (by omega) (by omega)) h1
theorem maskTo_fresh {n : Nat} {Q : List Int} (h : okSet n Q = true) (hn : n ≤ 64) {k : Nat} (hk : k < Q.length) : (maskTo Q k).testBit (nth Q k).toNat = false := by
  apply Classical.byContradiction
  intro h1
  have h2 : (maskTo Q k).testBit (nth Q k).toNat = true := by simpa using h1
  obtain ⟨j, hj, e⟩ := (maskTo_test k (fun j hj => by
    have h1 := okSet_at h (k := j) (by omega)
    have h2 := h1.1
    have h3 := h1.2.1
    omega) _).1 h2
  have h3 := okSet_lt h k j hj hk
  have h4 := (okSet_at h hk).1
  omega
/-- one count more -/
theorem cnL_step {n : Nat} {Q : List Int} (h : okSet n Q = true) (hn : n ≤ 64) (B : Nat → Int) {k z : Nat} (hk : k < Q.length) (hz : nth Q k = z) :
    (cnL n (fun p => B p + bI ((maskTo Q k).testBit p))).set z (B z + 1) = cnL n (fun p => B p + bI ((maskTo Q (k + 1)).testBit p)) ∧ nth (cnL n (fun p => B p + bI ((maskTo Q k).testBit p))) z = B z := by
  have hf := maskTo_fresh h hn hk
  rw [hz, Int.toNat_natCast] at hf
  have hzn : z < n := by have := (okSet_at h hk).2.1; omega
  refine ⟨nth_ext (by simp [cnL_length]) fun i hi => ?_, by rw [nth_cnL _ hzn, hf]; simp [bI]⟩
  rw [List.length_set, cnL_length] at hi
  rw [nth_set _ _ _ _ (by rw [cnL_length]; exact hzn), nth_cnL _ hi, nth_cnL _ hi]
  have e : (maskTo Q (k + 1)).testBit i = ((maskTo Q k).testBit i || decide (z = i)) := by
    rw [maskTo, Nat.testBit_or, Nat.testBit_two_pow, hz, Int.toNat_natCast]
  rw [e]
  by_cases h0 : i = z
  · subst h0
    rw [if_pos rfl]; simp [bI]
  · rw [if_neg h0]
    have : decide (z = i) = false := by simpa using fun e => h0 e.symm
    rw [this, Bool.or_false]

theorem own_some {w : World} {B : Nat} {e : TypeId} {a : Option Addr} {c n : Nat} {l : List Int} (h : w.ownsRow B e 1 (.slice a n c) n (l.map (Value.int .i64))) (hn : 0 < n) : a ≠ none := fun e => by
  have := (Ints.own h).1.pl hn
  rw [e] at this; cases this

set_option maxRecDepth 100000 in
set_option maxHeartbeats 4000000 in
theorem modular_any (P M : Int) (am : Option Addr) (mn cm : Nat) (mod : List Int) (N : Int) (a : Option Addr) (n c : Nat) (L : List (List Int)) (ao : Option Addr) (no co : Nat) (Q : List Int) (av : Option Addr) (nv cv : Nat) (T : List Int) (w : World)
    (hmod : Ints w am mn mod) (hi : Mat w a n L) (hq : Ints w ao no Q) (ht : Ints w av nv T) :
    Calls Try.prog 4 #[.agg #[.int .i64 P, .int .i64 M, .slice am mn cm, .int .i64 N, .slice a n c], .slice ao no co, .slice av nv cv] w fun e w' => e = .returned (.bool true) ∧ Below w.heap.size w w' := by
  have Hql := Lib.hid hq.len
  have hplq := hq.pl
  have hmq := hq.max
  have Htl := Lib.hid ht.len
  have hplt := ht.pl
  have hmt := ht.max
  unfold maxLen at hmq hmt
  go_enter Try.func4, Try.ntmps4
  go_wp2_with fail
  obtain ⟨W, hW⟩ : ∃ W : World, W = w.alloc (.cells #[.int .i64 P, .int .i64 M, .slice am mn cm, .int .i64 N, .slice a n c] 27) := ⟨_, rfl⟩
  rw [← hW]
  have hbW : Below w.heap.size w W := by rw [hW]; exact below1 _ _
  have x0 : Box W w.heap.size [.int .i64 P, .int .i64 M, .slice am mn cm, .int .i64 N, .slice a n c] := by rw [hW]; exact Box.new _ _ _ rfl
  clear hW
  refine (alive_any W).mono ?_
  rintro e w1 ⟨rfl, hb1⟩
  have hbw1 := Below.next hbW hb1
  have x1 := x0.keep hb1
  have hm1 := hmod.keep hbw1
  have hi1 := hi.keep hbw1
  have hq1 := hq.keep hbw1
  have ht1 := ht.keep hbw1
  have c0 := x1.cell 0 rfl
  have c1 := x1.cell 1 rfl
  have c2 := x1.cell 2 rfl
  have c3 := x1.cell 3 rfl
  have c4 := x1.cell 4 rfl
  clear x0 hb1 hmod hi hq ht
  go_wp2_with fail
  refine (rCodeCheck_any P M am mn cm mod N a n c L w1 hm1 hi1 fun h => hinv_all h).mono ?_
  rintro e w2 ⟨rfl, hb2⟩
  rw [rcodeE_eq]
  have hbw2 := Below.next hbw1 hb2
  have x2 := x1.keep hb2
  have hm2 := hm1.keep hb2
  have hi2 := hi1.keep hb2
  have hq2 := hq1.keep hb2
  have ht2 := ht1.keep hb2
  clear x1 hm1 hi1 hq1 ht1 c0 c1 c2 c3 c4 hb2 hbw1
  have c3 := x2.cell 3 rfl
  by_cases hE : codeE P M mod N L = 0
  · have HE := Lib.hid hE
    obtain ⟨m, rfl, hm1', hm64, _, _⟩ := codeE_fld hE
    have hL256 := (codeE_rws hE).choose_spec.2.2.2.1
    rw [hE]
    clear hE
    go_wp2_with fail
    refine (rIsSubset_any m ao no co Q w2 hq2).mono ?_
    rintro e w3 ⟨rfl, hd3⟩
    have hbw3 : Below w.heap.size w w3 := Below.next hbw2 hd3.below
    have x3 := x2.keep hd3.below
    have hm3 := hm2.keep hd3.below
    have hi3 := hi2.keep hd3.below
    have hq3 := hq2.keep hd3.below
    have ht3 := ht2.keep hd3.below
    clear x2 hm2 hi2 hq2 ht2 c3 hd3 hbw2
    have c3 := x3.cell 3 rfl
    by_cases hS : okSet m Q = true
    · have HS := Lib.hid hS
      rw [hS]
      clear hS
      go_wp2_with fail
      refine (rIsSubset_any m av nv cv T w3 ht3).mono ?_
      rintro e w4 ⟨rfl, hd4⟩
      have hbw4 : Below w.heap.size w w4 := Below.next hbw3 hd4.below
      have x4 := x3.keep hd4.below
      have hm4 := hm3.keep hd4.below
      have hi4 := hi3.keep hd4.below
      have hq4 := hq3.keep hd4.below
      have ht4 := ht3.keep hd4.below
      clear x3 hm3 hi3 hq3 ht3 c3 hd4 hbw3
      have c3 := x4.cell 3 rfl
      by_cases hT : okSet m T = true
      · have HT := Lib.hid hT
        rw [hT]
        clear hT
        have hmk := run_mk (P := Try.prog) 22 3 (.int .i64 0) 8 Try.underlying22 infoInt rfl m (by omega) (by omega)
        go_wp2_with fail
        have hown0 := own_mkArr w4 3 (.int .i64 0) m rfl (Nat.le_refl _) (by unfold maxLen; omega)
        have hb5 := below1 w4 (.cells (Array.replicate m (Value.int .i64 0)) 3)
        obtain ⟨B0, hB0⟩ : ∃ B : Nat → Int, B = fun _ => 0 := ⟨_, rfl⟩
        have hrow0 : List.replicate m (Value.int .i64 0) = (cnL m (fun p => B0 p + bI ((maskTo Q 0).testBit p))).map (Value.int .i64) := by
          refine List.ext_getElem (by simp [cnL]) fun i h1 h2 => ?_
          simp [cnL, hB0, maskTo, bI]
        obtain ⟨w5, hw5⟩ : ∃ w5 : World, w5 = w4.alloc (.cells (Array.replicate m (Value.int .i64 0)) 3) := ⟨_, rfl⟩
        rw [← hw5] at hown0 hb5 ⊢
        rw [hrow0] at hown0
        clear hw5 hmk hrow0
        obtain ⟨g, hg⟩ : ∃ g, g = w4.heap.size := ⟨_, rfl⟩
        rw [← hg] at hown0 ⊢
        generalize (some ⟨g, 0, none⟩ : Option Addr) = a7 at *
        have Hg := Lib.hid hg
        clear hg
        go_loopw [8] (fun iv wr => ∃ k : Nat, k ≤ no ∧ iv = .int .i64 k ∧ wr.ownsRow g 3 1 (.slice a7 m m) m ((cnL m (fun p => B0 p + bI ((maskTo Q k).testBit p))).map (Value.int .i64)) ∧ Below w4.heap.size w4 wr)
          (fun iv _ => no - (intOf iv).toNat)
        case atStart => exact ⟨0, Nat.zero_le _, rfl, hown0, hb5⟩
        case round =>
          obtain ⟨k, hk, rfl, hop, hbr⟩ := hrel
          have hqr := hq4.keep hbr
          by_cases hlt : k < no
          · have cq := hqr.cell k hlt
            have hbd := okSet_at HS.out (k := k) (by rw [Hql.out]; exact hlt)
            obtain ⟨z, hz⟩ : ∃ z : Nat, nth Q k = z := ⟨(nth Q k).toNat, by have := hbd.1; omega⟩
            have hzm : z < m := by have := hbd.2.1; omega
            obtain ⟨hst1, hst2⟩ := cnL_step HS.out hm64 B0 (by rw [Hql.out]; exact hlt) hz
            have ho := Ints.own hop
            have hpl7 := ho.1.pl
            have ct := ho.1.cell z hzm
            have ft := (ho.2 (by omega)).2 z hzm
            rw [hst2] at ct
            rw [hz] at cq
            have Hst := Lib.hid hst1
            clear hst1 hst2 hbd ho
            have r1 : IntKind.i64.wrap (B0 z + 1) = B0 z + 1 := by rw [hB0]; rfl
            have Hlo : Hid (a7 ≠ none → g ≤ ablk a7) := fun hn => (own_ne hop hn).1
            have HB0 := Lib.hid hB0
            clear hB0
            go_wp2_with fail
            go_roundw
            case rel =>
              refine ⟨k + 1, by omega, by go_num, ?_, hbr.setCell (p := ⟨ablk a7, aoff a7 + z, none⟩) (by rw [← Hg.out]; exact Hlo.out (by rw [hpl7 (by omega)]; exact fun h => by cases h)) _⟩
              have h1 := own_set hop z hzm (.int .i64 (B0 z + 1))
              rw [← List.map_set, Hst.out] at h1
              exact h1
            case measure => simp [intOf] <;> omega
          · obtain rfl : k = no := by omega
            obtain ⟨B1, hB1⟩ : ∃ B : Nat → Int, B = fun p => B0 p + bI ((maskTo Q k).testBit p) := ⟨_, rfl⟩
            have hrow1 : cnL m (fun p => B0 p + bI ((maskTo Q k).testBit p)) = cnL m (fun p => B1 p + bI ((maskTo T 0).testBit p)) := by
              rw [hB1]; congr 1; funext p; simp [maskTo, bI]
            have hb1' : ∀ p, 0 ≤ B1 p ∧ B1 p ≤ 1 := fun p => by rw [hB1, hB0]; unfold bI; simp only; split <;> omega
            have Hb1 := Lib.hid hb1'
            rw [hrow1] at hop
            clear hrow1 hown0 hb5 hlt hb1' hqr
            have HB1 := Lib.hid hB1
            have HB0 := Lib.hid hB0
            clear hB1 hB0
            go_wp2_with fail
            go_loopw [9] (fun iv wr => ∃ j : Nat, j ≤ nv ∧ iv = .int .i64 j ∧ wr.ownsRow g 3 1 (.slice a7 m m) m ((cnL m (fun p => B1 p + bI ((maskTo T j).testBit p))).map (Value.int .i64)) ∧ Below w4.heap.size w4 wr)
              (fun iv _ => nv - (intOf iv).toNat)
            case atStart => exact ⟨0, Nat.zero_le _, rfl, hop, hbr⟩
            case round =>
              clear hop hbr
              obtain ⟨j, hj, rfl, hop, hbr⟩ := hrel
              have htr := ht4.keep hbr
              by_cases hlt : j < nv
              · have cq := htr.cell j hlt
                have hbd := okSet_at HT.out (k := j) (by rw [Htl.out]; exact hlt)
                obtain ⟨z, hz⟩ : ∃ z : Nat, nth T j = z := ⟨(nth T j).toNat, by have := hbd.1; omega⟩
                have hzm : z < m := by have := hbd.2.1; omega
                obtain ⟨hst1, hst2⟩ := cnL_step HT.out hm64 B1 (by rw [Htl.out]; exact hlt) hz
                have ho := Ints.own hop
                have hpl7 := ho.1.pl
                have ct := ho.1.cell z hzm
                have ft := (ho.2 (by omega)).2 z hzm
                rw [hst2] at ct
                rw [hz] at cq
                have Hst := Lib.hid hst1
                have hbz := Hb1.out z
                have r1 : IntKind.i64.wrap (B1 z + 1) = B1 z + 1 := IntWalk.i64_in _ (by omega)
                clear hst1 hst2 hbd ho hbz
                have Hlo : Hid (a7 ≠ none → g ≤ ablk a7) := fun hn => (own_ne hop hn).1
                go_wp2_with fail
                go_roundw
                case rel =>
                  refine ⟨j + 1, by omega, by go_num, ?_, hbr.setCell (p := ⟨ablk a7, aoff a7 + z, none⟩) (by rw [← Hg.out]; exact Hlo.out (by rw [hpl7 (by omega)]; exact fun h => by cases h)) _⟩
                  have h1 := own_set hop z hzm (.int .i64 (B1 z + 1))
                  rw [← List.map_set, Hst.out] at h1
                  exact h1
                case measure => simp [intOf] <;> omega
              · obtain rfl : j = nv := by omega
                obtain ⟨X, hX⟩ : ∃ X, X = maskS Q ||| maskS T := ⟨_, rfl⟩
                obtain ⟨Y, hY⟩ : ∃ Y, Y = maskS Q &&& maskS T := ⟨_, rfl⟩
                have hC : ∀ p, decide (0 < B1 p + bI ((maskTo T j).testBit p)) = X.testBit p ∧ decide (1 < B1 p + bI ((maskTo T j).testBit p)) = Y.testBit p := fun p => by
                  have e1 : maskTo T j = maskS T := by rw [maskS, Htl.out]
                  have e2 : maskTo Q k = maskS Q := by rw [maskS, Hql.out]
                  rw [HB1.out, HB0.out, e1, e2, hX, hY, Nat.testBit_or, Nat.testBit_and]
                  show decide (0 < 0 + bI ((maskS Q).testBit p) + bI ((maskS T).testBit p)) = _ ∧ decide (1 < 0 + bI ((maskS Q).testBit p) + bI ((maskS T).testBit p)) = _
                  generalize (maskS Q).testBit p = q1
                  generalize (maskS T).testBit p = q2
                  cases q1 <;> cases q2 <;> simp [bI]
                obtain ⟨C, hCd⟩ : ∃ C : Nat → Int, C = fun p => B1 p + bI ((maskTo T j).testBit p) := ⟨_, rfl⟩
                have HC : Hid (∀ p, decide (0 < C p) = X.testBit p ∧ decide (1 < C p) = Y.testBit p) := by rw [hCd]; exact hC
                rw [← hCd] at hop
                have HX := Lib.hid hX
                have HY := Lib.hid hY
                have hR := (Ints.own hop).1
                have hbwr := Below.next hbw4 hbr
                have xr := x4.keep hbr
                have hmr := hm4.keep hbr
                have hir := hi4.keep hbr
                have hqr := hq4.keep hbr
                clear hC hCd hX hY hop Hb1 HB1 HB0 x4 hm4 hi4 hq4 ht4 hbr hbw4 hlt c3 hbW
                generalize wr = V0 at *
                go_wp2_with fail
                go_loopw [10, 11, 12] (fun sv bv iv wr => ∃ (p : Nat) (a1 : Option Addr) (c1 : Nat) (a2 : Option Addr) (c2 : Nat), p ≤ m ∧ iv = .int .i64 p ∧ sv = .slice a1 (bitsTo X p).length c1 ∧ bv = .slice a2 (bitsTo Y p).length c2 ∧
                    wr.ownsRow V0.heap.size 3 1 (.slice a1 (bitsTo X p).length c1) (bitsTo X p).length ((bitsTo X p).map (Value.int .i64)) ∧ wr.ownsRow V0.heap.size 3 1 (.slice a2 (bitsTo Y p).length c2) (bitsTo Y p).length ((bitsTo Y p).map (Value.int .i64)) ∧
                    a1 ≠ none ∧ a2 ≠ none ∧ ablk a1 ≠ ablk a2 ∧ Below V0.heap.size V0 wr)
                  (fun _ _ iv _ => m - (intOf iv).toNat)
                case atStart =>
                  have g1 := own_mk V0 3 (.int .i64 0) 0 (Nat.le_refl _) (by unfold maxLen; omega)
                  have g2 := own_mk (V0.alloc (.cells #[] 3)) 3 (.int .i64 0) 0 (B := V0.heap.size) (by simp) (by unfold maxLen; omega)
                  refine ⟨0, _, _, _, _, Nat.zero_le _, rfl, rfl, rfl, by simpa [bitsTo] using g1.alloc _, by simpa [bitsTo] using g2, (fun h => by cases h), (fun h => by cases h), by simp, below2 _ _ _⟩
                case round =>
                  obtain ⟨p, a1, c1, a2, c2, hp, rfl, rfl, rfl, ho1, ho2, hn1, hn2, hd, hbr⟩ := hrel
                  have hl1 := bitsTo_len X p
                  have hl2 := bitsTo_len Y p
                  have xR := xr.keep hbr
                  have c3 := xR.cell 3 rfl
                  by_cases hlt : p < m
                  · have cp := (hR.keep hbr).cell p hlt
                    rw [nth_cnL _ hlt] at cp
                    obtain ⟨z, hz⟩ : ∃ z, C p = z := ⟨_, rfl⟩
                    have hC := HC.out p
                    rw [hz] at cp hC
                    obtain ⟨d1, d2⟩ := hC
                    have hplR := hR.pl
                    have hsz := hbr.size
                    have hpush : ∀ (x : Nat) (a : Option Addr) (c : Nat) (V : World), V.ownsRow V0.heap.size 3 1 (.slice a (bitsTo x p).length c) (bitsTo x p).length ((bitsTo x p).map (Value.int .i64)) → x.testBit p = false →
                        V.ownsRow V0.heap.size 3 1 (.slice a (bitsTo x (p + 1)).length c) (bitsTo x (p + 1)).length ((bitsTo x (p + 1)).map (Value.int .i64)) ∧ (bitsTo x (p + 1)).length = (bitsTo x p).length := fun x a c V h hx => by
                      have e : bitsTo x (p + 1) = bitsTo x p := by rw [bitsTo, hx]; rfl
                      rw [e]; exact ⟨h, rfl⟩
                    have hcn := cell_new wr (.int .i64 p) 3
                    have hbn := below1 wr (.cells #[.int .i64 p] 3)
                    by_cases hx : X.testBit p = true
                    · have hb : Hid (bitsTo X (p + 1) = bitsTo X p ++ [(p : Int)]) := by show _ = _; rw [bitsTo, if_pos hx]
                      rw [hx] at d1
                      obtain ⟨o1, ho1e⟩ : ∃ o, bitsTo X p = o := ⟨_, rfl⟩
                      rw [ho1e] at ho1 hb hl1 ⊢
                      clear ho1e hx
                      have hlt2 : ablk a2 < (wr.alloc (.cells #[.int .i64 p] 3)).heap.size := (own_ne (ho2.alloc _) hn2).2
                      have Hap2 : Hid (Apt a1 (ablk a2)) := .inr hd
                      by_cases hy : Y.testBit p = true
                      · have hby : Hid (bitsTo Y (p + 1) = bitsTo Y p ++ [(p : Int)]) := by show _ = _; rw [bitsTo, if_pos hy]
                        rw [hy] at d2
                        clear hpush hy
                        generalize bitsTo Y p = o2 at *
                        go_wp2_with (first
                          | (at_builtin; refine wpList_push rfl _ _ 22 3 rfl (.int .i64 0) 8 Try.underlying22 infoInt rfl V0.heap.size a1 o1.length c1 _ rfl (ho1.alloc _) ⟨wr.heap.size, 0, none⟩ 1 (.int .i64 p) rfl hcn rfl (by omega) (by unfold maxLen; omega) (by simp; omega) ?_; intro a5 c5 w5 hown5 hgr5 hap5; have hb5 : Below V0.heap.size V0 w5 := Below.app (Below.trans hbr (hbn.mono hsz)) (ho1.alloc _) hgr5 (Nat.le_refl _) (Nat.le_trans hsz hbn.size); have cp := (hR.keep hb5).cell p hlt; rw [nth_cnL _ hlt, hz] at cp; have ho25 := own_of (ho2.alloc (.cells #[.int .i64 p] 3)) (fun _ => hgr5.block (ablk a2) hlt2 (fun e => Hap2.out.own _ _ e.symm)); have hcn5 := cell_new w5 (.int .i64 p) 3; have hsz5 := hb5.size)
                          | (at_builtin; refine wpList_push rfl _ _ 22 3 rfl (.int .i64 0) 8 Try.underlying22 infoInt rfl V0.heap.size a2 o2.length c2 _ rfl (ho25.alloc _) ⟨w5.heap.size, 0, none⟩ 1 (.int .i64 p) rfl hcn5 rfl (by omega) (by unfold maxLen; omega) (by simp; omega) ?_; intro a6 c6 w6 hown6 hgr6 hap6))
                        go_roundw
                        case rel =>
                          have e1 : o1.map (Value.int .i64) ++ [.int .i64 p] = (bitsTo X (p + 1)).map (Value.int .i64) := by rw [hb.out]; simp
                          have e2 : o2.map (Value.int .i64) ++ [.int .i64 p] = (bitsTo Y (p + 1)).map (Value.int .i64) := by rw [hby.out]; simp
                          rw [e1] at hown5
                          rw [e2] at hown6
                          have k5 := own_some hown5 (by omega)
                          have k6 := own_some hown6 (by omega)
                          have j5 : ablk a5 ≠ ablk a2 := (hap5 _ hlt2 Hap2.out).resolve_left k5
                          have l5 : ablk a5 < (w5.alloc (.cells #[.int .i64 p] 3)).heap.size := (own_ne (hown5.alloc _) k5).2
                          have j6 : ablk a6 ≠ ablk a5 := (hap6 _ l5 (.inr j5.symm)).resolve_left k6
                          have hq5 : Apt a2 (ablk a5) := .inr j5.symm
                          have ho16 := own_of (hown5.alloc (.cells #[.int .i64 p] 3)) (fun _ => hgr6.block (ablk a5) l5 (fun e => hq5.own _ _ e.symm))
                          have hb6 : Below V0.heap.size V0 w6 := Below.app (Below.trans hb5 ((below1 w5 (.cells #[.int .i64 p] 3)).mono hb5.size)) (ho25.alloc _) hgr6 (Nat.le_refl _) (Nat.le_trans hb5.size (below1 w5 _).size)
                          exact ⟨p + 1, a5, c5, a6, c6, by omega, by go_num, by rw [hb.out]; simp, by rw [hby.out]; simp, by rw [hb.out]; rw [hb.out] at ho16; simpa using ho16, by rw [hby.out]; rw [hby.out] at hown6; simpa using hown6, k5, k6, j6.symm, hb6⟩
                        case measure => simp [intOf] <;> omega
                      · have hy' : Y.testBit p = false := by simpa using hy
                        rw [hy'] at d2
                        obtain ⟨ho2', hl2'⟩ := hpush Y a2 c2 wr ho2 hy'
                        have Hl2' := Lib.hid hl2'
                        clear hpush hy hy' hl2'
                        generalize bitsTo Y p = o2 at *
                        go_wp2_with (at_builtin; refine wpList_push rfl _ _ 22 3 rfl (.int .i64 0) 8 Try.underlying22 infoInt rfl V0.heap.size a1 o1.length c1 _ rfl (ho1.alloc _) ⟨wr.heap.size, 0, none⟩ 1 (.int .i64 p) rfl hcn rfl (by omega) (by unfold maxLen; omega) (by simp; omega) ?_; intro a5 c5 w5 hown5 hgr5 hap5; have hb5 : Below V0.heap.size V0 w5 := Below.app (Below.trans hbr (hbn.mono hsz)) (ho1.alloc _) hgr5 (Nat.le_refl _) (Nat.le_trans hsz hbn.size); have cp := (hR.keep hb5).cell p hlt; rw [nth_cnL _ hlt, hz] at cp)
                        go_roundw
                        case rel =>
                          have e1 : o1.map (Value.int .i64) ++ [.int .i64 p] = (bitsTo X (p + 1)).map (Value.int .i64) := by rw [hb.out]; simp
                          rw [e1] at hown5
                          have k5 := own_some hown5 (by omega)
                          have j5 : ablk a5 ≠ ablk a2 := (hap5 _ hlt2 Hap2.out).resolve_left k5
                          have ho25 := own_of (ho2'.alloc (.cells #[.int .i64 p] 3)) (fun _ => hgr5.block (ablk a2) hlt2 (fun e => Hap2.out.own _ _ e.symm))
                          exact ⟨p + 1, a5, c5, a2, c2, by omega, by go_num, by rw [hb.out]; simp, by rw [Hl2'.out], by rw [hb.out]; rw [hb.out] at hown5; simpa using hown5, ho25, k5, hn2, j5, hb5⟩
                        case measure => simp [intOf] <;> omega
                    · have hx' : X.testBit p = false := by simpa using hx
                      rw [hx'] at d1
                      have hz0 : ¬ 0 < z := by simpa using d1
                      have hy' : Y.testBit p = false := by rw [← d2]; simp; omega
                      rw [hy'] at d2
                      obtain ⟨ho1', hl1'⟩ := hpush X a1 c1 wr ho1 hx'
                      obtain ⟨ho2', hl2'⟩ := hpush Y a2 c2 wr ho2 hy'
                      have Hl1' := Lib.hid hl1'
                      have Hl2' := Lib.hid hl2'
                      clear hpush hx hx' hy' hl1' hl2' hz0
                      generalize bitsTo X p = o1 at *
                      generalize bitsTo Y p = o2 at *
                      go_wp2_with fail
                      go_roundw
                      case rel => exact ⟨p + 1, a1, c1, a2, c2, by omega, by go_num, by rw [Hl1'.out], by rw [Hl2'.out], ho1', ho2', hn1, hn2, hd, hbr⟩
                      case measure => simp [intOf] <;> omega
                  · obtain rfl : p = m := by omega
                    have hQR := hqr.keep hbr
                    have hTR := (htr.keep (Below.refl _ _)).keep hbr
                    have hI1 := (Ints.own ho1).1
                    have hI2 := (Ints.own ho2).1
                    have hmR := hmr.keep hbr
                    have hiR := hir.keep hbr
                    have hbwR := Below.next hbwr hbr
                    have hml := modular_law HE.out (maskS Q) (maskS T) (maskS (bitsTo X p)) (maskS (bitsTo Y p)) (fun i hi => by
                      rw [maskS_bits X p hm64, HX.out, Nat.testBit_or, Bool.or_eq_true]
                      exact ⟨fun h => h.2, fun h => ⟨hi, h⟩⟩) (fun i hi => by
                      rw [maskS_bits Y p hm64, HY.out, Nat.testBit_and, Bool.and_eq_true]
                      exact ⟨fun h => h.2, fun h => ⟨hi, h⟩⟩)
                    have b1 := dimS_bd (tblOf P M.toNat mod).ops L p (maskS Q)
                    have b2 := dimS_bd (tblOf P M.toNat mod).ops L p (maskS T)
                    have b3 := dimS_bd (tblOf P M.toNat mod).ops L p (maskS (bitsTo X p))
                    have b4 := dimS_bd (tblOf P M.toNat mod).ops L p (maskS (bitsTo Y p))
                    have Hx := Lib.hid (okSet_bits X p)
                    have Hy := Lib.hid (okSet_bits Y p)
                    have Hc : ∀ (a' : Option Addr) (n' c' : Nat) (R : List Int), Ints wr a' n' R → Hid (∀ V, Below wr.heap.size wr V → Calls Try.prog 11 #[.agg #[.int .i64 P, .int .i64 M, .slice am mn cm, .int .i64 p, .slice a n c], .slice a' n' c'] V (DimPost P M mod p L R V)) :=
                      fun a' n' c' R hR' V hV => ordDimension_any P M am mn cm mod p a n c L a' n' c' R V (hmR.keep hV) (hiR.keep hV) (hR'.keep hV)
                    have Hc1 := Hc ao k co Q hQR
                    have Hc2 := Hc av j cv T hTR
                    have Hc3 := Hc a1 _ c1 (bitsTo X p) hI1
                    have Hc4 := Hc a2 _ c2 (bitsTo Y p) hI2
                    clear Hc hQR hTR hI1 hI2 hmR hiR hqr htr hmr hir ho1 ho2 hn1 hn2 hd hR HX HY HC hl1 hl2 xr c3
                    generalize bitsTo X p = o1 at *
                    generalize bitsTo Y p = o2 at *
                    have c0 := xR.cell 0 rfl
                    have c1' := xR.cell 1 rfl
                    have c2' := xR.cell 2 rfl
                    have c3 := xR.cell 3 rfl
                    have c4 := xR.cell 4 rfl
                    go_wp2_with fail
                    refine (Hc1.out _ (Below.refl _ _)).mono ?_
                    rintro e v1 ⟨hv1, ⟨hE4, _⟩ | ⟨_, hE4, _⟩ | ⟨_, _, rfl⟩⟩
                    · exact absurd HE.out hE4
                    · rw [HS.out] at hE4; exact absurd hE4 (by decide)
                    have x1 := xR.keep hv1
                    clear c0 c1' c2' c3 c4 xR
                    have c0 := x1.cell 0 rfl
                    have c1' := x1.cell 1 rfl
                    have c2' := x1.cell 2 rfl
                    have c3 := x1.cell 3 rfl
                    have c4 := x1.cell 4 rfl
                    rw [Int.toNat_natCast]
                    generalize dimS (tblOf P M.toNat mod).ops L p (maskS Q) = y1 at *
                    go_wp2_with fail
                    refine (Hc2.out _ hv1).mono ?_
                    rintro e v2 ⟨hv2, ⟨hE4, _⟩ | ⟨_, hE4, _⟩ | ⟨_, _, rfl⟩⟩
                    · exact absurd HE.out hE4
                    · rw [HT.out] at hE4; exact absurd hE4 (by decide)
                    have hv12 := Below.next hv1 hv2
                    have x2 := x1.keep hv2
                    clear c0 c1' c2' c3 c4 x1
                    have c0 := x2.cell 0 rfl
                    have c1' := x2.cell 1 rfl
                    have c2' := x2.cell 2 rfl
                    have c3 := x2.cell 3 rfl
                    have c4 := x2.cell 4 rfl
                    rw [Int.toNat_natCast]
                    generalize dimS (tblOf P M.toNat mod).ops L p (maskS T) = y2 at *
                    go_wp2_with fail
                    refine (Hc3.out _ hv12).mono ?_
                    rintro e v3 ⟨hv3, ⟨hE4, _⟩ | ⟨_, hE4, _⟩ | ⟨_, _, rfl⟩⟩
                    · exact absurd HE.out hE4
                    · rw [Hx.out] at hE4; exact absurd hE4 (by decide)
                    have hv13 := Below.next hv12 hv3
                    have x3 := x2.keep hv3
                    clear c0 c1' c2' c3 c4 x2
                    have c0 := x3.cell 0 rfl
                    have c1' := x3.cell 1 rfl
                    have c2' := x3.cell 2 rfl
                    have c3 := x3.cell 3 rfl
                    have c4 := x3.cell 4 rfl
                    rw [Int.toNat_natCast]
                    generalize dimS (tblOf P M.toNat mod).ops L p (maskS o1) = y3 at *
                    go_wp2_with fail
                    refine (Hc4.out _ hv13).mono ?_
                    rintro e v4 ⟨hv4, ⟨hE4, _⟩ | ⟨_, hE4, _⟩ | ⟨_, _, rfl⟩⟩
                    · exact absurd HE.out hE4
                    · rw [Hy.out] at hE4; exact absurd hE4 (by decide)
                    have hF := Below.next hbwR (Below.next hv13 hv4)
                    clear c0 c1' c2' c3 c4 x3
                    rw [Int.toNat_natCast]
                    generalize dimS (tblOf P M.toNat mod).ops L p (maskS o2) = y4 at *
                    have r1 : IntKind.i64.wrap (y3 + y4) = y3 + y4 := IntWalk.i64_in _ (by omega)
                    have r2 : IntKind.i64.wrap (y1 + y2) = y1 + y2 := IntWalk.i64_in _ (by omega)
                    have g1 : decide (y3 + y4 ≤ y1 + y2) = true := by simp; omega
                    go_wp2_with fail
                    go_ret
                    exact ⟨rfl, hF⟩
      · have hT2 : okSet m T = false := by simpa using hT
        rw [hT2]
        clear hT hT2
        go_wp2_with fail
        go_ret
        exact ⟨rfl, hbw4⟩
    · have hS2 : okSet m Q = false := by simpa using hS
      rw [hS2]
      clear hS hS2
      go_wp2_with fail
      go_ret
      exact ⟨rfl, hbw3⟩
  · have hE2 : (codeE P M mod N L != 0) = true := by simpa using hE
    clear hE
    go_wp2_with fail
    go_ret
    exact ⟨rfl, hbw2⟩
end

/- OrderingModular: the statement. -/
section
open Go.ChangeShapes Go.WideShapes Go.ChangeAt Go.RowKit

set_option maxRecDepth 100000 in
theorem modular_lifted (os : Os) (started : os.Started) (H : Type) (enc : TypeId × Value → H) :
    ReturnsInHanded {} Try.checked os 4 .any (Rows.orderingModularSpec.pre6 enc Try.prog Try.f4 Rows.orderingModularRow.domain false) (Rows.orderingModularSpec.post enc Try.prog Try.f4 false true false false) := by
  refine returnsInHanded_of_change (C := Try.checked) Try.own started (by kernel_rfl) Try.func4
    (ChangeSpec.witness6 (enc := enc) (C := Try.checked) false ⟨#[], #[.agg #[.int .i64 0, .int .i64 0, .slice none 0 0, .int .i64 0, .slice none 0 0], .slice none 0 0, .slice none 0 0], []⟩ 8 (by kernel_rfl) (by kernel_rfl) (by kernel_rfl) (by kernel_rfl)) ?_
  intro W base args ds gs before hval0 hW hcnd _
  have hval : ∀ (j : Nat) t v, Try.f4.params[j]? = some t → args[j]? = some v → Value.okWide Try.prog W .any base t v := hval0
  have hW' := hW
  obtain ⟨p, q, hA0, hV, rfl, hfz, hnd⟩ := hW
  have hA : DataW.TrodAll enc Try.prog W 0 (fun _ => true) true Try.f4.params.toList args.toList ds p := hA0
  rw [Try.params4] at hA hval
  obtain ⟨v0, vs0, d0, ds0, p0, q0, hargs, rfl, rfl, h0, r0⟩ := trodAll_cons hA
  obtain ⟨v1, vs1, d1, ds1, p1, q1, rfl, rfl, rfl, h1, r1⟩ := trodAll_cons r0
  obtain ⟨v2, vs2, d2, ds2, p2, q2, rfl, rfl, rfl, h2, r2⟩ := trodAll_cons r1
  obtain ⟨rfl, rfl, rfl⟩ := trodAll_nil r2
  obtain rfl : args = #[v0, v1, v2] := by cases args; simp_all
  obtain ⟨rfl, rfl⟩ := trodVars_none hV
  have k0 := h0
  have k1 := h1
  have lt0 : ∀ x ∈ p0, x.block < W.heap.size := by obtain ⟨m, hm⟩ := k0; exact DataW.trod_lt m _ _ _ hm
  have lt1 : ∀ x ∈ p1, x.block < W.heap.size := by obtain ⟨m, hm⟩ := k1; exact DataW.trod_lt m _ _ _ hm
  have k2 := h2
  have lt2 : ∀ x ∈ p2, x.block < W.heap.size := by obtain ⟨m, hm⟩ := k2; exact DataW.trod_lt m _ _ _ hm
  obtain ⟨P, M, am, mn, cm, mod, N, a, n, c, L, rfl, hI, hM⟩ := arg_code (hval 0 _ v0 rfl rfl) h0
  obtain ⟨ao, no, co, Q, rfl, hQ⟩ := arg_ints (hval 1 _ v1 rfl rfl) h1
  obtain ⟨av, nv, cv, T, rfl, hT⟩ := arg_ints (hval 2 _ v2 rfl rfl) h2
  clear hA0 hval0
  refine (modular_any P M am mn cm mod N a n c L ao no co Q av nv cv T W hI hM hQ hT).mono fun e W' ⟨he, bel⟩ => ?_
  subst he
  exact ⟨_, rfl, _, _, _, [], _, [], hW', trodAll_mk1 (shut_bool Try.underlying4 _), (trodAll_cons_mk (Below.trod Try.laid (by kernel_rfl) (of_decide_eq_true (by kernel_rfl)) k0 bel lt0) (trodAll_cons_mk (Below.trod Try.laid (by kernel_rfl) (of_decide_eq_true (by kernel_rfl)) k1 bel lt1) (trodAll_cons_mk (Below.trod Try.laid (by kernel_rfl) (of_decide_eq_true (by kernel_rfl)) k2 bel lt2) trodAll_mk0))), rfl, bel.frame _, fun h => by cases h⟩

theorem modular_over : Rows.orderingModularRow.holds Try.pinned (OpenSpec.ofChange Rows.orderingModularSpec) :=
  OpenClaim.holds_of_wide 4 Try.f4 rfl rfl rfl rfl rfl rfl rfl ⟨rfl, rfl, rfl, rfl, rfl⟩ rfl rfl rfl rfl rfl (by kernel_rfl) Try.func4 (by kernel_rfl)
    (of_decide_eq_true (by kernel_rfl)) (by unfold Func.isWrapper; first | (rw [if_pos (by decide +kernel)]; kernel_rfl) | (rw [if_neg (by decide +kernel)]; exact ⟨rfl, rfl⟩))
    (fun os started H enc _ => modular_lifted os started H enc)

theorem modular_holds : Rows.OrderingModularSaid := modular_over
#print axioms modular_holds
end

end Go.Proofs.Ytnielheglicbmaa
