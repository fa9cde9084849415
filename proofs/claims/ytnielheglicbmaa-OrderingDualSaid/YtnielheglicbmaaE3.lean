/- Bits of small numbers, as the program takes them. -/
import Derived.Test.YtnielheglicbmaaC7
import Derived.Test.YtnielheglicbmaaE2
import Derived.Test.YtnielheglicbmaaE1
namespace Go.Proofs.Ytnielheglicbmaa
set_option linter.unusedVariables false
set_option linter.unusedSimpArgs false
set_option linter.unusedSectionVars false

/- The walk of OrderingModular. -/
section
open Go.RowKit

def bI (b : Bool) : Int := if b then 1 else 0
/-- the counts of the positions -/
def cnL (m : Nat) (F : Nat → Int) : List Int := (List.range m).map F
theorem cnL_length (m : Nat) (F : Nat → Int) : (cnL m F).length = m := by simp [cnL]
theorem nth_cnL {m : Nat} (F : Nat → Int) {i : Nat} (hi : i < m) : nth (cnL m F) i = F i := by
  rw [nth_getElem (by rw [cnL_length]; exact hi)]; simp [cnL]
theorem okSet_lt {N : Int} {l : List Int} (h : okSet N l = true) : ∀ k j, j < k → k < l.length → nth l j < nth l k
  | 0, j, hj, _ => by omega
  | k + 1, j, hj, hk => by
    have h1 := (okSet_at h hk).2.2 (by omega)
    rw [Nat.add_sub_cancel] at h1
    by_cases e : j = k
    · subst e; exact h1
    · exact Int.lt_trans (okSet_lt h k j (by omega) (by omega)) h1
theorem maskTo_fresh {n : Nat} {Q : List Int} (h : okSet n Q = true) (hn : n ≤ 64) {k : Nat} (hk : k < Q.length) : (maskTo Q k).testBit (nth Q k).toNat = false := by
  apply Classical.byContradiction
  intro h1
  have h2 : (maskTo Q k).testBit (nth Q k).toNat = true := by simpa using h1
  obtain ⟨j, hj, e⟩ := (maskTo_test k (fun j hj => by
    have h1 := okSet_at h (k := j) (by omega)
    have h2 := h1.1
    have h3 := h1.2.1
    omega) _).1 h2
  have h3 := okSet_lt h k j hj hk
  have h4 := (okSet_at h hk).1
  omega
/-- one count more -/
theorem cnL_step {n : Nat} {Q : List Int} (h : okSet n Q = true) (hn : n ≤ 64) (B : Nat → Int) {k z : Nat} (hk : k < Q.length) (hz : nth Q k = z) :
    (cnL n (fun p => B p + bI ((maskTo Q k).testBit p))).set z (B z + 1) = cnL n (fun p => B p + bI ((maskTo Q (k + 1)).testBit p)) ∧ nth (cnL n (fun p => B p + bI ((maskTo Q k).testBit p))) z = B z := by
  have hf := maskTo_fresh h hn hk
  rw [hz, Int.toNat_natCast] at hf
  have hzn : z < n := by have := (okSet_at h hk).2.1; omega
  refine ⟨nth_ext (by simp [cnL_length]) fun i hi => ?_, by rw [nth_cnL _ hzn, hf]; simp [bI]⟩
  rw [List.length_set, cnL_length] at hi
  rw [nth_set _ _ _ _ (by rw [cnL_length]; exact hzn), nth_cnL _ hi, nth_cnL _ hi]
  have e : (maskTo Q (k + 1)).testBit i = ((maskTo Q k).testBit i || decide (z = i)) := by
    rw [maskTo, Nat.testBit_or, Nat.testBit_two_pow, hz, Int.toNat_natCast]
  rw [e]
  by_cases h0 : i = z
  · subst h0
    rw [if_pos rfl]; simp [bI]
  · rw [if_neg h0]
    have : decide (z = i) = false := by simpa using fun e => h0 e.symm
    rw [this, Bool.or_false]

theorem own_some {w : World} {B : Nat} {e : TypeId} {a : Option Addr} {c n : Nat} {l : List Int} (h : w.ownsRow B e 1 (.slice a n c) n (l.map (Value.int .i64))) (hn : 0 < n) : a ≠ none := fun e => by
  have := (Ints.own h).1.pl hn
  rw [e] at this; cases this

set_option maxRecDepth 100000 in
set_option maxHeartbeats 4000000 in
theorem modular_any (P M : Int) (am : Option Addr) (mn cm : Nat) (mod : List Int) (N : Int) (a : Option Addr) (n c : Nat) (L : List (List Int)) (ao : Option Addr) (no co : Nat) (Q : List Int) (av : Option Addr) (nv cv : Nat) (T : List Int) (w : World)
    (hmod : Ints w am mn mod) (hi : Mat w a n L) (hq : Ints w ao no Q) (ht : Ints w av nv T) :
    Calls Try.prog 4 #[.agg #[.int .i64 P, .int .i64 M, .slice am mn cm, .int .i64 N, .slice a n c], .slice ao no co, .slice av nv cv] w fun e w' => e = .returned (.bool true) ∧ Below w.heap.size w w' := by
  have Hql := Lib.hid hq.len
  have hplq := hq.pl
  have hmq := hq.max
  have Htl := Lib.hid ht.len
  have hplt := ht.pl
  have hmt := ht.max
  unfold maxLen at hmq hmt
  go_enter Try.func4, Try.ntmps4
  go_wp2_with fail
  obtain ⟨W, hW⟩ : ∃ W : World, W = w.alloc (.cells #[.int .i64 P, .int .i64 M, .slice am mn cm, .int .i64 N, .slice a n c] 27) := ⟨_, rfl⟩
  rw [← hW]
  have hbW : Below w.heap.size w W := by rw [hW]; exact below1 _ _
  have x0 : Box W w.heap.size [.int .i64 P, .int .i64 M, .slice am mn cm, .int .i64 N, .slice a n c] := by rw [hW]; exact Box.new _ _ _ rfl
  clear hW
  refine (alive_any W).mono ?_
  rintro e w1 ⟨rfl, hb1⟩
  have hbw1 := Below.next hbW hb1
  have x1 := x0.keep hb1
  have hm1 := hmod.keep hbw1
  have hi1 := hi.keep hbw1
  have hq1 := hq.keep hbw1
  have ht1 := ht.keep hbw1
  have c0 := x1.cell 0 rfl
  have c1 := x1.cell 1 rfl
  have c2 := x1.cell 2 rfl
  have c3 := x1.cell 3 rfl
  have c4 := x1.cell 4 rfl
  clear x0 hb1 hmod hi hq ht
  go_wp2_with fail
  refine (rCodeCheck_any P M am mn cm mod N a n c L w1 hm1 hi1 fun h => hinv_all h).mono ?_
  rintro e w2 ⟨rfl, hb2⟩
  rw [rcodeE_eq]
  have hbw2 := Below.next hbw1 hb2
  have x2 := x1.keep hb2
  have hm2 := hm1.keep hb2
  have hi2 := hi1.keep hb2
  have hq2 := hq1.keep hb2
  have ht2 := ht1.keep hb2
  clear x1 hm1 hi1 hq1 ht1 c0 c1 c2 c3 c4 hb2 hbw1
  have c3 := x2.cell 3 rfl
  by_cases hE : codeE P M mod N L = 0
  · have HE := Lib.hid hE
    obtain ⟨m, rfl, hm1', hm64, _, _⟩ := codeE_fld hE
    have hL256 := (codeE_rws hE).choose_spec.2.2.2.1
    rw [hE]
    clear hE
    go_wp2_with fail
    refine (rIsSubset_any m ao no co Q w2 hq2).mono ?_
    rintro e w3 ⟨rfl, hd3⟩
    have hbw3 : Below w.heap.size w w3 := Below.next hbw2 hd3.below
    have x3 := x2.keep hd3.below
    have hm3 := hm2.keep hd3.below
    have hi3 := hi2.keep hd3.below
    have hq3 := hq2.keep hd3.below
    have ht3 := ht2.keep hd3.below
    clear x2 hm2 hi2 hq2 ht2 c3 hd3 hbw2
    have c3 := x3.cell 3 rfl
    by_cases hS : okSet m Q = true
    · have HS := Lib.hid hS
      rw [hS]
      clear hS
      go_wp2_with fail
      refine (rIsSubset_any m av nv cv T w3 ht3).mono ?_
      rintro e w4 ⟨rfl, hd4⟩
      have hbw4 : Below w.heap.size w w4 := Below.next hbw3 hd4.below
      have x4 := x3.keep hd4.below
      have hm4 := hm3.keep hd4.below
      have hi4 := hi3.keep hd4.below
      have hq4 := hq3.keep hd4.below
      have ht4 := ht3.keep hd4.below
      clear x3 hm3 hi3 hq3 ht3 c3 hd4 hbw3
      have c3 := x4.cell 3 rfl
      by_cases hT : okSet m T = true
      · have HT := Lib.hid hT
        rw [hT]
        clear hT
        have hmk := run_mk (P := Try.prog) 22 3 (.int .i64 0) 8 Try.underlying22 infoInt rfl m (by omega) (by omega)
        go_wp2_with fail
        have hown0 := own_mkArr w4 3 (.int .i64 0) m rfl (Nat.le_refl _) (by unfold maxLen; omega)
        have hb5 := below1 w4 (.cells (Array.replicate m (Value.int .i64 0)) 3)
        obtain ⟨B0, hB0⟩ : ∃ B : Nat → Int, B = fun _ => 0 := ⟨_, rfl⟩
        have hrow0 : List.replicate m (Value.int .i64 0) = (cnL m (fun p => B0 p + bI ((maskTo Q 0).testBit p))).map (Value.int .i64) := by
          refine List.ext_getElem (by simp [cnL]) fun i h1 h2 => ?_
          simp [cnL, hB0, maskTo, bI]
        obtain ⟨w5, hw5⟩ : ∃ w5 : World, w5 = w4.alloc (.cells (Array.replicate m (Value.int .i64 0)) 3) := ⟨_, rfl⟩
        rw [← hw5] at hown0 hb5 ⊢
        rw [hrow0] at hown0
        clear hw5 hmk hrow0
        obtain ⟨g, hg⟩ : ∃ g, g = w4.heap.size := ⟨_, rfl⟩
        rw [← hg] at hown0 ⊢
        generalize (some ⟨g, 0, none⟩ : Option Addr) = a7 at *
        have Hg := Lib.hid hg
        clear hg
        go_loopw [8] (fun iv wr => ∃ k : Nat, k ≤ no ∧ iv = .int .i64 k ∧ wr.ownsRow g 3 1 (.slice a7 m m) m ((cnL m (fun p => B0 p + bI ((maskTo Q k).testBit p))).map (Value.int .i64)) ∧ Below w4.heap.size w4 wr)
          (fun iv _ => no - (intOf iv).toNat)
        case atStart => exact ⟨0, Nat.zero_le _, rfl, hown0, hb5⟩
        case round =>
          obtain ⟨k, hk, rfl, hop, hbr⟩ := hrel
          have hqr := hq4.keep hbr
          by_cases hlt : k < no
          · have cq := hqr.cell k hlt
            have hbd := okSet_at HS.out (k := k) (by rw [Hql.out]; exact hlt)
            obtain ⟨z, hz⟩ : ∃ z : Nat, nth Q k = z := ⟨(nth Q k).toNat, by have := hbd.1; omega⟩
            have hzm : z < m := by have := hbd.2.1; omega
            obtain ⟨hst1, hst2⟩ := cnL_step HS.out hm64 B0 (by rw [Hql.out]; exact hlt) hz
            have ho := Ints.own hop
            have hpl7 := ho.1.pl
            have ct := ho.1.cell z hzm
            have ft := (ho.2 (by omega)).2 z hzm
            rw [hst2] at ct
            rw [hz] at cq
            have Hst := Lib.hid hst1
            clear hst1 hst2 hbd ho
            have r1 : IntKind.i64.wrap (B0 z + 1) = B0 z + 1 := by rw [hB0]; rfl
            have Hlo : Hid (a7 ≠ none → g ≤ ablk a7) := fun hn => (own_ne hop hn).1
            have HB0 := Lib.hid hB0
            clear hB0
            go_wp2_with fail
            go_roundw
            case rel =>
              refine ⟨k + 1, by omega, by go_num, ?_, hbr.setCell (p := ⟨ablk a7, aoff a7 + z, none⟩) (by rw [← Hg.out]; exact Hlo.out (by rw [hpl7 (by omega)]; exact fun h => by cases h)) _⟩
              have h1 := own_set hop z hzm (.int .i64 (B0 z + 1))
              rw [← List.map_set, Hst.out] at h1
              exact h1
            case measure => simp [intOf] <;> omega
          · obtain rfl : k = no := by omega
            obtain ⟨B1, hB1⟩ : ∃ B : Nat → Int, B = fun p => B0 p + bI ((maskTo Q k).testBit p) := ⟨_, rfl⟩
            have hrow1 : cnL m (fun p => B0 p + bI ((maskTo Q k).testBit p)) = cnL m (fun p => B1 p + bI ((maskTo T 0).testBit p)) := by
              rw [hB1]; congr 1; funext p; simp [maskTo, bI]
            have hb1' : ∀ p, 0 ≤ B1 p ∧ B1 p ≤ 1 := fun p => by rw [hB1, hB0]; unfold bI; simp only; split <;> omega
            have Hb1 := Lib.hid hb1'
            rw [hrow1] at hop
            clear hrow1 hown0 hb5 hlt hb1' hqr
            have HB1 := Lib.hid hB1
            have HB0 := Lib.hid hB0
            clear hB1 hB0
            go_wp2_with fail
            go_loopw [9] (fun iv wr => ∃ j : Nat, j ≤ nv ∧ iv = .int .i64 j ∧ wr.ownsRow g 3 1 (.slice a7 m m) m ((cnL m (fun p => B1 p + bI ((maskTo T j).testBit p))).map (Value.int .i64)) ∧ Below w4.heap.size w4 wr)
              (fun iv _ => nv - (intOf iv).toNat)
            case atStart => exact ⟨0, Nat.zero_le _, rfl, hop, hbr⟩
            case round =>
              clear hop hbr
              obtain ⟨j, hj, rfl, hop, hbr⟩ := hrel
              have htr := ht4.keep hbr
              by_cases hlt : j < nv
              · have cq := htr.cell j hlt
                have hbd := okSet_at HT.out (k := j) (by rw [Htl.out]; exact hlt)
                obtain ⟨z, hz⟩ : ∃ z : Nat, nth T j = z := ⟨(nth T j).toNat, by have := hbd.1; omega⟩
                have hzm : z < m := by have := hbd.2.1; omega
                obtain ⟨hst1, hst2⟩ := cnL_step HT.out hm64 B1 (by rw [Htl.out]; exact hlt) hz
                have ho := Ints.own hop
                have hpl7 := ho.1.pl
                have ct := ho.1.cell z hzm
                have ft := (ho.2 (by omega)).2 z hzm
                rw [hst2] at ct
                rw [hz] at cq
                have Hst := Lib.hid hst1
                have hbz := Hb1.out z
                have r1 : IntKind.i64.wrap (B1 z + 1) = B1 z + 1 := IntWalk.i64_in _ (by omega)
                clear hst1 hst2 hbd ho hbz
                have Hlo : Hid (a7 ≠ none → g ≤ ablk a7) := fun hn => (own_ne hop hn).1
                go_wp2_with fail
                go_roundw
                case rel =>
                  refine ⟨j + 1, by omega, by go_num, ?_, hbr.setCell (p := ⟨ablk a7, aoff a7 + z, none⟩) (by rw [← Hg.out]; exact Hlo.out (by rw [hpl7 (by omega)]; exact fun h => by cases h)) _⟩
                  have h1 := own_set hop z hzm (.int .i64 (B1 z + 1))
                  rw [← List.map_set, Hst.out] at h1
                  exact h1
                case measure => simp [intOf] <;> omega
              · obtain rfl : j = nv := by omega
                obtain ⟨X, hX⟩ : ∃ X, X = maskS Q ||| maskS T := ⟨_, rfl⟩
                obtain ⟨Y, hY⟩ : ∃ Y, Y = maskS Q &&& maskS T := ⟨_, rfl⟩
                have hC : ∀ p, decide (0 < B1 p + bI ((maskTo T j).testBit p)) = X.testBit p ∧ decide (1 < B1 p + bI ((maskTo T j).testBit p)) = Y.testBit p := fun p => by
                  have e1 : maskTo T j = maskS T := by rw [maskS, Htl.out]
                  have e2 : maskTo Q k = maskS Q := by rw [maskS, Hql.out]
                  rw [HB1.out, HB0.out, e1, e2, hX, hY, Nat.testBit_or, Nat.testBit_and]
                  show decide (0 < 0 + bI ((maskS Q).testBit p) + bI ((maskS T).testBit p)) = _ ∧ decide (1 < 0 + bI ((maskS Q).testBit p) + bI ((maskS T).testBit p)) = _
                  generalize (maskS Q).testBit p = q1
                  generalize (maskS T).testBit p = q2
                  cases q1 <;> cases q2 <;> simp [bI]
                obtain ⟨C, hCd⟩ : ∃ C : Nat → Int, C = fun p => B1 p + bI ((maskTo T j).testBit p) := ⟨_, rfl⟩
                have HC : Hid (∀ p, decide (0 < C p) = X.testBit p ∧ decide (1 < C p) = Y.testBit p) := by rw [hCd]; exact hC
                rw [← hCd] at hop
                have HX := Lib.hid hX
                have HY := Lib.hid hY
                have hR := (Ints.own hop).1
                have hbwr := Below.next hbw4 hbr
                have xr := x4.keep hbr
                have hmr := hm4.keep hbr
                have hir := hi4.keep hbr
                have hqr := hq4.keep hbr
                clear hC hCd hX hY hop Hb1 HB1 HB0 x4 hm4 hi4 hq4 ht4 hbr hbw4 hlt c3 hbW
                generalize wr = V0 at *
                go_wp2_with fail
                go_loopw [10, 11, 12] (fun sv bv iv wr => ∃ (p : Nat) (a1 : Option Addr) (c1 : Nat) (a2 : Option Addr) (c2 : Nat), p ≤ m ∧ iv = .int .i64 p ∧ sv = .slice a1 (bitsTo X p).length c1 ∧ bv = .slice a2 (bitsTo Y p).length c2 ∧
                    wr.ownsRow V0.heap.size 3 1 (.slice a1 (bitsTo X p).length c1) (bitsTo X p).length ((bitsTo X p).map (Value.int .i64)) ∧ wr.ownsRow V0.heap.size 3 1 (.slice a2 (bitsTo Y p).length c2) (bitsTo Y p).length ((bitsTo Y p).map (Value.int .i64)) ∧
                    a1 ≠ none ∧ a2 ≠ none ∧ ablk a1 ≠ ablk a2 ∧ Below V0.heap.size V0 wr)
                  (fun _ _ iv _ => m - (intOf iv).toNat)
                case atStart =>
                  have g1 := own_mk V0 3 (.int .i64 0) 0 (Nat.le_refl _) (by unfold maxLen; omega)
                  have g2 := own_mk (V0.alloc (.cells #[] 3)) 3 (.int .i64 0) 0 (B := V0.heap.size) (by simp) (by unfold maxLen; omega)
                  refine ⟨0, _, _, _, _, Nat.zero_le _, rfl, rfl, rfl, by simpa [bitsTo] using g1.alloc _, by simpa [bitsTo] using g2, (fun h => by cases h), (fun h => by cases h), by simp, below2 _ _ _⟩
                case round =>
                  obtain ⟨p, a1, c1, a2, c2, hp, rfl, rfl, rfl, ho1, ho2, hn1, hn2, hd, hbr⟩ := hrel
                  have hl1 := bitsTo_len X p
                  have hl2 := bitsTo_len Y p
                  have xR := xr.keep hbr
                  have c3 := xR.cell 3 rfl
                  by_cases hlt : p < m
                  · have cp := (hR.keep hbr).cell p hlt
                    rw [nth_cnL _ hlt] at cp
                    obtain ⟨z, hz⟩ : ∃ z, C p = z := ⟨_, rfl⟩
                    have hC := HC.out p
                    rw [hz] at cp hC
                    obtain ⟨d1, d2⟩ := hC
                    have hplR := hR.pl
                    have hsz := hbr.size
                    have hpush : ∀ (x : Nat) (a : Option Addr) (c : Nat) (V : World), V.ownsRow V0.heap.size 3 1 (.slice a (bitsTo x p).length c) (bitsTo x p).length ((bitsTo x p).map (Value.int .i64)) → x.testBit p = false →
                        V.ownsRow V0.heap.size 3 1 (.slice a (bitsTo x (p + 1)).length c) (bitsTo x (p + 1)).length ((bitsTo x (p + 1)).map (Value.int .i64)) ∧ (bitsTo x (p + 1)).length = (bitsTo x p).length := fun x a c V h hx => by
                      have e : bitsTo x (p + 1) = bitsTo x p := by rw [bitsTo, hx]; rfl
                      rw [e]; exact ⟨h, rfl⟩
                    have hcn := cell_new wr (.int .i64 p) 3
                    have hbn := below1 wr (.cells #[.int .i64 p] 3)
                    by_cases hx : X.testBit p = true
                    · have hb : Hid (bitsTo X (p + 1) = bitsTo X p ++ [(p : Int)]) := by show _ = _; rw [bitsTo, if_pos hx]
                      rw [hx] at d1
                      obtain ⟨o1, ho1e⟩ : ∃ o, bitsTo X p = o := ⟨_, rfl⟩
                      rw [ho1e] at ho1 hb hl1 ⊢
                      clear ho1e hx
                      have hlt2 : ablk a2 < (wr.alloc (.cells #[.int .i64 p] 3)).heap.size := (own_ne (ho2.alloc _) hn2).2
                      have Hap2 : Hid (Apt a1 (ablk a2)) := .inr hd
                      by_cases hy : Y.testBit p = true
                      · have hby : Hid (bitsTo Y (p + 1) = bitsTo Y p ++ [(p : Int)]) := by show _ = _; rw [bitsTo, if_pos hy]
                        rw [hy] at d2
                        clear hpush hy
                        generalize bitsTo Y p = o2 at *
                        go_wp2_with (first
                          | (at_builtin; refine wpList_push rfl _ _ 22 3 rfl (.int .i64 0) 8 Try.underlying22 infoInt rfl V0.heap.size a1 o1.length c1 _ rfl (ho1.alloc _) ⟨wr.heap.size, 0, none⟩ 1 (.int .i64 p) rfl hcn rfl (by omega) (by unfold maxLen; omega) (by simp; omega) ?_; intro a5 c5 w5 hown5 hgr5 hap5; have hb5 : Below V0.heap.size V0 w5 := Below.app (Below.trans hbr (hbn.mono hsz)) (ho1.alloc _) hgr5 (Nat.le_refl _) (Nat.le_trans hsz hbn.size); have cp := (hR.keep hb5).cell p hlt; rw [nth_cnL _ hlt, hz] at cp; have ho25 := own_of (ho2.alloc (.cells #[.int .i64 p] 3)) (fun _ => hgr5.block (ablk a2) hlt2 (fun e => Hap2.out.own _ _ e.symm)); have hcn5 := cell_new w5 (.int .i64 p) 3; have hsz5 := hb5.size)
                          | (at_builtin; refine wpList_push rfl _ _ 22 3 rfl (.int .i64 0) 8 Try.underlying22 infoInt rfl V0.heap.size a2 o2.length c2 _ rfl (ho25.alloc _) ⟨w5.heap.size, 0, none⟩ 1 (.int .i64 p) rfl hcn5 rfl (by omega) (by unfold maxLen; omega) (by simp; omega) ?_; intro a6 c6 w6 hown6 hgr6 hap6))
                        go_roundw
                        case rel =>
                          have e1 : o1.map (Value.int .i64) ++ [.int .i64 p] = (bitsTo X (p + 1)).map (Value.int .i64) := by rw [hb.out]; simp
                          have e2 : o2.map (Value.int .i64) ++ [.int .i64 p] = (bitsTo Y (p + 1)).map (Value.int .i64) := by rw [hby.out]; simp
                          rw [e1] at hown5
                          rw [e2] at hown6
                          have k5 := own_some hown5 (by omega)
                          have k6 := own_some hown6 (by omega)
                          have j5 : ablk a5 ≠ ablk a2 := (hap5 _ hlt2 Hap2.out).resolve_left k5
                          have l5 : ablk a5 < (w5.alloc (.cells #[.int .i64 p] 3)).heap.size := (own_ne (hown5.alloc _) k5).2
                          have j6 : ablk a6 ≠ ablk a5 := (hap6 _ l5 (.inr j5.symm)).resolve_left k6
                          have hq5 : Apt a2 (ablk a5) := .inr j5.symm
                          have ho16 := own_of (hown5.alloc (.cells #[.int .i64 p] 3)) (fun _ => hgr6.block (ablk a5) l5 (fun e => hq5.own _ _ e.symm))
                          have hb6 : Below V0.heap.size V0 w6 := Below.app (Below.trans hb5 ((below1 w5 (.cells #[.int .i64 p] 3)).mono hb5.size)) (ho25.alloc _) hgr6 (Nat.le_refl _) (Nat.le_trans hb5.size (below1 w5 _).size)
                          exact ⟨p + 1, a5, c5, a6, c6, by omega, by go_num, by rw [hb.out]; simp, by rw [hby.out]; simp, by rw [hb.out]; rw [hb.out] at ho16; simpa using ho16, by rw [hby.out]; rw [hby.out] at hown6; simpa using hown6, k5, k6, j6.symm, hb6⟩
                        case measure => simp [intOf] <;> omega
                      · have hy' : Y.testBit p = false := by simpa using hy
                        rw [hy'] at d2
                        obtain ⟨ho2', hl2'⟩ := hpush Y a2 c2 wr ho2 hy'
                        have Hl2' := Lib.hid hl2'
                        clear hpush hy hy' hl2'
                        generalize bitsTo Y p = o2 at *
                        go_wp2_with (at_builtin; refine wpList_push rfl _ _ 22 3 rfl (.int .i64 0) 8 Try.underlying22 infoInt rfl V0.heap.size a1 o1.length c1 _ rfl (ho1.alloc _) ⟨wr.heap.size, 0, none⟩ 1 (.int .i64 p) rfl hcn rfl (by omega) (by unfold maxLen; omega) (by simp; omega) ?_; intro a5 c5 w5 hown5 hgr5 hap5; have hb5 : Below V0.heap.size V0 w5 := Below.app (Below.trans hbr (hbn.mono hsz)) (ho1.alloc _) hgr5 (Nat.le_refl _) (Nat.le_trans hsz hbn.size); have cp := (hR.keep hb5).cell p hlt; rw [nth_cnL _ hlt, hz] at cp)
                        go_roundw
                        case rel =>
                          have e1 : o1.map (Value.int .i64) ++ [.int .i64 p] = (bitsTo X (p + 1)).map (Value.int .i64) := by rw [hb.out]; simp
                          rw [e1] at hown5
                          have k5 := own_some hown5 (by omega)
                          have j5 : ablk a5 ≠ ablk a2 := (hap5 _ hlt2 Hap2.out).resolve_left k5
                          have ho25 := own_of (ho2'.alloc (.cells #[.int .i64 p] 3)) (fun _ => hgr5.block (ablk a2) hlt2 (fun e => Hap2.out.own _ _ e.symm))
                          exact ⟨p + 1, a5, c5, a2, c2, by omega, by go_num, by rw [hb.out]; simp, by rw [Hl2'.out], by rw [hb.out]; rw [hb.out] at hown5; simpa using hown5, ho25, k5, hn2, j5, hb5⟩
                        case measure => simp [intOf] <;> omega
                    · have hx' : X.testBit p = false := by simpa using hx
                      rw [hx'] at d1
                      have hz0 : ¬ 0 < z := by simpa using d1
                      have hy' : Y.testBit p = false := by rw [← d2]; simp; omega
                      rw [hy'] at d2
                      obtain ⟨ho1', hl1'⟩ := hpush X a1 c1 wr ho1 hx'
                      obtain ⟨ho2', hl2'⟩ := hpush Y a2 c2 wr ho2 hy'
                      have Hl1' := Lib.hid hl1'
                      have Hl2' := Lib.hid hl2'
                      clear hpush hx hx' hy' hl1' hl2' hz0
                      generalize bitsTo X p = o1 at *
                      generalize bitsTo Y p = o2 at *
                      go_wp2_with fail
                      go_roundw
                      case rel => exact ⟨p + 1, a1, c1, a2, c2, by omega, by go_num, by rw [Hl1'.out], by rw [Hl2'.out], ho1', ho2', hn1, hn2, hd, hbr⟩
                      case measure => simp [intOf] <;> omega
                  · obtain rfl : p = m := by omega
                    have hQR := hqr.keep hbr
                    have hTR := (htr.keep (Below.refl _ _)).keep hbr
                    have hI1 := (Ints.own ho1).1
                    have hI2 := (Ints.own ho2).1
                    have hmR := hmr.keep hbr
                    have hiR := hir.keep hbr
                    have hbwR := Below.next hbwr hbr
                    have hml := modular_law HE.out (maskS Q) (maskS T) (maskS (bitsTo X p)) (maskS (bitsTo Y p)) (fun i hi => by
                      rw [maskS_bits X p hm64, HX.out, Nat.testBit_or, Bool.or_eq_true]
                      exact ⟨fun h => h.2, fun h => ⟨hi, h⟩⟩) (fun i hi => by
                      rw [maskS_bits Y p hm64, HY.out, Nat.testBit_and, Bool.and_eq_true]
                      exact ⟨fun h => h.2, fun h => ⟨hi, h⟩⟩)
                    have b1 := dimS_bd (tblOf P M.toNat mod).ops L p (maskS Q)
                    have b2 := dimS_bd (tblOf P M.toNat mod).ops L p (maskS T)
                    have b3 := dimS_bd (tblOf P M.toNat mod).ops L p (maskS (bitsTo X p))
                    have b4 := dimS_bd (tblOf P M.toNat mod).ops L p (maskS (bitsTo Y p))
                    have Hx := Lib.hid (okSet_bits X p)
                    have Hy := Lib.hid (okSet_bits Y p)
                    have Hc : ∀ (a' : Option Addr) (n' c' : Nat) (R : List Int), Ints wr a' n' R → Hid (∀ V, Below wr.heap.size wr V → Calls Try.prog 11 #[.agg #[.int .i64 P, .int .i64 M, .slice am mn cm, .int .i64 p, .slice a n c], .slice a' n' c'] V (DimPost P M mod p L R V)) :=
                      fun a' n' c' R hR' V hV => ordDimension_any P M am mn cm mod p a n c L a' n' c' R V (hmR.keep hV) (hiR.keep hV) (hR'.keep hV)
                    have Hc1 := Hc ao k co Q hQR
                    have Hc2 := Hc av j cv T hTR
                    have Hc3 := Hc a1 _ c1 (bitsTo X p) hI1
                    have Hc4 := Hc a2 _ c2 (bitsTo Y p) hI2
                    clear Hc hQR hTR hI1 hI2 hmR hiR hqr htr hmr hir ho1 ho2 hn1 hn2 hd hR HX HY HC hl1 hl2 xr c3
                    generalize bitsTo X p = o1 at *
                    generalize bitsTo Y p = o2 at *
                    have c0 := xR.cell 0 rfl
                    have c1' := xR.cell 1 rfl
                    have c2' := xR.cell 2 rfl
                    have c3 := xR.cell 3 rfl
                    have c4 := xR.cell 4 rfl
                    go_wp2_with fail
                    refine (Hc1.out _ (Below.refl _ _)).mono ?_
                    rintro e v1 ⟨hv1, ⟨hE4, _⟩ | ⟨_, hE4, _⟩ | ⟨_, _, rfl⟩⟩
                    · exact absurd HE.out hE4
                    · rw [HS.out] at hE4; exact absurd hE4 (by decide)
                    have x1 := xR.keep hv1
                    clear c0 c1' c2' c3 c4 xR
                    have c0 := x1.cell 0 rfl
                    have c1' := x1.cell 1 rfl
                    have c2' := x1.cell 2 rfl
                    have c3 := x1.cell 3 rfl
                    have c4 := x1.cell 4 rfl
                    rw [Int.toNat_natCast]
                    generalize dimS (tblOf P M.toNat mod).ops L p (maskS Q) = y1 at *
                    go_wp2_with fail
                    refine (Hc2.out _ hv1).mono ?_
                    rintro e v2 ⟨hv2, ⟨hE4, _⟩ | ⟨_, hE4, _⟩ | ⟨_, _, rfl⟩⟩
                    · exact absurd HE.out hE4
                    · rw [HT.out] at hE4; exact absurd hE4 (by decide)
                    have hv12 := Below.next hv1 hv2
                    have x2 := x1.keep hv2
                    clear c0 c1' c2' c3 c4 x1
                    have c0 := x2.cell 0 rfl
                    have c1' := x2.cell 1 rfl
                    have c2' := x2.cell 2 rfl
                    have c3 := x2.cell 3 rfl
                    have c4 := x2.cell 4 rfl
                    rw [Int.toNat_natCast]
                    generalize dimS (tblOf P M.toNat mod).ops L p (maskS T) = y2 at *
                    go_wp2_with fail
                    refine (Hc3.out _ hv12).mono ?_
                    rintro e v3 ⟨hv3, ⟨hE4, _⟩ | ⟨_, hE4, _⟩ | ⟨_, _, rfl⟩⟩
                    · exact absurd HE.out hE4
                    · rw [Hx.out] at hE4; exact absurd hE4 (by decide)
                    have hv13 := Below.next hv12 hv3
                    have x3 := x2.keep hv3
                    clear c0 c1' c2' c3 c4 x2
                    have c0 := x3.cell 0 rfl
                    have c1' := x3.cell 1 rfl
                    have c2' := x3.cell 2 rfl
                    have c3 := x3.cell 3 rfl
                    have c4 := x3.cell 4 rfl
                    rw [Int.toNat_natCast]
                    generalize dimS (tblOf P M.toNat mod).ops L p (maskS o1) = y3 at *
                    go_wp2_with fail
                    refine (Hc4.out _ hv13).mono ?_
                    rintro e v4 ⟨hv4, ⟨hE4, _⟩ | ⟨_, hE4, _⟩ | ⟨_, _, rfl⟩⟩
                    · exact absurd HE.out hE4
                    · rw [Hy.out] at hE4; exact absurd hE4 (by decide)
                    have hF := Below.next hbwR (Below.next hv13 hv4)
                    clear c0 c1' c2' c3 c4 x3
                    rw [Int.toNat_natCast]
                    generalize dimS (tblOf P M.toNat mod).ops L p (maskS o2) = y4 at *
                    have r1 : IntKind.i64.wrap (y3 + y4) = y3 + y4 := IntWalk.i64_in _ (by omega)
                    have r2 : IntKind.i64.wrap (y1 + y2) = y1 + y2 := IntWalk.i64_in _ (by omega)
                    have g1 : decide (y3 + y4 ≤ y1 + y2) = true := by simp; omega
                    go_wp2_with fail
                    go_ret
                    exact ⟨rfl, hF⟩
      · have hT2 : okSet m T = false := by simpa using hT
        rw [hT2]
        clear hT hT2
        go_wp2_with fail
        go_ret
        exact ⟨rfl, hbw4⟩
    · have hS2 : okSet m Q = false := by simpa using hS
      rw [hS2]
      clear hS hS2
      go_wp2_with fail
      go_ret
      exact ⟨rfl, hbw3⟩
  · have hE2 : (codeE P M mod N L != 0) = true := by simpa using hE
    clear hE
    go_wp2_with fail
    go_ret
    exact ⟨rfl, hbw2⟩
end

/- Orders, widths and the table over all sets, as plain Lean functions. -/
section
/-- the first k entries are different positions below N -/
def ordTo (N : Int) (Q : List Int) : Nat → Bool
  | 0 => true
  | k + 1 => ordTo N Q k && (decide (0 ≤ nth Q k) && decide (nth Q k < N) && !(maskTo Q k).testBit (nth Q k).toNat)
def ordB (N : Int) (Q : List Int) : Bool := decide ((Q.length : Int) = N) && ordTo N Q Q.length
theorem ordTo_at {N : Int} {Q : List Int} : ∀ {k}, ordTo N Q k = true → ∀ j, j < k → 0 ≤ nth Q j ∧ nth Q j < N ∧ (maskTo Q j).testBit (nth Q j).toNat = false
  | 0, _, j, hj => by omega
  | k + 1, h, j, hj => by
    unfold ordTo at h
    simp only [Bool.and_eq_true, decide_eq_true_eq, Bool.not_eq_true'] at h
    by_cases e : j = k
    · subst e; exact ⟨h.2.1.1, h.2.1.2, h.2.2⟩
    · exact ordTo_at h.1 j (by omega)
theorem ordTo_le {N : Int} {Q : List Int} {k : Nat} (h : ordTo N Q k = true) : ∀ j, j ≤ k → ordTo N Q j = true := by
  induction k with
  | zero => intro j hj; obtain rfl : j = 0 := by omega
            exact h
  | succ k ih =>
    intro j hj
    by_cases e : j = k + 1
    · subst e; exact h
    · unfold ordTo at h
      simp only [Bool.and_eq_true] at h
      exact ih h.1 j (by omega)
theorem ordTo_bad {N : Int} {Q : List Int} {k j : Nat} (hj : j < k) (h : ¬ (0 ≤ nth Q j ∧ nth Q j < N ∧ (maskTo Q j).testBit (nth Q j).toNat = false)) : ordTo N Q k = false := by
  apply Classical.byContradiction
  intro hn
  exact h (ordTo_at (by simpa using hn) j hj)
theorem ordB_in {n : Nat} {Q : List Int} (h : ordB n Q = true) : InN n Q ∧ Q.length = n := by
  unfold ordB at h
  simp only [Bool.and_eq_true, decide_eq_true_eq] at h
  exact ⟨fun j hj => ⟨(ordTo_at h.2 j hj).1, (ordTo_at h.2 j hj).2.1⟩, by omega⟩

/-- the width of the first k positions -/
def wdTo (f : Nat → Int) (Q : List Int) : Nat → Int
  | 0 => 0
  | k + 1 => max (wdTo f Q k) (f (maskTo Q (k + 1)))
/-- the same, from the empty set on -/
def wrTo (f : Nat → Int) (Q : List Int) : Nat → Int
  | 0 => 0
  | k + 1 => max (wrTo f Q k) (f (maskTo Q k))
theorem wdTo_nn (f : Nat → Int) (Q : List Int) : ∀ k, 0 ≤ wdTo f Q k
  | 0 => Int.le_refl _
  | k + 1 => Int.le_trans (wdTo_nn f Q k) (Int.le_max_left _ _)
theorem wrTo_eq {f : Nat → Int} (h0 : f 0 ≤ 0) (Q : List Int) : ∀ k, wrTo f Q (k + 1) = wdTo f Q k
  | 0 => by
    show max 0 (f 0) = 0
    omega
  | k + 1 => by rw [wrTo, wrTo_eq h0 Q k]; rfl
theorem wdTo_le {f : Nat → Int} {b : Int} (hb : 0 ≤ b) (hf : ∀ y, f y ≤ b) (Q : List Int) : ∀ k, wdTo f Q k ≤ b
  | 0 => hb
  | k + 1 => Int.max_le.2 ⟨wdTo_le hb hf Q k, hf _⟩
theorem wdTo_ge (f : Nat → Int) (Q : List Int) : ∀ k j, j < k → f (maskTo Q (j + 1)) ≤ wdTo f Q k
  | 0, j, hj => by omega
  | k + 1, j, hj => by
    by_cases e : j = k
    · subst e; exact Int.le_max_right _ _
    · exact Int.le_trans (wdTo_ge f Q k j (by omega)) (Int.le_max_left _ _)
theorem maskTo_take (Q : List Int) (i : Nat) : ∀ k, k ≤ i → k ≤ Q.length → maskTo (Q.take i) k = maskTo Q k
  | 0, _, _ => rfl
  | k + 1, h1, h2 => by
    have e : nth (Q.take i) k = nth Q k := by unfold nth; simp only [List.getD_eq_getElem?_getD, List.getElem?_take]; rw [if_pos (by omega)]
    rw [maskTo, maskTo, maskTo_take Q i k (by omega) (by omega), e]
theorem maskS_take (Q : List Int) {i : Nat} (h : i ≤ Q.length) : maskS (Q.take i) = maskTo Q i := by
  unfold maskS
  rw [List.length_take, Nat.min_eq_left h]
  exact maskTo_take Q i i (Nat.le_refl _) h

/-- the least entry at a set with one of its positions below i removed -/
def leastTo (N : Nat) (T : List Int) (s : Nat) : Nat → Int
  | 0 => N
  | i + 1 => if s.testBit i = true then min (leastTo N T s i) (nth T (s - 2 ^ i)) else leastTo N T s i
def entT (f : Nat → Int) (N : Nat) (T : List Int) (s : Nat) : Int := if s = 0 then 0 else max (f s) (leastTo N T s N)
/-- the table's first k entries -/
def tabL (f : Nat → Int) (N : Nat) : Nat → List Int
  | 0 => []
  | k + 1 => tabL f N k ++ [entT f N (tabL f N k) k]
theorem tabL_len (f : Nat → Int) (N : Nat) : ∀ k, (tabL f N k).length = k
  | 0 => rfl
  | k + 1 => by rw [tabL, List.length_append, tabL_len f N k]; rfl
theorem nth_tabL (f : Nat → Int) (N : Nat) {s : Nat} : ∀ {k}, s < k → nth (tabL f N k) s = entT f N (tabL f N s) s
  | 0, h => by omega
  | k + 1, h => by
    rw [tabL, nth_push, tabL_len]
    by_cases e : s < k
    · rw [if_pos e]; exact nth_tabL f N e
    · obtain rfl : s = k := by omega
      rw [if_neg e, if_pos rfl]
theorem pow_le_test {s i : Nat} (h : s.testBit i = true) : 2 ^ i ≤ s := Nat.ge_two_pow_of_testBit h
theorem leastTo_congr {N : Nat} {T T' : List Int} {s : Nat} (h : ∀ j, j < s → nth T j = nth T' j) : ∀ i, leastTo N T s i = leastTo N T' s i
  | 0 => rfl
  | i + 1 => by
    rw [leastTo, leastTo, leastTo_congr h i]
    split
    · rename_i ht
      have := pow_le_test ht
      have := Nat.two_pow_pos i
      rw [h _ (by omega)]
    · rfl
theorem leastTo_bd {N : Nat} {T : List Int} {s : Nat} (h : ∀ j, j < s → 0 ≤ nth T j ∧ nth T j ≤ N) : ∀ i, 0 ≤ leastTo N T s i ∧ leastTo N T s i ≤ N
  | 0 => ⟨Int.natCast_nonneg _, Int.le_refl _⟩
  | i + 1 => by
    have ih := leastTo_bd h i
    rw [leastTo]
    split
    · rename_i ht
      have := pow_le_test ht
      have := Nat.two_pow_pos i
      have := h (s - 2 ^ i) (by omega)
      omega
    · exact ih
theorem tabL_bd {f : Nat → Int} {N : Nat} (hf : ∀ y, f y ≤ N) (k : Nat) : ∀ s, s < k → 0 ≤ nth (tabL f N k) s ∧ nth (tabL f N k) s ≤ N := by
  induction k with
  | zero => intro s hs; omega
  | succ k ih =>
    intro s hs
    rw [tabL, nth_push, tabL_len]
    by_cases e : s < k
    · rw [if_pos e]; exact ih s e
    · rw [if_neg e, if_pos (by omega)]
      unfold entT
      split
      · omega
      · have h1 := leastTo_bd (N := N) (T := tabL f N k) (s := k) ih N
        have h2 := hf k
        omega
/-- the reference's choice: -1 where none has been met -/
def refB (T : List Int) (s : Nat) : Nat → Int
  | 0 => -1
  | i + 1 => if s.testBit i = true then (if refB T s i < 0 ∨ nth T (s - 2 ^ i) < refB T s i then nth T (s - 2 ^ i) else refB T s i) else refB T s i
theorem refB_eq {N : Nat} {T : List Int} {s : Nat} (h : ∀ j, j < s → 0 ≤ nth T j ∧ nth T j ≤ N) : ∀ i, (refB T s i = -1 ∧ leastTo N T s i = N ∧ ∀ j, j < i → s.testBit j = false) ∨ (0 ≤ refB T s i ∧ refB T s i = leastTo N T s i)
  | 0 => .inl ⟨rfl, rfl, fun j hj => by omega⟩
  | i + 1 => by
    have ih := refB_eq h i
    rw [refB, leastTo]
    split
    · rename_i ht
      have := pow_le_test ht
      have := Nat.two_pow_pos i
      have hb := h (s - 2 ^ i) (by omega)
      refine .inr ?_
      rcases ih with ⟨h1, h2, _⟩ | ⟨h1, h2⟩
      · rw [h1, h2, if_pos (.inl (by omega))]
        omega
      · rw [← h2]
        split <;> omega
    · rename_i ht
      rcases ih with ⟨h1, h2, h3⟩ | h1
      · exact .inl ⟨h1, h2, fun j hj => by
          by_cases e : j = i
          · subst e; simpa using ht
          · exact h3 j (by omega)⟩
      · exact .inr h1
theorem test_lt {s N : Nat} (h : s < 2 ^ N) (h0 : ∀ j, j < N → s.testBit j = false) : s = 0 := by
  apply Nat.eq_of_testBit_eq
  intro j
  rw [Nat.zero_testBit]
  by_cases hj : j < N
  · exact h0 j hj
  · exact Nat.testBit_lt_two_pow (Nat.lt_of_lt_of_le h (Nat.pow_le_pow_right (by omega) (by omega)))
theorem refB_all {f : Nat → Int} {N : Nat} (hf : ∀ y, f y ≤ N) {s : Nat} (h0 : s ≠ 0) (hs : s < 2 ^ N) : refB (tabL f N s) s N = leastTo N (tabL f N s) s N := by
  rcases refB_eq (tabL_bd hf s) N with ⟨_, _, h⟩ | ⟨_, h⟩
  · exact absurd (test_lt hs h) h0
  · exact h

/-- the table is below the width of each order -/
theorem leastTo_le {N : Nat} {T : List Int} {s b : Nat} (hb : s.testBit b = true) : ∀ i, b < i → leastTo N T s i ≤ nth T (s - 2 ^ b)
  | 0, h => by omega
  | i + 1, h => by
    rw [leastTo]
    by_cases e : b = i
    · subst e
      rw [if_pos hb]; exact Int.min_le_right _ _
    · have ih := leastTo_le (N := N) (T := T) hb i (by omega)
      split
      · exact Int.le_trans (Int.min_le_left _ _) ih
      · exact ih
theorem or_add : ∀ (b x : Nat), x.testBit b = false → x ||| 2 ^ b = x + 2 ^ b
  | 0, x, h => by
    rw [Nat.testBit_zero, decide_eq_false_iff_not] at h
    have h1 : (x ||| 1) / 2 = x / 2 := by rw [Nat.or_div_two]; simp
    have h2 : (x ||| 1) % 2 = 1 := Nat.or_mod_two_eq_one.2 (.inr rfl)
    show x ||| 1 = x + 1
    omega
  | b + 1, x, h => by
    rw [Nat.testBit_succ] at h
    have ih := or_add b (x / 2) h
    have e : 2 ^ (b + 1) / 2 = 2 ^ b := by rw [Nat.pow_succ]; omega
    have h1 : (x ||| 2 ^ (b + 1)) / 2 = x / 2 + 2 ^ b := by rw [Nat.or_div_two, e, ih]
    have h2 : (x ||| 2 ^ (b + 1)) % 2 = 1 ↔ x % 2 = 1 := by
      rw [Nat.or_mod_two_eq_one]
      have : 2 ^ (b + 1) % 2 = 0 := by rw [Nat.pow_succ]; omega
      omega
    have h3 : 2 ^ (b + 1) = 2 * 2 ^ b := by rw [Nat.pow_succ]; omega
    omega
theorem or_sub {x b : Nat} (h : x.testBit b = false) : (x ||| 2 ^ b) - 2 ^ b = x ∧ (x ||| 2 ^ b).testBit b = true ∧ x < x ||| 2 ^ b := by
  have e := or_add b x h
  have := Nat.two_pow_pos b
  exact ⟨by omega, by rw [Nat.testBit_or, Nat.testBit_two_pow]; simp, by omega⟩

theorem maskTo_ltp {n : Nat} {Q : List Int} : ∀ k, (∀ j, j < k → 0 ≤ nth Q j ∧ nth Q j < n) → maskTo Q k < 2 ^ n
  | 0, _ => Nat.two_pow_pos n
  | k + 1, h => by
    have ih := maskTo_ltp k fun j hj => h j (by omega)
    have hk := h k (by omega)
    exact Nat.or_lt_two_pow ih (Nat.pow_lt_pow_right (by omega) (by omega))
/-- the table's entry at the first k positions is at most their width -/
theorem tab_le {f : Nat → Int} {N : Nat} {Q : List Int} (h : ordTo N Q Q.length = true) : ∀ k, k ≤ Q.length → nth (tabL f N (maskTo Q k + 1)) (maskTo Q k) ≤ wdTo f Q k
  | 0, _ => by
    show nth (tabL f N 1) 0 ≤ 0
    rw [nth_tabL f N (by omega)]
    exact Int.le_refl _
  | k + 1, hk => by
    have ih := tab_le (f := f) h k (by omega)
    obtain ⟨h1, h2, h3⟩ := ordTo_at h k (by omega)
    obtain ⟨e1, e2, e3⟩ := or_sub h3
    rw [nth_tabL f N (Nat.lt_succ_self _)] at ih ⊢
    rw [wdTo, maskTo]
    unfold entT
    rw [if_neg (by omega)]
    have h4 := leastTo_le (N := N) (T := tabL f N (maskTo Q k ||| 2 ^ (nth Q k).toNat)) e2 N (by omega)
    rw [e1, nth_tabL f N e3] at h4
    have h5 : wdTo f Q k ≤ max (wdTo f Q k) (f (maskTo Q k ||| 2 ^ (nth Q k).toNat)) := Int.le_max_left _ _
    have h6 : f (maskTo Q k ||| 2 ^ (nth Q k).toNat) ≤ max (wdTo f Q k) (f (maskTo Q k ||| 2 ^ (nth Q k).toNat)) := Int.le_max_right _ _
    exact Int.max_le.2 ⟨h6, by omega⟩

/-- the bits of an order, all of them -/
theorem bits_ord {N : Int} {Q : List Int} (hN : N ≤ 64) : ∀ {k}, ordTo N Q k = true → ∀ n : Nat, N = n → (bitsTo (maskTo Q k) n).length = k
  | 0, _, n, _ => by
    have : ∀ j, bitsTo 0 j = [] := fun j => by
      induction j with
      | zero => rfl
      | succ j ih => rw [bitsTo, if_neg (by simp), ih]
    show (bitsTo 0 n).length = 0
    rw [this]; rfl
  | k + 1, h, n, e => by
    obtain ⟨h1, h2, h3⟩ := ordTo_at h k (by omega)
    have ih := bits_ord hN (ordTo_le h k (by omega)) n e
    rw [maskTo, bits_more h3, ih, if_pos (by omega)]
theorem bits_all {x N : Nat} (hx : x < 2 ^ N) (h : (bitsTo x N).length = N) : x = 2 ^ N - 1 := by
  have hb : ∀ k, k ≤ N → (bitsTo x k).length = k → ∀ j, j < k → x.testBit j = true := by
    intro k
    induction k with
    | zero => intro _ _ j hj; omega
    | succ k ih =>
      intro hk hl j hj
      have h1 := bitsTo_len x k
      rw [bitsTo] at hl
      split at hl
      · rename_i ht
        rw [List.length_append, List.length_singleton] at hl
        by_cases e : j = k
        · subst e; exact ht
        · exact ih (by omega) (by omega) j (by omega)
      · omega
  apply Nat.eq_of_testBit_eq
  intro j
  rw [Nat.testBit_two_pow_sub_one]
  by_cases hj : j < N
  · rw [hb N (Nat.le_refl _) h j hj]; simp [hj]
  · rw [Nat.testBit_lt_two_pow (Nat.lt_of_lt_of_le hx (Nat.pow_le_pow_right (by omega) (by omega)))]; simp [hj]
/-- no order is below the table's last entry -/
theorem tab_sound {f : Nat → Int} {n : Nat} {Q : List Int} (hn : n ≤ 64) (h : ordB n Q = true) : nth (tabL f n (2 ^ n)) (2 ^ n - 1) ≤ wdTo f Q n := by
  have hl := (ordB_in h).2
  unfold ordB at h
  simp only [Bool.and_eq_true] at h
  have h1 := tab_le (f := f) h.2 Q.length (Nat.le_refl _)
  have h2 := bits_ord (by omega) h.2 n rfl
  rw [hl] at h1 h2
  have h3 := maskTo_ltp (n := n) (Q := Q) n fun j hj => ⟨(ordTo_at h.2 j (by omega)).1, (ordTo_at h.2 j (by omega)).2.1⟩
  have h4 := bits_all h3 h2
  rw [h4] at h1
  have := Nat.two_pow_pos n
  rwa [show 2 ^ n - 1 + 1 = 2 ^ n by omega] at h1
end

/- The walks of ordering.ordered, codewrightref48.IsOrder. -/
section
open Go.RowKit

def ordE (P M : Int) (mod : List Int) (N : Int) (L : List (List Int)) (Q : List Int) : Int :=
  if codeE P M mod N L = 0 then (if ordB N Q = true then 0 else 5) else codeE P M mod N L
theorem ordB_no {N : Int} {Q : List Int} {k : Nat} (hk : k < Q.length) (h : ¬ (0 ≤ nth Q k ∧ nth Q k < N ∧ (maskTo Q k).testBit (nth Q k).toNat = false)) : ordB N Q = false := by
  unfold ordB
  rw [ordTo_bad hk h, Bool.and_false]

set_option maxRecDepth 100000 in
set_option maxHeartbeats 4000000 in
theorem ordOrdered_any (P M : Int) (am : Option Addr) (mn cm : Nat) (mod : List Int) (N : Int) (a : Option Addr) (n c : Nat) (L : List (List Int)) (ao : Option Addr) (no co : Nat) (Q : List Int) (w : World)
    (hmod : Ints w am mn mod) (hi : Mat w a n L) (hq : Ints w ao no Q) :
    Calls Try.prog 35 #[.agg #[.int .i64 P, .int .i64 M, .slice am mn cm, .int .i64 N, .slice a n c], .slice ao no co] w fun e w' => e = .returned (.int .i64 (ordE P M mod N L Q)) ∧ Below w.heap.size w w' := by
  have Hql := Lib.hid hq.len
  have hplq := hq.pl
  have hmq := hq.max
  unfold maxLen at hmq
  go_enter Try.func35, Try.ntmps35
  go_wp2_with fail
  obtain ⟨W, hW⟩ : ∃ W : World, W = w.alloc (.cells #[.int .i64 P, .int .i64 M, .slice am mn cm, .int .i64 N, .slice a n c] 27) := ⟨_, rfl⟩
  rw [← hW]
  have hbW : Below w.heap.size w W := by rw [hW]; exact below1 _ _
  have x0 : Box W w.heap.size [.int .i64 P, .int .i64 M, .slice am mn cm, .int .i64 N, .slice a n c] := by rw [hW]; exact Box.new _ _ _ rfl
  clear hW
  refine (codeCheck_any P M am mn cm mod N a n c L W (hmod.keep hbW) (hi.keep hbW)).mono ?_
  rintro e w1 ⟨rfl, hb1⟩
  have hbw1 := Below.next hbW hb1
  have x1 := x0.keep hb1
  clear x0
  by_cases hE : codeE P M mod N L = 0
  · obtain ⟨m, rfl, hm1, hm64, _⟩ := codeE_fld hE
    have HB : Hid (ordE P M mod m L Q = if ordB m Q = true then 0 else 5) := by show _ = _; rw [ordE, if_pos hE]
    rw [hE]
    clear hE
    have hq1 := hq.keep hbw1
    have c3 := x1.cell 3 rfl
    by_cases hno : no = m
    · subst hno
      have hnn : ((no : Int) != no) = false := by simp
      go_wp2_with (at_make; refine wpList_mk rfl _ _ 55 4 rfl (.bool false) 1 Try.underlying55 infoBool rfl no rfl rfl (by omega) (by unfold maxLen; omega) ?_; intro a7 w2 hown hbel hge hlt)
      rw [bL_zero] at hown
      go_loopw [24] (fun iv wr => ∃ k : Nat, k ≤ no ∧ iv = .int .i64 k ∧ wr.ownsRow w1.heap.size 4 1 (.slice a7 no no) no ((bL no (maskTo Q k)).map Value.bool) ∧ Hid (ordTo no Q k = true) ∧ Below w1.heap.size w1 wr)
        (fun iv _ => no - (intOf iv).toNat)
      case atStart => exact ⟨0, Nat.zero_le _, rfl, hown, rfl, hbel⟩
      case round =>
        clear hown hbel c3
        obtain ⟨k, hk, rfl, hop, hok, hbr⟩ := hrel
        obtain ⟨hbl, hmine⟩ := Bools.own hop
        have hpl7 := hbl.pl
        have c3 := (x1.keep hbr).cell 3 rfl
        by_cases hlt : k < no
        · have cq := (hq1.keep hbr).cell k hlt
          have Hno : Hid (¬ (0 ≤ nth Q k ∧ nth Q k < no ∧ (maskTo Q k).testBit (nth Q k).toNat = false) → ordE P M mod no L Q = 5) := fun h => by
            rw [HB.out, ordB_no (by rw [Hql.out]; exact hlt) h]; rfl
          by_cases h0 : nth Q k < 0
          · have h0' : decide (nth Q k < 0) = true := by simpa using h0
            have Hf : Hid (ordE P M mod no L Q = 5) := Hno.out (by omega)
            clear h0 Hno
            go_wp2_with fail
            go_ret
            exact ⟨ret_int Hf.out.symm, Below.next hbw1 hbr⟩
          · have h0' : decide (nth Q k < 0) = false := by simpa using h0
            by_cases h1 : (no : Int) ≤ nth Q k
            · have h1' : decide ((no : Int) ≤ nth Q k) = true := by simpa using h1
              have Hf : Hid (ordE P M mod no L Q = 5) := Hno.out (by omega)
              clear h0 h1 Hno
              go_wp2_with fail
              go_ret
              exact ⟨ret_int Hf.out.symm, Below.next hbw1 hbr⟩
            · have h1' : decide ((no : Int) ≤ nth Q k) = false := by simpa using h1
              obtain ⟨z, hz⟩ : ∃ z : Nat, nth Q k = z := ⟨(nth Q k).toNat, by omega⟩
              have hzm : z < no := by omega
              have ct := hbl.cell z hzm
              rw [nthB_bL hzm] at ct
              have ft := (hmine (by omega)).2 z hzm
              have hB := (hmine (by omega)).1
              rw [hz] at cq h0' h1'
              by_cases ht : (maskTo Q k).testBit z = true
              · have Hf : Hid (ordE P M mod no L Q = 5) := Hno.out (by rw [hz, Int.toNat_natCast, ht]; simp)
                rw [ht] at ct
                clear h0 h1 Hno ht hz
                go_wp2_with fail
                go_ret
                exact ⟨ret_int Hf.out.symm, Below.next hbw1 hbr⟩
              · have ht' : (maskTo Q k).testBit z = false := by simpa using ht
                have Hst : Hid (maskTo Q (k + 1) = maskTo Q k ||| 2 ^ z) := by show _ = _; rw [maskTo, hz, Int.toNat_natCast]
                have Hok : Hid (ordTo no Q (k + 1) = true) := by
                  show _ = _
                  rw [ordTo, hok.out, hz, Int.toNat_natCast, ht']
                  simp; omega
                rw [ht'] at ct
                clear h0 h1 Hno ht ht' hz
                go_wp2_with fail
                go_roundw
                case rel =>
                  refine ⟨k + 1, by omega, by go_num, ?_, Hok.out, hbr.setCell hB _⟩
                  have h1 := own_set hop z hzm (.bool true)
                  rw [← List.map_set, bL_set, ← Hst.out] at h1
                  exact h1
                case measure => simp [intOf] <;> omega
        · obtain rfl : k = no := by omega
          have Hf : Hid (ordE P M mod k L Q = 0) := by show _ = _; rw [HB.out, ordB, Hql.out, hok.out]; simp
          go_wp2_with fail
          go_ret
          exact ⟨ret_int Hf.out.symm, Below.next hbw1 hbr⟩
    · have hnn : ((no : Int) != m) = true := by simp; omega
      have Hf : Hid (ordE P M mod m L Q = 5) := by
        show _ = _
        rw [HB.out, ordB, Hql.out, show decide ((no : Int) = m) = false by simp; omega]; rfl
      clear hno
      go_wp2_with fail
      go_ret
      exact ⟨ret_int Hf.out.symm, hbw1⟩
  · have Hf : Hid (ordE P M mod N L Q = codeE P M mod N L) := by show _ = _; rw [ordE, if_neg hE]
    have hE2 : (codeE P M mod N L != 0) = true := by simpa using hE
    clear hE
    go_wp2_with fail
    go_ret
    exact ⟨ret_int Hf.out.symm, hbw1⟩

set_option maxRecDepth 100000 in
set_option maxHeartbeats 4000000 in
theorem rIsOrder_any (m : Nat) (ao : Option Addr) (no co : Nat) (Q : List Int) (w : World) (hm1 : 1 ≤ m) (hm64 : m ≤ 64) (hq : Ints w ao no Q) :
    Calls Try.prog 39 #[.int .i64 m, .slice ao no co] w fun e w' => e = .returned (.bool (ordB m Q)) ∧ Below w.heap.size w w' := by
  have Hql := Lib.hid hq.len
  have hplq := hq.pl
  have hmq := hq.max
  unfold maxLen at hmq
  go_enter Try.func39, Try.ntmps39
  by_cases hno : no = m
  · subst hno
    have hnn : ((no : Int) != no) = false := by simp
    go_wp2_with (at_make; refine wpList_mk rfl _ _ 55 4 rfl (.bool false) 1 Try.underlying55 infoBool rfl no rfl rfl (by omega) (by unfold maxLen; omega) ?_; intro a7 w2 hown hbel hge hlt)
    rw [bL_zero] at hown
    go_loopw [6] (fun iv wr => ∃ k : Nat, k ≤ no ∧ iv = .int .i64 k ∧ wr.ownsRow w.heap.size 4 1 (.slice a7 no no) no ((bL no (maskTo Q k)).map Value.bool) ∧ Hid (ordTo no Q k = true) ∧ Below w.heap.size w wr)
      (fun iv _ => no - (intOf iv).toNat)
    case atStart => exact ⟨0, Nat.zero_le _, rfl, hown, rfl, hbel⟩
    case round =>
      clear hown hbel
      obtain ⟨k, hk, rfl, hop, hok, hbr⟩ := hrel
      obtain ⟨hbl, hmine⟩ := Bools.own hop
      have hpl7 := hbl.pl
      by_cases hlt : k < no
      · have cq := (hq.keep hbr).cell k hlt
        have Hno : Hid (¬ (0 ≤ nth Q k ∧ nth Q k < no ∧ (maskTo Q k).testBit (nth Q k).toNat = false) → ordB no Q = false) := fun h => ordB_no (by rw [Hql.out]; exact hlt) h
        by_cases h0 : nth Q k < 0
        · have h0' : decide (nth Q k < 0) = true := by simpa using h0
          have Hf : Hid (ordB no Q = false) := Hno.out (by omega)
          clear h0 Hno
          go_wp2_with fail
          go_ret
          exact ⟨ret_bool Hf.out.symm, hbr⟩
        · have h0' : decide (nth Q k < 0) = false := by simpa using h0
          by_cases h1 : (no : Int) ≤ nth Q k
          · have h1' : decide ((no : Int) ≤ nth Q k) = true := by simpa using h1
            have Hf : Hid (ordB no Q = false) := Hno.out (by omega)
            clear h0 h1 Hno
            go_wp2_with fail
            go_ret
            exact ⟨ret_bool Hf.out.symm, hbr⟩
          · have h1' : decide ((no : Int) ≤ nth Q k) = false := by simpa using h1
            obtain ⟨z, hz⟩ : ∃ z : Nat, nth Q k = z := ⟨(nth Q k).toNat, by omega⟩
            have hzm : z < no := by omega
            have ct := hbl.cell z hzm
            rw [nthB_bL hzm] at ct
            have ft := (hmine (by omega)).2 z hzm
            have hB := (hmine (by omega)).1
            rw [hz] at cq h0' h1'
            by_cases ht : (maskTo Q k).testBit z = true
            · have Hf : Hid (ordB no Q = false) := Hno.out (by rw [hz, Int.toNat_natCast, ht]; simp)
              rw [ht] at ct
              clear h0 h1 Hno ht hz
              go_wp2_with fail
              go_ret
              exact ⟨ret_bool Hf.out.symm, hbr⟩
            · have ht' : (maskTo Q k).testBit z = false := by simpa using ht
              have Hst : Hid (maskTo Q (k + 1) = maskTo Q k ||| 2 ^ z) := by show _ = _; rw [maskTo, hz, Int.toNat_natCast]
              have Hok : Hid (ordTo no Q (k + 1) = true) := by
                show _ = _
                rw [ordTo, hok.out, hz, Int.toNat_natCast, ht']
                simp; omega
              rw [ht'] at ct
              clear h0 h1 Hno ht ht' hz
              go_wp2_with fail
              go_roundw
              case rel =>
                refine ⟨k + 1, by omega, by go_num, ?_, Hok.out, hbr.setCell hB _⟩
                have h1 := own_set hop z hzm (.bool true)
                rw [← List.map_set, bL_set, ← Hst.out] at h1
                exact h1
              case measure => simp [intOf] <;> omega
      · obtain rfl : k = no := by omega
        have Hf : Hid (ordB k Q = true) := by show _ = _; rw [ordB, Hql.out, hok.out]; simp
        go_wp2_with fail
        go_ret
        exact ⟨ret_bool Hf.out.symm, hbr⟩
  · have hnn : ((no : Int) != m) = true := by simp; omega
    have Hf : Hid (ordB m Q = false) := by
      show _ = _
      rw [ordB, Hql.out, show decide ((no : Int) = m) = false by simp; omega]; rfl
    clear hno
    go_wp2_with fail
    go_ret
    exact ⟨ret_bool Hf.out.symm, Below.refl _ _⟩
end

/- The walks of ordering.width, ordering.Width, codewrightref48.Order, Width. -/
section
open Go.RowKit

theorem max_if (t d : Int) : (if t < d then d else t) = max t d := by split <;> omega

set_option maxRecDepth 100000 in
set_option maxHeartbeats 4000000 in
theorem ordWidth_any (P M : Int) (am : Option Addr) (mn cm : Nat) (mod : List Int) (m : Nat) (a : Option Addr) (n c : Nat) (L : List (List Int)) (ao : Option Addr) (no co : Nat) (Q : List Int) (w : World)
    (hmod : Ints w am mn mod) (hi : Mat w a n L) (hE : codeE P M mod m L = 0) (hq : Ints w ao no Q) (hQ : InN m Q) :
    Calls Try.prog 38 #[.agg #[.int .i64 P, .int .i64 M, .slice am mn cm, .int .i64 m, .slice a n c], .slice ao no co] w
      fun e w' => e = .returned (.int .i64 (wdTo (dimS (tblOf P M.toNat mod).ops L m) Q no)) ∧ Below w.heap.size w w' := by
  have Hql := Lib.hid hq.len
  have hplq := hq.pl
  have hmq := hq.max
  unfold maxLen at hmq
  obtain ⟨N', e, hm1, hm64, _⟩ := codeE_fld hE
  obtain rfl : m = N' := by omega
  have Hcd : Hid (∀ y : Nat, y < 18446744073709551616 → ∀ V, Below w.heap.size w V → Calls Try.prog 30 #[.agg #[.int .i64 P, .int .i64 M, .slice am mn cm, .int .i64 m, .slice a n c], .int .u64 y] V
      fun e w' => e = .returned (.int .i64 (dimS (tblOf P M.toNat mod).ops L m y)) ∧ Below V.heap.size V w') := fun y hy V hV => ordDim_any P M am mn cm mod m a n c L y V (hmod.keep hV) (hi.keep hV) hE hy
  obtain ⟨f, hf⟩ : ∃ f, dimS (tblOf P M.toNat mod).ops L m = f := ⟨_, rfl⟩
  rw [hf] at Hcd ⊢
  have HQ := Lib.hid hQ
  clear hf hE hQ e
  go_enter Try.func38, Try.ntmps38
  go_wp2_with fail
  obtain ⟨W, hW⟩ : ∃ W : World, W = w.alloc (.cells #[.int .i64 P, .int .i64 M, .slice am mn cm, .int .i64 m, .slice a n c] 27) := ⟨_, rfl⟩
  rw [← hW]
  have hbW : Below w.heap.size w W := by rw [hW]; exact below1 _ _
  have x0 : Box W w.heap.size [.int .i64 P, .int .i64 M, .slice am mn cm, .int .i64 m, .slice a n c] := by rw [hW]; exact Box.new _ _ _ rfl
  clear hW
  go_loopw [5, 6, 11] (fun mv tv iv wr => ∃ k : Nat, k ≤ no ∧ iv = .int .i64 k ∧ mv = .int .u64 (maskTo Q k) ∧ tv = .int .i64 (wdTo f Q k) ∧ Below W.heap.size W wr) (fun _ _ iv _ => no - (intOf iv).toNat)
  case atStart => exact ⟨0, Nat.zero_le _, rfl, rfl, rfl, Below.refl _ _⟩
  case round =>
    obtain ⟨k, hk, rfl, rfl, rfl, hbr⟩ := hrel
    by_cases hlt : k < no
    · have hbw := Below.next hbW hbr
      have cq := (hq.keep hbw).cell k hlt
      have hb := HQ.out k (by rw [Hql.out]; exact hlt)
      have hx64 := maskTo_lt (Q := Q) k (HQ.out.bd hm64 (by rw [Hql.out]; exact hk))
      obtain ⟨z, hz⟩ : ∃ z : Nat, nth Q k = z := ⟨(nth Q k).toNat, by omega⟩
      have hz64 : z < 64 := by omega
      have hor := mask_or (maskTo Q k) z hx64 hz64
      have hmk : maskTo Q (k + 1) = maskTo Q k ||| 2 ^ z := by rw [maskTo, hz]; rfl
      rw [← hmk] at hor
      have hy64 := maskTo_lt (Q := Q) (k + 1) (HQ.out.bd hm64 (by rw [Hql.out]; exact hlt))
      have hwd : wdTo f Q (k + 1) = max (wdTo f Q k) (f (maskTo Q (k + 1))) := rfl
      have Hwd := Lib.hid hwd
      have Hc := Lib.hid (Hcd.out _ hy64 wr hbw)
      rw [hz] at cq
      have x1 := x0.keep hbr
      have c0 := x1.cell 0 rfl
      have c1 := x1.cell 1 rfl
      have c2 := x1.cell 2 rfl
      have c3 := x1.cell 3 rfl
      have c4 := x1.cell 4 rfl
      clear hz hb hmk hwd hy64 x1
      obtain ⟨y, hy⟩ : ∃ y, maskTo Q (k + 1) = y := ⟨_, rfl⟩
      have HY := Lib.hid hy
      rw [hy] at hor Hc Hwd
      clear hy
      generalize f y = d at *
      generalize wdTo f Q k = t at *
      go_wp2_with fail
      refine Hc.out.mono ?_
      rintro e w2 ⟨rfl, hb2⟩
      have hbr2 := Below.next hbr hb2
      go_wp2_with fail
      go_roundw
      case rel => exact ⟨k + 1, by omega, by go_num, by rw [HY.out], by rw [Hwd.out, ← max_if], hbr2⟩
      case measure => simp [intOf] <;> omega
    · obtain rfl : k = no := by omega
      go_wp2_with fail
      go_ret
      exact ⟨rfl, Below.next hbW hbr⟩

def widV (P M : Int) (mod : List Int) (N : Int) (L : List (List Int)) (Q : List Int) : Int × Int :=
  if ordE P M mod N L Q = 0 then (wdTo (dimS (tblOf P M.toNat mod).ops L N.toNat) Q N.toNat, 0) else (0, ordE P M mod N L Q)
theorem ordE_zero {P M : Int} {mod : List Int} {N : Int} {L : List (List Int)} {Q : List Int} (h : ordE P M mod N L Q = 0) : codeE P M mod N L = 0 ∧ ordB N Q = true := by
  unfold ordE at h
  split at h
  · rename_i h1
    split at h
    · rename_i h2; exact ⟨h1, h2⟩
    · exact absurd h (by omega)
  · rename_i h1; exact absurd h h1

set_option maxRecDepth 100000 in
set_option maxHeartbeats 4000000 in
theorem ordWidthE_any (P M : Int) (am : Option Addr) (mn cm : Nat) (mod : List Int) (N : Int) (a : Option Addr) (n c : Nat) (L : List (List Int)) (ao : Option Addr) (no co : Nat) (Q : List Int) (w : World)
    (hmod : Ints w am mn mod) (hi : Mat w a n L) (hq : Ints w ao no Q) :
    Calls Try.prog 24 #[.agg #[.int .i64 P, .int .i64 M, .slice am mn cm, .int .i64 N, .slice a n c], .slice ao no co] w
      fun e w' => e = .returned (.tuple #[.int .i64 (widV P M mod N L Q).1, .int .i64 (widV P M mod N L Q).2]) ∧ Below w.heap.size w w' := by
  go_enter Try.func24, Try.ntmps24
  go_wp2_with fail
  obtain ⟨W, hW⟩ : ∃ W : World, W = w.alloc (.cells #[.int .i64 P, .int .i64 M, .slice am mn cm, .int .i64 N, .slice a n c] 27) := ⟨_, rfl⟩
  rw [← hW]
  have hbW : Below w.heap.size w W := by rw [hW]; exact below1 _ _
  have x0 : Box W w.heap.size [.int .i64 P, .int .i64 M, .slice am mn cm, .int .i64 N, .slice a n c] := by rw [hW]; exact Box.new _ _ _ rfl
  clear hW
  refine (ordOrdered_any P M am mn cm mod N a n c L ao no co Q W (hmod.keep hbW) (hi.keep hbW) (hq.keep hbW)).mono ?_
  rintro e w1 ⟨rfl, hb1⟩
  have hbw1 := Below.next hbW hb1
  have x1 := x0.keep hb1
  by_cases hO : ordE P M mod N L Q = 0
  · obtain ⟨hE, hB⟩ := ordE_zero hO
    obtain ⟨m, rfl, _⟩ := codeE_fld hE
    obtain ⟨hIn, hlen⟩ := ordB_in hB
    have hno : no = m := by rw [← hq.len]; exact hlen
    subst hno
    have HV : Hid (widV P M mod no L Q = (wdTo (dimS (tblOf P M.toNat mod).ops L no) Q no, 0)) := by show _ = _; rw [widV, if_pos hO, Int.toNat_natCast]
    have hc := Lib.hid (ordWidth_any P M am mn cm mod no a n c L ao no co Q w1 (hmod.keep hbw1) (hi.keep hbw1) hE (hq.keep hbw1) hIn)
    rw [hO]
    have c0 := x1.cell 0 rfl
    have c1 := x1.cell 1 rfl
    have c2 := x1.cell 2 rfl
    have c3 := x1.cell 3 rfl
    have c4 := x1.cell 4 rfl
    clear hE hB hO hIn hlen x0 x1
    generalize wdTo (dimS (tblOf P M.toNat mod).ops L no) Q no = t at *
    go_wp2_with fail
    refine hc.out.mono ?_
    rintro e w2 ⟨rfl, hb2⟩
    have hF := Below.next hbw1 hb2
    clear hc
    go_wp2_with fail
    go_ret2
    exact ⟨by rw [HV.out]; rfl, hF⟩
  · have HV : Hid (widV P M mod N L Q = (0, ordE P M mod N L Q)) := by show _ = _; rw [widV, if_neg hO]
    have hE2 : (ordE P M mod N L Q != 0) = true := by simpa using hO
    clear hO x0 x1
    go_wp2_with fail
    go_ret2
    exact ⟨by rw [HV.out]; rfl, hbw1⟩

set_option maxRecDepth 100000 in
set_option maxHeartbeats 4000000 in
theorem rOrder48_any (P M : Int) (am : Option Addr) (mn cm : Nat) (mod : List Int) (N : Int) (a : Option Addr) (n c : Nat) (L : List (List Int)) (ao : Option Addr) (no co : Nat) (Q : List Int) (w : World)
    (hmod : Ints w am mn mod) (hi : Mat w a n L) (hq : Ints w ao no Q) :
    Calls Try.prog 23 #[.agg #[.int .i64 P, .int .i64 M, .slice am mn cm, .int .i64 N, .slice a n c], .slice ao no co] w fun e w' => e = .returned (.int .i64 (ordE P M mod N L Q)) ∧ Below w.heap.size w w' := by
  go_enter Try.func23, Try.ntmps23
  go_wp2_with fail
  obtain ⟨W, hW⟩ : ∃ W : World, W = w.alloc (.cells #[.int .i64 P, .int .i64 M, .slice am mn cm, .int .i64 N, .slice a n c] 27) := ⟨_, rfl⟩
  rw [← hW]
  have hbW : Below w.heap.size w W := by rw [hW]; exact below1 _ _
  have x0 : Box W w.heap.size [.int .i64 P, .int .i64 M, .slice am mn cm, .int .i64 N, .slice a n c] := by rw [hW]; exact Box.new _ _ _ rfl
  clear hW
  refine (rCodeCheck_any P M am mn cm mod N a n c L W (hmod.keep hbW) (hi.keep hbW) fun h => hinv_all h).mono ?_
  rintro e w1 ⟨rfl, hb1⟩
  rw [rcodeE_eq]
  have hbw1 := Below.next hbW hb1
  have x1 := x0.keep hb1
  by_cases hE : codeE P M mod N L = 0
  · obtain ⟨m, rfl, hm1, hm64, _⟩ := codeE_fld hE
    have HB : Hid (ordE P M mod m L Q = if ordB m Q = true then 0 else 5) := by show _ = _; rw [ordE, if_pos hE]
    rw [hE]
    have c3 := x1.cell 3 rfl
    have hc := Lib.hid (rIsOrder_any m ao no co Q w1 hm1 hm64 (hq.keep hbw1))
    clear hE x0 x1
    by_cases hO : ordB m Q = true
    · have hf : Hid (ordE P M mod m L Q = 0) := by show _ = _; rw [HB.out, if_pos hO]
      rw [hO] at hc
      clear hO
      go_wp2_with fail
      refine hc.out.mono ?_
      rintro e w2 ⟨rfl, hb2⟩
      have hF := Below.next hbw1 hb2
      clear hc
      go_wp2_with fail
      go_ret
      exact ⟨ret_int hf.out.symm, hF⟩
    · have hO' : ordB m Q = false := by simpa using hO
      have hf : Hid (ordE P M mod m L Q = 5) := by show _ = _; rw [HB.out, if_neg hO]
      rw [hO'] at hc
      clear hO hO'
      go_wp2_with fail
      refine hc.out.mono ?_
      rintro e w2 ⟨rfl, hb2⟩
      have hF := Below.next hbw1 hb2
      clear hc
      go_wp2_with fail
      go_ret
      exact ⟨ret_int hf.out.symm, hF⟩
  · have hf : Hid (ordE P M mod N L Q = codeE P M mod N L) := by show _ = _; rw [ordE, if_neg hE]
    have hE2 : (codeE P M mod N L == 0) = false := by simpa using hE
    clear hE x0 x1
    go_wp2_with fail
    go_ret
    exact ⟨ret_int hf.out.symm, hbw1⟩

theorem InN.take {n : Nat} {Q : List Int} (h : InN n Q) {i : Nat} (hi : i ≤ Q.length) : InN n (Q.take i) := fun j hj => by
  rw [List.length_take] at hj
  have e : nth (Q.take i) j = nth Q j := by unfold nth; simp only [List.getD_eq_getElem?_getD, List.getElem?_take]; rw [if_pos (by omega)]
  rw [e]; exact h j (by omega)

set_option maxRecDepth 100000 in
set_option maxHeartbeats 4000000 in
theorem rWidth_any (P M : Int) (am : Option Addr) (mn cm : Nat) (mod : List Int) (N : Int) (a : Option Addr) (n c : Nat) (L : List (List Int)) (ao : Option Addr) (no co : Nat) (Q : List Int) (w : World)
    (hmod : Ints w am mn mod) (hi : Mat w a n L) (hq : Ints w ao no Q) (hco : no ≤ co) :
    Calls Try.prog 40 #[.agg #[.int .i64 P, .int .i64 M, .slice am mn cm, .int .i64 N, .slice a n c], .slice ao no co] w
      fun e w' => e = .returned (.tuple #[.int .i64 (widV P M mod N L Q).1, .int .i64 (widV P M mod N L Q).2]) ∧ Below w.heap.size w w' := by
  have Hql := Lib.hid hq.len
  go_enter Try.func40, Try.ntmps40
  go_wp2_with fail
  obtain ⟨W, hW⟩ : ∃ W : World, W = w.alloc (.cells #[.int .i64 P, .int .i64 M, .slice am mn cm, .int .i64 N, .slice a n c] 27) := ⟨_, rfl⟩
  rw [← hW]
  have hbW : Below w.heap.size w W := by rw [hW]; exact below1 _ _
  have x0 : Box W w.heap.size [.int .i64 P, .int .i64 M, .slice am mn cm, .int .i64 N, .slice a n c] := by rw [hW]; exact Box.new _ _ _ rfl
  have c0 := x0.cell 0 rfl
  have c1 := x0.cell 1 rfl
  have c2 := x0.cell 2 rfl
  have c3 := x0.cell 3 rfl
  have c4 := x0.cell 4 rfl
  clear hW
  have hco1 := Lib.hid (rOrder48_any P M am mn cm mod N a n c L ao no co Q W (hmod.keep hbW) (hi.keep hbW) (hq.keep hbW))
  refine hco1.out.mono ?_
  rintro e w1 ⟨rfl, hb1⟩
  have hbw1 := Below.next hbW hb1
  have x1 := x0.keep hb1
  clear c0 c1 c2 c3 c4 hco1 x0
  by_cases hO : ordE P M mod N L Q = 0
  · obtain ⟨hE, hB⟩ := ordE_zero hO
    obtain ⟨m, rfl, hm1, hm64, _⟩ := codeE_fld hE
    obtain ⟨hIn, hlen⟩ := ordB_in hB
    have hno : no = m := by rw [← hq.len]; exact hlen
    subst hno
    have hf0 : dimS (tblOf P M.toNat mod).ops L no 0 ≤ 0 := by
      have h1 := gr_rows hE (cplU 0)
      have h2 : bitsTo 0 no = [] := by
        have : ∀ j, bitsTo 0 j = [] := fun j => by
          induction j with
          | zero => rfl
          | succ j ih => rw [bitsTo, if_neg (by simp), ih]
        exact this no
      have h3 : (grS (tblOf P M.toNat mod).ops L []).length ≤ 0 := grS_len _ _ []
      unfold dimS
      rw [h2]
      omega
    have HV : Hid (widV P M mod no L Q = (wrTo (dimS (tblOf P M.toNat mod).ops L no) Q (no + 1), 0)) := by show _ = _; rw [widV, if_pos hO, Int.toNat_natCast, wrTo_eq hf0]
    have Hof : Hid (∀ V i, i ≤ no → Below w.heap.size w V → Calls Try.prog 31 #[.agg #[.int .i64 P, .int .i64 M, .slice am mn cm, .int .i64 no, .slice a n c], .slice ao i co] V
        fun e w' => e = .returned (.int .i64 (dimS (tblOf P M.toNat mod).ops L no (maskTo Q i))) ∧ Below V.heap.size V w') := fun V i hi' hV => by
      rw [← maskS_take Q (by rw [Hql.out]; exact hi')]
      exact rOf_any P M am mn cm mod no a n c L ao i co (Q.take i) V (hmod.keep hV) (hi.keep hV) hE ((hq.keep hV).take hi') (hIn.take (by rw [Hql.out]; exact hi')) (by omega)
    rw [hO]
    have hplq := hq.pl
    have hmq := hq.max
    unfold maxLen at hmq
    have hS : ∀ V, Below w1.heap.size w1 V → V.cell? ⟨w.heap.size, 0, none⟩ = some (.int .i64 P) ∧ V.cell? ⟨w.heap.size, 1, none⟩ = some (.int .i64 M) ∧ V.cell? ⟨w.heap.size, 2, none⟩ = some (.slice am mn cm) ∧ V.cell? ⟨w.heap.size, 3, none⟩ = some (.int .i64 no) ∧ V.cell? ⟨w.heap.size, 4, none⟩ = some (.slice a n c) ∧ Below w1.heap.size w1 V := by
      intro V hV
      have x2 := x1.keep hV
      exact ⟨x2.cell 0 rfl, x2.cell 1 rfl, x2.cell 2 rfl, x2.cell 3 rfl, x2.cell 4 rfl, hV⟩
    have HS := Lib.hid hS
    have Hbw1 := Lib.hid hbw1
    obtain ⟨f, hf⟩ : ∃ f, dimS (tblOf P M.toNat mod).ops L no = f := ⟨_, rfl⟩
    rw [hf] at HV Hof
    clear hE hB hO hIn hlen hf hf0 hS x1 hmod hi hq hbW hb1 hbw1
    go_wp2_with fail
    go_loopw [7, 8] (fun tv iv wr => ∃ k : Nat, k ≤ no + 1 ∧ iv = .int .i64 k ∧ tv = .int .i64 (wrTo f Q k) ∧ Below w1.heap.size w1 wr) (fun _ iv _ => no + 1 - (intOf iv).toNat)
    case atStart => exact ⟨0, Nat.zero_le _, rfl, rfl, Below.refl _ _⟩
    case round =>
      obtain ⟨k, hk, rfl, rfl, hbr⟩ := hrel
      obtain ⟨c0, c1, c2, c3, c4, _⟩ := HS.out wr hbr
      by_cases hlt : k ≤ no
      · have hlt' : decide ((k : Int) ≤ no) = true := by simp; omega
        have hkc : (k : Int) ≤ co := by omega
        have hkn : k ≤ co := by omega
        have Hwr : Hid (wrTo f Q (k + 1) = max (wrTo f Q k) (f (maskTo Q k))) := rfl
        have HS2 : Hid (∀ V, Below wr.heap.size wr V → V.cell? ⟨w.heap.size, 0, none⟩ = some (.int .i64 P) ∧ V.cell? ⟨w.heap.size, 1, none⟩ = some (.int .i64 M) ∧ V.cell? ⟨w.heap.size, 2, none⟩ = some (.slice am mn cm) ∧ V.cell? ⟨w.heap.size, 3, none⟩ = some (.int .i64 no) ∧ V.cell? ⟨w.heap.size, 4, none⟩ = some (.slice a n c) ∧ Below wr.heap.size wr V) :=
          fun V hV => by have h := HS.out V (Below.next hbr hV); exact ⟨h.1, h.2.1, h.2.2.1, h.2.2.2.1, h.2.2.2.2.1, hV⟩
        have Hof2 : Hid (∀ V, Below wr.heap.size wr V → Calls Try.prog 31 #[.agg #[.int .i64 P, .int .i64 M, .slice am mn cm, .int .i64 no, .slice a n c], .slice ao k co] V
          fun e w' => e = .returned (.int .i64 (f (maskTo Q k))) ∧ Below V.heap.size V w') := fun V hV => Hof.out V k hlt (Below.next Hbw1.out (Below.next hbr hV))
        have Hbr := Lib.hid hbr
        clear hbr c0 c1 c2 c3 c4
        obtain ⟨c0, c1, c2, c3, c4, _⟩ := HS2.out wr (Below.refl _ _)
        generalize f (maskTo Q k) = d at *
        generalize wrTo f Q k = t at *
        go_wp2_with fail
        go_region_held3 (fun V => V.cell? ⟨w.heap.size, 0, none⟩ = some (.int .i64 P) ∧ V.cell? ⟨w.heap.size, 1, none⟩ = some (.int .i64 M) ∧ V.cell? ⟨w.heap.size, 2, none⟩ = some (.slice am mn cm) ∧ V.cell? ⟨w.heap.size, 3, none⟩ = some (.int .i64 no) ∧ V.cell? ⟨w.heap.size, 4, none⟩ = some (.slice a n c) ∧ Below wr.heap.size wr V)
          ((refine HS2.out _ ?_; first | exact (Below.refl _ _).drew | exact Below.next (Below.refl _ _).drew hb4))
          (first
            | (go_at_call 31; ((with_reducible refine (Hof2.out _ (Below.refl _ _).drew).mono ?_); rintro e w4 ⟨rfl, hb4⟩)))
        have hbr4 := Below.next Hbr.out (Below.next (Below.refl _ _).drew hb4)
        go_wp2_with fail
        go_roundw
        case rel => exact ⟨k + 1, by omega, by go_num, by rw [Hwr.out, ← max_if], hbr4⟩
        case measure => simp [intOf] <;> omega
      · obtain rfl : k = no + 1 := by omega
        have hlt' : decide (((no + 1 : Nat) : Int) ≤ no) = false := by simp; omega
        have hF := Below.next Hbw1.out hbr
        generalize wrTo f Q (no + 1) = t at *
        go_wp2_with fail
        go_ret2
        exact ⟨by rw [HV.out]; rfl, hF⟩
  · have HV : Hid (widV P M mod N L Q = (0, ordE P M mod N L Q)) := by show _ = _; rw [widV, if_neg hO]
    have hE2 : (ordE P M mod N L Q != 0) = true := by simpa using hO
    clear hO x1
    go_wp2_with fail
    go_ret2
    exact ⟨by rw [HV.out]; rfl, hbw1⟩
end

/- Bits of small numbers, as the program takes them. -/
section
def low12 (r : Nat) : Nat := ((List.range 12).find? fun i => r.testBit i).getD 0
def chkLow (r : Nat) : Bool :=
  r == 0 || (bits .and .i64 (r : Int) (-(r : Int)) == ((2 ^ low12 r : Nat) : Int) && bits .and .i64 (r : Int) ((r : Int) - 1) == ((r - 2 ^ low12 r : Nat) : Int) && r.testBit (low12 r) && (List.range (low12 r)).all (fun j => !r.testBit j) && decide (low12 r < 12))
def chkNot (s : Nat) : Bool := (List.range 12).all fun p => !s.testBit p || bits .andNot .i64 (s : Int) ((2 ^ p : Nat) : Int) == ((s - 2 ^ p : Nat) : Int)
theorem low_tab0 : (List.range 2048).all chkLow = true := by decide +kernel
theorem low_tab1 : (List.range 2048).all (fun r => chkLow (2048 + r)) = true := by decide +kernel
theorem not_tab0 : (List.range 1024).all chkNot = true := by decide +kernel
theorem not_tab1 : (List.range 1024).all (fun r => chkNot (1024 + r)) = true := by decide +kernel
theorem not_tab2 : (List.range 1024).all (fun r => chkNot (2048 + r)) = true := by decide +kernel
theorem not_tab3 : (List.range 1024).all (fun r => chkNot (3072 + r)) = true := by decide +kernel
theorem chkLow_all {r : Nat} (hr : r < 4096) : chkLow r = true := by
  by_cases h : r < 2048
  · exact List.all_eq_true.1 low_tab0 r (List.mem_range.2 h)
  · have := List.all_eq_true.1 low_tab1 (r - 2048) (List.mem_range.2 (by omega))
    rwa [show 2048 + (r - 2048) = r by omega] at this
theorem chkNot_all {r : Nat} (hr : r < 4096) : chkNot r = true := by
  by_cases h0 : r < 1024
  · exact List.all_eq_true.1 not_tab0 r (List.mem_range.2 h0)
  · by_cases h1 : r < 2048
    · have := List.all_eq_true.1 not_tab1 (r - 1024) (List.mem_range.2 (by omega))
      rwa [show 1024 + (r - 1024) = r by omega] at this
    · by_cases h2 : r < 3072
      · have := List.all_eq_true.1 not_tab2 (r - 2048) (List.mem_range.2 (by omega))
        rwa [show 2048 + (r - 2048) = r by omega] at this
      · have := List.all_eq_true.1 not_tab3 (r - 3072) (List.mem_range.2 (by omega))
        rwa [show 3072 + (r - 3072) = r by omega] at this
theorem low_ex {r : Nat} (h0 : r ≠ 0) (hr : r < 4096) : ∃ p, p < 12 ∧ r.testBit p = true ∧ (∀ j, j < p → r.testBit j = false) ∧ bits .and .i64 (r : Int) (-(r : Int)) = ((2 ^ p : Nat) : Int) ∧ bits .and .i64 (r : Int) ((r : Int) - 1) = ((r - 2 ^ p : Nat) : Int) := by
  have h := chkLow_all hr
  unfold chkLow at h
  simp only [Bool.or_eq_true, Bool.and_eq_true, beq_iff_eq, decide_eq_true_eq, List.all_eq_true, List.mem_range, Bool.not_eq_true'] at h
  rcases h with h | ⟨⟨⟨⟨h1, h2⟩, h3⟩, h4⟩, h5⟩
  · exact absurd h h0
  · exact ⟨low12 r, h5, h3, h4, h1, h2⟩
theorem andNot_bit {s p : Nat} (hs : s < 4096) (hp : p < 12) (h : s.testBit p = true) : bits .andNot .i64 (s : Int) ((2 ^ p : Nat) : Int) = ((s - 2 ^ p : Nat) : Int) := by
  have h1 := List.all_eq_true.1 (chkNot_all hs) p (List.mem_range.2 hp)
  rw [h] at h1
  simpa using h1
theorem xor12 (a b : Nat) (ha : a < 4096) (hb : b < 4096) : bits .xor .i64 (a : Int) (b : Int) = ((a ^^^ b : Nat) : Int) := by
  have hx : a ^^^ b < 2 ^ 12 := Nat.xor_lt_two_pow (by omega) (by omega)
  have h1 : (BitVec.ofInt 64 (a : Int)).toNat = a := by
    rw [BitVec.ofInt_natCast, BitVec.toNat_ofNat]; exact Nat.mod_eq_of_lt (by omega)
  have h2 : (BitVec.ofInt 64 (b : Int)).toNat = b := by
    rw [BitVec.ofInt_natCast, BitVec.toNat_ofNat]; exact Nat.mod_eq_of_lt (by omega)
  show IntKind.i64.wrap ((BitVec.ofInt 64 (a : Int) ^^^ BitVec.ofInt 64 (b : Int)).toNat : Int) = _
  rw [BitVec.toNat_xor, h1, h2]
  exact IntWalk.i64_in _ (by omega)
theorem and1_i64 (x i : Nat) (hx : x < 4096) : bits .and .i64 ((x : Int) / 2 ^ i) 1 = ((x / 2 ^ i % 2 : Nat) : Int) := by
  have hd : x / 2 ^ i < 4096 := Nat.lt_of_le_of_lt (Nat.div_le_self _ _) hx
  have e : (x : Int) / 2 ^ i = ((x / 2 ^ i : Nat) : Int) := by simp
  rw [e]
  generalize x / 2 ^ i = y at *
  have h1 : (BitVec.ofInt 64 (y : Int)).toNat = y := by
    rw [BitVec.ofInt_natCast, BitVec.toNat_ofNat]; exact Nat.mod_eq_of_lt (by omega)
  have h2 : (BitVec.ofInt 64 1).toNat = 1 := by decide
  show IntKind.i64.wrap ((BitVec.ofInt 64 (y : Int) &&& BitVec.ofInt 64 1).toNat : Int) = _
  rw [BitVec.toNat_and, h1, h2, Nat.and_one_is_mod]
  exact IntWalk.i64_in _ (by omega)

theorem sub_bit {r p : Nat} (h : r.testBit p = true) (j : Nat) : (r - 2 ^ p).testBit j = (r.testBit j && !decide (p = j)) := by
  have hx : (r ^^^ 2 ^ p).testBit p = false := by rw [Nat.testBit_xor, h, Nat.testBit_two_pow]; simp
  have e1 : (r ^^^ 2 ^ p) ||| 2 ^ p = r := by
    apply Nat.eq_of_testBit_eq
    intro i
    rw [Nat.testBit_or, Nat.testBit_xor, Nat.testBit_two_pow]
    by_cases e : p = i
    · subst e; simp [h]
    · simp [e]
  have e2 := or_add p _ hx
  rw [e1] at e2
  have e3 : r - 2 ^ p = r ^^^ 2 ^ p := by omega
  rw [e3, Nat.testBit_xor, Nat.testBit_two_pow]
  by_cases e : p = j
  · subst e; simp [h]
  · simp [e]
theorem leastTo_skip {N : Nat} {T : List Int} {s i : Nat} : ∀ {k}, i ≤ k → (∀ j, i ≤ j → j < k → s.testBit j = false) → leastTo N T s k = leastTo N T s i
  | 0, h, _ => by obtain rfl : i = 0 := by omega
                  rfl
  | k + 1, h, hz => by
    by_cases e : i = k + 1
    · rw [e]
    · rw [leastTo, if_neg (by rw [hz k (by omega) (by omega)]; simp)]
      exact leastTo_skip (by omega) fun j h1 h2 => hz j h1 (by omega)
/-- what is left of s from position i on -/
def RestAt (s i r : Nat) : Prop := ∀ j, r.testBit j = (decide (i ≤ j) && s.testBit j)
theorem RestAt.start (s : Nat) : RestAt s 0 s := fun j => by simp
theorem RestAt.step {s i r p : Nat} (h : RestAt s i r) (hp : r.testBit p = true) (hlow : ∀ j, j < p → r.testBit j = false) {N : Nat} (T : List Int) :
    RestAt s (p + 1) (r - 2 ^ p) ∧ s.testBit p = true ∧ leastTo N T s (p + 1) = min (leastTo N T s i) (nth T (s - 2 ^ p)) := by
  have h1 := h p
  rw [hp] at h1
  have h2 : i ≤ p ∧ s.testBit p = true := by
    have := h1.symm
    simp only [Bool.and_eq_true, decide_eq_true_eq] at this
    exact this
  refine ⟨fun j => ?_, h2.2, ?_⟩
  · rw [sub_bit hp, h j]
    by_cases e1 : p = j
    · subst e1
      have : decide (p + 1 ≤ p) = false := by simp
      rw [this]; simp
    · by_cases e2 : j < p
      · have h3 := hlow j e2
        rw [h j] at h3
        have : decide (p + 1 ≤ j) = false := by simp; omega
        rw [this, h3]; simp
      · have h3 : decide (i ≤ j) = true := by simp; omega
        have h4 : decide (p + 1 ≤ j) = true := by simp; omega
        have h5 : decide (p = j) = false := by simpa using e1
        rw [h3, h4, h5]; simp
  · rw [leastTo, if_pos h2.2, leastTo_skip h2.1 fun j h3 h4 => by
      have h5 := hlow j h4
      rw [h j] at h5
      simpa [h3] using h5]
theorem RestAt.done {s i : Nat} (h : RestAt s i 0) {N : Nat} (T : List Int) (hi : i ≤ N) : leastTo N T s N = leastTo N T s i :=
  leastTo_skip hi fun j h1 h2 => by
    have := h j
    rw [Nat.zero_testBit] at this
    simpa [h1] using this.symm
end

end Go.Proofs.Ytnielheglicbmaa
