/- Elimination with columns put behind (plain law): the pivots stay. -/
import Derived.RangeFuncBox
import Derived.RangeFuncLeaves
import Derived.Shelf.Abstract
import Derived.WalkKit
import Derived.OwnWalkIn
import Derived.TacticsInMore
import Derived.LoopNIn
import Derived.LoopIn
import Derived.Maps.AppendAt
import Derived.Test.YtapjcccpokhhhaaGreatK4
import Derived.Test.YtapjcccpokhhhaaGreatK1
import Derived.Sort.OwnSortedInts
import Derived.Test.YtapjcccpokhhhaaGreatK20
import Derived.Test.YtapjcccpokhhhaaGreatK19
import Derived.Test.YtapjcccpokhhhaaGreatK16
import Derived.Test.YtapjcccpokhhhaaGreatK7
import Derived.Test.YtapjcccpokhhhaaGreatK5
import Derived.Test.YtapjcccpokhhhaaGreatK9
namespace Go.Proofs.YtapjcccpokhhhaaGreat
set_option linter.unusedVariables false
set_option linter.unusedSimpArgs false
set_option linter.unusedSectionVars false

/- The walks of slices.Values, AppendSeq, Collect at []int. -/
section
open Go.RowKit Go.Shelf

attribute [local go_sem] Oper.semAt_some

theorem take_nth (l : List Int) {k : Nat} (h : k < l.length) : l.take (k + 1) = l.take k ++ [nth l k] := by
  rw [List.take_succ_eq_append_getElem h, nth_getElem h]

set_option maxRecDepth 100000 in
set_option maxHeartbeats 2000000 in
/-- the iterator of slices.Values -/
theorem iterVals1_in (F : Fence) (n : Nat) (hF : F.fn 160) (hro : F.round = none) (hn : 1 ≤ n) (l Bs n₀ : Nat) (a : Option Addr) (len cap : Nat) (zs : List Int) (hreach : len * 8 ≤ 140737488351232) (J Jx : List Int → World → Prop)
    (hY : ∀ pre x W, J pre W → pre.length < len → YieldAt F (n - 1) Tryz.prog l #[.int .i64 x] W fun e W' =>
      (e = .returned (.bool true) ∧ J (pre ++ [x]) W' ∧ Below n₀ W W') ∨ (e = .returned (.bool false) ∧ Jx (pre ++ [x]) W'))
    (W : World) (hBs : W.cell? ⟨Bs, 0, none⟩ = some (.slice a len cap)) (hc : Ints W a len zs) (hb : 0 < len → ablk a < n₀) (h0 : J [] W) :
    CallsIn F n Tryz.prog 160 #[.func (.yield l) #[] #[], .pointer (some ⟨Bs, 0, none⟩)] W fun e W' => (∃ v, e = .returned v) ∧
      ((∃ ys, ys = zs ∧ J ys W') ∨ (∃ pre, (∃ k, k ≤ len ∧ pre = zs.take k) ∧ Jx pre W')) := by
  have hpl := hc.pl
  have Hlen := Lib.hid hc.len
  refine callsIn_of_wp Tryz.func160 rfl hF ?_ hro
  simp only [Tryz.ntmps160, List.size_toArray, List.length_cons, List.length_nil, Nat.reduceAdd, Nat.reduceSub, Array.replicate_succ, Array.replicate_zero, List.push_toArray, List.append_toArray, List.nil_append, List.cons_append]
  gi_wp2
  gi_loopw [7] (fun i wr => ∃ k : Nat, k ≤ len ∧ i = .int .i64 k ∧ J (zs.take k) wr ∧ Below n₀ W wr)
    (fun i _ => len - (intOf i).toNat)
  case atStart => exact ⟨0, Nat.zero_le _, rfl, h0, Below.refl _ _⟩
  case round =>
    obtain ⟨k, hk, rfl, hJs, hnx⟩ := hrel
    by_cases hlt : k < len
    · have hcx := (hc.below hnx hb).cell k hlt
      have htk := take_nth zs (k := k) (by rw [Hlen.out]; exact hlt)
      have Htk := Lib.hid htk
      obtain ⟨fn, tmps, assign, body, hy, hR⟩ := hY _ (nth zs k) wr hJs (by rw [List.length_take, Hlen.out]; omega)
      rw [← htk] at hR
      clear htk
      gi_wp2
      refine hR.mono ?_
      rintro e W3 (⟨rfl, hJ3, hk3⟩ | ⟨rfl, hJx3⟩)
      · gi_wp2
        go_roundw
        case rel => exact ⟨k + 1, by omega, by simp, hJ3, hnx.trans hk3⟩
        case measure => simp [intOf]; omega
      · gi_wp2
        refine bodyPost_ret (results_none rfl _ _ _) rfl ?_
        exact ⟨⟨_, rfl⟩, .inr ⟨_, ⟨k + 1, by omega, rfl⟩, hJx3⟩⟩
    · obtain rfl : k = len := by omega
      rw [List.take_of_length_le (by rw [Hlen.out]; exact Nat.le_refl _)] at hJs
      gi_wp2
      go_end0
      exact ⟨⟨_, rfl⟩, .inl ⟨_, rfl, hJs⟩⟩

set_option maxHeartbeats 1000000 in
/-- slices.Values: the slice is boxed; the function value captures the box -/
theorem iterVals_in (F : Fence) (n : Nat) (hF : F.fn 110) (hro : F.round = none) (a : Option Addr) (len cap : Nat) (w : World) :
    CallsIn F n Tryz.prog 110 #[.slice a len cap] w fun e w' => e = .returned (.func (.func 160) #[] #[.pointer (some ⟨w.heap.size, 0, none⟩)]) ∧ w' = w.alloc (.cells #[.slice a len cap] 22) := by
  refine callsIn_of_wp Tryz.func110 rfl hF ?_ hro
  simp only [Tryz.ntmps110, List.size_toArray, List.length_cons, List.length_nil, Nat.reduceAdd, Nat.reduceSub, Array.replicate_succ, Array.replicate_zero, List.push_toArray, List.append_toArray, List.nil_append, List.cons_append]
  gi_wp2
  go_ret
  exact ⟨rfl, rfl⟩

/-- it hands back all of the slice's numbers, in their order, or a beginning of them -/
theorem iterVals_stops (F : Fence) (n : Nat) (hF : F.fn 160) (hro : F.round = none) (hn : 1 ≤ n) (Bs n₀ : Nat) (a : Option Addr) (len cap : Nat) (zs : List Int) (hreach : len * 8 ≤ 140737488351232) (w : World) (hBs : Bs < w.heap.size) (hn₀ : n₀ ≤ w.heap.size)
    (hc : w.cell? ⟨Bs, 0, none⟩ = some (.slice a len cap)) (hI : Ints w a len zs) (hb : 0 < len → ablk a < n₀) :
    SeqStopsK F n Tryz.prog 160 #[.pointer (some ⟨Bs, 0, none⟩)] (fun x : Int => #[Value.int .i64 x]) (Below n₀) (fun ys => ys = zs) (fun pre => pre <+: zs) len w := fun l J Jx W hW _ _ hY h0 => by
  have hc' := (hW.cell (p := ⟨Bs, 0, none⟩) hBs).trans hc
  refine (iterVals1_in F n hF hro hn l Bs n₀ a len cap zs hreach J Jx hY W hc' (hI.below (hW.mono hn₀) hb) hb h0).mono ?_
  rintro e W' ⟨he, ⟨ys, rfl, hj⟩ | ⟨pre, ⟨k, hk, rfl⟩, hj⟩⟩
  · exact ⟨he, .inl ⟨_, rfl, hj⟩⟩
  · exact ⟨he, .inr ⟨_, List.take_prefix _ _, hj⟩⟩

set_option maxRecDepth 100000 in
set_option maxHeartbeats 2000000 in
/-- slices.AppendSeq onto nil, over the numbers of a slice -/
theorem appendSeq_in (F : Fence) (n : Nat) (hA : F.fn 190) (hV : F.fn 160) (hro : F.round = none) (hn : 3 ≤ n) (Bs : Nat) (a : Option Addr) (len cap : Nat) (zs : List Int) (hlen : len ≤ 1000000) (w : World) (hBs : Bs < w.heap.size)
    (hc : w.cell? ⟨Bs, 0, none⟩ = some (.slice a len cap)) (hI : Ints w a len zs) :
    CallsIn F n Tryz.prog 190 #[.slice none 0 0, .func (.func 160) #[] #[.pointer (some ⟨Bs, 0, none⟩)]] w fun e W' =>
      ∃ v, e = .returned v ∧ W'.ownsRow w.heap.size 3 1 v len (zs.map (Value.int .i64)) ∧ Below w.heap.size w W' := by
  have h1 : 1 ≤ n := by omega
  have Hlen := Lib.hid hI.len
  obtain ⟨i0, hi, hz0, hz1, hz2⟩ := info_parts infoInt
  refine callsIn_of_wp_marks Tryz.func190 rfl hA ?_ hro
  simp only [Tryz.ntmps190, List.size_toArray, List.length_cons, List.length_nil, Nat.reduceAdd, Nat.reduceSub, Array.replicate_succ, Array.replicate_zero, List.push_toArray, List.append_toArray, List.nil_append, List.cons_append]
  gi_wp2
  have bO := Boxed.new w 22 (.slice none 0 0)
  have hB0 : Below w.heap.size w (w.alloc (.cells #[.slice none 0 0] 22)) := (Below.refl _ w).alloc (Nat.le_refl _) _
  refine wpIn_rangeFunc_ownG hro h1 (gf := 160) (lb := #[.pointer (some ⟨Bs, 0, none⟩)]) rfl hV (enters_of Tryz.func160 (by kernel_rfl) rfl)
    (iterVals_stops F (n - 1) hV hro (by omega) Bs w.heap.size a len cap zs (by omega) w hBs (Nat.le_refl _) hc hI (fun h => hI.lt h)) belowK_t (belowK_b (by simp)) hB0 (fun _ => rfl)
    (fun pre W => (∃ v, Boxed W w.heap.size 22 v ∧ W.ownsRow w.heap.size 3 1 v pre.length (pre.map (Value.int .i64)) ∧ True) ∧ Below w.heap.size w W)
    (fun _ _ _ => False)
    (OwnFrom.and (Own.from (holdsRow_own w.heap.size w.heap.size 22 3 1 (fun pre : List Int => pre.length) (fun pre => pre.map (Value.int .i64)) (fun _ _ => True)) _) (ownFrom_below (Nat.le_refl _) (by simp)))
    (fun _ _ _ _ _ hs _ _ => hs)
    ⟨⟨_, bO, World.ownsRow_nil _ _ _ _, trivial⟩, hB0⟩
    (fun x => { tmps := #[.slice none 0 0, .func (.func 160) #[] #[.pointer (some ⟨Bs, 0, none⟩)], .pointer (some ⟨w.heap.size, 0, none⟩), undef, .slice none 0 0, .int .i64 x, .func (.func 160) #[] #[.pointer (some ⟨Bs, 0, none⟩)], .int .i64 x, undef, undef, undef, undef, undef], defers := [] }) ?assign ?body ?done ?stop
  case assign =>
    intro l x W K hK
    gi_wp2
    exact hK
  case body =>
    rintro l pre x W ⟨⟨v, hv, hrow, _⟩, hB⟩ hlt
    have hcv := hv.cell
    gi_wp2_with (gi_at_builtin; refine wpListIn_append_own _ rfl _ _ 22 rfl w.heap.size 3 i0 (.int .i64 0) 1 8 Tryz.underlying22 hi hz0 hz1 hz2 rfl (by decide) _ _ _ rfl (hrow.alloc _) ⟨W.heap.size, 0, none⟩ 1 1 [.int .i64 x] rfl rfl (cell_one_new _ _ _) (by simp [Value.oneCell']) (by unfold maxLen; omega) (by omega) (by have := hB.size; simp; omega) ?_; intro v' w1 hown' hgrow _; obtain ⟨g', cap', rfl⟩ := ownsRow_succ hown'; obtain ⟨hv1, hv2, hr2, hk2, hb2⟩ := hv.appended (by decide) hrow hB.size (Nat.le_refl _) hown' hgrow; have hc1 := hv1.cell; have hf1 := hv1.frozen)
    exact ⟨hk2.from _, hb2, ⟨_, hv2, by simpa using hr2, trivial⟩, hB.trans hb2⟩
  case done =>
    rintro D ys W hD rfl ⟨⟨v, hv, hrow, _⟩, hB⟩ hK
    have hcv := hv.cell
    gi_wp2
    refine ⟨by simp, .inl ⟨_, _, rfl, run_takeDeferred hK, ?_⟩⟩
    exact ⟨_, results_tmp rfl _ _ _, v, rfl, by have := ownsRow_putObj hrow (.deferred none) hK rfl; rw [Hlen.out] at this; exact this, hB.trans (belowK_b (w := w) (Nat.le_refl _) W D _ _ (by simp at hD; omega) hK rfl rfl)⟩
  case stop =>
    rintro D c pre W _ _ h _
    exact h.elim

set_option maxRecDepth 100000 in
set_option maxHeartbeats 2000000 in
/-- slices.Collect over the numbers of a slice -/
theorem collect_in (F : Fence) (n : Nat) (hC : F.fn 159) (hA : F.fn 190) (hV : F.fn 160) (hro : F.round = none) (hn : 4 ≤ n) (Bs : Nat) (a : Option Addr) (len cap : Nat) (zs : List Int) (hlen : len ≤ 1000000) (w : World) (hBs : Bs < w.heap.size)
    (hc : w.cell? ⟨Bs, 0, none⟩ = some (.slice a len cap)) (hI : Ints w a len zs) :
    CallsIn F n Tryz.prog 159 #[.func (.func 160) #[] #[.pointer (some ⟨Bs, 0, none⟩)]] w fun e W' =>
      ∃ v, e = .returned v ∧ W'.ownsRow w.heap.size 3 1 v len (zs.map (Value.int .i64)) ∧ Below w.heap.size w W' := by
  refine callsIn_of_wp Tryz.func159 rfl hC ?_ hro
  simp only [Tryz.ntmps159, List.size_toArray, List.length_cons, List.length_nil, Nat.reduceAdd, Nat.reduceSub, Array.replicate_succ, Array.replicate_zero, List.push_toArray, List.append_toArray, List.nil_append, List.cons_append]
  gi_wp2
  refine ⟨fun _ => by omega, ?_⟩
  refine (appendSeq_in F (n - 1) hA hV hro (by omega) Bs a len cap zs hlen _ hBs hc hI).mono ?_
  rintro e W' ⟨v, rfl, hown, hb⟩
  gi_wp2
  go_ret
  exact ⟨v, rfl, hown, hb⟩

theorem values_any (a : Option Addr) (len cap : Nat) (w : World) :
    Calls Tryz.prog 110 #[.slice a len cap] w fun e w' => e = .returned (.func (.func 160) #[] #[.pointer (some ⟨w.heap.size, 0, none⟩)]) ∧ w' = w.alloc (.cells #[.slice a len cap] 22) :=
  callsIn_wide.1 (iterVals_in Fence.wide 8 trivial rfl a len cap w)
theorem collect_any (Bs : Nat) (a : Option Addr) (len cap : Nat) (zs : List Int) (hlen : len ≤ 1000000) (w : World) (hBs : Bs < w.heap.size) (hc : w.cell? ⟨Bs, 0, none⟩ = some (.slice a len cap)) (hI : Ints w a len zs) :
    Calls Tryz.prog 159 #[.func (.func 160) #[] #[.pointer (some ⟨Bs, 0, none⟩)]] w fun e W' =>
      ∃ v, e = .returned v ∧ W'.ownsRow w.heap.size 3 1 v len (zs.map (Value.int .i64)) ∧ Below w.heap.size w W' :=
  callsIn_wide.1 (collect_in Fence.wide 8 trivial trivial trivial rfl (by omega) Bs a len cap zs hlen w hBs hc hI)
end

/- The walks of slices.Sort, Sorted at []int. -/
section
open Go.RowKit Go.Shelf Go.Sort

set_option maxHeartbeats 1000000 in
theorem insSort0_any (a : Option Addr) (c : Nat) (w : World) : Calls Tryz.prog 191 #[.slice a 0 c, .int .i64 0, .int .i64 0] w fun e w' => e = .returned (.tuple #[]) ∧ w' = w := by
  go_enter Tryz.func191, Tryz.ntmps191
  go_wp2_with fail
  refine wp_loop_rounds 1 ?_
  rw [rounds_succ]
  go_wp2_with fail
  go_end0
  exact ⟨rfl, rfl⟩

set_option maxHeartbeats 2000000 in
set_option maxRecDepth 100000 in
theorem pdq0_any (a : Option Addr) (c : Nat) (w : World) : Calls Tryz.prog 161 #[.slice a 0 c, .int .i64 0, .int .i64 0, .int .i64 0] w fun e w' => e = .returned (.tuple #[]) ∧ w' = w := by
  go_enter Tryz.func161, Tryz.ntmps161
  go_wp2_with fail
  refine wp_loop_rounds 1 ?_
  rw [rounds_succ]
  go_wp2_with fail
  refine (insSort0_any a c w).mono ?_
  rintro e w' ⟨rfl, rfl⟩
  go_wp2_with fail
  (try simp only [Exit.inBlock, Exit.then]); refine bodyPost_ret (results_none rfl _ _ _) rfl ?_
  exact ⟨rfl, rfl⟩

theorem bitsLen0_any (w : World) : Calls Tryz.prog 162 #[.int .u64 0] w fun e w' => e = .returned (.int .i64 0) ∧ w' = w :=
  calls_of_every_depth fun D => AnyS.bits_LenIn { layS with } D 0 w (by omega) (by omega)

set_option maxHeartbeats 2000000 in
theorem sort0_any (a : Option Addr) (c : Nat) (w : World) : Calls Tryz.prog 111 #[.slice a 0 c] w fun e w' => e = .returned (.tuple #[]) ∧ w' = w := by
  go_enter Tryz.func111, Tryz.ntmps111
  go_wp2_with fail
  refine (bitsLen0_any w).mono ?_
  rintro e w' ⟨rfl, rfl⟩
  go_wp2_with fail
  refine (pdq0_any a c w').mono ?_
  rintro e w' ⟨rfl, rfl⟩
  go_wp2_with fail
  go_end0
  exact ⟨rfl, rfl⟩

/-- slices.Sort of a slice of the call's own -/
theorem sort_any (B : Nat) (a : Option Addr) (n c : Nat) (l : List Int) (w : World) (hown : w.ownsRow B 3 1 (.slice a n c) n (l.map (Value.int .i64))) (hB : B ≤ w.heap.size) (hn : n ≤ 1000000) :
    Calls Tryz.prog 111 #[.slice a n c] w fun e w' => e = .returned (.tuple #[]) ∧ w'.ownsRow B 3 1 (.slice a n c) n ((sortL l).map (Value.int .i64)) ∧ w.grownBy w' (Value.slice a n c).ownBlock ∧ Below B w w' := by
  have hl : l.length = n := by simpa using own_len hown
  have hown' := hown
  rcases hown.2 with ⟨hv, hz⟩ | ⟨g, cap, cur, hv, hbase, hb, h1, h2, h3, h4⟩
  · cases hv
    have hl0 : l = [] := List.eq_nil_of_length_eq_zero hl
    subst hl0
    refine (sort0_any none 0 w).mono ?_
    rintro e w' ⟨rfl, rfl⟩
    exact ⟨rfl, by simpa [sortL] using hown', ⟨rfl, rfl, rfl, Nat.le_refl _, fun k _ _ => rfl⟩, Below.refl _ _⟩
  · cases hv
    subst hl
    have hH := holds_of_blockI (ss := l) hb (by simpa using h4)
    have hgl : g < w.heap.size := (Array.getElem?_eq_some_iff.1 hb).1
    refine (Any.slices_Sort_int layS g 0 c l w hH hgl (by omega)).mono ?_
    rintro e w' ⟨rfl, nn, os, rfl⟩
    have hgr := grownBy_sortedI (w := w) (g := g) (n := nn) (os := os) (l.mergeSort fun x y => decide (x ≤ y)).toArray
    exact ⟨rfl, ownsRow_sortedI (by simp) hbase hb h1 h2 h3, hgr, (Below.refl B w).grown hgr hB (fun j hj => by cases hj; exact hbase)⟩

set_option maxHeartbeats 2000000 in
set_option maxRecDepth 100000 in
/-- slices.Sorted over the numbers of a slice -/
theorem sorted_any (Bs : Nat) (a : Option Addr) (len cap : Nat) (zs : List Int) (hlen : len ≤ 1000000) (w : World) (hBs : Bs < w.heap.size) (hc : w.cell? ⟨Bs, 0, none⟩ = some (.slice a len cap)) (hI : Ints w a len zs) :
    Calls Tryz.prog 109 #[.func (.func 160) #[] #[.pointer (some ⟨Bs, 0, none⟩)]] w fun e W' =>
      ∃ a2 c2, e = .returned (.slice a2 len c2) ∧ W'.ownsRow w.heap.size 3 1 (.slice a2 len c2) len ((sortL zs).map (Value.int .i64)) ∧ Below w.heap.size w W' := by
  go_enter Tryz.func109, Tryz.ntmps109
  go_wp2_with fail
  refine (collect_any Bs a len cap zs hlen w hBs hc hI).mono ?_
  rintro e w1 ⟨v, rfl, hown, hb⟩
  obtain ⟨a2, c2, rfl, _⟩ := Pl.own hown
  have HS := Lib.hid (sort_any w.heap.size a2 len c2 zs w1 hown hb.size hlen)
  clear hown
  go_wp2_with fail
  refine HS.out.mono ?_
  rintro e w2 ⟨rfl, hown2, _, hb2⟩
  go_wp2_with fail
  go_ret
  exact ⟨a2, c2, rfl, hown2, hb.trans hb2⟩
end

/- The walk of outside of the package exclusion. -/
section
open Go.RowKit

theorem frTo_step (U : List Int) (k : Nat) : frTo false U (k + 1) = if decide ((k : Int) ∈ U) = false then frTo false U k ++ [(k : Int)] else frTo false U k := rfl

set_option maxRecDepth 100000 in
set_option maxHeartbeats 4000000 in
theorem exOutside_any (pb m : Nat) (sa : Option Addr) (ns cs : Nat) (s : List Int) (az : Option Addr) (nz cz : Nat) (z : List Int) (w : World) (p4 : w.cell? ⟨pb, 4, none⟩ = some (.int .i64 m)) (hs : Ints w sa ns s) (hz : Ints w az nz z)
    (hnz : nz ≤ 1000000) (hm : m ≤ 1000) :
    Calls Tryz.prog 155 #[.pointer (some ⟨pb, 0, none⟩), .slice sa ns cs, .slice az nz cz] w (NewInts w (outS m s z)) := by
  have Hzl := Lib.hid hz.len
  have HP := Lib.hid (fun (V : World) (hV : Below w.heap.size w V) => cell_keep hV p4)
  go_enter Tryz.func155, Tryz.ntmps155
  go_wp2_with fail
  refine (values_any az nz cz w).mono ?_
  rintro e w1 ⟨rfl, rfl⟩
  have hb1 : Below w.heap.size w (w.alloc (.cells #[.slice az nz cz] 22)) := below1 _ _
  have HSo := Lib.hid (sorted_any w.heap.size az nz cz z hnz (w.alloc (.cells #[.slice az nz cz] 22)) (by simp) (cell_alloc_at _ _ _ rfl 0) (hz.keep hb1))
  have hsz1 : w.heap.size ≤ (w.alloc (.cells #[.slice az nz cz] 22)).heap.size := hb1.size
  generalize w.alloc (.cells #[.slice az nz cz] 22) = w1 at *
  go_wp2_with fail
  refine HSo.out.mono ?_
  rintro e w2 ⟨a2, c2, rfl, hown2, hb2⟩
  have hbw2 := Below.next hb1 hb2
  have p4' := HP.out w2 hbw2
  have hO2 : w2.ownsRow w.heap.size 3 1 (.slice a2 nz c2) nz ((sortL z).map (Value.int .i64)) := own_mono hown2 hsz1
  clear hown2 p4
  go_wp2_with fail
  go_loopw [7, 17] (fun qv iv wr => ∃ (k : Nat) (aq : Option Addr) (cq : Nat) (out : List Int), k ≤ m ∧ iv = .int .i64 k ∧ qv = .slice aq out.length cq ∧ Hid (out = sortL z ++ frTo false (s ++ z) k) ∧ Hid (out.length ≤ nz + k) ∧
      wr.ownsRow w.heap.size 3 1 (.slice aq out.length cq) out.length (out.map (Value.int .i64)) ∧ Below w.heap.size w wr)
    (fun _ iv _ => m - (intOf iv).toNat)
  case atStart =>
    refine ⟨0, a2, c2, sortL z, Nat.zero_le _, rfl, ?_, ?_, ?_, ?_, hbw2⟩
    · rw [sortL_len, Hzl.out]
    · show _ = _; simp [frTo]
    · show _ ≤ _; rw [sortL_len, Hzl.out]; omega
    · rw [sortL_len, Hzl.out]; exact hO2
  case round =>
    obtain ⟨k, aq, cq, out, hk, rfl, rfl, hst, hln, hop, hbr⟩ := hrel
    generalize wr = U at *
    by_cases hlt : k < m
    · have hsU := hs.keep hbr
      have hzU := hz.keep hbr
      have hlen := hln.out
      have Hskip : Hid (((k : Int) ∈ s ++ z) → out = sortL z ++ frTo false (s ++ z) (k + 1)) := fun hmem => by
        rw [frTo_step, if_neg (by rw [decide_eq_true hmem]; decide)]; exact hst.out
      have Htake : Hid (¬ ((k : Int) ∈ s ++ z) → out ++ [(k : Int)] = sortL z ++ frTo false (s ++ z) (k + 1)) := fun hmem => by
        rw [frTo_step, if_pos (by rw [decide_eq_false hmem]), ← List.append_assoc, ← hst.out]
      by_cases h1 : (k : Int) ∈ s
      · have hmd : decide ((k : Int) ∈ s) = true := by simpa using h1
        have HcA := Lib.hid (contains_any sa ns cs s k U hsU)
        rw [hmd] at HcA
        have Hst : Hid (out = sortL z ++ frTo false (s ++ z) (k + 1)) := Hskip.out (List.mem_append.2 (.inl h1))
        clear h1 hmd
        go_wp2_with fail
        refine HcA.out.mono ?_
        rintro e w6 ⟨rfl, rfl⟩
        go_wp2_with fail
        go_roundw
        case rel => exact ⟨k + 1, aq, cq, out, by omega, by go_num, rfl, Hst.out, (show _ ≤ _ by omega), hop, hbr⟩
        case measure => simp [intOf] <;> omega
      · have hmd : decide ((k : Int) ∈ s) = false := by simpa using h1
        have HcA := Lib.hid (contains_any sa ns cs s k U hsU)
        rw [hmd] at HcA
        by_cases h2 : (k : Int) ∈ z
        · have hmd2 : decide ((k : Int) ∈ z) = true := by simpa using h2
          have HcB := Lib.hid (contains_any az nz cz z k U hzU)
          rw [hmd2] at HcB
          have Hst : Hid (out = sortL z ++ frTo false (s ++ z) (k + 1)) := Hskip.out (List.mem_append.2 (.inr h2))
          clear h1 hmd h2 hmd2
          go_wp2_with fail
          refine HcA.out.mono ?_
          rintro e w6 ⟨rfl, rfl⟩
          go_wp2_with fail
          refine HcB.out.mono ?_
          rintro e w7 ⟨rfl, rfl⟩
          go_wp2_with fail
          go_roundw
          case rel => exact ⟨k + 1, aq, cq, out, by omega, by go_num, rfl, Hst.out, (show _ ≤ _ by omega), hop, hbr⟩
          case measure => simp [intOf] <;> omega
        · have hmd2 : decide ((k : Int) ∈ z) = false := by simpa using h2
          have HcB := Lib.hid (contains_any az nz cz z k U hzU)
          rw [hmd2] at HcB
          have Hst : Hid (out ++ [(k : Int)] = sortL z ++ frTo false (s ++ z) (k + 1)) := Htake.out fun h => by
            rcases List.mem_append.1 h with h | h
            · exact h1 h
            · exact h2 h
          have hcn := cell_new U (.int .i64 k) 3
          have hbn := below1 U (.cells #[.int .i64 k] 3)
          have hszU := hbr.size
          clear h1 hmd h2 hmd2
          go_wp2_with fail
          refine HcA.out.mono ?_
          rintro e w6 ⟨rfl, rfl⟩
          go_wp2_with fail
          refine HcB.out.mono ?_
          rintro e w7 ⟨rfl, rfl⟩
          go_wp2_with (at_builtin; refine wpList_push rfl _ _ 22 3 rfl (.int .i64 0) 8 Tryz.underlying22 infoInt rfl w.heap.size aq out.length cq _ rfl (hop.alloc _) ⟨w7.heap.size, 0, none⟩ 1 (.int .i64 k) rfl hcn rfl (by omega) (by unfold maxLen; omega) (by simp; omega) ?_; intro a5 c5 w5 hown5 hgr5 hap5)
          go_roundw
          case rel =>
            have hb5 : Below w.heap.size w w5 := Below.app (Below.trans hbr (hbn.mono hszU)) (hop.alloc _) hgr5 (Nat.le_refl _) (Nat.le_trans hszU hbn.size)
            refine ⟨k + 1, a5, c5, out ++ [(k : Int)], by omega, by go_num, by simp, Hst.out, (show _ ≤ _ by rw [List.length_append, List.length_singleton]; omega), ?_, hb5⟩
            simpa using hown5
          case measure => simp [intOf] <;> omega
    · obtain rfl : k = m := by omega
      have Ho : Hid (outS k s z = out) := by show _ = _; rw [outS, hst.out]
      go_wp2_with fail
      go_ret
      exact ⟨aq, cq, by rw [Ho.out]; rfl, by rw [Ho.out]; exact hop, hbr⟩
end

/- Plain: what a followed tree proves; that a built tree is followed. -/
section
variable {O : FOps} {L : List (List Int)} {m : Nat} {C : Clm}

theorem kbld_fol {B : List Int → List Int → List (List Int) → Int × List (List Int)} {F : List Int → List Int → List (List Int) → Option (List (List Int))} {s : List Int}
    (hBF : ∀ s' z T T', B s' z T = (0, T') → ∃ X, T' = T ++ X ∧ ∀ rest, F s' z (X ++ rest) = some rest) : ∀ (ks z : List Int) (T T' : List (List Int)), kbld B s z ks T = (0, T') → ∃ X, T' = T ++ X ∧ ∀ rest, kfol F s z ks (X ++ rest) = some rest
  | [], z, T, T', h => by
    rw [kbld] at h
    cases h
    exact ⟨[], by simp, fun rest => rfl⟩
  | k :: ks, z, T, T', h => by
    rw [kbld] at h
    by_cases h0 : (B (s ++ [k]) z T).1 = 0
    · rw [if_pos h0] at h
      obtain ⟨X, hX, hF⟩ := hBF (s ++ [k]) z T (B (s ++ [k]) z T).2 (by rw [← h0])
      obtain ⟨Y, hY, hK⟩ := kbld_fol hBF ks (z ++ [k]) _ T' h
      refine ⟨X ++ Y, by rw [hY, hX, List.append_assoc], fun rest => ?_⟩
      rw [kfol, List.append_assoc, hF]
      exact hK rest
    · rw [if_neg h0] at h
      have := congrArg Prod.fst h
      exact absurd this h0
theorem bld_fol : ∀ (d : Nat) (s z : List Int) (T T' : List (List Int)), bldS O L m C d s z T = (0, T') → ∃ X, T' = T ++ X ∧ ∀ rest, folS O L m C d s z (X ++ rest) = some rest
  | 0, s, z, T, T', h => by
    rw [bldS] at h
    split at h
    · rename_i hr
      split at h
      · cases h
      · cases h
        exact ⟨_, rfl, fun rest => by rw [List.singleton_append, folS, if_pos hr]⟩
    · cases h
  | d + 1, s, z, T, T', h => by
    rw [bldS] at h
    split at h
    · rename_i hr
      split at h
      · cases h
      · obtain ⟨X, hX, hF⟩ := kbld_fol (bld_fol d) _ _ _ _ h
        exact ⟨csetS O L m C s z :: X, by rw [hX]; simp, fun rest => by rw [List.cons_append, folS]; (try dsimp only); rw [if_pos hr]; exact hF rest⟩
    · cases h
theorem tree_prov {T : List (List Int)} (h : treeS O L m C = (0, T)) : provS O L m C T = 0 := by
  obtain ⟨X, hX, hF⟩ := bld_fol _ _ _ _ _ h
  have h1 := hF []
  rw [List.append_nil] at h1
  rw [List.nil_append] at hX
  unfold provS
  rw [hX, h1]
end

/- The first entry with a property; slices.Index. -/
section
open Go.RowKit
end

/- The walks of infoset.Is, is. -/
section
open Go.RowKit
end

/- The walk of infoset.Exchange. -/
section
open Go.RowKit

theorem InNs.set {m : Nat} {A : List Int} (hA : ∀ k, k < A.length → 0 ≤ nth A k ∧ nth A k < m) {t : Nat} (ht : t < A.length) {j : Int} (hj : 0 ≤ j ∧ j < m) : ∀ k, k < A.length → 0 ≤ nth (A.set t j) k ∧ nth (A.set t j) k < m := fun k hk => by
  rw [nth_set _ _ _ _ ht]
  split
  · exact hj
  · exact hA k hk
end

/- The family of a code by the reference's rounds, and exchanges by sorted sets (plain laws). -/
section
theorem frTo_pair (b : Bool) (U : List Int) : ∀ k, (frTo b U k).Pairwise (fun x y => x < y)
  | 0 => List.Pairwise.nil
  | k + 1 => by
    have ih := frTo_pair b U k
    rw [frTo]
    split
    · rw [List.pairwise_append]
      refine ⟨ih, by simp, fun x hx y hy => ?_⟩
      rw [List.mem_singleton] at hy
      obtain ⟨j, hj, rfl, _⟩ := (mem_frTo k).1 hx
      omega
    · exact ih
/-- the used ones, sorted -/
theorem used_sort {m : Nat} {U : List Int} (hn : U.Nodup) (hU : ∀ x ∈ U, 0 ≤ x ∧ x < (m : Int)) : sortL U = frTo true U m := by
  have h := frTo_pair true U m
  refine (sortL_unique (h.imp fun h => by omega) ((List.perm_ext_iff_of_nodup (h.imp fun h => by omega) hn).2 fun x => ?_)).symm
  rw [mem_frTo]
  constructor
  · rintro ⟨j, _, rfl, h1⟩; simpa using h1
  · intro hx
    have h1 := hU x hx
    exact ⟨x.toNat, by omega, by omega, by rw [show ((x.toNat : Nat) : Int) = x by omega]; simpa using hx⟩
theorem used_len {m : Nat} {U : List Int} (hn : U.Nodup) (hU : ∀ x ∈ U, 0 ≤ x ∧ x < (m : Int)) : U.length ≤ m := by
  rw [← sortL_len, used_sort hn hU]; exact frTo_len _ _ _
theorem okSet_nodup {N : Int} {A : List Int} (h : okSet N A = true) : A.Nodup := by
  refine nth_inj_nodup fun i j hij hj => ?_
  have key : ∀ d i, i + d < A.length → 0 < d → nth A i < nth A (i + d) := fun d => by
    induction d with
    | zero => intro i _ h0; omega
    | succ d ih =>
      intro i hi _
      have h1 := (okSet_at h hi).2.2 (by omega)
      rw [show i + (d + 1) - 1 = i + d by omega] at h1
      by_cases h0 : d = 0
      · subst h0; exact h1
      · have := ih i (by omega) (by omega); omega
  have := key (j - i) i (by omega) (by omega)
  rw [show i + (j - i) = j by omega] at this
  omega
section
variable {O : FOps} {El : Int → Prop} {m : Nat} {L : List (List Int)}
end
end

/- Plain: how many nodes a canonical tree has; when it is built. -/
section
variable {O : FOps} {El : Int → Prop} {m : Nat} {L : List (List Int)}

/-! ### ranks of lists -/
theorem rkQ_snoc_le (F : Fld O El) (hL : Rws El m L) (Q : List Int) (x : Int) : rkQ O L (Q ++ [x]) ≤ rkQ O L Q + 1 := by
  have h1 := rkQ_rk F hL (Q ++ [x])
  rw [gA_snoc] at h1
  have h2 := rkQ_rk F hL Q
  generalize rkQ O L (Q ++ [x]) = n at *
  cases h1 with
  | dep _ _ h => rw [h2.uniq h]; omega
  | ind _ _ h => rw [h2.uniq h]; omega
theorem rkQ_app_le (F : Fld O El) (hL : Rws El m L) (Q : List Int) : ∀ (n : Nat) (A : List Int), A.length = n → rkQ O L (Q ++ A) ≤ rkQ O L Q + n
  | 0, A, h => by rw [List.eq_nil_of_length_eq_zero h, List.append_nil]; omega
  | n + 1, A, h => by
    have hA : A ≠ [] := fun e => by rw [e] at h; simp at h
    obtain ⟨A', x, rfl⟩ : ∃ A' x, A = A' ++ [x] := ⟨A.dropLast, A.getLast hA, (List.dropLast_concat_getLast hA).symm⟩
    have ih := rkQ_app_le F hL Q n A' (by simpa using h)
    have h1 := rkQ_snoc_le F hL (Q ++ A') x
    rw [List.append_assoc] at h1
    omega
theorem rkQ_le (O : FOps) (L : List (List Int)) (Q : List Int) : rkQ O L Q ≤ Q.length := grS_le O L Q
theorem ind_left (F : Fld O El) (hL : Rws El m L) {Q A : List Int} (h : rkQ O L (Q ++ A) = (Q ++ A).length) : rkQ O L Q = Q.length := by
  have h1 := rkQ_app_le F hL Q _ A rfl
  have h2 := rkQ_le O L Q
  rw [List.length_append] at h
  omega
theorem rkQ_mono (F : Fld O El) (hL : Rws El m L) {Q Q' : List Int} (h : ∀ x ∈ Q, x ∈ Q') : rkQ O L Q ≤ rkQ O L Q' :=
  rkQ_span F hL fun x hx => by
    obtain ⟨y, hy, e⟩ := mem_gA.1 hx
    exact (col_clo F hL).mem _ _ (mem_gA.2 ⟨y, h y hy, e⟩)
variable {C : Clm}
structure NodeOk (O : FOps) (L : List (List Int)) (m : Nat) (C : Clm) (s z : List Int) : Prop where
  sn : s.Nodup
  sb : ∀ x ∈ s, 0 ≤ x ∧ x < (m : Int)
  zn : z.Nodup
  zb : ∀ x ∈ z, 0 ≤ x ∧ x < (m : Int)
  sz : ∀ x ∈ z, ¬ x ∈ s
  zi : rkQ O L z = z.length
  zk : ¬ C.cos = true → z.length ≤ C.M
theorem NodeOk.root : NodeOk O L m C [] [] := ⟨by simp, fun x hx => by simp at hx, by simp, fun x hx => by simp at hx, fun x hx => by simp at hx, rfl, fun _ => Nat.zero_le _⟩
theorem out_nodup {s z : List Int} (hz : z.Nodup) : (outS m s z).Nodup := by
  unfold outS
  rw [List.nodup_append]
  refine ⟨(sortL_perm z).nodup_iff.2 hz, (frTo_pair false (s ++ z) m).imp fun h => by omega, fun a ha b hb e => ?_⟩
  obtain ⟨j, hj, rfl, hd⟩ := (mem_frTo m).1 hb
  have hn : ¬ (j : Int) ∈ s ++ z := by simpa using hd
  exact hn (List.mem_append.2 (.inr ((sortL_perm z).mem_iff.1 (e ▸ ha))))
theorem cset_mem {s z : List Int} {x : Int} : x ∈ csetS O L m C s z ↔ x ∈ grM O L (outS m s z) (if C.cos = true then m else C.M) := (sortL_perm _).mem_iff
theorem cset_nodup {s z : List Int} (hz : z.Nodup) : (csetS O L m C s z).Nodup := by
  unfold csetS
  refine (sortL_perm _).nodup_iff.2 ?_
  unfold grM
  refine List.Nodup.sublist (List.take_sublist _ _) ?_
  exact gr_nodup (out_nodup hz)
where gr_nodup {Q : List Int} (hQ : Q.Nodup) : (grS O L Q).Nodup := List.Nodup.sublist (gr_sub Q Q.length (Nat.le_refl _)) (by rw [List.take_length]; exact hQ)
      gr_sub (Q : List Int) : ∀ k, k ≤ Q.length → ((grTo O L Q k).2).Sublist (Q.take k)
  | 0, _ => by simp [grTo]
  | k + 1, h => by
    have ih := gr_sub Q k (by omega)
    rw [grTo, List.take_succ_eq_append_getElem (by omega)]
    split
    · rw [nth_getElem (show k < Q.length by omega)]; exact ih.append (List.Sublist.refl _)
    · exact ih.trans (List.sublist_append_left _ _)
end

/- The cells of a proof of the package exclusion; what a claim's memory holds. -/
section
open Go.RowKit

/-- the cells of a proof -/
def prfL (b : Nat) (P M : Int) (am : Option Addr) (mn cm : Nat) (m : Nat) (a : Option Addr) (n c : Nat) (ay : Option Addr) (ny cy : Nat) (C : Clm) (sv : Value) (k : Nat) : List Value :=
  [.pointer (some ⟨b, 0, none⟩), .int .i64 P, .int .i64 M, .slice am mn cm, .int .i64 m, .slice a n c, .slice ay ny cy, .bool C.cos, .int .i64 C.M, .int .i64 C.W, sv, .int .i64 k]
structure PEnv (w0 : World) (b : Nat) (G : Tbl) (a : Option Addr) (n : Nat) (L : List (List Int)) (m : Nat) (ay : Option Addr) (ny : Nat) (C : Clm) : Prop where
  g : GFw w0 b G
  mat : Mat w0 a n L
  rws : Rws G.El m L
  n6 : n ≤ 1000000
  m6 : m ≤ 64
  w6 : C.W ≤ 64
  yl : C.cos = true → ny = m
  y : C.cos = true → Ints w0 ay m C.y
  ye : C.cos = true → G.Els C.y
theorem outS_nil (m : Nat) (s : List Int) : outS m s [] = frTo false s m := by
  unfold outS
  rw [List.append_nil, show sortL [] = [] by unfold sortL; simp]
  rfl
theorem Box.setCell {w : World} {b : Nat} {cs : List Value} (h : Box w b cs) (i : Nat) (v : Value) : Box (w.setCell ⟨b, i, none⟩ v) b (cs.set i v) := by
  refine ⟨by simpa using h.1, fun j u hu => ?_, fun j => by rw [World.frozen?_setCell]; exact h.2.2 j⟩
  by_cases e : j = i
  · subst e
    by_cases hl : j < cs.length
    · rw [List.getElem?_set_self hl] at hu
      cases hu
      exact World.cell?_setCell_same _ _ _ (h.2.1 j cs[j] (List.getElem?_eq_getElem hl))
    · rw [List.set_eq_of_length_le (by omega), List.getElem?_eq_none (by omega)] at hu
      cases hu
  · rw [List.getElem?_set_ne (by omega)] at hu
    rw [World.cell?_setCell_other _ _ _ _ (by simp <;> omega)]
    exact h.2.1 j u hu
/-- an index of a right set -/
theorem okSet_rng {m : Nat} {t : List Int} (h : okSet m t = true) : ∀ k, k < t.length → 0 ≤ nth t k ∧ nth t k < m := fun _ hk => ⟨(okSet_at h hk).1, (okSet_at h hk).2.1⟩
end

/- Sorting by insertion (plain law). -/
section
def swp (X : List Int) (j : Nat) : List Int := (X.set j (nth X (j - 1))).set (j - 1) (nth X j)
theorem swp_nth {X : List Int} {j : Nat} (h0 : 0 < j) (hj : j < X.length) (i : Nat) : nth (swp X j) i = if i = j - 1 then nth X j else if i = j then nth X (j - 1) else nth X i := by
  unfold swp
  rw [nth_set _ _ _ _ (by simp; omega), nth_set _ _ _ _ hj]
theorem swp_perm {X : List Int} {j : Nat} (h0 : 0 < j) (hj : j < X.length) : (swp X j).Perm X := by
  obtain ⟨A, u, v, C, rfl, hA⟩ : ∃ A u v C, X = A ++ u :: v :: C ∧ A.length + 1 = j := by
    refine ⟨X.take (j - 1), X[j - 1], X[j], X.drop (j + 1), ?_, by rw [List.length_take]; omega⟩
    have h1 : X.drop (j - 1) = X[j - 1] :: X.drop j := by
      rw [List.drop_eq_getElem_cons (by omega)]
      congr 2; omega
    rw [← List.drop_eq_getElem_cons hj, ← h1, List.take_append_drop]
  subst hA
  have h1 : nth (A ++ u :: v :: C) A.length = u := by unfold nth; simp
  have h2 : nth (A ++ u :: v :: C) (A.length + 1) = v := by unfold nth; simp [List.getElem?_append]
  have h3 : swp (A ++ u :: v :: C) (A.length + 1) = A ++ v :: u :: C := by
    unfold swp
    rw [Nat.add_sub_cancel, h1, h2]
    simp [List.set_append]
  rw [h3]
  exact List.Perm.append_left A (List.Perm.swap u v C)

/-- the first k are in order -/
def SrtK (X : List Int) (k : Nat) : Prop := ∀ p q, p < q → q < k → nth X p ≤ nth X q
/-- the first i + 1 are in order but for the entry at j -/
def SrtJ (X : List Int) (i j : Nat) : Prop := ∀ p q, p < q → q ≤ i → q ≠ j → nth X p ≤ nth X q
theorem SrtK.start {X : List Int} {i : Nat} (h : SrtK X i) : SrtJ X i i := fun p q h1 h2 h3 => h p q h1 (by omega)
theorem SrtJ.step {X : List Int} {i j : Nat} (h : SrtJ X i j) (h0 : 0 < j) (hji : j ≤ i) (hj : j < X.length) (hlt : nth X j < nth X (j - 1)) : SrtJ (swp X j) i (j - 1) := fun p q h1 h2 h3 => by
  rw [swp_nth h0 hj, swp_nth h0 hj]
  by_cases e1 : q = j
  · subst e1
    rw [if_neg h3, if_pos rfl]
    by_cases e2 : p = q - 1
    · rw [if_pos e2]; omega
    · rw [if_neg e2, if_neg (by omega)]
      exact h p (q - 1) (by omega) (by omega) (by omega)
  · rw [if_neg h3, if_neg e1]
    by_cases e2 : p = j - 1
    · rw [if_pos e2]
      exact h j q (by omega) h2 e1
    · rw [if_neg e2]
      by_cases e3 : p = j
      · rw [if_pos e3]
        exact h (j - 1) q (by omega) h2 e1
      · rw [if_neg e3]
        exact h p q h1 h2 e1
theorem SrtJ.done {X : List Int} {i j : Nat} (h : SrtJ X i j) (hji : j ≤ i) (hd : j = 0 ∨ nth X (j - 1) ≤ nth X j) : SrtK X (i + 1) := fun p q h1 h2 => by
  by_cases e : q = j
  · subst e
    rcases hd with hd | hd
    · omega
    · by_cases e2 : p = q - 1
      · rw [e2]; exact hd
      · exact Int.le_trans (h p (q - 1) (by omega) (by omega) (by omega)) hd
  · exact h p q h1 (by omega) e
theorem SrtK.sort {X Q : List Int} {k : Nat} (h : SrtK X k) (hk : X.length ≤ k) (hp : X.Perm Q) : X = sortL Q := by
  refine sortL_unique ?_ hp
  rw [List.pairwise_iff_getElem]
  intro i j hi hj hij
  have := h i j hij (by omega)
  rwa [nth_getElem hi, nth_getElem hj] at this
end

/- Two matrices whose rows go together: 'each' of matrix.eliminate at both. -/
section
open Go.RowKit

theorem nthR_mapf (f : List Int → List Int) (L : List (List Int)) {i : Nat} (h : i < L.length) : nthR (L.map f) i = f (nthR L i) := by
  rw [nthR_getElem (by simpa using h), nthR_getElem h, List.getElem_map]
theorem nth_takeL (l : List Int) {len k : Nat} (h : k < len) : nth (l.take len) k = nth l k := by
  unfold nth; simp only [List.getD_eq_getElem?_getD, List.getElem?_take]; rw [if_pos h]
theorem addRow_take (O : FOps) (v u : List Int) (s : Int) (len : Nat) : (addRow O v s u).take len = addRow O (v.take len) s (u.take len) := by
  unfold addRow; rw [List.take_zipWith]
/-- the blocks of two matrices -/
def I2 (a : Option Addr) (R : List (Option Addr × Nat)) (a2 : Option Addr) (S : List (Option Addr × Nat)) (b : Nat) : Prop := OIn a R b ∨ OIn a2 S b
/-- two own matrices in blocks apart: the beginnings and the ends of the rows J -/
structure OMat2 (w : World) (B : Nat) (a : Option Addr) (n c : Nat) (R : List (Option Addr × Nat)) (a2 : Option Addr) (c2 : Nat) (S : List (Option Addr × Nat)) (len : Nat) (J : List (List Int)) : Prop where
  om1 : OMat w B a n c R (J.map (List.take len))
  om2 : OMat w B a2 n c2 S (J.map (List.drop len))
  dis : ∀ b, OIn a R b → ¬ OIn a2 S b
namespace OMat2
variable {w w' w1 : World} {B : Nat} {a : Option Addr} {n c : Nat} {R R' : List (Option Addr × Nat)} {a2 : Option Addr} {c2 : Nat} {S S' : List (Option Addr × Nat)} {len : Nat} {J J' : List (List Int)}
theorem lt (h : OMat2 w B a n c R a2 c2 S len J) (b : Nat) (hb : I2 a R a2 S b) : B ≤ b ∧ b < w.heap.size := by
  rcases hb with hb | hb
  · exact h.om1.lt b hb
  · exact h.om2.lt b hb
theorem new (h : OMat2 w B a n c R a2 c2 S len J) {b : Nat} (hb : w.heap.size ≤ b) : ¬ I2 a R a2 S b := fun h' => by have := h.lt b h'; omega
theorem keep (h : OMat2 w B a n c R a2 c2 S len J) (hb : Below w.heap.size w w') : OMat2 w' B a n c R a2 c2 S len J := ⟨h.om1.keep hb, h.om2.keep hb, h.dis⟩
theorem ll (h : OMat2 w B a n c R a2 c2 S len J) : J.length = n := by have := h.om1.ll; simpa using this
theorem cell (h : OMat2 w B a n c R a2 c2 S len J) {i : Nat} (hi : i < n) (hl : len ≤ (nthR J i).length) : w.cell? ⟨ablk a, aoff a + i, none⟩ = some (.slice (nthA R i).1 len (nthA R i).2) := by
  have h1 := h.om1.cell hi
  rw [nthR_mapf _ J (by rw [h.ll]; exact hi), List.length_take, Nat.min_eq_left hl] at h1
  exact h1
theorem ints (h : OMat2 w B a n c R a2 c2 S len J) {i : Nat} (hi : i < n) (hl : len ≤ (nthR J i).length) : Ints w (nthA R i).1 len ((nthR J i).take len) := by
  have h1 := h.om1.ints hi
  rw [nthR_mapf _ J (by rw [h.ll]; exact hi), List.length_take, Nat.min_eq_left hl] at h1
  exact h1
end OMat2

variable {w : World} {b : Nat} {G : Tbl}
end

/- The walk of matrix.eliminate with a second matrix. -/
section
open Go.RowKit

variable {w : World} {b : Nat} {G : Tbl}
theorem OMat2.of_blocks {w' : World} {B : Nat} {a : Option Addr} {n c : Nat} {R : List (Option Addr × Nat)} {a2 : Option Addr} {c2 : Nat} {S : List (Option Addr × Nat)} {len : Nat} {J : List (List Int)} (h : OMat2 w B a n c R a2 c2 S len J) (hb : ∀ b, I2 a R a2 S b → w'.heap[b]? = w.heap[b]?) : OMat2 w' B a n c R a2 c2 S len J :=
  ⟨h.om1.of_blocks fun b hb' => hb b (.inl hb'), h.om2.of_blocks fun b hb' => hb b (.inr hb'), h.dis⟩
end

/- The greedy order, as plain Lean functions. -/
section
section
variable {f : Nat → Int} {N : Nat} (hf : ∀ y, f y ≤ N)
include hf
end
end

/- Orders, widths and the table over all sets, as plain Lean functions. -/
section
/-- the least entry at a set with one of its positions below i removed -/
def leastTo (N : Nat) (T : List Int) (s : Nat) : Nat → Int
  | 0 => N
  | i + 1 => if s.testBit i = true then min (leastTo N T s i) (nth T (s - 2 ^ i)) else leastTo N T s i
theorem or_add : ∀ (b x : Nat), x.testBit b = false → x ||| 2 ^ b = x + 2 ^ b
  | 0, x, h => by
    rw [Nat.testBit_zero, decide_eq_false_iff_not] at h
    have h1 : (x ||| 1) / 2 = x / 2 := by rw [Nat.or_div_two]; simp
    have h2 : (x ||| 1) % 2 = 1 := Nat.or_mod_two_eq_one.2 (.inr rfl)
    show x ||| 1 = x + 1
    omega
  | b + 1, x, h => by
    rw [Nat.testBit_succ] at h
    have ih := or_add b (x / 2) h
    have e : 2 ^ (b + 1) / 2 = 2 ^ b := by rw [Nat.pow_succ]; omega
    have h1 : (x ||| 2 ^ (b + 1)) / 2 = x / 2 + 2 ^ b := by rw [Nat.or_div_two, e, ih]
    have h2 : (x ||| 2 ^ (b + 1)) % 2 = 1 ↔ x % 2 = 1 := by
      rw [Nat.or_mod_two_eq_one]
      have : 2 ^ (b + 1) % 2 = 0 := by rw [Nat.pow_succ]; omega
      omega
    have h3 : 2 ^ (b + 1) = 2 * 2 ^ b := by rw [Nat.pow_succ]; omega
    omega
end

/- A code with its positions in another order (plain law). -/
section
section
variable {O : FOps} {El : Int → Prop} {m : Nat}

end

section
variable {P M : Int} {mod : List Int} {m : Nat} {L : List (List Int)} {Q : List Int}
end
end

/- Words of a code: reduced by canonical rows they vanish; combinations of rows (plain law). -/
section
section
variable {O : FOps} {El : Int → Prop} {m : Nat} {R : List (List Int)} {P : List Int}
/-- the sum of the first k rows, each times its entry -/
def cmbTo (O : FOps) (m : Nat) (x : List Int) (L : List (List Int)) : Nat → List Int
  | 0 => List.replicate m 0
  | k + 1 => if nth x k = 0 then cmbTo O m x L k else addRow O (cmbTo O m x L k) (nth x k) (nthR L k)
theorem RS.add (F : Fld O El) {L : List (List Int)} {f g : Nat → Int} (hL : Rws El m L) (hf : RS O El m L f) (hg : RS O El m L g) {s : Int} (hs : El s) : RS O El m L (fun x => O.add (f x) (O.mul (g x) s)) := by
  refine (hf.comb F hg (F.cl.neg s hs)).congr fun x hx => ?_
  obtain ⟨e, he, h⟩ := hg
  have hgx : El (g x) := by rw [h x hx]; exact he.el _ (colS_vc hL F.zero x)
  rw [F.mul_neg hgx hs, F.neg_neg (F.cl.mul _ _ hgx hs)]
theorem cmb_rs (F : Fld O El) {L : List (List Int)} (hL : Rws El m L) {x : List Int} (hx : ∀ k, k < L.length → El (nth x k)) : ∀ k, k ≤ L.length → Vc El m (cmbTo O m x L k) ∧ RS O El m L (fun i => nth (cmbTo O m x L k) i)
  | 0, _ => by
    have h0 : ∀ i, nth (List.replicate m (0 : Int)) i = 0 := fun i => by
      unfold nth
      simp only [List.getD_eq_getElem?_getD, List.getElem?_replicate]
      split <;> rfl
    exact ⟨⟨by simp [cmbTo], fun y hy => by rw [List.eq_of_mem_replicate hy]; exact F.zero⟩, RS.nul F fun i _ => h0 i⟩
  | k + 1, hk => by
    obtain ⟨h1, h2⟩ := cmb_rs F hL hx k (by omega)
    have hr := hL.row (i := k) (by omega)
    have hs := hx k (by omega)
    rw [cmbTo]
    split
    · exact ⟨h1, h2⟩
    · have hl : (nthR L k).length = (cmbTo O m x L k).length := by rw [hr.1, h1.1]
      refine ⟨⟨by rw [addRow_length _ _ _ _ hl]; exact h1.1, addRow_el F.cl h1.2 hr.2 hs⟩, (RS.add F hL h2 (.row F (i := k) (by omega)) hs).congr fun i hi => ?_⟩
      have hri : El (nth (nthR L k) i) := Vc.at hr hi
      rw [nth_addRow O _ _ _ i hl (by rw [h1.1]; exact hi)]
      split
      · rename_i e0
        rw [e0, F.zmul hs, F.add_zero _ (h1.at hi)]
      · rw [F.mul_comm _ _ hs hri]
/-- the entries of a word of the row space by an order are a word of the picked rows -/
theorem RS.pick {L : List (List Int)} {w Q : List Int} (hQ : Q.length = m) (hI : InN m Q) (h : RS O El m L (fun x => nth w x)) : RS O El m (L.map (pickL Q)) (fun x => nth (pickL Q w) x) := by
  obtain ⟨e, he, h⟩ := h
  refine ⟨e, by rw [List.length_map]; exact he, fun x hx => ?_⟩
  have hq := hI x (by omega)
  have hcol : colS (L.map (pickL Q)) x = colS L (nth Q x).toNat := by
    unfold colS
    rw [List.map_map]
    exact List.map_congr_left fun r _ => nth_pickL Q r (by omega)
  show nth (pickL Q w) x = _
  rw [nth_pickL Q w (by omega), hcol]
  exact h _ (by omega)
end
end

/- The walks of matrix.unit, vec. -/
section
open Go.RowKit

def unitR (n k : Nat) : List Int := (List.replicate n 0).set k 1
theorem unitR_len (n k : Nat) : (unitR n k).length = n := by simp [unitR]
variable {w : World} {b : Nat} {G : Tbl}
end

/- The walks of code.own, code.of, code.Dual. -/
section
open Go.RowKit
end

/- The inverse of an order, and rows whose entries are put at their places (plain law). -/
section
section
variable {m : Nat} {Q : List Int}
end
end

/- The walks of modify.set, code.New. -/
section
open Go.RowKit
end

/- A matrix that is put together row by row, behind a box. -/
section
open Go.RowKit

theorem OMat.setOther {w : World} {B : Nat} {a : Option Addr} {n c : Nat} {R : List (Option Addr × Nat)} {L : List (List Int)} (h : OMat w B a n c R L) {p : Addr} (hp : p.block < B) (v : Value) : OMat (w.setCell p v) B a n c R L :=
  h.of_blocks fun b hb => Below.heap_setCell _ _ _ _ (by have := (h.lt b hb).1; omega)

/-- a box of two cells, the second a matrix whose blocks are behind the box -/
structure MOut (w : World) (g : Nat) (x : Value) (a : Option Addr) (k c : Nat) (R : List (Option Addr × Nat)) (L : List (List Int)) : Prop where
  lt : g < w.heap.size
  c0 : w.cell? ⟨g, 0, none⟩ = some x
  c1 : w.cell? ⟨g, 1, none⟩ = some (.slice a k c)
  fr : ∀ i, w.frozen? ⟨g, i, none⟩ = false
  om : OMat w (g + 1) a k c R L
namespace MOut
variable {w w' w4 w5 : World} {g : Nat} {x : Value} {a : Option Addr} {k c : Nat} {R : List (Option Addr × Nat)} {L : List (List Int)}
theorem keep (h : MOut w g x a k c R L) (hb : Below w.heap.size w w') : MOut w' g x a k c R L :=
  ⟨Nat.lt_of_lt_of_le h.lt hb.size, cell_keep hb h.c0, cell_keep hb h.c1, fun i => frozen_keep hb h.lt (h.fr i), h.om.keep hb⟩
theorem apt (h : MOut w g x a k c R L) : Apt a g := by
  by_cases ha : a = none
  · exact .inl ha
  · exact .inr fun e => by have := (own_ne h.om.own ha).1; omega
theorem push {a4 a5 : Option Addr} {n4 c4 c5 : Nat} {N : List Int} {o : Obj} (h : MOut w4 g x a k c R L) (hn4 : N.length = n4)
    (hown4 : w4.ownsRow (g + 1) 3 1 (.slice a4 n4 c4) n4 (N.map (Value.int .i64))) (hra : a4 ≠ none → ¬ OIn a R (ablk a4))
    (hown5 : w5.ownsRow (g + 1) 22 1 (.slice a5 (k + 1) c5) (k + 1) (List.zipWith rowV R L ++ [.slice a4 n4 c4])) (hgr5 : (w4.alloc o).grownBy w5 (Value.slice a k c).ownBlock)
    (hap5 : ∀ x, x < (w4.alloc o).heap.size → Apt a x → Apt a5 x) :
    MOut (w5.setCell ⟨g, 1, none⟩ (.slice a5 (k + 1) c5)) g x a5 (k + 1) c5 (R ++ [(a4, c4)]) (L ++ [N]) ∧ Below g w4 (w5.setCell ⟨g, 1, none⟩ (.slice a5 (k + 1) c5)) := by
  subst hn4
  have hb1 := below1 w4 o
  have hO := h.om.keep hb1
  have hr := own_keep hown4 hb1
  have hP := OMat.push hO hr hra hown5 hgr5 hap5
  have hlt := h.lt
  have hs1 := hb1.size
  have hB5 : Below (g + 1) w4 w5 := Below.app (hb1.mono (by omega)) hO.own hgr5 (Nat.le_refl _) (by omega)
  have hs := hB5.size
  have k0 := cell_grownApt hgr5 (cell_box h.c0 o) h.apt
  have k1 := cell_grownApt hgr5 (cell_box h.c1 o) h.apt
  refine ⟨⟨by simp; omega, ?_, World.cell?_setCell_same _ _ _ k1, fun i => ?_, hP.setOther (by simp) _⟩, (hB5.mono (by omega)).setCell (by simp) _⟩
  · rw [World.cell?_setCell_other _ _ _ _ (by simp)]; exact k0
  · rw [World.frozen?_setCell]
    exact (World.frozen?_of_block (w := w4.alloc o) (a := ⟨g, i, none⟩) (hgr5.block g (by omega) fun e => h.apt.own k c e.symm)).trans (frozen_box h.lt (h.fr i) _)
theorem start {U : World} {g : Nat} {x : Value} (hU : Box U g [x, .slice none 0 0]) : MOut U g x none 0 0 [] [] :=
  ⟨hU.1, hU.cell 0 rfl, hU.cell 1 rfl, hU.frozen, OMat.empty _ _⟩
end MOut

theorem Box.two (w : World) (x0 y0 x y : Value) (e : TypeId) : Box (((w.alloc (.cells #[x0, y0] e)).setCell ⟨w.heap.size, 0, none⟩ x).setCell ⟨w.heap.size, 1, none⟩ y) w.heap.size [x, y] := by
  have h : Box (w.alloc (.cells #[x0, y0] e)) w.heap.size [x0, y0] := Box.new w [x0, y0] e rfl
  have k0 := h.cell 0 rfl
  have k1 := h.cell 1 rfl
  refine ⟨by simp, fun i v hv => ?_, fun i => by rw [World.frozen?_setCell, World.frozen?_setCell]; exact h.frozen i⟩
  match i, hv with
  | 0, hv =>
    obtain rfl : x = v := by simpa using hv
    rw [World.cell?_setCell_other _ _ _ _ (by simp)]
    exact World.cell?_setCell_same _ _ _ k0
  | 1, hv =>
    obtain rfl : y = v := by simpa using hv
    exact World.cell?_setCell_same _ _ _ (by rw [World.cell?_setCell_other _ _ _ _ (by simp)]; exact k1)
  | i + 2, hv => simp at hv
end

/- The walk of modify.Permute. -/
section
open Go.RowKit
end

/- The walks of ordering.ordered, codewrightref48.IsOrder. -/
section
open Go.RowKit
end

/- Bounds (plain law). -/
section

end

/- The walks of ordering.width, ordering.Width, codewrightref48.Order, Width. -/
section
open Go.RowKit

theorem InN.take {n : Nat} {Q : List Int} (h : InN n Q) {i : Nat} (hi : i ≤ Q.length) : InN n (Q.take i) := fun j hj => by
  rw [List.length_take] at hj
  have e : nth (Q.take i) j = nth Q j := by unfold nth; simp only [List.getD_eq_getElem?_getD, List.getElem?_take]; rw [if_pos (by omega)]
  rw [e]; exact h j (by omega)
end

/- The walk of ordering.Reorder. -/
section
open Go.RowKit

theorem fmatE_mk {P M : Int} {mod : List Int} {m : Nat} {D : List (List Int)} (hfB : fieldB P M mod = true) (hm : m ≤ 256) (hD : D.length ≤ 256) (hR : Rws (tblOf P M.toNat mod).El m D) : fmatE P M mod m D = 0 := by
  unfold fmatE
  rw [if_pos hfB]
  unfold matE
  rw [if_neg (by omega)]
  have hsh : shapeQ (m : Int) D = true := by
    unfold shapeQ
    rw [List.all_eq_true]
    intro r hr
    have := (hR r hr).1
    simp; omega
  rw [if_neg (by rw [hsh]; decide), if_pos]
  rw [List.all_eq_true]
  intro r hr
  unfold elsQ isQ
  rw [List.all_eq_true]
  intro x hx
  have := (hR r hr).2 x hx
  unfold Tbl.El at this
  simp
  exact this
end

/- The walk of matrix.Inverse, at an invertible matrix. -/
section
open Go.RowKit
end

/- Elimination with columns put behind (plain law): the pivots stay. -/
section
theorem nthR_map0 (f : List Int → List Int) (hf : f [] = []) (L : List (List Int)) (i : Nat) : nthR (L.map f) i = f (nthR L i) := by
  by_cases h : i < L.length
  · exact nthR_mapf f L h
  · rw [nthR_nil_of_le (by simpa using h), nthR_nil_of_le (by omega), hf]
section
variable {O : FOps} {k : Nat}
theorem findTo_take {J : List (List Int)} {c : Nat} (hc : c < k) : ∀ f i, findTo (J.map (List.take k)) c i f = findTo J c i f
  | 0, i => rfl
  | f + 1, i => by
    rw [findTo, findTo, nthR_map0 _ List.take_nil, nth_takeL _ hc, findTo_take hc f (i + 1)]
theorem findRow_take {J : List (List Int)} {c : Nat} (hc : c < k) (i : Nat) : findRow (J.map (List.take k)) c i = findRow J c i := by
  unfold findRow
  rw [List.length_map, findTo_take hc]
theorem clearRow_take {pv r : List Int} {c : Nat} (hc : c < k) : clearRow O (pv.take k) c (r.take k) = (clearRow O pv c r).take k := by
  unfold clearRow
  rw [nth_takeL _ hc]
  split
  · rfl
  · rw [addRow_take]
theorem clearTo_take {J : List (List Int)} {t c : Nat} (hc : c < k) : ∀ i, clearTo O t c (J.map (List.take k)) i = (clearTo O t c J i).map (List.take k)
  | 0 => rfl
  | i + 1 => by
    rw [clearTo, clearTo, clearTo_take hc i]
    split
    · rfl
    · rw [nthR_map0 _ List.take_nil, nthR_map0 _ List.take_nil, clearRow_take hc, List.map_set]
theorem normRow_take {J : List (List Int)} {t c : Nat} (hc : c < k) : normRow O (J.map (List.take k)) t c = (normRow O J t c).map (List.take k) := by
  unfold normRow
  rw [nthR_map0 _ List.take_nil, nth_takeL _ hc]
  split
  · rfl
  · rw [List.map_set, List.map_take]
theorem swapRow_take {J : List (List Int)} {t i : Nat} : swapRow (J.map (List.take k)) t i = (swapRow J t i).map (List.take k) := by
  unfold swapRow
  rw [nthR_map0 _ List.take_nil, nthR_map0 _ List.take_nil, List.map_set, List.map_set]
theorem pivotS_take {J : List (List Int)} {t i c : Nat} (hc : c < k) : pivotS O (J.map (List.take k)) t i c = (pivotS O J t i c).map (List.take k) := by
  have h : ∀ J : List (List Int), clearTo O t c (normRow O (J.map (List.take k)) t c) (normRow O (J.map (List.take k)) t c).length = (clearTo O t c (normRow O J t c) (normRow O J t c).length).map (List.take k) := fun J => by
    rw [normRow_take hc, List.length_map, clearTo_take hc]
  unfold pivotS
  split
  · exact h J
  · rw [swapRow_take]; exact h _
theorem elimTo_take {J : List (List Int)} : ∀ c, c ≤ k → (elimTo O (J.map (List.take k)) c).1 = (elimTo O J c).1.map (List.take k) ∧ (elimTo O (J.map (List.take k)) c).2 = (elimTo O J c).2
  | 0, _ => ⟨rfl, rfl⟩
  | c + 1, h => by
    obtain ⟨h1, h2⟩ := elimTo_take (J := J) c (by omega)
    simp only [elimTo]
    rw [h1, h2, List.length_map, findRow_take (by omega)]
    split
    · split
      · exact ⟨h1, h2⟩
      · exact ⟨pivotS_take (by omega), rfl⟩
    · exact ⟨h1, h2⟩
end
section
variable {O : FOps} {El : Int → Prop} {m : Nat}
theorem elim_gr (F : Fld O El) {L : List (List Int)} (hL : Rws El m L) {Q : List Int} (hQ : InN m Q) : (elimTo O (L.map (pickL Q)) Q.length).2.length = (grS O L Q).length := by
  refine Rk.same (col_clo F hL) (pick_rk F hL hQ) (grS_rk F hL Q) fun x => ?_
  rw [mem_grL, List.mem_map]
  constructor
  · rintro ⟨j, hj, rfl⟩; exact ⟨j, List.mem_range.1 hj, rfl⟩
  · rintro ⟨j, hj, e⟩; exact ⟨j, List.mem_range.2 hj, e⟩
end
end

end Go.Proofs.YtapjcccpokhhhaaGreat
