/- The walk of add of the package exclusion. -/
import Derived.Shelf.Sort.Plain
import Derived.Test.YtcflcogbpnmjeaaGreatProg
import Derived.Sort.OwnSortedInts
import Derived.Test.YtcflcogbpnmjeaaGreatK20
import Derived.Test.YtcflcogbpnmjeaaGreatK19
import Derived.Test.YtcflcogbpnmjeaaGreatK9
import Derived.Test.YtcflcogbpnmjeaaGreatK16
import Derived.Test.YtcflcogbpnmjeaaGreatK10
import Derived.Test.YtcflcogbpnmjeaaGreatK5
import Derived.Test.YtcflcogbpnmjeaaGreatK7
namespace Go.Proofs.YtcflcogbpnmjeaaGreat
set_option linter.unusedVariables false
set_option linter.unusedSimpArgs false
set_option linter.unusedSectionVars false

/- The library's contract of slices.Sort laid over this program. -/
section
open Go.Shelf

def layS_ren : Go.Shelf.Ren := ⟨fun | 189 => 164 | 125 => 204 | 257 => 203 | 128 => 236 | 129 => 237 | 294 => 227 | 295 => 228 | 296 => 229 | 297 => 230 | 298 => 231 | 299 => 232 | 216 => 233 | 300 => 234 | 301 => 235 | 328 => 244 | 329 => 245 | 330 => 246 | 331 => 247 | 332 => 248 | 215 => 207 | 343 => 250 | n => n, fun | 28 => 22 | 3 => 3 | 46 => 220 | 0 => 0 | 51 => 66 | 53 => 226 | 4 => 4 | 183 => 232 | 182 => 231 | 131 => 236 | 5 => 5 | 9 => 9 | 218 => 247 | 222 => 251 | 228 => 253 | 229 => 254 | n => n, fun n => n⟩
theorem layS : Go.Proofs.Lays.n189 Tryz.prog layS_ren := {
  mixed := by kernel_rfl
  f125 := Tryz.func204.trans (congrArg some (by kernel_rfl))
  f128 := Tryz.func236.trans (congrArg some (by kernel_rfl))
  f129 := Tryz.func237.trans (congrArg some (by kernel_rfl))
  f189 := Tryz.func164.trans (congrArg some (by kernel_rfl))
  f215 := Tryz.func207.trans (congrArg some (by kernel_rfl))
  f216 := Tryz.func233.trans (congrArg some (by kernel_rfl))
  f257 := Tryz.func203.trans (congrArg some (by kernel_rfl))
  f294 := Tryz.func227.trans (congrArg some (by kernel_rfl))
  f295 := Tryz.func228.trans (congrArg some (by kernel_rfl))
  f296 := Tryz.func229.trans (congrArg some (by kernel_rfl))
  f297 := Tryz.func230.trans (congrArg some (by kernel_rfl))
  f298 := Tryz.func231.trans (congrArg some (by kernel_rfl))
  f299 := Tryz.func232.trans (congrArg some (by kernel_rfl))
  f300 := Tryz.func234.trans (congrArg some (by kernel_rfl))
  f301 := Tryz.func235.trans (congrArg some (by kernel_rfl))
  f328 := Tryz.func244.trans (congrArg some (by kernel_rfl))
  f329 := Tryz.func245.trans (congrArg some (by kernel_rfl))
  f330 := Tryz.func246.trans (congrArg some (by kernel_rfl))
  f331 := Tryz.func247.trans (congrArg some (by kernel_rfl))
  f332 := Tryz.func248.trans (congrArg some (by kernel_rfl))
  f343 := Tryz.func250.trans (congrArg some (by kernel_rfl))
  t0 := Tryz.underlying0
  a0 := Tryz.isAgg0
  z0 := Tryz.sizeOf0
  v0 := Tryz.zeroValue0
  t3 := Tryz.underlying3
  a3 := Tryz.isAgg3
  z3 := Tryz.sizeOf3
  v3 := Tryz.zeroValue3
  t4 := Tryz.underlying4
  a4 := Tryz.isAgg4
  z4 := Tryz.sizeOf4
  v4 := Tryz.zeroValue4
  t5 := Tryz.underlying5
  a5 := Tryz.isAgg5
  z5 := Tryz.sizeOf5
  v5 := Tryz.zeroValue5
  t9 := Tryz.underlying9
  a9 := Tryz.isAgg9
  z9 := Tryz.sizeOf9
  v9 := Tryz.zeroValue9
  t28 := Tryz.underlying22
  a28 := Tryz.isAgg22
  z28 := Tryz.sizeOf22
  v28 := Tryz.zeroValue22
  t46 := Tryz.underlying220
  a46 := Tryz.isAgg220
  z46 := Tryz.sizeOf220
  v46 := Tryz.zeroValue220
  t51 := Tryz.underlying66
  a51 := Tryz.isAgg66
  z51 := Tryz.sizeOf66
  v51 := Tryz.zeroValue66
  t53 := Tryz.underlying226
  a53 := Tryz.isAgg226
  z53 := Tryz.sizeOf226
  v53 := Tryz.zeroValue226
  t131 := Tryz.underlying236
  a131 := Tryz.isAgg236
  z131 := Tryz.sizeOf236
  v131 := Tryz.zeroValue236
  t182 := Tryz.underlying231
  a182 := Tryz.isAgg231
  z182 := Tryz.sizeOf231
  v182 := Tryz.zeroValue231
  t183 := Tryz.underlying232
  a183 := Tryz.isAgg232
  z183 := Tryz.sizeOf232
  v183 := Tryz.zeroValue232
  t218 := Tryz.underlying247
  a218 := Tryz.isAgg247
  z218 := Tryz.sizeOf247
  v218 := Tryz.zeroValue247
  t222 := Tryz.underlying251
  a222 := Tryz.isAgg251
  z222 := Tryz.sizeOf251
  v222 := Tryz.zeroValue251
  t228 := Tryz.underlying253
  a228 := Tryz.isAgg253
  z228 := Tryz.sizeOf253
  v228 := Tryz.zeroValue253
  t229 := Tryz.underlying254
  a229 := Tryz.isAgg254
  z229 := Tryz.sizeOf254
  v229 := Tryz.zeroValue254 }
end

/- The walks of slices.Sort, Sorted at []int. -/
section
open Go.RowKit Go.Shelf Go.Sort

set_option maxHeartbeats 1000000 in
theorem insSort0_any (a : Option Addr) (c : Nat) (w : World) : Calls Tryz.prog 227 #[.slice a 0 c, .int .i64 0, .int .i64 0] w fun e w' => e = .returned (.tuple #[]) ∧ w' = w := by
  go_enter Tryz.func227, Tryz.ntmps227
  go_wp2_with fail
  refine wp_loop_rounds 1 ?_
  rw [rounds_succ]
  go_wp2_with fail
  go_end0
  exact ⟨rfl, rfl⟩

set_option maxHeartbeats 2000000 in
set_option maxRecDepth 100000 in
theorem pdq0_any (a : Option Addr) (c : Nat) (w : World) : Calls Tryz.prog 203 #[.slice a 0 c, .int .i64 0, .int .i64 0, .int .i64 0] w fun e w' => e = .returned (.tuple #[]) ∧ w' = w := by
  go_enter Tryz.func203, Tryz.ntmps203
  go_wp2_with fail
  refine wp_loop_rounds 1 ?_
  rw [rounds_succ]
  go_wp2_with fail
  refine (insSort0_any a c w).mono ?_
  rintro e w' ⟨rfl, rfl⟩
  go_wp2_with fail
  (try simp only [Exit.inBlock, Exit.then]); refine bodyPost_ret (results_none rfl _ _ _) rfl ?_
  exact ⟨rfl, rfl⟩

theorem bitsLen0_any (w : World) : Calls Tryz.prog 204 #[.int .u64 0] w fun e w' => e = .returned (.int .i64 0) ∧ w' = w :=
  calls_of_every_depth fun D => AnyS.bits_LenIn { layS with } D 0 w (by omega) (by omega)

set_option maxHeartbeats 2000000 in
theorem sort0_any (a : Option Addr) (c : Nat) (w : World) : Calls Tryz.prog 164 #[.slice a 0 c] w fun e w' => e = .returned (.tuple #[]) ∧ w' = w := by
  go_enter Tryz.func164, Tryz.ntmps164
  go_wp2_with fail
  refine (bitsLen0_any w).mono ?_
  rintro e w' ⟨rfl, rfl⟩
  go_wp2_with fail
  refine (pdq0_any a c w').mono ?_
  rintro e w' ⟨rfl, rfl⟩
  go_wp2_with fail
  go_end0
  exact ⟨rfl, rfl⟩

/-- slices.Sort of a slice of the call's own -/
theorem sort_any (B : Nat) (a : Option Addr) (n c : Nat) (l : List Int) (w : World) (hown : w.ownsRow B 3 1 (.slice a n c) n (l.map (Value.int .i64))) (hB : B ≤ w.heap.size) (hn : n ≤ 1000000) :
    Calls Tryz.prog 164 #[.slice a n c] w fun e w' => e = .returned (.tuple #[]) ∧ w'.ownsRow B 3 1 (.slice a n c) n ((sortL l).map (Value.int .i64)) ∧ w.grownBy w' (Value.slice a n c).ownBlock ∧ Below B w w' := by
  have hl : l.length = n := by simpa using own_len hown
  have hown' := hown
  rcases hown.2 with ⟨hv, hz⟩ | ⟨g, cap, cur, hv, hbase, hb, h1, h2, h3, h4⟩
  · cases hv
    have hl0 : l = [] := List.eq_nil_of_length_eq_zero hl
    subst hl0
    refine (sort0_any none 0 w).mono ?_
    rintro e w' ⟨rfl, rfl⟩
    exact ⟨rfl, by simpa [sortL] using hown', ⟨rfl, rfl, rfl, Nat.le_refl _, fun k _ _ => rfl⟩, Below.refl _ _⟩
  · cases hv
    subst hl
    have hH := holds_of_blockI (ss := l) hb (by simpa using h4)
    have hgl : g < w.heap.size := (Array.getElem?_eq_some_iff.1 hb).1
    refine (Any.slices_Sort_int layS g 0 c l w hH hgl (by omega)).mono ?_
    rintro e w' ⟨rfl, nn, os, rfl⟩
    have hgr := grownBy_sortedI (w := w) (g := g) (n := nn) (os := os) (l.mergeSort fun x y => decide (x ≤ y)).toArray
    exact ⟨rfl, ownsRow_sortedI (by simp) hbase hb h1 h2 h3, hgr, (Below.refl B w).grown hgr hB (fun j hj => by cases hj; exact hbase)⟩

set_option maxHeartbeats 2000000 in
set_option maxRecDepth 100000 in
/-- slices.Sorted over the numbers of a slice -/
theorem sorted_any (Bs : Nat) (a : Option Addr) (len cap : Nat) (zs : List Int) (hlen : len ≤ 1000000) (w : World) (hBs : Bs < w.heap.size) (hc : w.cell? ⟨Bs, 0, none⟩ = some (.slice a len cap)) (hI : Ints w a len zs) :
    Calls Tryz.prog 201 #[.func (.func 226) #[] #[.pointer (some ⟨Bs, 0, none⟩)]] w fun e W' =>
      ∃ a2 c2, e = .returned (.slice a2 len c2) ∧ W'.ownsRow w.heap.size 3 1 (.slice a2 len c2) len ((sortL zs).map (Value.int .i64)) ∧ Below w.heap.size w W' := by
  go_enter Tryz.func201, Tryz.ntmps201
  go_wp2_with fail
  refine (collect_any Bs a len cap zs hlen w hBs hc hI).mono ?_
  rintro e w1 ⟨v, rfl, hown, hb⟩
  obtain ⟨a2, c2, rfl, _⟩ := Pl.own hown
  have HS := Lib.hid (sort_any w.heap.size a2 len c2 zs w1 hown hb.size hlen)
  clear hown
  go_wp2_with fail
  refine HS.out.mono ?_
  rintro e w2 ⟨rfl, hown2, _, hb2⟩
  go_wp2_with fail
  go_ret
  exact ⟨a2, c2, rfl, hown2, hb.trans hb2⟩
end

/- A matrix that is put together row by row, behind a box. -/
section
open Go.RowKit

theorem OMat.setOther {w : World} {B : Nat} {a : Option Addr} {n c : Nat} {R : List (Option Addr × Nat)} {L : List (List Int)} (h : OMat w B a n c R L) {p : Addr} (hp : p.block < B) (v : Value) : OMat (w.setCell p v) B a n c R L :=
  h.of_blocks fun b hb => Below.heap_setCell _ _ _ _ (by have := (h.lt b hb).1; omega)

/-- a box of two cells, the second a matrix whose blocks are behind the box -/
structure MOut (w : World) (g : Nat) (x : Value) (a : Option Addr) (k c : Nat) (R : List (Option Addr × Nat)) (L : List (List Int)) : Prop where
  lt : g < w.heap.size
  c0 : w.cell? ⟨g, 0, none⟩ = some x
  c1 : w.cell? ⟨g, 1, none⟩ = some (.slice a k c)
  fr : ∀ i, w.frozen? ⟨g, i, none⟩ = false
  om : OMat w (g + 1) a k c R L
namespace MOut
variable {w w' w4 w5 : World} {g : Nat} {x : Value} {a : Option Addr} {k c : Nat} {R : List (Option Addr × Nat)} {L : List (List Int)}
theorem keep (h : MOut w g x a k c R L) (hb : Below w.heap.size w w') : MOut w' g x a k c R L :=
  ⟨Nat.lt_of_lt_of_le h.lt hb.size, cell_keep hb h.c0, cell_keep hb h.c1, fun i => frozen_keep hb h.lt (h.fr i), h.om.keep hb⟩
theorem apt (h : MOut w g x a k c R L) : Apt a g := by
  by_cases ha : a = none
  · exact .inl ha
  · exact .inr fun e => by have := (own_ne h.om.own ha).1; omega
theorem push {a4 a5 : Option Addr} {n4 c4 c5 : Nat} {N : List Int} {o : Obj} (h : MOut w4 g x a k c R L) (hn4 : N.length = n4)
    (hown4 : w4.ownsRow (g + 1) 3 1 (.slice a4 n4 c4) n4 (N.map (Value.int .i64))) (hra : a4 ≠ none → ¬ OIn a R (ablk a4))
    (hown5 : w5.ownsRow (g + 1) 22 1 (.slice a5 (k + 1) c5) (k + 1) (List.zipWith rowV R L ++ [.slice a4 n4 c4])) (hgr5 : (w4.alloc o).grownBy w5 (Value.slice a k c).ownBlock)
    (hap5 : ∀ x, x < (w4.alloc o).heap.size → Apt a x → Apt a5 x) :
    MOut (w5.setCell ⟨g, 1, none⟩ (.slice a5 (k + 1) c5)) g x a5 (k + 1) c5 (R ++ [(a4, c4)]) (L ++ [N]) ∧ Below g w4 (w5.setCell ⟨g, 1, none⟩ (.slice a5 (k + 1) c5)) := by
  subst hn4
  have hb1 := below1 w4 o
  have hO := h.om.keep hb1
  have hr := own_keep hown4 hb1
  have hP := OMat.push hO hr hra hown5 hgr5 hap5
  have hlt := h.lt
  have hs1 := hb1.size
  have hB5 : Below (g + 1) w4 w5 := Below.app (hb1.mono (by omega)) hO.own hgr5 (Nat.le_refl _) (by omega)
  have hs := hB5.size
  have k0 := cell_grownApt hgr5 (cell_box h.c0 o) h.apt
  have k1 := cell_grownApt hgr5 (cell_box h.c1 o) h.apt
  refine ⟨⟨by simp; omega, ?_, World.cell?_setCell_same _ _ _ k1, fun i => ?_, hP.setOther (by simp) _⟩, (hB5.mono (by omega)).setCell (by simp) _⟩
  · rw [World.cell?_setCell_other _ _ _ _ (by simp)]; exact k0
  · rw [World.frozen?_setCell]
    exact (World.frozen?_of_block (w := w4.alloc o) (a := ⟨g, i, none⟩) (hgr5.block g (by omega) fun e => h.apt.own k c e.symm)).trans (frozen_box h.lt (h.fr i) _)
theorem start {U : World} {g : Nat} {x : Value} (hU : Box U g [x, .slice none 0 0]) : MOut U g x none 0 0 [] [] :=
  ⟨hU.1, hU.cell 0 rfl, hU.cell 1 rfl, hU.frozen, OMat.empty _ _⟩
end MOut

theorem Box.two (w : World) (x0 y0 x y : Value) (e : TypeId) : Box (((w.alloc (.cells #[x0, y0] e)).setCell ⟨w.heap.size, 0, none⟩ x).setCell ⟨w.heap.size, 1, none⟩ y) w.heap.size [x, y] := by
  have h : Box (w.alloc (.cells #[x0, y0] e)) w.heap.size [x0, y0] := Box.new w [x0, y0] e rfl
  have k0 := h.cell 0 rfl
  have k1 := h.cell 1 rfl
  refine ⟨by simp, fun i v hv => ?_, fun i => by rw [World.frozen?_setCell, World.frozen?_setCell]; exact h.frozen i⟩
  match i, hv with
  | 0, hv =>
    obtain rfl : x = v := by simpa using hv
    rw [World.cell?_setCell_other _ _ _ _ (by simp)]
    exact World.cell?_setCell_same _ _ _ k0
  | 1, hv =>
    obtain rfl : y = v := by simpa using hv
    exact World.cell?_setCell_same _ _ _ (by rw [World.cell?_setCell_other _ _ _ _ (by simp)]; exact k1)
  | i + 2, hv => simp at hv
end

/- The walk of modify.Permute. -/
section
open Go.RowKit
end

/- The walks of ordering.ordered, codewrightref48.IsOrder. -/
section
open Go.RowKit
end

/- Bounds (plain law). -/
section

end

/- The walks of ordering.width, ordering.Width, codewrightref48.Order, Width. -/
section
open Go.RowKit

theorem InN.take {n : Nat} {Q : List Int} (h : InN n Q) {i : Nat} (hi : i ≤ Q.length) : InN n (Q.take i) := fun j hj => by
  rw [List.length_take] at hj
  have e : nth (Q.take i) j = nth Q j := by unfold nth; simp only [List.getD_eq_getElem?_getD, List.getElem?_take]; rw [if_pos (by omega)]
  rw [e]; exact h j (by omega)
end

/- The walk of ordering.Reorder. -/
section
open Go.RowKit
end

/- The walk of matrix.Inverse, at an invertible matrix. -/
section
open Go.RowKit
end

/- Elimination with columns put behind (plain law): the pivots stay. -/
section
theorem nthR_map0 (f : List Int → List Int) (hf : f [] = []) (L : List (List Int)) (i : Nat) : nthR (L.map f) i = f (nthR L i) := by
  by_cases h : i < L.length
  · exact nthR_mapf f L h
  · rw [nthR_nil_of_le (by simpa using h), nthR_nil_of_le (by omega), hf]
section
variable {O : FOps} {k : Nat}
theorem findTo_take {J : List (List Int)} {c : Nat} (hc : c < k) : ∀ f i, findTo (J.map (List.take k)) c i f = findTo J c i f
  | 0, i => rfl
  | f + 1, i => by
    rw [findTo, findTo, nthR_map0 _ List.take_nil, nth_takeL _ hc, findTo_take hc f (i + 1)]
theorem findRow_take {J : List (List Int)} {c : Nat} (hc : c < k) (i : Nat) : findRow (J.map (List.take k)) c i = findRow J c i := by
  unfold findRow
  rw [List.length_map, findTo_take hc]
theorem clearRow_take {pv r : List Int} {c : Nat} (hc : c < k) : clearRow O (pv.take k) c (r.take k) = (clearRow O pv c r).take k := by
  unfold clearRow
  rw [nth_takeL _ hc]
  split
  · rfl
  · rw [addRow_take]
theorem clearTo_take {J : List (List Int)} {t c : Nat} (hc : c < k) : ∀ i, clearTo O t c (J.map (List.take k)) i = (clearTo O t c J i).map (List.take k)
  | 0 => rfl
  | i + 1 => by
    rw [clearTo, clearTo, clearTo_take hc i]
    split
    · rfl
    · rw [nthR_map0 _ List.take_nil, nthR_map0 _ List.take_nil, clearRow_take hc, List.map_set]
theorem normRow_take {J : List (List Int)} {t c : Nat} (hc : c < k) : normRow O (J.map (List.take k)) t c = (normRow O J t c).map (List.take k) := by
  unfold normRow
  rw [nthR_map0 _ List.take_nil, nth_takeL _ hc]
  split
  · rfl
  · rw [List.map_set, List.map_take]
theorem swapRow_take {J : List (List Int)} {t i : Nat} : swapRow (J.map (List.take k)) t i = (swapRow J t i).map (List.take k) := by
  unfold swapRow
  rw [nthR_map0 _ List.take_nil, nthR_map0 _ List.take_nil, List.map_set, List.map_set]
theorem pivotS_take {J : List (List Int)} {t i c : Nat} (hc : c < k) : pivotS O (J.map (List.take k)) t i c = (pivotS O J t i c).map (List.take k) := by
  have h : ∀ J : List (List Int), clearTo O t c (normRow O (J.map (List.take k)) t c) (normRow O (J.map (List.take k)) t c).length = (clearTo O t c (normRow O J t c) (normRow O J t c).length).map (List.take k) := fun J => by
    rw [normRow_take hc, List.length_map, clearTo_take hc]
  unfold pivotS
  split
  · exact h J
  · rw [swapRow_take]; exact h _
theorem elimTo_take {J : List (List Int)} : ∀ c, c ≤ k → (elimTo O (J.map (List.take k)) c).1 = (elimTo O J c).1.map (List.take k) ∧ (elimTo O (J.map (List.take k)) c).2 = (elimTo O J c).2
  | 0, _ => ⟨rfl, rfl⟩
  | c + 1, h => by
    obtain ⟨h1, h2⟩ := elimTo_take (J := J) c (by omega)
    simp only [elimTo]
    rw [h1, h2, List.length_map, findRow_take (by omega)]
    split
    · split
      · exact ⟨h1, h2⟩
      · exact ⟨pivotS_take (by omega), rfl⟩
    · exact ⟨h1, h2⟩
end
section
variable {O : FOps} {El : Int → Prop} {m : Nat}
end
end

/- The walk of matrix.Columns, at positions in range. -/
section
open Go.RowKit
end

/- The walk of matrix.Mul, at matrices that fit. -/
section
open Go.RowKit
end

/- The walk of infoset.Systematic. -/
section
open Go.RowKit
end

/- The walk of infoset.Greedy. -/
section
open Go.RowKit
end

/- Information sets are bases (plain laws): greedy sets are information sets, and exchanges exist. -/
section
section
variable {O : FOps} {El : Int → Prop} {m : Nat} {L : List (List Int)}
theorem rkQ_out (F : Fld O El) (hL : Rws El m L) {Q : List Int} {x : Int} (h : ¬ clV O El L.length (colS L) (gA Q) x.toNat) : rkQ O L (Q ++ [x]) = rkQ O L Q + 1 := by
  have h1 := rkQ_rk F hL (Q ++ [x])
  rw [gA_snoc] at h1
  exact h1.uniq (Rk.ind _ h (rkQ_rk F hL Q))
end
/-- a code's rows are independent -/
theorem code_full {P M : Int} {mod : List Int} {m : Nat} {L : List (List Int)} (hE : codeE P M mod m L = 0) : Rk (clV (tblOf P M.toNat mod).ops (tblOf P M.toNat mod).El L.length (colS L)) (List.range m) L.length := by
  obtain ⟨N', e, hm1, hm64, F, hR⟩ := codeE_fld hE
  obtain rfl : m = N' := by omega
  have h6 := (spaceE_zero (codeE_zero hE).2.2.2).2
  rw [Int.toNat_natCast] at h6
  have hcan : canO (tblOf P M.toNat mod).ops m L = L := h6
  have h := canO_rk F hR
  rwa [hcan] at h
/-- all positions, in some order -/
def PermN (m : Nat) (Q : List Int) : Prop := Q.Perm ((List.range m).map Int.ofNat)
theorem PermN.mem {m : Nat} {Q : List Int} (h : PermN m Q) {x : Int} : x ∈ Q ↔ ∃ j : Nat, j < m ∧ x = j := by
  rw [h.mem_iff, List.mem_map]
  constructor
  · rintro ⟨j, hj, rfl⟩; exact ⟨j, List.mem_range.1 hj, rfl⟩
  · rintro ⟨j, hj, rfl⟩; exact ⟨j, List.mem_range.2 hj, rfl⟩
theorem PermN.len {m : Nat} {Q : List Int} (h : PermN m Q) : Q.length = m := by rw [h.length_eq]; simp
theorem PermN.nodup {m : Nat} {Q : List Int} (h : PermN m Q) : Q.Nodup := by
  refine h.nodup_iff.2 ?_
  rw [List.nodup_iff_pairwise_ne, List.pairwise_map]
  exact List.nodup_range.imp fun h e => h (Int.ofNat.inj e)
theorem PermN.inN {m : Nat} {Q : List Int} (h : PermN m Q) : InN m Q := fun j hj => by
  obtain ⟨i, hi, e⟩ := h.mem.1 (nth_mem hj)
  omega
section
variable {P M : Int} {mod : List Int} {m : Nat} {L : List (List Int)}
end
end

/- Canonical rows are determined by their row space; the systematic matrix (plain laws). -/
section
section
variable {O : FOps} {El : Int → Prop} {m : Nat}
theorem Piv.lessT (F : Fld O El) {L : List (List Int)} {P : List Int} {c : Nat} (h : Piv L P c) (hL : Rws El m L) {v : List Int} (hv : Vc El L.length v) {φ : List Int → Int} (hφ : Lin O El L.length φ)
    {t : Nat} (ht : t ≤ P.length) (h0 : ∀ j, j < t → φ (colS L (nth P j).toNat) = 0) : ∀ k, k ≤ t → Vc El L.length (lessTo O L P v k) ∧ φ (lessTo O L P v k) = φ v ∧ ∀ i, i < L.length → nth (lessTo O L P v k) i = if i < k then 0 else nth v i
  | 0, _ => ⟨hv, rfl, fun i _ => by rw [if_neg (by omega)]; rfl⟩
  | k + 1, hk => by
    obtain ⟨h1, h2, h3⟩ := h.lessT F hL hv hφ ht h0 k (by omega)
    have hle := h.le
    have hcol := colS_vc hL F.zero (nth P k).toNat
    have hx := h1.at (i := k) (by omega)
    refine ⟨h1.sub F hcol hx, ?_, fun i hi => ?_⟩
    · rw [lessTo, hφ.sub _ _ _ h1 hcol hx, h0 k (by omega), F.mzero hx, F.nzero, F.add_zero _ (hφ.el _ h1), h2]
    · rw [lessTo, nth_subRow O _ _ _ i (by rw [hcol.1, h1.1]) (by rw [h1.1]; exact hi), nth_colS L _ i hi, h.one k i (by omega) hi]
      by_cases e : i = k
      · subst e
        rw [if_pos rfl, F.mone hx, F.add_neg _ hx, if_pos (by omega)]
      · rw [if_neg e, F.mzero hx, F.nzero, F.add_zero _ (h1.at hi), h3 i hi]
        by_cases e2 : i < k
        · rw [if_pos e2, if_pos (by omega)]
        · rw [if_neg e2, if_neg (by omega)]
/-- a form is the combination of its values at the unit vectors -/
theorem unitR_vc (F : Fld O El) (n k : Nat) : Vc El n (unitR n k) := by
  refine ⟨unitR_len n k, fun x hx => ?_⟩
  unfold unitR at hx
  rcases List.mem_or_eq_of_mem_set hx with hx | rfl
  · rw [List.eq_of_mem_replicate hx]; exact F.zero
  · exact F.one
theorem nth_unitR {n k i : Nat} (hk : k < n) : nth (unitR n k) i = if i = k then 1 else 0 := by
  unfold unitR
  rw [nth_set _ _ _ _ (by simpa using hk)]
  split
  · rfl
  · unfold nth
    simp only [List.getD_eq_getElem?_getD, List.getElem?_replicate]
    split <;> rfl
def cutTo (O : FOps) (n : Nat) (v : List Int) : Nat → List Int
  | 0 => v
  | k + 1 => subRow O (cutTo O n v k) (nth v k) (unitR n k)
theorem cut_form (F : Fld O El) {n : Nat} {φ : List Int → Int} (hφ : Lin O El n φ) {v : List Int} (hv : Vc El n v) : ∀ k, k ≤ n → Vc El n (cutTo O n v k) ∧ (∀ i, i < n → nth (cutTo O n v k) i = if i < k then 0 else nth v i) ∧
    O.add (φ (cutTo O n v k)) (dotN O (fun t => φ (unitR n t)) (fun t => nth v t) k) = φ v
  | 0, _ => ⟨hv, fun i _ => by rw [if_neg (by omega)]; rfl, by rw [dotN]; exact F.add_zero _ (hφ.el _ hv)⟩
  | k + 1, hk => by
    obtain ⟨h1, h2, h3⟩ := cut_form F hφ hv k (by omega)
    have hu := unitR_vc F n k
    have hx := hv.at (i := k) (by omega)
    refine ⟨h1.sub F hu hx, fun i hi => ?_, ?_⟩
    · rw [cutTo, nth_subRow O _ _ _ i (by rw [hu.1, h1.1]) (by rw [h1.1]; exact hi), nth_unitR (by omega), h2 i hi]
      by_cases e : i = k
      · subst e
        rw [if_pos rfl, if_neg (by omega), F.mone hx, F.add_neg _ hx, if_pos (by omega)]
      · rw [if_neg e, F.mzero hx, F.nzero]
        by_cases e2 : i < k
        · rw [if_pos e2, if_pos (by omega), F.add_zero _ F.zero]
        · rw [if_neg e2, if_neg (by omega), F.add_zero _ (hv.at hi)]
    · have hm := F.cl.mul _ _ hx (hφ.el _ hu)
      have hd := dotN_el F (a := fun t => φ (unitR n t)) (b := fun t => nth v t) k (fun p _ => hφ.el _ (unitR_vc F n p)) (fun p hp => hv.at (by omega))
      rw [cutTo, hφ.sub _ _ _ h1 hu hx, dotN, F.mul_comm _ _ (hφ.el _ hu) hx, F.add4 (hφ.el _ h1) (F.cl.neg _ hm) hd hm, F.negadd hm, F.add_zero _ (F.cl.add _ _ (hφ.el _ h1) hd), h3]
theorem form_unit (F : Fld O El) {n : Nat} {φ : List Int → Int} (hφ : Lin O El n φ) {v : List Int} (hv : Vc El n v) : φ v = dotN O (fun t => φ (unitR n t)) (fun t => nth v t) n := by
  obtain ⟨h1, h2, h3⟩ := cut_form F hφ hv n (Nat.le_refl _)
  rw [← h3, hφ.zero F h1 fun i hi => by rw [h2 i hi, if_pos hi], F.zadd (dotN_el F n (fun p _ => hφ.el _ (unitR_vc F n p)) (fun p hp => hv.at hp))]
theorem cmb_dot (F : Fld O El) {L : List (List Int)} (hL : Rws El m L) {x : List Int} (hx : ∀ k, k < L.length → El (nth x k)) {y : Nat} (hy : y < m) : ∀ k, k ≤ L.length → nth (cmbTo O m x L k) y = dotN O (fun t => nth x t) (fun t => nth (nthR L t) y) k
  | 0, _ => by
    rw [cmbTo, dotN]
    unfold nth
    simp only [List.getD_eq_getElem?_getD, List.getElem?_replicate]
    split <;> rfl
  | k + 1, hk => by
    have ih := cmb_dot F hL hx hy k (by omega)
    obtain ⟨h1, _⟩ := cmb_rs F hL hx k (by omega)
    have hr := hL.row (i := k) (by omega)
    have hd := dotN_el F (a := fun t => nth x t) (b := fun t => nth (nthR L t) y) k (fun p hp => hx p (by omega)) (fun p hp => Vc.at (hL.row (i := p) (by omega)) hy)
    rw [cmbTo, dotN]
    split
    · rename_i e0
      rw [ih, e0, F.zmul (Vc.at hr hy), F.add_zero _ hd]
    · rw [nth_addRow O _ _ _ y (by rw [hr.1, h1.1]) (by rw [h1.1]; exact hy), ih]
      split
      · rename_i e1
        show _ = O.add _ (O.mul (nth x k) (nth (nthR L k) y))
        rw [e1, F.mzero (hx k (by omega)), F.add_zero _ hd]
      · rfl
end
section
variable {P M : Int} {mod : List Int} {m : Nat} {L : List (List Int)}
end
end

/- The walk of infoset.Floor. -/
section
open Go.RowKit
end

/- The family of a code (plain laws): its members are information sets with new positions, the positions left are zero columns, and the bound for the weight. -/
section
section
variable {O : FOps} {El : Int → Prop} {m : Nat} {L : List (List Int)}
end
/-- weights -/
def wtL (x : List Int) : Nat := x.countP fun y => decide (y ≠ 0)
def wtU (x : List Int) (U : List Int) (m : Nat) : Nat := (List.range m).countP fun j => decide (nth x j ≠ 0 ∧ (j : Int) ∈ U)
theorem countP_point {p p' : Nat → Bool} {s : Nat} (h : ∀ j, j ≠ s → p j = p' j) : ∀ m, (List.range m).countP p' + (if s < m ∧ p s = true then 1 else 0) = (List.range m).countP p + (if s < m ∧ p' s = true then 1 else 0)
  | 0 => by simp
  | m + 1 => by
    have ih := countP_point h m
    rw [List.range_succ, List.countP_append, List.countP_append, List.countP_singleton, List.countP_singleton]
    by_cases e : s = m
    · subst e
      simp at ih
      by_cases h1 : p s = true <;> by_cases h2 : p' s = true <;> simp [h1, h2] <;> omega
    · have h3 := h m (fun e2 => e e2.symm)
      rw [h3]
      by_cases h4 : s < m
      · simp only [h4, show s < m + 1 by omega, true_and] at ih ⊢; omega
      · simp only [h4, show ¬ s < m + 1 by omega, false_and] at ih ⊢; simp at ih ⊢; omega
theorem wtU_one (x U : List Int) (m : Nat) {s : Int} (h0 : 0 ≤ s) (hm : s < m) : wtU x (U ++ [s]) m = wtU x U m + (if nth x s.toNat ≠ 0 ∧ ¬ s ∈ U then 1 else 0) := by
  have h := countP_point (p := fun j => decide (nth x j ≠ 0 ∧ (j : Int) ∈ U)) (p' := fun j => decide (nth x j ≠ 0 ∧ (j : Int) ∈ U ++ [s])) (s := s.toNat) (fun j hj => by
    have : ((j : Int) ∈ U ++ [s]) ↔ ((j : Int) ∈ U) := by
      rw [List.mem_append, List.mem_singleton]
      exact ⟨fun h => h.elim id fun e => absurd (by omega) hj, .inl⟩
    simp [this]) m
  have e : ((s.toNat : Nat) : Int) = s := by omega
  have hlt : s.toNat < m := by omega
  unfold wtU
  simp only [e, hlt, true_and, decide_eq_true_eq, List.mem_append, List.mem_singleton, or_true, and_true] at h
  have h' : (List.range m).countP (fun j => decide (nth x j ≠ 0 ∧ (j : Int) ∈ U ++ [s])) = (List.range m).countP (fun j => decide (nth x j ≠ 0 ∧ ((j : Int) ∈ U ∨ (j : Int) = s))) := by simp
  rw [h']
  by_cases h1 : nth x s.toNat = 0
  · simp [h1] at h ⊢; exact h
  · by_cases h2 : s ∈ U
    · simp [h1, h2] at h ⊢; omega
    · simp [h1, h2] at h ⊢; omega
theorem wtU_add (x : List Int) (m : Nat) : ∀ (S U : List Int), S.Nodup → (∀ s ∈ S, 0 ≤ s ∧ s < (m : Int)) → wtU x (U ++ S) m = wtU x U m + S.countP fun s => decide (nth x s.toNat ≠ 0 ∧ ¬ s ∈ U)
  | [], U, _, _ => by simp
  | s :: S, U, hn, hb => by
    rw [List.nodup_cons] at hn
    have h1 := hb s (List.mem_cons_self ..)
    have ih := wtU_add x m S (U ++ [s]) hn.2 fun y hy => hb y (List.mem_cons_of_mem _ hy)
    rw [List.append_assoc, List.singleton_append] at ih
    rw [ih, wtU_one x U m h1.1 h1.2, List.countP_cons]
    have e : S.countP (fun y => decide (nth x y.toNat ≠ 0 ∧ ¬ y ∈ U ++ [s])) = S.countP (fun y => decide (nth x y.toNat ≠ 0 ∧ ¬ y ∈ U)) := by
      refine List.countP_congr fun y hy => ?_
      have : y ≠ s := fun e => hn.1 (e ▸ hy)
      simp [this]
    rw [e]
    simp only [decide_eq_true_eq]
    omega
end

/- What a call leaves as it was. -/
section
open Go.RowKit

theorem Moves.then_new {w V V' : World} {I I' : Nat → Prop} (h : Moves w V I I') (g : Below w.heap.size V V') : Moves w V' I I' :=
  ⟨g.os.trans h.os, g.tape.trans h.tape, g.output.trans h.output, Nat.le_trans h.size g.size, fun b hb hi => (g.block b hb).trans (h.block b hb hi), h.grow⟩
theorem Moves.grown {w w' : World} {K : Nat → Prop} {a : Option Addr} {n c : Nat} (hg : w.grownBy w' (Value.slice a n c).ownBlock) (hK : a ≠ none → K (ablk a)) : Moves w w' K K :=
  ⟨hg.os, hg.tape, hg.output, hg.size, fun b hb hi => hg.block b hb fun e => by
    cases a with
    | none => cases e
    | some ad =>
      have h1 : b = ad.block := by simpa [Value.ownBlock] using e
      exact hi (h1 ▸ hK (by simp)), fun b hb => .inl hb⟩
theorem Ints.moves {w w' : World} {I I' : Nat → Prop} {a : Option Addr} {n : Nat} {l : List Int} (h : Ints w a n l) (hM : Moves w w' I I') (hI : 0 < n → ¬ I (ablk a)) : Ints w' a n l :=
  h.of_block fun hn => hM.block _ (h.lt hn) (hI hn)
theorem Box.moves {w w' : World} {I I' : Nat → Prop} {b : Nat} {cs : List Value} (h : Box w b cs) (hM : Moves w w' I I') (hI : ¬ I b) : Box w' b cs := by
  have hb := hM.block b h.1 hI
  refine ⟨Nat.lt_of_lt_of_le h.1 hM.size, fun i v hv => (World.cell?_of_block (w := w) (a := ⟨b, i, none⟩) hb).trans (h.2.1 i v hv), fun i => ?_⟩
  rw [← h.2.2 i]
  unfold World.frozen?
  simp only [hb]
theorem Moves.put (w : World) (b i : Nat) (v : Value) : Moves w (w.setCell ⟨b, i, none⟩ v) (fun x => x = b) (fun x => x = b) := by
  have hb0 : Below 0 w (w.setCell ⟨b, i, none⟩ v) := (Below.refl 0 w).setCell (Nat.zero_le _) v
  exact ⟨hb0.os, hb0.tape, hb0.output, hb0.size, fun x hx hI => Below.heap_setCell _ _ _ _ fun e => hI e, fun x hx => .inl hx⟩
end

/- The walk of add of the package exclusion. -/
section
open Go.RowKit

theorem addNzE_any (x : Int) (w : World) : Calls Tryz.prog 224 #[.int .i64 x] w fun e w' => e = .returned (.bool (x != 0)) ∧ w = w' := by
  go_enter Tryz.func224, Tryz.ntmps224
  go_wp2
  go_ret
  exact ⟨rfl, rfl⟩

set_option maxHeartbeats 1600000 in
theorem indexNzE_any (a : Option Addr) (n c : Nat) (l : List Int) (w : World) (hi : Ints w a n l) :
    Calls Tryz.prog 68 #[.slice a n c, .func (.func 224) #[] #[]] w fun e w' => e = .returned (.int .i64 (fnzV l)) ∧ w = w' := by
  have Hlen := Lib.hid hi.len
  have hpl := hi.pl
  have hmax := hi.max
  unfold maxLen at hmax
  go_enter Tryz.func68, Tryz.ntmps68
  go_wp2_with fail
  go_loop [8] (fun iv => ∃ k : Nat, k ≤ n ∧ iv = .int .i64 k ∧ Hid (∀ j, j < k → nth l j = 0)) (fun iv => n - (intOf iv).toNat)
  case atStart => exact ⟨0, Nat.zero_le _, rfl, fun j hj => by omega⟩
  case round =>
    obtain ⟨k, hk, rfl, hall⟩ := hrel
    by_cases hlt : k < n
    · have ck := hi.cell k hlt
      by_cases hz : nth l k = 0
      · have hz' : (nth l k != 0) = false := by simpa using hz
        have Hz := Lib.hid hz
        clear hz
        go_wp2_with fail
        refine (addNzE_any _ _).mono ?_
        rintro e w' ⟨rfl, rfl⟩
        go_wp2_with fail
        go_round
        case rel => exact ⟨k + 1, by omega, by go_num, fun j hj => by
          rcases Nat.lt_or_ge j k with h | h
          · exact hall.out j h
          · rw [show j = k by omega]; exact Hz.out⟩
        case measure => simp [intOf] <;> omega
      · have hz' : (nth l k != 0) = true := by simpa using hz
        have Hf : Hid (fnzV l = k) := by
          show _ = _
          have := fnz_at l k (by rw [Hlen.out]; exact hlt) hall.out hz
          rw [fnzV, this, if_pos (by rw [Hlen.out]; exact hlt)]
        clear hz
        go_wp2_with fail
        refine (addNzE_any _ _).mono ?_
        rintro e w' ⟨rfl, rfl⟩
        go_wp2_with fail
        go_ret
        exact ⟨ret_int Hf.out.symm, rfl⟩
    · obtain rfl : k = n := by omega
      have Hf : Hid (fnzV l = -1) := by
        show _ = _
        have := fnz_none l (by rw [Hlen.out]; exact hall.out)
        rw [fnzV, this, if_neg (by omega)]
      go_wp2_with fail
      go_ret
      exact ⟨ret_int Hf.out.symm, rfl⟩

set_option maxRecDepth 100000 in
set_option maxHeartbeats 4000000 in
theorem baddE_any {w w0 : World} {b : Nat} {G : Tbl} (bb : Nat) (ar : Option Addr) (cr : Nat) (R : List (Option Addr × Nat)) (ap : Option Addr) (cp : Nat) (s : BS) (av : Option Addr) (cv n : Nat) (v : List Int)
    (h : GFw w0 b G) (hb : Below w0.heap.size w0 w) (hB : Bas w w0.heap.size bb b ar cr R ap cp s) (hs : s.Ok G.El n) (hv : w.ownsRow w0.heap.size 3 1 (.slice av n cv) n (v.map (Value.int .i64)))
    (hav : av ≠ none → ¬ BIn bb ar R ap (ablk av)) (hve : G.Els v) (hn : n ≤ 1000000) (hk : s.rows.length ≤ 1000000) :
    Calls Tryz.prog 199 #[.pointer (some ⟨bb, 0, none⟩), .slice av n cv] w (BaddPost w0 bb b ar R ap av G.ops s v w) := by
  have hvl : v.length = n := by simpa using own_len hv
  have hpv := (Ints.own hv).1.pl
  have hcl := Tbl.cl h
  have hred := redTo_el hcl hs.rws hs.plc ⟨hvl, hve⟩
  have Hred := Lib.hid hred
  have Hvl := Lib.hid hvl
  have Hs := Lib.hid hs
  have Hve := Lib.hid hve
  have c1 := hB.c1
  have hplr := hB.om.pl
  clear hred hvl hs hve
  go_enter Tryz.func199, Tryz.ntmps199
  go_wp2_with fail
  obtain ⟨kk, hkk⟩ : ∃ kk, s.rows.length = kk := ⟨_, rfl⟩
  have Hkk := Lib.hid hkk
  rw [hkk] at hk hplr c1
  rw [hkk]
  clear hkk
  go_loopw [18] (fun iv wr => ∃ k : Nat, k ≤ kk ∧ iv = .int .i64 k ∧ wr.ownsRow w0.heap.size 3 1 (.slice av n cv) n ((redTo G.ops s.rows s.place v k).map (Value.int .i64)) ∧ Only av w wr) (fun iv _ => kk - (intOf iv).toNat)
  case atStart => exact ⟨0, Nat.zero_le _, rfl, hv, Only.refl _ _⟩
  case round =>
    obtain ⟨k, hkk2, rfl, hown, honly⟩ := hrel
    have hBr := hB.only honly hav
    by_cases hlt : k < kk
    · have hkr : k < s.rows.length := by rw [Hkk.out]; exact hlt
      have e0 := hBr.c0
      have e2 := hBr.c2
      have er := hBr.om.cell hkr
      have ir := hBr.om.ints hkr
      have hrow := Hs.out.rws.row hkr
      have hplc := Hs.out.plc k hkr
      rw [hrow.1] at er ir
      obtain ⟨ip, mp⟩ := Ints.own hBr.pl
      have ep := ip.cell k hkr
      have hpp := ip.pl
      rw [Hkk.out] at e2 hpp
      obtain ⟨pn, hpn⟩ : ∃ pn : Nat, nth s.place k = pn := ⟨(nth s.place k).toNat, by omega⟩
      rw [hpn] at ep hplc
      have hpnn : pn < n := by omega
      have hrd := Hred.out k (by omega)
      have hrd1 := Hred.out (k + 1) (by omega)
      have hstep : redTo G.ops s.rows s.place v (k + 1) = redStep G.ops (redTo G.ops s.rows s.place v k) pn (nthR s.rows k) := by rw [redTo, hpn]
      have Hstep := Lib.hid hstep
      have Hrow := Lib.hid hrow
      have Hpn := Lib.hid hpn
      clear hstep hpn
      obtain ⟨u, hu⟩ : ∃ u, redTo G.ops s.rows s.place v k = u := ⟨_, rfl⟩
      rw [hu] at hown hrd
      have Hu := Lib.hid hu
      obtain ⟨iu, mu⟩ := Ints.own hown
      have eu := iu.cell pn hpnn
      have hpu := iu.pl
      have Hrd := Lib.hid hrd
      clear hu hrow hrd hrd1
      by_cases hz : nth u pn = 0
      · have hz' : (nth u pn != 0) = false := by simpa using hz
        have Hn : Hid (redTo G.ops s.rows s.place v (k + 1) = u) := by show _ = _; rw [Hstep.out, Hu.out, redStep, Int.toNat_natCast, if_pos hz]
        clear hz
        go_wp2_with fail
        go_roundw
        case rel => exact ⟨k + 1, by omega, by go_num, by rw [Hn.out]; exact hown, honly⟩
        case measure => simp [intOf] <;> omega
      · have hz' : (nth u pn != 0) = true := by simpa using hz
        have Hn : Hid (redTo G.ops s.rows s.place v (k + 1) = subRow G.ops u (nth u pn) (nthR s.rows k)) := by show _ = _; rw [Hstep.out, Hu.out, redStep, Int.toNat_natCast, if_neg hz]
        have hxe : G.El (nth u pn) := Hrd.out.2 _ (nth_mem (by rw [Hrd.out.1]; exact hpnn))
        have hSl : (subRow G.ops u (nth u pn) (nthR s.rows k)).length = u.length := subRow_length _ _ _ _ (by rw [Hrow.out.1, Hrd.out.1])
        have hSn := fun i hi => nth_subRow G.ops u (nth u pn) (nthR s.rows k) i (by rw [Hrow.out.1, Hrd.out.1]) hi
        have HSl := Lib.hid hSl
        have HSn := Lib.hid hSn
        clear hz hSl hSn
        have hplr2 := ir.pl
        go_wp2_with fail
        generalize nth u pn = x at *
        generalize subRow G.ops u x (nthR s.rows k) = S at *
        go_loopw [37] (fun iv wx => ∃ j : Nat, j ≤ n ∧ iv = .int .i64 j ∧ wx.ownsRow w0.heap.size 3 1 (.slice av n cv) n ((mixTo S u j).map (Value.int .i64)) ∧ Only av w wx) (fun iv _ => n - (intOf iv).toNat)
        case atStart => exact ⟨0, Nat.zero_le _, rfl, by rw [mixTo_zero]; exact hown, honly⟩
        case round =>
          obtain ⟨j, hj, rfl, hown2, honly2⟩ := hrel
          have hBx := hB.only honly2 hav
          have ix := hBx.om.ints hkr
          rw [Hrow.out.1] at ix
          by_cases hjn : j < n
          · have cj := ix.cell j hjn
            have f0 := hBx.c0
            obtain ⟨im, mm⟩ := Ints.own hown2
            have cm := im.cell j hjn
            have fm := (mm (by omega)).2 j hjn
            have hju : j < u.length := by rw [Hrd.out.1]; exact hjn
            have hmix := nth_mixTo S u j j HSl.out (by omega)
            rw [if_neg (by omega)] at hmix
            rw [hmix] at cm
            have hset := mixTo_set S u j HSl.out hju
            rw [HSn.out j hju] at hset
            have Hset := Lib.hid hset
            have ely : G.El (nth (nthR s.rows k) j) := Hrow.out.2 _ (nth_mem (by rw [Hrow.out.1]; exact hjn))
            have elv : G.El (nth u j) := Hrd.out.2 _ (nth_mem hju)
            have elm : ∀ x y, G.El (G.mul x y) := fun x y => Tbl.mul_el h x y
            have hbx : Below w0.heap.size w0 wr := Below.trans hb (honly2.below (fun ha => (own_ne hv ha).1) hb.size)
            have hGr : GFw wr b G := h.keep hbx
            have HG : Hid (GFw wr.drew b G ∧ ∀ n, GFw (wr.drewN n) b G) := ⟨hGr.keep (Below.refl _ _).drew, fun n => hGr.drewN n⟩
            clear hset hmix
            go_wp2_with fail
            go_region_law ((first
              | (go_simp; go_at_call 112; ((with_reducible refine (gMul x (nth (nthR s.rows k) j) HG.out.1 hxe ely).mono ?_); rintro e w4 ⟨m4, rfl, rfl⟩))
              | (go_simp; go_at_call 112; ((with_reducible refine (gMul x (nth (nthR s.rows k) j) (HG.out.2 _) hxe ely).mono ?_); rintro e w4 ⟨m4, rfl, rfl⟩))
              | (go_simp; go_at_call 170; ((with_reducible refine (gSub (nth u j) (G.mul x (nth (nthR s.rows k) j)) (HG.out.2 _) elv (elm _ _)).mono ?_); rintro e w4 ⟨m5, rfl, rfl⟩))))
            all_goals (
              go_wp2_with fail
              go_roundw
              case rel =>
                have hdr : Drawn wr (wr.drewN (1 + m4 + m5)) := ⟨_, rfl⟩
                refine ⟨j + 1, by omega, by go_num, ?_, honly2.trans ((Only.drawn hdr).trans (Only.set _ j _ (by intro e; have := hpv (by omega); rw [e] at this; cases this)))⟩
                have h1 := own_set (w := wr.drewN (1 + m4 + m5)) hown2 j hjn (.int .i64 (G.sub (nth u j) (G.mul x (nth (nthR s.rows k) j))))
                rw [← List.map_set, show G.sub (nth u j) (G.mul x (nth (nthR s.rows k) j)) = G.ops.add (nth u j) (G.ops.neg (G.ops.mul x (nth (nthR s.rows k) j))) from rfl, Hset.out] at h1
                exact h1
              case measure => simp [intOf] <;> omega)
          · obtain rfl : j = n := by omega
            rw [mixTo_all S u j (by rw [HSl.out, Hrd.out.1]) Hrd.out.1] at hown2
            go_wp2_with fail
            go_roundw
            case rel => exact ⟨k + 1, by omega, by go_num, by rw [Hn.out]; exact hown2, honly2⟩
            case measure => simp [intOf] <;> omega
    · obtain rfl : k = kk := by omega
      have hrd := Hred.out k (by rw [Hkk.out]; exact Nat.le_refl _)
      have hurd : redTo G.ops s.rows s.place v k = s.red G.ops v := by rw [BS.red, Hkk.out]
      rw [hurd] at hown hrd
      obtain ⟨iu, mu⟩ := Ints.own hown
      have Hrd := Lib.hid hrd
      clear hurd hrd
      go_wp2_with fail
      refine (indexNzE_any _ _ _ _ _ iu).mono ?_
      rintro e w' ⟨rfl, rfl⟩
      by_cases hf : fnz (s.red G.ops v) < (s.red G.ops v).length
      · have hfv : fnzV (s.red G.ops v) = fnz (s.red G.ops v) := by rw [fnzV, if_pos hf]
        have hfn := fnz_ne _ hf
        have Ht : Hid (s.takes G.ops v = true) := by show _ = _; simpa [BS.takes] using hf
        have HN : Hid (s.next G.ops v = ⟨s.rows ++ [(s.red G.ops v).map (G.mul (G.inv (nth (s.red G.ops v) (fnz (s.red G.ops v)))))], s.place ++ [(fnz (s.red G.ops v) : Int)]⟩) := by
          show _ = _; rw [BS.next, if_pos Ht.out]; rfl
        rw [hfv]
        obtain ⟨u, hu⟩ : ∃ u, s.red G.ops v = u := ⟨_, rfl⟩
        rw [hu] at hown Hrd hf hfn iu HN
        rw [hu]
        clear hu hfv
        obtain ⟨f, hff⟩ : ∃ f, fnz u = f := ⟨_, rfl⟩
        rw [hff] at hf hfn HN
        rw [hff]
        have hfn' : f < n := by rw [← Hrd.out.1]; exact hf
        have e0 := hBr.c0
        have eu := iu.cell f hfn'
        have hpu := iu.pl
        have elf : G.El (nth u f) := Hrd.out.2 _ (nth_mem hf)
        have hbx : Below w0.heap.size w0 wr := Below.trans hb (honly.below (fun ha => (own_ne hv ha).1) hb.size)
        have hGr : GFw wr b G := h.keep hbx
        have HG : Hid (GFw wr.drew b G ∧ ∀ n, GFw (wr.drewN n) b G) := ⟨hGr.keep (Below.refl _ _).drew, fun n => hGr.drewN n⟩
        have Hfn := Lib.hid hfn
        have Hf := Lib.hid hf
        clear hff hfn hf
        go_upto_region 15 with fail
        go_cut [11] (fun dv wx => dv = .int .i64 (G.inv (nth u f)) ∧ Drawn wr wx)
        case first =>
          go_region_held3 (fun w' => w'.cell? ⟨bb, 0, none⟩ = some (.pointer (some ⟨b, 0, none⟩)) ∧ w'.cell? ⟨ablk av, aoff av + f, none⟩ = some (.int .i64 (nth u f)))
            (exact ⟨e0, eu⟩)
            (first
            | (go_at_call 185; ((with_reducible refine (gInv _ HG.out.1 elf Hfn.out).mono ?_); rintro e w4 ⟨m4, rfl, rfl⟩)))
          all_goals (
            go_step; go_step
            go_meet
            exact ⟨rfl, ⟨_, rfl⟩⟩)
        obtain ⟨rfl, hdr⟩ := hcut
        generalize wc = V at *
        have hBV : Bas V w0.heap.size bb b ar cr R ap cp s := hBr.keep hdr.below
        have hownV := own_keep hown hdr.below
        have hbV : Below w0.heap.size w0 V := hdr.below' hbx
        have honV : Only av w V := honly.trans (Only.drawn hdr)
        clear hBr hown hbx hGr HG e0 eu iu mu hdr honly
        obtain ⟨iu, mu⟩ := Ints.own hownV
        have HGV : Hid (GFw V.drew b G ∧ ∀ n, GFw (V.drewN n) b G) := ⟨(h.keep hbV).keep (Below.refl _ _).drew, fun n => (h.keep hbV).drewN n⟩
        have hiel : G.El (G.inv (nth u f)) := Tbl.inv_el h _
        have e0 := hBV.c0
        have e1 := hBV.c1
        have f1 := hBV.fr 1
        have hS : ∀ W, Below V.heap.size V W → W.cell? ⟨bb, 0, none⟩ = some (.pointer (some ⟨b, 0, none⟩)) ∧ W.cell? ⟨bb, 1, none⟩ = some (.slice ar s.rows.length cr) ∧ W.frozen? ⟨bb, 1, none⟩ = false ∧ Below V.heap.size V W := by
          intro W hW
          have hBW := hBV.keep hW
          exact ⟨hBW.c0, hBW.c1, hBW.fr 1, hW⟩
        have HS := Lib.hid hS
        have haptb : Apt ar bb := by
          by_cases ha : ar = none
          · exact .inl ha
          · exact .inr fun e => hBV.d1 (.inl ⟨ha, e.symm⟩)
        have hR : ∀ W, Below V.heap.size V W → W.ownsRow w0.heap.size 22 1 (.slice ar k cr) k (List.zipWith rowV R s.rows) := fun W hW => by
          have := (hBV.om.keep hW).own
          rwa [Hkk.out] at this
        have HR := Lib.hid hR
        obtain ⟨N, hN⟩ : ∃ N, u.map (G.mul (G.inv (nth u f))) = N := ⟨_, rfl⟩
        have hsc : Calls Tryz.prog 186 #[.pointer (some ⟨b, 0, none⟩), .int .i64 (G.inv (nth u f)), .slice av n cv] V.drew (NewInts V.drew N) := by
          rw [← hN]; exact gScale (G.inv (nth u f)) _ _ _ u HGV.out.1 hiel (iu.keep (Below.refl _ _).drew) Hrd.out.2 hn
        have Hsc := Lib.hid hsc
        have HNe := Lib.hid hN
        rw [hN] at HN
        clear hN hsc
        clear hS hR
        go_upto_region 16 with fail
        go_cut [] (fun wx => ∃ ar' cr' R', wx.cell? ⟨bb, 1, none⟩ = some (.slice ar' (k + 1) cr') ∧ OMat wx w0.heap.size ar' (k + 1) cr' R' (s.rows ++ [N]) ∧
          Moves V wx (fun x => x = bb ∨ OIn ar R x) (fun x => x = bb ∨ OIn ar' R' x) ∧ ¬ OIn ar' R' bb ∧
          (∀ i v, i ≠ 1 → V.cell? ⟨bb, i, none⟩ = some v → wx.cell? ⟨bb, i, none⟩ = some v) ∧ ∀ i, wx.frozen? ⟨bb, i, none⟩ = false)
        case first =>
          rw [Hkk.out] at e1 HS
          go_region_law ((first
            | (go_simp; go_at_call 186; ((with_reducible refine Hsc.out.mono ?_); rintro e w4 ⟨a4, c4, rfl, hown4, hb4⟩; obtain ⟨q0, q1, q2, q5⟩ := HS.out w4 (Below.next (Below.refl _ _).drew hb4); have q6 : bb < w4.heap.size := World.block_lt_of_cell? w4 _ q0))
            | (refine step_appAll (by rfl) (.tmp 83) (.tmp 91) 25 22 (by rfl) (.slice none 0 0) 24 Tryz.underlying25 infoInts (by rfl) w0.heap.size ar k cr (List.zipWith rowV R s.rows) (by rfl) (HR.out _ (Below.next q5 (below1 _ _))) (some ⟨w4.heap.size, 0, none⟩) 1 1 [.slice a4 N.length c4] (by rfl) (fun _ => rfl) rfl (by intro j hj; obtain rfl : j = 0 := (by omega); exact cell_new' _ _ _ rfl) (by intro y hy; simp at hy; subst hy; rfl) (by omega) (by unfold maxLen; omega) (by have e1 := hbV.size; have e2 := Below.size q5; simp; omega) ?_; intro a5 c5 w5 hown5 hgr5 hap5; have p1 := cell_grownApt hgr5 (cell_box q1 _) haptb; have p2 : w5.frozen? ⟨bb, 1, none⟩ = false := (World.frozen?_of_block (hgr5.block bb (World.block_lt_of_cell? _ _ (cell_box q1 _)) (fun e => haptb.own k cr e.symm))).trans (frozen_box (World.block_lt_of_cell? _ _ q1) q2 _))))
          all_goals (
            go_wp2_with fail
            go_meet
            exact hBV.push16 Hkk.out hbV.size (Below.next (Below.refl _ _).drew hb4) hown4 hown5 hgr5 hap5 ⟨_, p1⟩)
        obtain ⟨ar', cr', R', y1, hOX, hMX, hdX, hcX, hfX⟩ := hcut
        generalize wc = X at *
        have y0 := hcX 0 _ (by omega) e0
        have y2 := hcX 2 _ (by omega) hBV.c2
        have yf := hfX 2
        have hnI : ap ≠ none → ¬ (ablk ap = bb ∨ OIn ar R (ablk ap)) := fun h0 hI => by
          rcases hI with h1 | h1
          · rcases hBV.d2 with h2 | h2
            · exact h0 h2
            · exact h2 h1
          · exact hBV.d3 h0 h1
        have hpX := hMX.own hBV.pl hnI
        have hd3 : ap ≠ none → ¬ OIn ar' R' (ablk ap) := fun h0 hI => hMX.not (own_ne hBV.pl h0).2 (hnI h0) (.inr hI)
        rw [Hkk.out] at y2 hpX
        have hbX : Below w0.heap.size w0 X := hbV.trans (hMX.below (fun x hx => (hBV.lt x (by rcases hx with h1 | h1; exact .inl h1; exact .inr (.inl h1))).1) hbV.size)
        have hz : bb < X.heap.size := World.block_lt_of_cell? X _ y0
        have HfX := Lib.hid hfX
        have Hd3 := Lib.hid hd3
        have HdX := Lib.hid hdX
        have hd2 := hBV.d2
        have hbB := hBV.bB
        have hcn := cell_new X (.int .i64 f) 3
        clear hcX hfX hd3 hdX e0 e1 f1
        go_wp2_with (at_builtin; refine wpList_push rfl _ _ 22 3 rfl (.int .i64 0) 8 Tryz.underlying22 infoInt rfl w0.heap.size ap k cp _ rfl (hpX.alloc _) ⟨X.heap.size, 0, none⟩ 1 (.int .i64 f) rfl hcn rfl (by omega) (by unfold maxLen; omega) (by have e1 := hbX.size; simp; omega) ?_; intro a6 c6 w6 hown6 hgr6 hap6; have p1 := cell_grownApt hgr6 (cell_box y2 _) hd2; have p2 : w6.frozen? ⟨bb, 2, none⟩ = false := (World.frozen?_of_block (hgr6.block bb (World.block_lt_of_cell? _ _ (cell_box y2 _)) (fun e => hd2.own k cp e.symm))).trans (frozen_box hz yf _))
        have hP := Bas.push17 (w6 := w6) hbB y0 y1 ⟨_, y2⟩ HfX.out hOX hpX HdX.out hd2 Hd3.out hown6 hgr6 hap6
        have HP := Lib.hid hP
        clear hP
        go_ret
        refine ⟨ar', cr', R', a6, c6, ret_bool Ht.out.symm, by rw [HN.out]; exact HP.out.1, ?_⟩
        refine Moves.trans (w' := V) (I' := fun x => BIn bb ar R ap x ∨ (av ≠ none ∧ x = ablk av)) ?_ (Moves.trans (w' := X) (I' := BIn bb ar' R' ap) ?_ HP.out.2)
        · exact ⟨honV.os, honV.tape, honV.output, honV.size, fun x hx hI => honV.block x hx fun h2 => hI (.inr h2), fun x hx => .inl hx⟩
        · refine ⟨hMX.os, hMX.tape, hMX.output, hMX.size, fun x hx hI => hMX.block x hx fun h2 => hI (.inl (by rcases h2 with h3 | h3; exact .inl h3; exact .inr (.inl h3))), fun x hx => ?_⟩
          rcases hx with h1 | h1 | h1
          · exact .inl (.inl (.inl h1))
          · rcases hMX.grow x (.inr h1) with h2 | h2
            · exact .inl (.inl (by rcases h2 with h3 | h3; exact .inl h3; exact .inr (.inl h3)))
            · exact .inr h2
          · exact .inl (.inl (.inr (.inr h1)))
      · have hfv : fnzV (s.red G.ops v) = -1 := by rw [fnzV, if_neg hf]
        rw [hfv]
        have Ht : Hid (s.takes G.ops v = false) := by show _ = _; simp [BS.takes]; omega
        have HN : Hid (s.next G.ops v = s) := by show _ = _; rw [BS.next, if_neg (by rw [Ht.out]; simp)]
        clear hf hfv
        go_wp2_with fail
        go_ret
        refine ⟨ar, cr, R, ap, cp, ret_bool Ht.out.symm, by rw [HN.out]; exact hBr, ?_⟩
        exact ⟨honly.os, honly.tape, honly.output, honly.size, fun x hx hI => honly.block x hx fun h2 => hI (.inr h2), fun x hx => .inl (.inl hx)⟩
end

end Go.Proofs.YtcflcogbpnmjeaaGreat
