/- The walks of infoset.Is, is. -/
import Derived.Test.YtakmnncmeefceaaGreatG20
import Derived.Test.YtakmnncmeefceaaGreatG12
import Derived.Test.YtakmnncmeefceaaGreatG17
namespace Go.Proofs.YtakmnncmeefceaaGreat
set_option linter.unusedVariables false
set_option linter.unusedSimpArgs false
set_option linter.unusedSectionVars false

/- The walks of the reference of layer 48: Others, Of, Dimension. -/
section
open Go.RowKit

/-- the bits below n -/
def bL (n x : Nat) : List Bool := (List.range n).map fun p => x.testBit p
theorem bL_length (n x : Nat) : (bL n x).length = n := by simp [bL]
theorem nthB_bL {n x i : Nat} (hi : i < n) : nthB (bL n x) i = x.testBit i := by
  rw [nthB_getElem (by rw [bL_length]; exact hi)]; simp [bL]
theorem bL_zero (n : Nat) : List.replicate n (Value.bool false) = (bL n 0).map Value.bool := by
  refine List.ext_getElem (by simp [bL]) fun i h1 h2 => ?_
  simp [bL]
theorem bL_set (n x z : Nat) : (bL n x).set z true = bL n (x ||| 2 ^ z) := by
  refine List.ext_getElem (by simp [bL]) fun i h1 h2 => ?_
  rw [List.getElem_set]
  simp only [bL, List.getElem_map, List.getElem_range, Nat.testBit_or, Nat.testBit_two_pow]
  by_cases h : z = i
  · simp [h]
  · simp [h]
theorem InN.bd {n : Nat} {Q : List Int} (h : InN n Q) (hn : n ≤ 64) {k : Nat} (hk : k ≤ Q.length) : ∀ j, j < k → 0 ≤ nth Q j ∧ nth Q j < 64 := fun j hj => by
  have := h j (by omega)
  omega
theorem InN.of_set {n : Nat} {Q : List Int} (h : okSet n Q = true) : InN n Q := fun j hj => by
  have := okSet_at h hj
  omega
theorem InN.bits (x n : Nat) : InN n (bitsTo x n) := fun j hj => nth_bits_lt x n j hj
theorem InN.mask {n : Nat} {Q : List Int} (h : InN n Q) (hn : n ≤ 64) : maskS Q < 18446744073709551616 := maskTo_lt _ (h.bd hn (Nat.le_refl _))

set_option maxRecDepth 100000 in
set_option maxHeartbeats 3200000 in
theorem rOthers_any (n : Nat) (ao : Option Addr) (no co : Nat) (Q : List Int) (w : World) (hq : Ints w ao no Q) (hQ : InN n Q) (hn1 : 1 ≤ n) (hn : n ≤ 64) :
    Calls Tryz.prog 106 #[.int .i64 n, .slice ao no co] w (NewInts w (bitsTo (cplU (maskS Q)) n)) := by
  have Hql := Lib.hid hq.len
  have hplq := hq.pl
  have hmq := hq.max
  have HQ := Lib.hid hQ
  unfold maxLen at hmq
  clear hQ
  go_enter Tryz.func106, Tryz.ntmps106
  go_wp2_with (at_make; refine wpList_mk rfl _ _ 58 4 rfl (.bool false) 1 Tryz.underlying58 infoBool rfl n rfl rfl (by omega) (by unfold maxLen; omega) ?_; intro a7 w1 hown hbel hge hlt)
  rw [bL_zero] at hown
  go_loopw [6] (fun iv wr => ∃ k : Nat, k ≤ no ∧ iv = .int .i64 k ∧ wr.ownsRow w.heap.size 4 1 (.slice a7 n n) n ((bL n (maskTo Q k)).map Value.bool) ∧ Below w.heap.size w wr)
    (fun iv _ => no - (intOf iv).toNat)
  case atStart => exact ⟨0, Nat.zero_le _, rfl, hown, hbel⟩
  case round =>
    clear hown hbel
    obtain ⟨k, hk, rfl, hop, hbr⟩ := hrel
    obtain ⟨hbl, hmine⟩ := Bools.own hop
    have hpl7 := hbl.pl
    by_cases hlt : k < no
    · have cq := (hq.keep hbr).cell k hlt
      have hbd := HQ.out k (by rw [Hql.out]; exact hlt)
      obtain ⟨z, hz⟩ : ∃ z : Nat, nth Q k = z := ⟨(nth Q k).toNat, by omega⟩
      have hzm : z < n := by omega
      have ct := hbl.cell z hzm
      have ft := (hmine (by omega)).2 z hzm
      have hB := (hmine (by omega)).1
      have Hst : Hid (maskTo Q (k + 1) = maskTo Q k ||| 2 ^ z) := by show _ = _; rw [maskTo, hz, Int.toNat_natCast]
      rw [hz] at cq
      clear hz hbd
      go_wp2_with fail
      go_roundw
      case rel =>
        refine ⟨k + 1, by omega, by go_num, ?_, hbr.setCell hB _⟩
        have h1 := own_set hop z hzm (.bool true)
        rw [← List.map_set, bL_set, ← Hst.out] at h1
        exact h1
      case measure => simp [intOf] <;> omega
    · obtain rfl : k = no := by omega
      obtain ⟨X, hX⟩ : ∃ X, maskTo Q k = X := ⟨_, rfl⟩
      have HX : Hid (maskS Q = X) := by show _ = _; rw [maskS, Hql.out, hX]
      rw [hX] at hbl
      obtain ⟨Y, hY⟩ : ∃ Y, cplU X = Y := ⟨_, rfl⟩
      have HY : Hid (∀ i, i < n → Y.testBit i = !X.testBit i) := fun i hi => by rw [← hY]; exact cplU_test _ _ (by omega)
      have HYS : Hid (cplU (maskS Q) = Y) := by show _ = _; rw [HX.out, hY]
      clear hX hop hmine hY
      go_wp2_with fail
      generalize wr = U at *
      go_loopw [7, 8] (fun sv iv wr => ∃ (j : Nat) (aq : Option Addr) (cq : Nat), j ≤ n ∧ iv = .int .i64 j ∧ sv = .slice aq (bitsTo Y j).length cq ∧ wr.ownsRow U.heap.size 3 1 (.slice aq (bitsTo Y j).length cq) (bitsTo Y j).length ((bitsTo Y j).map (Value.int .i64)) ∧ Below U.heap.size U wr)
        (fun _ iv _ => n - (intOf iv).toNat)
      case atStart => exact ⟨0, _, _, Nat.zero_le _, rfl, rfl, by simpa [bitsTo] using own_mk U 3 (.int .i64 0) 0 (Nat.le_refl _) (by unfold maxLen; omega), below1 _ _⟩
      case round =>
        obtain ⟨j, aq, cq, hj, rfl, rfl, hop, hbr2⟩ := hrel
        have hlen := bitsTo_len Y j
        by_cases hlt2 : j < n
        · have cj := (hbl.keep hbr2).cell j hlt2
          rw [nthB_bL hlt2] at cj
          have hty := HY.out j hlt2
          by_cases ht : X.testBit j = true
          · rw [ht] at cj hty
            have hb : Hid (bitsTo Y (j + 1) = bitsTo Y j) := by show _ = _; rw [bitsTo, if_neg (by rw [hty]; simp)]
            clear ht hty
            generalize bitsTo Y j = out at *
            go_wp2_with fail
            go_roundw
            case rel => exact ⟨j + 1, aq, cq, by omega, by go_num, by rw [hb.out], by rw [hb.out]; exact hop, hbr2⟩
            case measure => simp [intOf] <;> omega
          · have ht' : X.testBit j = false := by simpa using ht
            rw [ht'] at cj hty
            have hb : Hid (bitsTo Y (j + 1) = bitsTo Y j ++ [(j : Int)]) := by show _ = _; rw [bitsTo, if_pos (by rw [hty]; rfl)]
            clear ht ht' hty
            generalize bitsTo Y j = out at *
            have hcn := cell_new wr (.int .i64 j) 3
            have hbn := below1 wr (.cells #[.int .i64 j] 3)
            have hsz := hbr2.size
            go_wp2_with (at_builtin; refine wpList_push rfl _ _ 22 3 rfl (.int .i64 0) 8 Tryz.underlying22 infoInt rfl U.heap.size aq out.length cq _ rfl (hop.alloc _) ⟨wr.heap.size, 0, none⟩ 1 (.int .i64 j) rfl hcn rfl (by omega) (by unfold maxLen; omega) (by simp; omega) ?_; intro a5 c5 w5 hown5 hgr5 hap5)
            go_roundw
            case rel =>
              refine ⟨j + 1, a5, c5, by omega, by go_num, by rw [hb.out]; simp, ?_, Below.app (Below.trans hbr2 (hbn.mono hsz)) (hop.alloc _) hgr5 (Nat.le_refl _) (Nat.le_trans hsz hbn.size)⟩
              rw [hb.out]; simpa using hown5
            case measure => simp [intOf] <;> omega
        · obtain rfl : j = n := by omega
          have hF : NewInts w (bitsTo (cplU (maskS Q)) j) (.returned (.slice aq (bitsTo Y j).length cq)) wr := by rw [HYS.out]; exact ⟨aq, cq, rfl, own_mono hop hbr.size, Below.next hbr hbr2⟩
          have HF := Lib.hid hF
          clear hF hop HX HY HYS
          generalize bitsTo Y j = out at *
          go_wp2_with fail
          go_ret
          exact HF.out

theorem bitsTo_congr {x y : Nat} : ∀ k, (∀ i, i < k → x.testBit i = y.testBit i) → bitsTo x k = bitsTo y k
  | 0, _ => rfl
  | k + 1, h => by
    rw [bitsTo, bitsTo, bitsTo_congr k fun i hi => h i (by omega), h k (by omega)]
theorem bitsTo_mask (x n : Nat) (hn : n ≤ 64) : bitsTo (maskS (bitsTo x n)) n = bitsTo x n :=
  bitsTo_congr n fun i hi => by
    rw [Bool.eq_iff_iff, maskS_bits x n hn]
    exact ⟨fun h => h.2, fun h => ⟨hi, h⟩⟩

set_option maxRecDepth 100000 in
set_option maxHeartbeats 4000000 in
theorem rOf_any (P M : Int) (am : Option Addr) (mn cm : Nat) (mod : List Int) (N : Nat) (a : Option Addr) (n c : Nat) (L : List (List Int)) (ao : Option Addr) (no co : Nat) (Q : List Int) (w : World)
    (hmod : Ints w am mn mod) (hi : Mat w a n L) (hE : codeE P M mod N L = 0) (hq : Ints w ao no Q) (hQ : InN N Q) (hno : no ≤ 64) :
    Calls Tryz.prog 60 #[.agg #[.int .i64 P, .int .i64 M, .slice am mn cm, .int .i64 N, .slice a n c], .slice ao no co] w
      fun e w' => e = .returned (.int .i64 (dimS (tblOf P M.toNat mod).ops L N (maskS Q))) ∧ Below w.heap.size w w' := by
  obtain ⟨N', e, hN1, hN64, _⟩ := codeE_fld hE
  obtain rfl : N = N' := by omega
  have hL256 := (codeE_rws hE).choose_spec.2.2.2.1
  have hn : n ≤ 256 := by rw [← hi.len]; exact hL256
  have hd : dimS (tblOf P M.toNat mod).ops L N (maskS Q) = (grS (tblOf P M.toNat mod).ops L (bitsTo (maskS Q) N)).length + (grS (tblOf P M.toNat mod).ops L (bitsTo (maskS (bitsTo (cplU (maskS Q)) N)) N)).length - n := by
    rw [dimS, hi.len, bitsTo_mask _ _ hN64]
  have hl1 := grS_len (tblOf P M.toNat mod).ops L (bitsTo (maskS Q) N)
  have hl2 := grS_len (tblOf P M.toNat mod).ops L (bitsTo (maskS (bitsTo (cplU (maskS Q)) N)) N)
  have hl3 := bitsTo_len (maskS Q) N
  have hl4 := bitsTo_len (maskS (bitsTo (cplU (maskS Q)) N)) N
  have hl5 := bitsTo_len (cplU (maskS Q)) N
  have hc1 : ∀ V, Below w.heap.size w V → Calls Tryz.prog 105 #[.agg #[.int .i64 P, .int .i64 M, .slice am mn cm, .int .i64 N, .slice a n c], .slice ao no co] V
      fun e w' => e = .returned (.int .i64 (grS (tblOf P M.toNat mod).ops L (bitsTo (maskS Q) N)).length) ∧ Below V.heap.size V w' := fun V hV =>
    rRank48_any P M am mn cm mod N a n c L ao no co Q V (hmod.keep hV) (hi.keep hV) hE (hq.keep hV) hQ hno
  have hco : ∀ V, Below w.heap.size w V → Calls Tryz.prog 106 #[.int .i64 N, .slice ao no co] V (NewInts V (bitsTo (cplU (maskS Q)) N)) := fun V hV =>
    rOthers_any N ao no co Q V (hq.keep hV) hQ hN1 hN64
  have hc2 : ∀ V a6 c6, Below w.heap.size w V → V.ownsRow 0 3 1 (.slice a6 (bitsTo (cplU (maskS Q)) N).length c6) (bitsTo (cplU (maskS Q)) N).length ((bitsTo (cplU (maskS Q)) N).map (Value.int .i64)) →
      ∀ V2, Below V.heap.size V V2 → Calls Tryz.prog 105 #[.agg #[.int .i64 P, .int .i64 M, .slice am mn cm, .int .i64 N, .slice a n c], .slice a6 (bitsTo (cplU (maskS Q)) N).length c6] V2
        fun e w' => e = .returned (.int .i64 (grS (tblOf P M.toNat mod).ops L (bitsTo (maskS (bitsTo (cplU (maskS Q)) N)) N)).length) ∧ Below V2.heap.size V2 w' := fun V a6 c6 hV ho V2 hV2 =>
    rRank48_any P M am mn cm mod N a n c L a6 _ c6 _ V2 (hmod.keep (Below.next hV hV2)) (hi.keep (Below.next hV hV2)) hE ((Ints.own ho).1.keep hV2) (InN.bits _ _) (Nat.le_trans hl5 hN64)
  have Hc1 := Lib.hid hc1
  have Hco := Lib.hid hco
  have Hc2 := Lib.hid hc2
  have Hd := Lib.hid hd
  clear hc1 hco hc2 hd hE hQ hL256 hl5 e
  generalize (grS (tblOf P M.toNat mod).ops L (bitsTo (maskS Q) N)).length = r1 at *
  generalize (grS (tblOf P M.toNat mod).ops L (bitsTo (maskS (bitsTo (cplU (maskS Q)) N)) N)).length = r2 at *
  have k1 : IntKind.i64.wrap ((r1 : Int) + r2) = (r1 : Int) + r2 := IntWalk.i64_in _ (by omega)
  have k2 : IntKind.i64.wrap ((r1 : Int) + r2 - n) = (r1 : Int) + r2 - n := IntWalk.i64_in _ (by omega)
  clear hl1 hl2 hl3 hl4
  go_enter Tryz.func60, Tryz.ntmps60
  go_wp2_with fail
  obtain ⟨W, hW⟩ : ∃ W : World, W = w.alloc (.cells #[.int .i64 P, .int .i64 M, .slice am mn cm, .int .i64 N, .slice a n c] 27) := ⟨_, rfl⟩
  rw [← hW]
  have hbW : Below w.heap.size w W := by rw [hW]; exact below1 _ _
  have x0 : Box W w.heap.size [.int .i64 P, .int .i64 M, .slice am mn cm, .int .i64 N, .slice a n c] := by rw [hW]; exact Box.new _ _ _ rfl
  have HX := Lib.hid x0
  clear hW x0
  have hS : ∀ V, Below W.heap.size W V → V.cell? ⟨w.heap.size, 0, none⟩ = some (.int .i64 P) ∧ V.cell? ⟨w.heap.size, 1, none⟩ = some (.int .i64 M) ∧ V.cell? ⟨w.heap.size, 2, none⟩ = some (.slice am mn cm) ∧ V.cell? ⟨w.heap.size, 3, none⟩ = some (.int .i64 N) ∧ V.cell? ⟨w.heap.size, 4, none⟩ = some (.slice a n c) ∧ Below W.heap.size W V := by
    intro V hV
    have x1 := HX.out.keep hV
    exact ⟨x1.cell 0 rfl, x1.cell 1 rfl, x1.cell 2 rfl, x1.cell 3 rfl, x1.cell 4 rfl, hV⟩
  have HS := Lib.hid hS
  have HbW := Lib.hid hbW
  clear hS hbW
  go_region_held3 (fun V => V.cell? ⟨w.heap.size, 0, none⟩ = some (.int .i64 P) ∧ V.cell? ⟨w.heap.size, 1, none⟩ = some (.int .i64 M) ∧ V.cell? ⟨w.heap.size, 2, none⟩ = some (.slice am mn cm) ∧ V.cell? ⟨w.heap.size, 3, none⟩ = some (.int .i64 N) ∧ V.cell? ⟨w.heap.size, 4, none⟩ = some (.slice a n c) ∧ Below W.heap.size W V)
    ((refine HS.out _ ?_; first | exact (Below.refl _ _).drew | (go_split_ands; exact Below.next (by assumption) (by assumption))))
    (first
      | (go_at_call 105; ((with_reducible refine (Hc1.out _ (Below.next HbW.out (by go_split_ands; assumption))).mono ?_); rintro e w4 ⟨rfl, hb4⟩))
      | (go_at_call 106; ((with_reducible refine (Hco.out _ (Below.next HbW.out (by go_split_ands; assumption))).mono ?_); rintro e w6 ⟨a6, c6, rfl, hown6, hb6⟩; have hb7 : Below W.heap.size W w6 := (by go_split_ands; exact Below.next (by assumption) hb6); have Hr2 := Lib.hid (Hc2.out w6 a6 c6 (Below.next HbW.out hb7) (own_mono hown6 (Nat.zero_le _))); clear hown6))
      | (go_at_call 105; ((with_reducible refine (Hr2.out _ (by first | exact Below.refl _ _ | exact hb4)).mono ?_); rintro e w8 ⟨rfl, hb8⟩)))
  all_goals (
    clear k1 k2
    go_wp2_with fail
    go_ret
    exact ⟨ret_int Hd.out.symm, Below.next HbW.out (by go_split_ands; assumption)⟩)
end

/- What Dimension answers; bounds of dimensions (plain law). -/
section
open Go.RowKit

/-- what Dimension answers -/
def dimV (P M : Int) (mod : List Int) (N : Int) (L : List (List Int)) (Q : List Int) : Int × Int :=
  if codeE P M mod N L = 0 then (if okSet N Q = true then (dimS (tblOf P M.toNat mod).ops L N.toNat (maskS Q), 0) else (0, 5)) else (0, codeE P M mod N L)
theorem DimPost.val {P M : Int} {mod : List Int} {N : Int} {L : List (List Int)} {Q : List Int} {w : World} {e : Ending} {w' : World} (h : DimPost P M mod N L Q w e w') :
    e = .returned (.tuple #[.int .i64 (dimV P M mod N L Q).1, .int .i64 (dimV P M mod N L Q).2]) ∧ Below w.heap.size w w' := by
  obtain ⟨hb, h⟩ := h
  refine ⟨?_, hb⟩
  unfold dimV
  rcases h with ⟨h1, rfl⟩ | ⟨h1, h2, rfl⟩ | ⟨h1, h2, rfl⟩
  · rw [if_neg h1]
  · rw [if_pos h1, if_neg (by rw [h2]; decide)]
  · rw [if_pos h1, if_pos h2]
theorem dimV_ok {P M : Int} {mod : List Int} {N : Int} {L : List (List Int)} {Q : List Int} (h : (dimV P M mod N L Q).2 = 0) : codeE P M mod N L = 0 ∧ okSet N Q = true ∧ (dimV P M mod N L Q).1 = dimS (tblOf P M.toNat mod).ops L N.toNat (maskS Q) := by
  unfold dimV at h ⊢
  split at h
  · rename_i h1
    split at h
    · rename_i h2; rw [if_pos h1, if_pos h2]; exact ⟨h1, h2, rfl⟩
    · exact absurd h (by show ¬ (5 : Int) = 0; omega)
  · rename_i h1; exact absurd h h1

theorem bits_parts (x : Nat) : ∀ k, k ≤ 64 → (bitsTo x k).length + (bitsTo (cplU x) k).length = k
  | 0, _ => rfl
  | k + 1, hk => by
    have ih := bits_parts x k (by omega)
    have hc := cplU_test x k (by omega)
    rw [bitsTo, bitsTo, hc]
    cases hx : x.testBit k <;> simp <;> omega

theorem gr_rows {P M : Int} {mod : List Int} {N : Nat} {L : List (List Int)} (hE : codeE P M mod N L = 0) (x : Nat) : (grS (tblOf P M.toNat mod).ops L (bitsTo x N)).length ≤ L.length := by
  obtain ⟨n', e, _, hn, _⟩ := codeE_fld hE
  obtain rfl : N = n' := by omega
  rw [← bitsTo_mask x N hn, ← pick_gr hE (InN.bits x N)]
  have := (elimTo_piv (rops P M.toNat mod) (L.map (pickL (bitsTo x N))) (bitsTo x N).length).2
  rwa [List.length_map] at this

theorem dim_law {P M : Int} {mod : List Int} {N : Nat} {L : List (List Int)} (hE : codeE P M mod N L = 0) (x : Nat) :
    dimS (tblOf P M.toNat mod).ops L N (maskS (bitsTo (cplU x) N)) = dimS (tblOf P M.toNat mod).ops L N x ∧ dimS (tblOf P M.toNat mod).ops L N x ≤ L.length ∧ dimS (tblOf P M.toNat mod).ops L N x ≤ (N : Int) - L.length := by
  obtain ⟨n', e, _, hn, _⟩ := codeE_fld hE
  obtain rfl : N = n' := by omega
  have h1 := gr_rows hE x
  have h2 := gr_rows hE (cplU x)
  have h3 := grS_len (tblOf P M.toNat mod).ops L (bitsTo x N)
  have h4 := grS_len (tblOf P M.toNat mod).ops L (bitsTo (cplU x) N)
  have h5 := bits_parts x N hn
  have e2 : bitsTo (cplU (maskS (bitsTo (cplU x) N))) N = bitsTo x N := bitsTo_congr N fun i hi => by
    rw [cplU_test _ _ (by omega), Bool.eq_iff_iff]
    have := maskS_bits (cplU x) N hn i
    rw [cplU_test _ _ (by omega)] at this
    cases hx : x.testBit i <;> cases hm : (maskS (bitsTo (cplU x) N)).testBit i <;> simp_all
  refine ⟨?_, ?_, ?_⟩
  · unfold dimS; rw [bitsTo_mask _ _ hn, e2]; omega
  · unfold dimS; omega
  · unfold dimS; omega
end

/- The walks of slices.Index, slices.Contains, matrix.Kernel. -/
section
open Go.RowKit

set_option maxRecDepth 100000 in
set_option maxHeartbeats 1600000 in
theorem index_any (a : Option Addr) (n c : Nat) (l : List Int) (v : Int) (w : World) (h : Ints w a n l) :
    Calls Tryz.prog 83 #[.slice a n c, .int .i64 v] w fun e w' => ∃ z : Int, e = .returned (.int .i64 z) ∧ (0 ≤ z ↔ v ∈ l) ∧ w' = w := by
  have Hl := Lib.hid h.len
  have hpl := h.pl
  have hmax := h.max
  unfold maxLen at hmax
  go_enter Tryz.func83, Tryz.ntmps83
  go_wp2_with fail
  go_loopw [8] (fun iv wr => ∃ k : Nat, k ≤ n ∧ iv = .int .i64 k ∧ Hid (∀ j, j < k → nth l j ≠ v) ∧ wr = w) (fun i _ => n - (intOf i).toNat)
  case atStart => exact ⟨0, Nat.zero_le _, rfl, fun j hj => by omega, rfl⟩
  case round =>
    obtain ⟨k, hk, rfl, hno, rfl⟩ := hrel
    by_cases hlt : k < n
    · have c1 := h.cell k hlt
      by_cases he : nth l k = v
      · have he' : (v == nth l k) = true := by rw [he]; simp
        have Hm : Hid (v ∈ l) := by show v ∈ l; rw [← he]; exact nth_mem (by rw [Hl.out]; exact hlt)
        clear he
        go_wp2_with fail
        go_ret
        exact ⟨k, rfl, ⟨fun _ => Hm.out, fun _ => Int.natCast_nonneg _⟩, rfl⟩
      · have he' : (v == nth l k) = false := by simpa using fun e => he e.symm
        have Hn2 : Hid (∀ j, j < k + 1 → nth l j ≠ v) := fun j hj => by
          by_cases e : j = k
          · subst e; exact he
          · exact hno.out j (by omega)
        clear he
        go_wp2_with fail
        go_roundw
        case rel => exact ⟨k + 1, by omega, by go_num, Hn2.out, by simp⟩
        case measure => simp [intOf] <;> omega
    · obtain rfl : k = n := by omega
      have Hm : Hid (¬ v ∈ l) := fun hm => by
        obtain ⟨j, hj, e⟩ := List.mem_iff_getElem.1 hm
        rw [← nth_getElem hj] at e
        exact hno.out j (by have := Hl.out; omega) e
      go_wp2_with fail
      go_ret
      exact ⟨-1, rfl, ⟨fun h => absurd h (by omega), fun h => absurd h Hm.out⟩, rfl⟩

theorem contains_any (a : Option Addr) (n c : Nat) (l : List Int) (v : Int) (w : World) (h : Ints w a n l) :
    Calls Tryz.prog 84 #[.slice a n c, .int .i64 v] w fun e w' => e = .returned (.bool (decide (v ∈ l))) ∧ w' = w := by
  go_enter Tryz.func84, Tryz.ntmps84
  go_wp2_with fail
  refine (index_any a n c l v w h).mono ?_
  rintro e w1 ⟨z, rfl, hz, rfl⟩
  by_cases h0 : 0 ≤ z
  · have Hz : Hid (decide (v ∈ l) = true) := by show _ = _; simpa using hz.1 h0
    have h0' : decide (0 ≤ z) = true := by simpa using h0
    clear hz h0
    go_wp2_with fail
    go_ret
    exact ⟨ret_bool Hz.out.symm, rfl⟩
  · have Hz : Hid (decide (v ∈ l) = false) := by show _ = _; simpa using fun h => h0 (hz.2 h)
    have h0' : decide (0 ≤ z) = false := by simpa using h0
    clear hz h0
    go_wp2_with fail
    go_ret
    exact ⟨ret_bool Hz.out.symm, rfl⟩

/-- the rows of the dual code -/
def dualL (G : Tbl) (L : List (List Int)) (m : Nat) : List (List Int) := canS G (kerL G.ops m (canS G L m) (pivS G L m) m) m

def KerPost (G : Tbl) (L : List (List Int)) (m : Nat) (w : World) (e : Ending) (w' : World) : Prop :=
  ∃ a c, e = .returned (.tuple #[.agg #[.int .i64 m, .slice a (dualL G L m).length c], .int .i64 0]) ∧ MatN w.heap.size w' a (dualL G L m).length (dualL G L m) ∧ Below w.heap.size w w'

theorem npL_le (P : List Int) : ∀ k, (npL P k).length ≤ k
  | 0 => Nat.le_refl _
  | k + 1 => by have := npL_le P k; rw [npL]; split <;> simp <;> omega

set_option maxRecDepth 100000 in
set_option maxHeartbeats 4000000 in
theorem kernel_any (P M : Int) (am : Option Addr) (mn cm : Nat) (mod : List Int) (m : Nat) (a : Option Addr) (n c : Nat) (L : List (List Int)) (w : World) (hmod : Ints w am mn mod) (hi : Mat w a n L) (hE : codeE P M mod m L = 0) :
    Calls Tryz.prog 97 #[.agg #[.int .i64 P, .int .i64 M, .slice am mn cm], .agg #[.int .i64 m, .slice a n c]] w (KerPost (tblOf P M.toNat mod) L m w) := by
  have Hlen := Lib.hid hi.len
  obtain ⟨N', e, hm1, hm64, F, hR⟩ := codeE_fld hE
  obtain rfl : m = N' := by omega
  have hL256 := (codeE_rws hE).choose_spec.2.2.2.1
  have hn : n ≤ 256 := by rw [← hi.len]; exact hL256
  obtain ⟨h5, h6⟩ := spaceE_zero (codeE_zero hE).2.2.2
  obtain ⟨hfB, h8⟩ := fmatE_zero h5
  have HR := Lib.hid hR
  have HF := Lib.hid F
  clear hE h5 h6 e hL256
  go_enter Tryz.func97, Tryz.ntmps97
  go_wp2_with fail
  obtain ⟨W, hW⟩ : ∃ W : World, W = ((((w.alloc (.cells #[.int .i64 P, .int .i64 M, .slice am mn cm] 24)).alloc (.cells #[.int .i64 m, .slice a n c] 62)).alloc (.cells #[.int .i64 0, .slice none 0 0] 62)).alloc (.cells #[.int .i64 m, .slice a n c] 62)) := ⟨_, rfl⟩
  rw [← hW]
  have hbW : Below w.heap.size w W := by rw [hW]; exact ((((Below.refl _ _).alloc (Nat.le_refl _) _).alloc (by simp) _).alloc (by simp; omega) _).alloc (by simp; omega) _
  have hsW : W.heap.size = w.heap.size + 4 := by rw [hW]; simp
  have q1 : W.cell? ⟨w.heap.size + 1, 0, none⟩ = some (.int .i64 m) ∧ W.cell? ⟨w.heap.size + 1, 1, none⟩ = some (.slice a n c) := by rw [hW]; exact ⟨cell_box (cell_box (cell_alloc_at _ _ _ (by simp) 0) _) _, cell_box (cell_box (cell_alloc_at _ _ _ (by simp) 1) _) _⟩
  have q2 : W.cell? ⟨w.heap.size + 1 + 1, 0, none⟩ = some (.int .i64 0) ∧ W.cell? ⟨w.heap.size + 1 + 1, 1, none⟩ = some (.slice none 0 0) ∧ W.frozen? ⟨w.heap.size + 1 + 1, 0, none⟩ = false ∧ W.frozen? ⟨w.heap.size + 1 + 1, 1, none⟩ = false := by
    rw [hW]; exact ⟨cell_box (cell_alloc_at _ _ _ (by simp) 0) _, cell_box (cell_alloc_at _ _ _ (by simp) 1) _, frozen_box (by simp) (frozen_at _ _ _ (by simp) 0) _, frozen_box (by simp) (frozen_at _ _ _ (by simp) 1) _⟩
  have q3 : W.cell? ⟨w.heap.size + 1 + 1 + 1, 0, none⟩ = some (.int .i64 m) ∧ W.cell? ⟨w.heap.size + 1 + 1 + 1, 1, none⟩ = some (.slice a n c) := by rw [hW]; exact ⟨cell_alloc_at _ _ _ (by simp) 0, cell_alloc_at _ _ _ (by simp) 1⟩
  have hiW := hi.keep hbW
  have hMs : Mats W (some ⟨w.heap.size + 1 + 1 + 1, 0, none⟩) 1 [((m : Int), L)] := ⟨rfl, fun _ => rfl, by unfold maxLen; omega, fun i hi => by
    have : i = 0 := by simp at hi; omega
    subst this
    exact ⟨a, n, c, by simpa using q3.1, by simpa using q3.2, hiW⟩⟩
  have HsW := Lib.hid hsW
  clear hW hsW
  refine (open_any P M am mn cm mod _ 1 1 _ W (hmod.keep hbW) hMs).mono ?_
  rintro e w1 ⟨hb1, hcase⟩
  have hbw1 := Below.next hbW hb1
  have hq : ∀ V, Below W.heap.size W V → V.cell? ⟨w.heap.size + 1, 0, none⟩ = some (.int .i64 m) ∧ V.cell? ⟨w.heap.size + 1, 1, none⟩ = some (.slice a n c) ∧ V.cell? ⟨w.heap.size + 1 + 1, 0, none⟩ = some (.int .i64 0) ∧ V.cell? ⟨w.heap.size + 1 + 1, 1, none⟩ = some (.slice none 0 0) ∧ V.frozen? ⟨w.heap.size + 1 + 1, 0, none⟩ = false ∧ V.frozen? ⟨w.heap.size + 1 + 1, 1, none⟩ = false := by
    intro V hV
    have hs := HsW.out
    exact ⟨cell_keep hV q1.1, cell_keep hV q1.2, cell_keep hV q2.1, cell_keep hV q2.2.1, (hV.frozen (p := ⟨w.heap.size + 1 + 1, 0, none⟩) (by simp [hs])).trans q2.2.2.1, (hV.frozen (p := ⟨w.heap.size + 1 + 1, 1, none⟩) (by simp [hs])).trans q2.2.2.2⟩
  have Hq := Lib.hid hq
  clear hq q1 q2 q3
  rw [matsE_one] at hcase
  rcases hcase with ⟨hB, _⟩ | ⟨_, er, h0, h1, _⟩ | ⟨_, _, b, rfl, hG, hbl⟩
  · rw [hfB] at hB; exact absurd hB (by decide)
  · rw [h8] at h1; exact absurd h1.symm h0
  obtain ⟨r1, r2, r3, r4, r5, r6⟩ := Hq.out w1 hb1
  have HPost : Hid (∀ a c w', MatN w.heap.size w' a (dualL (tblOf P M.toNat mod) L m).length (dualL (tblOf P M.toNat mod) L m) → Below w.heap.size w w' → KerPost (tblOf P M.toNat mod) L m w (.returned (.tuple #[.agg #[.int .i64 m, .slice a (dualL (tblOf P M.toNat mod) L m).length c], .int .i64 0])) w') := fun a c w' h1 h2 => ⟨a, c, rfl, h1, h2⟩
  obtain ⟨G, hGG⟩ : ∃ G, tblOf P M.toNat mod = G := ⟨_, rfl⟩
  have HGG := Lib.hid hGG
  rw [hGG] at hG HR HF HPost hR F
  clear h8 hGG hfB
  have Hcan := Lib.hid (canon_any a n c m L hG (hiW.keep hb1) hR (by omega) (by omega))
  have hRc : Rws G.El m (canS G L m) := canO_rws F hR
  obtain ⟨hPv, hLd⟩ := canO_piv F hR
  have hcl : (canS G L m).length = (pivS G L m).length := canS_length G L m
  have HPv : Hid (Piv (canS G L m) (pivS G L m) m) := hPv
  have hrws : ∀ k, k ≤ m → Rws G.El m (kerL G.ops m (canS G L m) (pivS G L m) k) := by
    intro k
    induction k with
    | zero => intro _ r hr; simp [kerL] at hr
    | succ k ih =>
      intro hk r hr
      rw [kerL] at hr
      split at hr
      · exact ih (by omega) r hr
      · rw [List.mem_append, List.mem_singleton] at hr
        rcases hr with hr | rfl
        · exact ih (by omega) r hr
        · exact kerTo_vc F hRc hPv hcl (by omega) _ (Nat.le_refl _)
  have Hrws := Lib.hid hrws
  have hdl : dualL G L m = canS G (kerL G.ops m (canS G L m) (pivS G L m) m) m := rfl
  have Hdl := Lib.hid hdl
  have Hcp : Hid (∀ c, c < m → ∀ i, i < (pivS G L m).length → G.El (nth (nthR (canS G L m) i) c)) := fun c hc i hi => Vc.at (hRc.row (by rw [hcl]; exact hi)) hc
  have Hrl : Hid (∀ i, i < (pivS G L m).length → (nthR (canS G L m) i).length = m) := fun i hi => (hRc.row (by rw [hcl]; exact hi)).1
  clear hR F hPv hLd hrws hdl
  go_wp2_with fail
  refine Hcan.out.mono ?_
  rintro e w2 ⟨a2, c2, ap, cp, rfl, hM2, hp2, hb2⟩
  have Hkp : Hid (∀ c i, kerTo G.ops m (canS G L m) (pivS G L m) c (i + 1) = (kerTo G.ops m (canS G L m) (pivS G L m) c i).set (nth (pivS G L m) i).toNat (G.neg (nth (nthR (canS G L m) i) c))) := fun c i => rfl
  have Hk0 : Hid (∀ c, kerTo G.ops m (canS G L m) (pivS G L m) c 0 = (List.replicate m 0).set c 1) := fun c => rfl
  have Hplt : Hid (∀ j, j < (pivS G L m).length → 0 ≤ nth (pivS G L m) j ∧ nth (pivS G L m) j < m) := HPv.out.lt
  obtain ⟨R, hRR⟩ : ∃ R, canS G L m = R := ⟨_, rfl⟩
  obtain ⟨Pv, hPP⟩ : ∃ Pv, pivS G L m = Pv := ⟨_, rfl⟩
  rw [hRR, hPP] at Hrws Hdl Hcp Hkp Hk0 Hrl
  rw [hPP] at Hplt hp2 hM2 hcl
  rw [hRR] at hM2 hcl
  rw [hPP]
  clear hRR hPP HPv Hcan
  obtain ⟨t, ht⟩ : ∃ t, Pv.length = t := ⟨_, rfl⟩
  have Ht := Lib.hid ht
  rw [ht] at hM2 hp2 Hcp Hplt hcl Hrl
  rw [ht]
  have hMM := hM2.mat
  have hII := hp2.ints
  have hplP := hII.pl
  have hplR := hMM.pl
  have hbw2 := Below.next hbw1 hb2
  have hb12 := Below.next hb1 hb2
  have hG2 := hG.keep hb2
  have hmaxP := hII.max
  unfold maxLen at hmaxP
  obtain ⟨z1, z2, z3, z4, z5, z6⟩ := Hq.out w2 hb12
  clear ht hM2 hp2 hG r1 r2 r3 r4 r5 r6
  go_wp2_with fail
  go_loopw [10, 37] (fun ov iv wr => ∃ (k : Nat) (a1 : Option Addr) (c1 : Nat), k ≤ m ∧ iv = .int .i64 k ∧ ov = .slice a1 (npL Pv k).length c1 ∧ (∃ Rr, OMat wr w2.heap.size a1 (npL Pv k).length c1 Rr (kerL G.ops m R Pv k)) ∧ Below w2.heap.size w2 wr) (fun _ iv _ => m - (intOf iv).toNat)
  case atStart => exact ⟨0, none, 0, Nat.zero_le _, rfl, rfl, ⟨[], OMat.nul w2 w2.heap.size⟩, Below.refl _ _⟩
  case round =>
    clear z1 z2 z3 z4 z5 z6
    obtain ⟨k, a1, c1, hk, rfl, rfl, ⟨Rr, hO⟩, hbr⟩ := hrel
    have hnk := npL_le Pv k
    by_cases hlt : k < m
    · have hcont := contains_any ap t cp Pv k wr (hII.keep hbr)
      obtain ⟨z1, _, _, _, _, _⟩ := Hq.out wr (Below.next hb12 hbr)
      by_cases hmem : (k : Int) ∈ Pv
      · have hN : Hid (npL Pv (k + 1) = npL Pv k) := by show _ = _; rw [npL, if_pos hmem]
        have hKk : Hid (kerL G.ops m R Pv (k + 1) = kerL G.ops m R Pv k) := by show _ = _; rw [kerL, if_pos hmem]
        rw [show decide ((k : Int) ∈ Pv) = true by simpa using hmem] at hcont
        have Hcont := Lib.hid hcont
        clear hmem hcont
        go_wp2_with fail
        refine Hcont.out.mono ?_
        rintro e w3 ⟨rfl, rfl⟩
        go_wp2_with fail
        go_roundw
        case rel => exact ⟨k + 1, a1, c1, by omega, by go_num, by rw [hN.out], ⟨Rr, by rw [hN.out, hKk.out]; exact hO⟩, hbr⟩
        case measure => simp [intOf] <;> omega
      · have hN : Hid (npL Pv (k + 1) = npL Pv k ++ [k]) := by show _ = _; rw [npL, if_neg hmem]
        have hKk : Hid (kerL G.ops m R Pv (k + 1) = kerL G.ops m R Pv k ++ [kerTo G.ops m R Pv k t]) := by show _ = _; rw [kerL, if_neg hmem, Ht.out]
        rw [show decide ((k : Int) ∈ Pv) = false by simpa using hmem] at hcont
        have Hcont := Lib.hid hcont
        clear hmem hcont
        go_wp2_with fail
        refine Hcont.out.mono ?_
        rintro e w3 ⟨rfl, rfl⟩
        go_wp2_with (at_make; refine wpList_mk rfl _ _ 22 3 rfl (.int .i64 0) 8 Tryz.underlying22 infoInt rfl m rfl rfl (by omega) (by unfold maxLen; omega) ?_; intro a5 w5 hown5 hbel5 hge5 hlt5; obtain ⟨hi5, hm5⟩ := Ints.own (l := List.replicate m 0) (by simpa using hown5); have hc5 := hi5.cell k hlt; have hf5 := (hm5 (by omega)).2 k hlt; have hpl5 := hi5.pl)
        have hx0 := own_set hown5 k hlt (.int .i64 1)
        have hx0' : (w5.setCell ⟨ablk a5, aoff a5 + k, none⟩ (.int .i64 1)).ownsRow w3.heap.size 3 1 (.slice a5 m m) m ((kerTo G.ops m R Pv k 0).map (Value.int .i64)) := by
          rw [Hk0.out, List.map_set, List.map_replicate]; exact hx0
        have hbx0 := hbel5.setCell (p := ⟨ablk a5, aoff a5 + k, none⟩) (hm5 (by omega)).1 (.int .i64 1)
        clear hx0 hown5 hbel5 hge5 hlt5 hi5 hm5 hc5 hf5 z1
        go_loopw [51] (fun iv wx => ∃ i : Nat, i ≤ t ∧ iv = .int .i64 i ∧ wx.ownsRow w3.heap.size 3 1 (.slice a5 m m) m ((kerTo G.ops m R Pv k i).map (Value.int .i64)) ∧ Below w3.heap.size w3 wx) (fun iv _ => t - (intOf iv).toNat)
        case atStart => exact ⟨0, Nat.zero_le _, rfl, hx0', hbx0⟩
        case round =>
          clear hx0' hbx0
          obtain ⟨i, hi', rfl, hown, hbx⟩ := hrel
          by_cases hli : i < t
          · have hb2x := Below.next hbr hbx
            have cpi := (hII.keep hb2x).cell i hli
            have hpb := Hplt.out i hli
            obtain ⟨z, hz⟩ : ∃ z : Nat, nth Pv i = z := ⟨(nth Pv i).toNat, by omega⟩
            have hzm : z < m := by omega
            obtain ⟨ra, rn, rc, hcell, hrow⟩ := (hMM.keep hb2x).cell i hli
            have hrn : rn = m := by rw [← hrow.len]; exact Hrl.out i hli
            subst hrn
            have ck := hrow.cell k hlt
            have hpr := hrow.pl
            have hel := Hcp.out k hlt i hli
            have hst : kerTo G.ops rn R Pv k (i + 1) = (kerTo G.ops rn R Pv k i).set z (G.neg (nth (nthR R i) k)) := by rw [Hkp.out, hz, Int.toNat_natCast]
            have Hst := Lib.hid hst
            obtain ⟨x9, hx9⟩ : ∃ x, nth (nthR R i) k = x := ⟨_, rfl⟩
            rw [hx9] at ck hel Hst
            have Hng := Lib.hid (gNeg x9 (hG2.keep hb2x) hel)
            rw [hz] at cpi
            obtain ⟨hints, hmine⟩ := Ints.own hown
            have hpl5' := hints.pl
            have cz := hints.cell z hzm
            have fz := (hmine (by omega)).2 z hzm
            have hB := (hmine (by omega)).1
            clear hz hpb hst hx9 hel
            go_wp2_with fail
            refine Hng.out.mono ?_
            rintro e w6 ⟨nd, rfl, rfl⟩
            go_wp2_with fail
            go_roundw
            case rel =>
              have h := own_set (w := wr.drewN nd) hown z hzm (.int .i64 (G.neg x9))
              rw [← List.map_set, ← Hst.out] at h
              exact ⟨i + 1, by omega, by go_num, h, (below_drewN hbx nd).setCell hB _⟩
            case measure => simp [intOf] <;> omega
          · obtain rfl : i = t := by omega
            obtain ⟨X, hX⟩ : ∃ X, kerTo G.ops m R Pv k i = X := ⟨_, rfl⟩
            have hXl : X.length = m := by rw [← hX]; exact kerTo_len _ _ _ _ _ _
            rw [hX] at hown hKk
            have HXl := Lib.hid hXl
            have hO3 := hO.keep (Below.next hbx (below1 wr (.cells #[.slice a5 m m] 22)))
            have hsz := hbr.size
            have hsx := hbx.size
            have hs3 : w2.heap.size ≤ (wr.alloc (.cells #[.slice a5 m m] 22)).heap.size := by simp; omega
            have hcn := cell_new wr (.slice a5 m m) 22
            clear hX hXl
            go_wp2_with (at_builtin; refine wpList_push rfl _ _ 25 22 rfl (.slice none 0 0) 24 Tryz.underlying25 infoInts rfl w2.heap.size a1 (npL Pv k).length c1 _ rfl hO3.own ⟨wr.heap.size, 0, none⟩ 1 (.slice a5 m m) rfl hcn rfl (by omega) (by unfold maxLen; omega) hs3 ?_; intro a7 c7 w7 hown7 hgr7 hap7)
            go_roundw
            case rel =>
              have hb4 : Below w3.heap.size w3 (wr.alloc (.cells #[.slice a5 m m] 22)) := Below.next hbx (below1 _ _)
              have hown4 : (wr.alloc (.cells #[.slice a5 m m] 22)).ownsRow w2.heap.size 3 1 (.slice a5 X.length m) X.length (X.map (Value.int .i64)) := by
                rw [HXl.out]; exact own_mono (own_keep hown (below1 _ _)) hsz
              have hra : a5 ≠ none → ¬ OIn a1 Rr (ablk a5) := fun h0 hI => by
                have h1 := (own_ne hown h0).1
                have h2 := (hO.lt _ hI).2
                omega
              have hP := OMat.push hO3 hown4 hra (by rw [HXl.out]; exact hown7) hgr7 hap7
              have hb5 : Below w2.heap.size w2 w7 := Below.app (Below.next hbr hb4) hO3.own hgr7 (Nat.le_refl _) (Nat.le_trans hsz hb4.size)
              exact ⟨k + 1, a7, c7, by omega, by go_num, by rw [hN.out]; simp, ⟨_, by rw [hN.out, hKk.out, List.length_append]; exact hP⟩, hb5⟩
            case measure => simp [intOf] <;> omega
    · obtain rfl : k = m := by omega
      have hbw := Below.next hbw2 hbr
      have hcan := canon_any a1 (npL Pv k).length c1 k (kerL G.ops k R Pv k) (hG2.keep hbr) hO.mat (Hrws.out k (Nat.le_refl _)) (by omega) (by omega)
      have Hcan := Lib.hid hcan
      obtain ⟨z1, z2, z3, z4, z5, z6⟩ := Hq.out wr (Below.next hb12 hbr)
      clear hcan hO
      go_wp2_with fail
      refine Hcan.out.mono ?_
      rintro e w8 ⟨a8, c8, ap8, cp8, rfl, hM8, hp8, hb8⟩
      have hlen8 : (pivS G (kerL G.ops k R Pv k) k).length = (dualL G L k).length := by rw [Hdl.out, canS_length]
      have hM8' : MatN wr.heap.size w8 a8 (dualL G L k).length (dualL G L k) := by rw [← hlen8, Hdl.out]; exact hM8
      rw [hlen8]
      have hbw8 := Below.next hbw hb8
      have hF := HPost.out a8 c8 ((w8.setCell ⟨w.heap.size + 1 + 1, 0, none⟩ (.int .i64 k)).setCell ⟨w.heap.size + 1 + 1, 1, none⟩ (.slice a8 (dualL G L k).length c8)) (by
          have hs := HsW.out
          have hs1 := (Below.next hb12 hbr).size
          exact ((hM8'.setCell (p := ⟨w.heap.size + 1 + 1, 0, none⟩) (by simp; omega) _).setCell (p := ⟨w.heap.size + 1 + 1, 1, none⟩) (by simp; omega) _).mono (by omega)) ((hbw8.setCell (by simp; omega) _).setCell (by simp; omega) _)
      have HF2 := Lib.hid hF
      clear hF hM8 hp8 hM8' Hcan z1 z2 z3 z4 z5 z6 hlen8
      obtain ⟨z1, z2, z3, z4, z5, z6⟩ := Hq.out w8 (Below.next (Below.next hb12 hbr) hb8)
      generalize (dualL G L k).length = q at *
      go_wp2_with fail
      exact bodyPost_ret (v := .tuple #[.agg #[.int .i64 k, .slice a8 q c8], .int .i64 0]) (by simp [results, Tryz.results97, go_sem, z3, z4]) rfl (by rw [HGG.out]; exact HF2.out)
end

/- The first entry with a property; slices.Index. -/
section
open Go.RowKit

theorem find_at (p : Int → Bool) : ∀ (l : List Int) (k : Nat), k < l.length → (∀ j, j < k → p (nth l j) = false) → p (nth l k) = true → l.find? p = some (nth l k)
  | [], k, h, _, _ => by simp at h
  | x :: l, 0, _, _, h => by
    have h' : p x = true := by simpa [nth] using h
    rw [List.find?_cons_of_pos h']; simp [nth]
  | x :: l, k + 1, hk, h0, h => by
    have hx : p x = false := by simpa [nth] using h0 0 (by omega)
    rw [List.find?_cons_of_neg (by rw [hx]; decide)]
    have := find_at p l k (by simpa using hk) (fun j hj => by simpa [nth] using h0 (j + 1) (by omega)) (by simpa [nth] using h)
    rw [this]; simp [nth]
theorem find_no (p : Int → Bool) (l : List Int) (h : ∀ j, j < l.length → p (nth l j) = false) : l.find? p = none := by
  rw [List.find?_eq_none]
  intro x hx
  obtain ⟨j, hj, rfl⟩ := List.mem_iff_getElem.1 hx
  have := h j hj
  rw [nth_getElem hj] at this
  rw [this]; decide

/-- where a list has an entry, or -1 -/
def ixV (l : List Int) (v : Int) : Int := if v ∈ l then ((l.findIdx fun x => x == v : Nat) : Int) else -1
theorem ix_at {v : Int} : ∀ (l : List Int) (k : Nat), k < l.length → (∀ j, j < k → nth l j ≠ v) → nth l k = v → (l.findIdx fun x => x == v) = k
  | [], k, h, _, _ => by simp at h
  | x :: l, 0, _, _, h => by
    have h' : x = v := by simpa [nth] using h
    simp [List.findIdx_cons, h']
  | x :: l, k + 1, hk, h0, h => by
    have hx : x ≠ v := by simpa [nth] using h0 0 (by omega)
    have := ix_at l k (by simpa using hk) (fun j hj => by simpa [nth] using h0 (j + 1) (by omega)) (by simpa [nth] using h)
    have hb : (x == v) = false := by simpa using hx
    simp [List.findIdx_cons, this, hb]
theorem ix_in {l : List Int} {v : Int} (h : v ∈ l) : ∃ k : Nat, ixV l v = k ∧ k < l.length ∧ nth l k = v := by
  have h1 : (l.findIdx fun x => x == v) < l.length := List.findIdx_lt_length_of_exists ⟨v, h, by simp⟩
  refine ⟨_, by rw [ixV, if_pos h], h1, ?_⟩
  rw [nth_getElem h1]
  have := List.findIdx_getElem (w := h1)
  simpa using this

set_option maxHeartbeats 1600000 in
theorem indexV_any (a : Option Addr) (n c : Nat) (l : List Int) (v : Int) (w : World) (h : Ints w a n l) :
    Calls Tryz.prog 83 #[.slice a n c, .int .i64 v] w fun e w' => e = .returned (.int .i64 (ixV l v)) ∧ w' = w := by
  have Hl := Lib.hid h.len
  have hpl := h.pl
  have hmax := h.max
  unfold maxLen at hmax
  go_enter Tryz.func83, Tryz.ntmps83
  go_wp2_with fail
  go_loopw [8] (fun iv wr => ∃ k : Nat, k ≤ n ∧ iv = .int .i64 k ∧ Hid (∀ j, j < k → nth l j ≠ v) ∧ wr = w) (fun i _ => n - (intOf i).toNat)
  case atStart => exact ⟨0, Nat.zero_le _, rfl, fun j hj => by omega, rfl⟩
  case round =>
    obtain ⟨k, hk, rfl, hno, rfl⟩ := hrel
    by_cases hlt : k < n
    · have c1 := h.cell k hlt
      by_cases he : nth l k = v
      · have he' : (v == nth l k) = true := by rw [he]; simp
        have Hm : Hid (ixV l v = k) := by
          show _ = _
          rw [ixV, if_pos (by rw [← he]; exact nth_mem (by rw [Hl.out]; exact hlt)), ix_at l k (by rw [Hl.out]; exact hlt) hno.out he]
        clear he
        go_wp2_with fail
        go_ret
        exact ⟨ret_int Hm.out.symm, rfl⟩
      · have he' : (v == nth l k) = false := by simpa using fun e => he e.symm
        have Hn2 : Hid (∀ j, j < k + 1 → nth l j ≠ v) := fun j hj => by
          by_cases e : j = k
          · subst e; exact he
          · exact hno.out j (by omega)
        clear he
        go_wp2_with fail
        go_roundw
        case rel => exact ⟨k + 1, by omega, by go_num, Hn2.out, by simp⟩
        case measure => simp [intOf] <;> omega
    · obtain rfl : k = n := by omega
      have Hm : Hid (ixV l v = -1) := by
        show _ = _
        rw [ixV, if_neg]
        intro hm
        obtain ⟨j, hj, e⟩ := List.mem_iff_getElem.1 hm
        rw [← nth_getElem hj] at e
        exact hno.out j (by have := Hl.out; omega) e
      go_wp2_with fail
      go_ret
      exact ⟨ret_int Hm.out.symm, rfl⟩
end

/- The walks of infoset.Is, is. -/
section
open Go.RowKit

/-- whether a set is an information set -/
def isV (P M : Int) (mod : List Int) (N : Int) (L : List (List Int)) (Q : List Int) : Bool :=
  decide (rankE P M mod N L Q = 0) && (decide ((grS (tblOf P M.toNat mod).ops L Q).length = Q.length) && decide ((grS (tblOf P M.toNat mod).ops L Q).length = L.length))

set_option maxRecDepth 100000 in
set_option maxHeartbeats 4000000 in
theorem infIs_any (P M : Int) (am : Option Addr) (mn cm : Nat) (mod : List Int) (N : Int) (a : Option Addr) (n c : Nat) (L : List (List Int)) (ao : Option Addr) (no co : Nat) (Q : List Int) (w : World)
    (hmod : Ints w am mn mod) (hi : Mat w a n L) (hq : Ints w ao no Q) :
    Calls Tryz.prog 28 #[.agg #[.int .i64 P, .int .i64 M, .slice am mn cm, .int .i64 N, .slice a n c], .slice ao no co] w
      fun e w' => e = .returned (.tuple #[.bool (isV P M mod N L Q), .int .i64 (rankE P M mod N L Q)]) ∧ Below w.heap.size w w' := by
  have hql := hq.len
  have hil := hi.len
  go_enter Tryz.func28, Tryz.ntmps28
  go_wp2_with fail
  obtain ⟨W, hW⟩ : ∃ W : World, W = w.alloc (.cells #[.int .i64 P, .int .i64 M, .slice am mn cm, .int .i64 N, .slice a n c] 27) := ⟨_, rfl⟩
  rw [← hW]
  have hbW : Below w.heap.size w W := by rw [hW]; exact below1 _ _
  have x0 : Box W w.heap.size [.int .i64 P, .int .i64 M, .slice am mn cm, .int .i64 N, .slice a n c] := by rw [hW]; exact Box.new _ _ _ rfl
  have HX := Lib.hid x0
  clear hW x0
  refine (rank_any P M am mn cm mod N a n c L ao no co Q W (hmod.keep hbW) (hi.keep hbW) (hq.keep hbW)).mono ?_
  rintro e w1 ⟨hb1, ⟨hE, rfl⟩ | ⟨hE, rfl⟩⟩
  · have HV : Hid (isV P M mod N L Q = false) := by show _ = _; unfold isV; rw [decide_eq_false hE]; rfl
    have hE1 : (rankE P M mod N L Q == 0) = false := by simpa using hE
    have hbw1 := Below.next hbW hb1
    clear hE hql hil
    go_wp2_with fail
    go_ret2
    exact ⟨by rw [HV.out]; rfl, hbw1⟩
  · have HV : Hid (isV P M mod N L Q = (decide ((grS (tblOf P M.toNat mod).ops L Q).length = no) && decide ((grS (tblOf P M.toNat mod).ops L Q).length = n))) := by show _ = _; unfold isV; rw [decide_eq_true hE, hql, hil]; rfl
    have hbw1 := Below.next hbW hb1
    have xU := HX.out.keep hb1
    have b4 := xU.cell 4 rfl
    have HE := Lib.hid hE
    clear hE hql hil xU
    obtain ⟨r, hr⟩ : ∃ r, (grS (tblOf P M.toNat mod).ops L Q).length = r := ⟨_, rfl⟩
    rw [hr] at HV ⊢
    clear hr
    by_cases h1 : r = no
    · subst h1
      have h1' : ((r : Int) == r) = true := by simp
      by_cases h2 : r = n
      · subst h2
        have HV2 : Hid (isV P M mod N L Q = true) := by show _ = _; rw [HV.out]; simp
        clear HV
        go_wp2_with fail
        go_ret2
        exact ⟨by rw [HV2.out, HE.out]; rfl, hbw1⟩
      · have h2' : ((r : Int) == n) = false := by simp only [beq_eq_false_iff_ne, ne_eq]; omega
        have HV2 : Hid (isV P M mod N L Q = false) := by show _ = _; rw [HV.out]; simp [h2]
        clear h2 HV
        go_wp2_with fail
        go_ret2
        exact ⟨by rw [HV2.out, HE.out]; rfl, hbw1⟩
    · have h1' : ((r : Int) == no) = false := by simp only [beq_eq_false_iff_ne, ne_eq]; omega
      have HV2 : Hid (isV P M mod N L Q = false) := by show _ = _; rw [HV.out]; simp [h1]
      clear h1 HV
      go_wp2_with fail
      go_ret2
      exact ⟨by rw [HV2.out, HE.out]; rfl, hbw1⟩

set_option maxRecDepth 100000 in
set_option maxHeartbeats 4000000 in
theorem infis_any {w : World} {b : Nat} {G : Tbl} (P M : Int) (am : Option Addr) (mn cm : Nat) (N : Int) (a : Option Addr) (n c : Nat) (L : List (List Int)) (m : Nat) (ao : Option Addr) (no co : Nat) (Q : List Int)
    (h : GFw w b G) (hi : Mat w a n L) (hR : Rws G.El m L) (hq : Ints w ao no Q) (hQ : ∀ k, k < no → 0 ≤ nth Q k ∧ nth Q k < m) (hn : n ≤ 1000000) (hno : no ≤ 1000000) :
    Calls Tryz.prog 82 #[.pointer (some ⟨b, 0, none⟩), .agg #[.int .i64 P, .int .i64 M, .slice am mn cm, .int .i64 N, .slice a n c], .slice ao no co] w
      fun e w' => e = .returned (.bool (decide (Q.length = L.length) && decide ((grS G.ops L Q).length = Q.length))) ∧ Below w.heap.size w w' := by
  have hql := hq.len
  have hil := hi.len
  go_enter Tryz.func82, Tryz.ntmps82
  go_upto_region 1 with fail
  obtain ⟨W, hW⟩ : ∃ W : World, W = w.alloc (.cells #[.int .i64 P, .int .i64 M, .slice am mn cm, .int .i64 N, .slice a n c] 27) := ⟨_, rfl⟩
  rw [← hW]
  have hbW : Below w.heap.size w W := by rw [hW]; exact below1 _ _
  have x0 : Box W w.heap.size [.int .i64 P, .int .i64 M, .slice am mn cm, .int .i64 N, .slice a n c] := by rw [hW]; exact Box.new _ _ _ rfl
  have hc := greedy_any P M am mn cm N a n c L m ao no co Q (h.keep hbW) (hi.keep hbW) hR (hq.keep hbW) hQ hn hno
  have HC := Lib.hid hc
  have HV : Hid ((decide (Q.length = L.length) && decide ((grS G.ops L Q).length = Q.length)) = (decide (no = n) && decide ((grS G.ops L Q).length = no))) := by show _ = _; rw [hql, hil]
  clear hW hQ hR hql hil hc
  have b0 := x0.cell 0 rfl
  have b1 := x0.cell 1 rfl
  have b2 := x0.cell 2 rfl
  have b3 := x0.cell 3 rfl
  have b4 := x0.cell 4 rfl
  clear x0
  by_cases h1 : no = n
  · subst h1
    have h1' : ((no : Int) == no) = true := by simp
    go_wp2_with fail
    refine HC.out.mono ?_
    rintro e w4 ⟨a4, c4, rfl, hown4, hb4⟩
    have hF := Below.next hbW hb4
    clear HC hown4
    obtain ⟨out, ho⟩ : ∃ out, grS G.ops L Q = out := ⟨_, rfl⟩
    have Ho := Lib.hid ho
    rw [ho]
    clear ho
    by_cases h2 : out.length = no
    · have h2' : ((out.length : Int) == no) = true := by simp only [beq_iff_eq]; omega
      have HV2 := Lib.hid (HV.out.trans (show _ = true by rw [Ho.out]; simp [h2]))
      clear h2 HV
      go_wp2_with fail
      go_ret
      exact ⟨ret_bool HV2.out.symm, hF⟩
    · have h2' : ((out.length : Int) == no) = false := by simp only [beq_eq_false_iff_ne, ne_eq]; omega
      have HV2 := Lib.hid (HV.out.trans (show _ = false by rw [Ho.out]; simp [h2]))
      clear h2 HV
      go_wp2_with fail
      go_ret
      exact ⟨ret_bool HV2.out.symm, hF⟩
  · have h1' : ((no : Int) == n) = false := by simp only [beq_eq_false_iff_ne, ne_eq]; omega
    have HV2 := Lib.hid (HV.out.trans (show _ = false by simp [h1]))
    clear h1 HV HC
    go_wp2_with fail
    go_ret
    exact ⟨ret_bool HV2.out.symm, hbW⟩
end

end Go.Proofs.YtakmnncmeefceaaGreat
