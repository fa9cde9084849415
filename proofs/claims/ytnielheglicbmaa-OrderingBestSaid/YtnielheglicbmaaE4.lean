/- The walk of the reference's Table. -/
import Derived.Test.YtnielheglicbmaaE3
namespace Go.Proofs.Ytnielheglicbmaa
set_option linter.unusedVariables false
set_option linter.unusedSimpArgs false
set_option linter.unusedSectionVars false

/- The walk of ordering.tables. -/
section
open Go.RowKit

/-- the dimensions of the sets, as the program lists them -/
def dimL (f : Nat → Int) (K : Nat) : List Int := (List.range K).map fun s => if s = 0 then 0 else f s
theorem dimL_length (f : Nat → Int) (K : Nat) : (dimL f K).length = K := by simp [dimL]
theorem dimL_take (f : Nat → Int) {K k : Nat} (h : k < K) : (dimL f K).take (k + 1) = (dimL f K).take k ++ [if k = 0 then 0 else f k] := by
  rw [List.take_succ_eq_append_getElem (by rw [dimL_length]; exact h)]
  simp [dimL]
theorem take_all (F : Nat → Int) {K k : Nat} (h : k < K) : (cnL K F).take (k + 1) = (cnL K F).take k ++ [F k] := by
  rw [List.take_succ_eq_append_getElem (by rw [cnL_length]; exact h)]
  simp [cnL]
theorem fill_zero {k K : Nat} (h : k < K) (l : List Int) (hl : l.length = k) : nth (fillTo l k K) k = 0 := by
  unfold fillTo nth
  rw [List.getD_eq_getElem?_getD, List.getElem?_append_right (by omega), hl, Nat.sub_self]
  rw [List.getElem?_replicate, if_pos (by omega)]; rfl
theorem fill_lt {j k K : Nat} (l : List Int) (hl : l.length = k) (h : j < k) : nth (fillTo l k K) j = nth l j := by
  unfold fillTo nth
  rw [List.getD_eq_getElem?_getD, List.getD_eq_getElem?_getD, List.getElem?_append_left (by omega)]

def TablesPost (f : Nat → Int) (m : Nat) (w : World) (e : Ending) (w' : World) : Prop :=
  ∃ a1 a2, e = .returned (.tuple #[.slice a1 (2 ^ m) (2 ^ m), .slice a2 (2 ^ m) (2 ^ m)]) ∧ IntsN w.heap.size w' a1 (2 ^ m) (dimL f (2 ^ m)) ∧ IntsN w.heap.size w' a2 (2 ^ m) (tabL f m (2 ^ m)) ∧ Below w.heap.size w w'

set_option maxRecDepth 100000 in
set_option maxHeartbeats 4000000 in
theorem ordTables_any (P M : Int) (am : Option Addr) (mn cm : Nat) (mod : List Int) (m : Nat) (a : Option Addr) (n c : Nat) (L : List (List Int)) (w : World)
    (hmod : Ints w am mn mod) (hi : Mat w a n L) (hE : codeE P M mod m L = 0) (hm12 : m ≤ 12) :
    Calls Try.prog 36 #[.agg #[.int .i64 P, .int .i64 M, .slice am mn cm, .int .i64 m, .slice a n c]] w (TablesPost (dimS (tblOf P M.toNat mod).ops L m) m w) := by
  obtain ⟨N', e, hm1, hm64, _⟩ := codeE_fld hE
  obtain rfl : m = N' := by omega
  have hL256 := (codeE_rws hE).choose_spec.2.2.2.1
  have hn : n ≤ 256 := by rw [← hi.len]; exact hL256
  have Hrk : Hid (∀ y : Nat, y < 18446744073709551616 → ∀ V, Below w.heap.size w V → Calls Try.prog 48 #[.agg #[.int .i64 P, .int .i64 M, .slice am mn cm, .int .i64 m, .slice a n c], .int .u64 y] V
      fun e w' => e = .returned (.int .i64 ((grS (tblOf P M.toNat mod).ops L (bitsTo y m)).length : Int)) ∧ Below V.heap.size V w') := fun y hy V hV => ordRank_any P M am mn cm mod m a n c L y V (hmod.keep hV) (hi.keep hV) hE hy
  obtain ⟨K, hK⟩ : ∃ K, 2 ^ m = K := ⟨_, rfl⟩
  have hK2 : 2 ≤ K ∧ K ≤ 4096 := by
    have h1 : 2 ^ 1 ≤ 2 ^ m := Nat.pow_le_pow_right (by omega) hm1
    have h2 : 2 ^ m ≤ 2 ^ 12 := Nat.pow_le_pow_right (by omega) hm12
    omega
  have hsh : IntKind.i64.wrap ((2 : Int) ^ m) = (K : Int) := by
    have : (2 : Int) ^ m = (K : Int) := by rw [← hK]; simp
    rw [this]; exact IntWalk.i64_in _ (by omega)
  obtain ⟨R, hR⟩ : ∃ R : Nat → Int, R = fun y => ((grS (tblOf P M.toNat mod).ops L (bitsTo y m)).length : Int) := ⟨_, rfl⟩
  obtain ⟨f, hf⟩ : ∃ f, dimS (tblOf P M.toNat mod).ops L m = f := ⟨_, rfl⟩
  have hRb : ∀ y, 0 ≤ R y ∧ R y ≤ 64 := fun y => by
    rw [hR]
    have h1 := grS_len (tblOf P M.toNat mod).ops L (bitsTo y m)
    have h2 := bitsTo_len y m
    show 0 ≤ ((grS (tblOf P M.toNat mod).ops L (bitsTo y m)).length : Int) ∧ ((grS (tblOf P M.toNat mod).ops L (bitsTo y m)).length : Int) ≤ 64
    omega
  have hfR : ∀ s, s < K → R s + R ((K - 1) ^^^ s) - n = f s := fun s hs => by
    rw [← hf, hR]
    unfold dimS
    rw [hi.len]
    have e1 : bitsTo ((K - 1) ^^^ s) m = bitsTo (cplU s) m := bitsTo_congr m fun i hi' => by
      rw [cplU_test _ _ (by omega), Nat.testBit_xor, ← hK, Nat.testBit_two_pow_sub_one]
      simp [hi']
    show ((grS (tblOf P M.toNat mod).ops L (bitsTo s m)).length : Int) + ((grS (tblOf P M.toNat mod).ops L (bitsTo ((K - 1) ^^^ s) m)).length : Int) - n = _
    rw [e1]
  have Hrk2 : Hid (∀ y : Nat, y < 18446744073709551616 → ∀ V, Below w.heap.size w V → Calls Try.prog 48 #[.agg #[.int .i64 P, .int .i64 M, .slice am mn cm, .int .i64 m, .slice a n c], .int .u64 y] V
      fun e w' => e = .returned (.int .i64 (R y)) ∧ Below V.heap.size V w') := by rw [hR]; exact Hrk.out
  have HfR := Lib.hid hfR
  have HRb := Lib.hid hRb
  have HK := Lib.hid hK
  rw [hf]
  unfold TablesPost
  rw [hK]
  obtain ⟨hK2, hK4⟩ := hK2
  clear hE hL256 hR hf hfR hRb Hrk hK e
  go_enter Try.func36, Try.ntmps36
  have kw1 : IntKind.i64.wrap ((K : Int) - 1) = (K : Int) - 1 := IntWalk.i64_in _ (by omega)
  have kw2 : IntKind.i64.wrap ((K : Int) - 1 + 1) = (K : Int) := by rw [show (K : Int) - 1 + 1 = K by omega]; exact IntWalk.i64_in _ (by omega)
  go_wp2_with (at_make; refine wpList_mk rfl _ _ 22 3 rfl (.int .i64 0) 8 Try.underlying22 infoInt rfl K rfl rfl (by omega) (by unfold maxLen; omega) ?_; intro a1 w1 hown hbel hge hlt)
  obtain ⟨W, hW⟩ : ∃ W : World, W = w.alloc (.cells #[.int .i64 P, .int .i64 M, .slice am mn cm, .int .i64 m, .slice a n c] 27) := ⟨_, rfl⟩
  rw [← hW] at hown hbel hge
  have hbW : Below w.heap.size w W := by rw [hW]; exact below1 _ _
  have x0 : Box W w.heap.size [.int .i64 P, .int .i64 M, .slice am mn cm, .int .i64 m, .slice a n c] := by rw [hW]; exact Box.new _ _ _ rfl
  clear hW hlt hge
  go_loopw [21] (fun iv wr => ∃ k : Nat, k ≤ K ∧ iv = .int .i64 k ∧ wr.ownsRow W.heap.size 3 1 (.slice a1 K K) K ((fillTo ((cnL K R).take k) k K).map (Value.int .i64)) ∧ Below W.heap.size W wr) (fun iv _ => K - (intOf iv).toNat)
  case atStart => exact ⟨0, Nat.zero_le _, rfl, by simpa [fillTo] using hown, hbel⟩
  case round =>
    clear hown hbel
    obtain ⟨k, hk, rfl, hown, hbr⟩ := hrel
    by_cases hlt : k < K
    · have hbw := Below.next hbW hbr
      have x1 := x0.keep hbr
      have c0 := x1.cell 0 rfl
      have c1 := x1.cell 1 rfl
      have c2 := x1.cell 2 rfl
      have c3 := x1.cell 3 rfl
      have c4 := x1.cell 4 rfl
      have kw3 : IntKind.u64.wrap (k : Int) = k := IntWalk.u64_in _ (by omega)
      have Hc := Lib.hid (Hrk2.out k (by omega) wr hbw)
      clear x1
      go_wp2_with fail
      refine Hc.out.mono ?_
      rintro e w2 ⟨rfl, hb2⟩
      have hown2 := own_keep hown hb2
      obtain ⟨hints, hmine⟩ := Ints.own hown2
      have hpl1 := hints.pl
      have hf := (hmine (by omega)).2 k hlt
      have hc2 := hints.cell k hlt
      have hB := (hmine (by omega)).1
      have hbr2 := Below.next hbr hb2
      clear c0 c1 c2 c3 c4 Hc
      go_wp2_with fail
      go_roundw
      case rel =>
        refine ⟨k + 1, by omega, by go_num, ?_, hbr2.setCell hB _⟩
        have h := own_set hown2 k hlt (.int .i64 (R k))
        rw [← List.map_set, fillTo_set _ _ _ _ (by rw [List.length_take, cnL_length]; omega) hlt] at h
        rw [take_all R hlt]
        exact h
      case measure => simp [intOf] <;> omega
    · obtain rfl : k = K := by omega
      have hfin : fillTo ((cnL k R).take k) k k = cnL k R := by rw [fillTo_all, List.take_of_length_le (by rw [cnL_length]; exact Nat.le_refl _)]
      rw [hfin] at hown
      have hIr := (Ints.own hown).1
      have hplr := hIr.pl
      generalize wr = U at *
      clear hfin hown
      go_upto_region 9 with (at_make; refine wpList_mk rfl _ _ 22 3 rfl (.int .i64 0) 8 Try.underlying22 infoInt rfl k rfl rfl (by omega) (by unfold maxLen; omega) ?_; intro a2 w2 hown2 hbel2 hge2 hlt2)
      go_wp2_with (at_make; refine wpList_mk rfl _ _ 22 3 rfl (.int .i64 0) 8 Try.underlying22 infoInt rfl k rfl rfl (by omega) (by unfold maxLen; omega) ?_; intro a3 w3 hown3 hbel3 hge3 hlt3)
      have hX : ∀ V, Below U.heap.size U V → V.cell? ⟨w.heap.size, 0, none⟩ = some (.int .i64 P) ∧ V.cell? ⟨w.heap.size, 3, none⟩ = some (.int .i64 m) ∧ V.cell? ⟨w.heap.size, 4, none⟩ = some (.slice a n c) ∧ Ints V a1 k (cnL k R) := fun V hV => by
        have x1 := x0.keep (Below.next hbr hV)
        exact ⟨x1.cell 0 rfl, x1.cell 3 rfl, x1.cell 4 rfl, hIr.keep hV⟩
      have HX := Lib.hid hX
      have hne23 : ablk a2 ≠ ablk a3 := by omega
      have hown2' := own_keep hown2 hbel3
      have hb03 := Below.next hbel2 hbel3
      have hz1 : (fillTo ((dimL f k).take 1) 1 k) = List.replicate k 0 := by
        refine nth_ext (by simp [fillTo, dimL_length]; omega) fun i hi => ?_
        have hl1 : ((dimL f k).take 1).length = 1 := by rw [List.length_take, dimL_length]; omega
        have e2 : nth (List.replicate k (0 : Int)) i = 0 := by simp [nth, List.getD_eq_getElem?_getD, List.getElem?_replicate]; split <;> rfl
        rw [e2]
        by_cases h0 : i = 0
        · subst h0
          rw [fill_lt _ hl1 (by omega), dimL_take f (show 0 < k by omega)]
          simp [nth]
        · unfold fillTo nth
          rw [List.getD_eq_getElem?_getD, List.getElem?_append_right (by omega), List.getElem?_replicate]
          split <;> rfl
      have hz2 : (fillTo (tabL f m 1) 1 k) = List.replicate k 0 := by
        refine nth_ext (by simp [fillTo, tabL_len]; omega) fun i hi => ?_
        have e2 : nth (List.replicate k (0 : Int)) i = 0 := by simp [nth, List.getD_eq_getElem?_getD, List.getElem?_replicate]; split <;> rfl
        rw [e2]
        by_cases h0 : i = 0
        · subst h0
          rw [fill_lt _ (tabL_len f m 1) (by omega)]
          simp [nth, tabL, entT]
        · unfold fillTo nth
          rw [List.getD_eq_getElem?_getD, List.getElem?_append_right (by rw [tabL_len]; omega), List.getElem?_replicate]
          split <;> rfl
      have hs2 : w3.ownsRow U.heap.size 3 1 (.slice a2 k k) k ((fillTo ((dimL f k).take 1) 1 k).map (Value.int .i64)) := by rw [hz1, List.map_replicate]; exact hown2'
      have hs3 : w3.ownsRow U.heap.size 3 1 (.slice a3 k k) k ((fillTo (tabL f m 1) 1 k).map (Value.int .i64)) := by rw [hz2, List.map_replicate]; exact own_mono hown3 hbel2.size
      have Hne := Lib.hid hne23
      have Hbw := Lib.hid (Below.next hbW hbr)
      clear hX hown2 hown2' hown3 hz1 hz2 hge2 hlt2 hge3 hlt3 hbel2 hbel3 hne23 x0 hbW hbr hIr
      go_loopw [9] (fun iv wr => ∃ s : Nat, 1 ≤ s ∧ s ≤ k ∧ iv = .int .i64 s ∧ wr.ownsRow U.heap.size 3 1 (.slice a2 k k) k ((fillTo ((dimL f k).take s) s k).map (Value.int .i64)) ∧
          wr.ownsRow U.heap.size 3 1 (.slice a3 k k) k ((fillTo (tabL f m s) s k).map (Value.int .i64)) ∧ Below U.heap.size U wr) (fun iv _ => k - (intOf iv).toNat)
      case atStart => exact ⟨1, Nat.le_refl _, by omega, rfl, hs2, hs3, hb03⟩
      case round =>
        clear hs2 hs3 hb03
        obtain ⟨s, hs1, hs, rfl, hop2, hop3, hbr⟩ := hrel
        by_cases hlt : s < k
        · have hle' : decide ((s : Int) ≤ (k : Int) - 1) = true := by simp; omega
          obtain ⟨c0, c3, c4, hIr⟩ := HX.out wr hbr
          have hxl : (k - 1) ^^^ s < k := by
            rw [← HK.out] at hlt ⊢
            exact Nat.xor_lt_two_pow (by have := Nat.two_pow_pos m; omega) hlt
          have hxe : bits .xor .i64 ((k : Int) - 1) (s : Int) = (((k - 1) ^^^ s : Nat) : Int) := by
            have := xor12 (k - 1) s (by omega) (by omega)
            rwa [show ((k - 1 : Nat) : Int) = (k : Int) - 1 by omega] at this
          have d1 := hIr.cell s hlt
          have d2 := hIr.cell _ hxl
          rw [nth_cnL R hlt] at d1
          rw [nth_cnL R hxl] at d2
          have hb1 := HRb.out s
          have hb2 := HRb.out ((k - 1) ^^^ s)
          have hfe := HfR.out s hlt
          obtain ⟨x, hx⟩ : ∃ x, (k - 1) ^^^ s = x := ⟨_, rfl⟩
          rw [hx] at hxl hxe d2 hb2 hfe
          obtain ⟨y1, hy1⟩ : ∃ y, R s = y := ⟨_, rfl⟩
          obtain ⟨y2, hy2⟩ : ∃ y, R x = y := ⟨_, rfl⟩
          rw [hy1] at d1 hb1 hfe
          rw [hy2] at d2 hb2 hfe
          have k1 : IntKind.i64.wrap (y1 + y2) = y1 + y2 := IntWalk.i64_in _ (by omega)
          have k2 : IntKind.i64.wrap (y1 + y2 - n) = y1 + y2 - n := IntWalk.i64_in _ (by omega)
          have hxk : (x : Int) < k := by omega
          have hsk : (s : Int) < k := by omega
          obtain ⟨hint2, hmine2⟩ := Ints.own hop2
          have hpl2 := hint2.pl
          have hf2 := (hmine2 (by omega)).2 s hlt
          have hc2 := hint2.cell s hlt
          have HB2 := Lib.hid (hmine2 (by omega)).1
          have Hfe := Lib.hid hfe
          have HS : Hid (∀ V, Below U.heap.size U V → V.cell? ⟨w.heap.size, 4, none⟩ = some (.slice a n c) ∧ V.cell? ⟨ablk a1, aoff a1 + s, none⟩ = some (.int .i64 y1) ∧ V.cell? ⟨ablk a1, aoff a1 + x, none⟩ = some (.int .i64 y2) ∧ Below U.heap.size U V) := fun V hV => by
            obtain ⟨_, _, g4, gI⟩ := HX.out V hV
            have g1 := gI.cell s hlt
            have g2 := gI.cell x (by omega)
            rw [nth_cnL R hlt, hy1] at g1
            rw [nth_cnL R (by omega), hy2] at g2
            exact ⟨g4, g1, g2, hV⟩
          have Hbr := Lib.hid hbr
          clear hx hy1 hy2 hfe hint2 hmine2 hIr hbr c0
          go_wp2_with fail
          go_cut [] (fun wx => wx.ownsRow U.heap.size 3 1 (.slice a2 k k) k ((fillTo ((dimL f k).take (s + 1)) (s + 1) k).map (Value.int .i64)) ∧ wx.ownsRow U.heap.size 3 1 (.slice a3 k k) k ((fillTo (tabL f m s) s k).map (Value.int .i64)) ∧ Below U.heap.size U wx)
          case first =>
            go_region_held3 (fun V => V.cell? ⟨w.heap.size, 4, none⟩ = some (.slice a n c) ∧ V.cell? ⟨ablk a1, aoff a1 + s, none⟩ = some (.int .i64 y1) ∧ V.cell? ⟨ablk a1, aoff a1 + x, none⟩ = some (.int .i64 y2) ∧ Below U.heap.size U V)
              ((refine HS.out _ ?_; first | exact Hbr.out.drew | exact Hbr.out.drew.setCell HB2.out _)) (fail)
            go_wp2_with fail
            go_meet
            refine ⟨?_, own_setOther (w := wr.drew) hop3 _ (.inr (fun h => Hne.out h.symm)), Hbr.out.drew.setCell HB2.out _⟩
            have h := own_set (w := wr.drew) hop2 s hlt (.int .i64 (y1 + y2 - n))
            rw [← List.map_set, fillTo_set _ _ _ _ (by rw [List.length_take, dimL_length]; omega) hlt] at h
            rw [dimL_take f hlt, if_neg (by omega), ← Hfe.out]
            exact h
          clear hop2 hop3 c3 c4 d1 d2 hf2 hc2 hpl2
          obtain ⟨hop2, hop3, hbr⟩ := hcut
          generalize wc = V at *
          obtain ⟨_, c3, _, _⟩ := HX.out V hbr
          have hI3 := (Ints.own hop3).1
          have hpl3 := hI3.pl
          have hs4 : s < 4096 := by omega
          have hsm : s < 2 ^ m := by rw [HK.out]; exact hlt
          obtain ⟨T, hT⟩ : ∃ T, fillTo (tabL f m s) s k = T := ⟨_, rfl⟩
          rw [hT] at hI3
          have HT : Hid (∀ j, j < s → nth T j = nth (tabL f m s) j) := fun j hj => by rw [← hT]; exact fill_lt _ (tabL_len f m s) hj
          clear hT HS k1 k2 hxe hxk hxl hb1 hb2 Hfe
          go_wp2_with fail
          go_loop [10, 11] (fun lv rv => ∃ (i r : Nat), i ≤ m ∧ r ≤ s ∧ lv = .int .i64 (leastTo m T s i) ∧ rv = .int .i64 r ∧ Hid (RestAt s i r)) (fun _ rv => (intOf rv).toNat)
          case atStart => exact ⟨0, s, Nat.zero_le _, Nat.le_refl _, rfl, rfl, RestAt.start s⟩
          case round =>
            obtain ⟨i, r, hi', hr, rfl, rfl, hrest⟩ := hrel
            by_cases hr0 : r = 0
            · subst hr0
              have hle : leastTo m T s i = leastTo m (tabL f m s) s m := by
                rw [← RestAt.done hrest.out T hi']
                exact leastTo_congr HT.out m
              have Hen : Hid (entT f m (tabL f m s) s = max (f s) (leastTo m (tabL f m s) s m)) := by show _ = _; rw [entT, if_neg (by omega)]
              rw [hle]
              clear hle hrest
              obtain ⟨hI2, hM2⟩ := Ints.own hop2
              have hpl2 := hI2.pl
              have d2 := hI2.cell s hlt
              have e2 : nth (fillTo ((dimL f k).take (s + 1)) (s + 1) k) s = f s := by
                rw [fill_lt _ (by rw [List.length_take, dimL_length]; omega) (Nat.lt_succ_self s), dimL_take f hlt, nth_push, List.length_take, dimL_length, if_neg (by omega), if_pos (by omega), if_neg (by omega)]
              rw [e2] at d2
              obtain ⟨_, hM3⟩ := Ints.own hop3
              have hf3 := (hM3 (by omega)).2 s hlt
              have hc3 := hI3.cell s hlt
              have hB3 := (hM3 (by omega)).1
              have hmx := max_if (f s) (leastTo m (tabL f m s) s m)
              have Hmx := Lib.hid hmx
              clear e2 hI2 hM2 hM3 hmx
              obtain ⟨l9, hl9⟩ : ∃ l, leastTo m (tabL f m s) s m = l := ⟨_, rfl⟩
              obtain ⟨f9, hf9⟩ : ∃ x, f s = x := ⟨_, rfl⟩
              rw [hl9, hf9] at Hmx Hen
              rw [hl9]
              rw [hf9] at d2
              clear hl9 hf9
              go_wp2_with fail
              go_roundw
              case rel =>
                refine ⟨s + 1, by omega, by omega, by go_num, own_setOther hop2 _ (.inr Hne.out), ?_, hbr.setCell hB3 _⟩
                have h := own_set hop3 s hlt (.int .i64 (if f9 < l9 then l9 else f9))
                rw [← List.map_set, fillTo_set _ _ _ _ (tabL_len f m s) hlt] at h
                have e : tabL f m (s + 1) = tabL f m s ++ [if f9 < l9 then l9 else f9] := by rw [Hmx.out, ← Hen.out]; rfl
                rw [e]
                exact h
              case measure => simp [intOf] <;> omega
            · obtain ⟨p, hp12, hpb, hplow, hb1, hb2⟩ := low_ex hr0 (by omega)
              obtain ⟨hr2, hsp, hl2⟩ := RestAt.step hrest.out hpb hplow (N := m) T
              have hpm : p < m := by
                apply Classical.byContradiction
                intro h
                have := pow_le_test hsp
                have : 2 ^ m ≤ 2 ^ p := Nat.pow_le_pow_right (by omega) (by omega)
                omega
              have hq1 := pow_le_test hsp
              have hq2 := pow_le_test hpb
              have hq0 := Nat.two_pow_pos p
              have hnb := andNot_bit hs4 hp12 hsp
              have hr0' : ((r : Int) != 0) = true := by simp; omega
              have kn : IntKind.i64.wrap (-(r : Int)) = -(r : Int) := IntWalk.i64_in _ (by omega)
              have Hr2 := Lib.hid hr2
              have Hl2 := Lib.hid hl2
              have ct := hI3.cell (s - 2 ^ p) (by omega)
              have hsx : ((s - 2 ^ p : Nat) : Int) < k := by omega
              clear hr2 hl2 hpb hplow hsp hrest
              generalize 2 ^ p = q at *
              obtain ⟨x, hx⟩ : ∃ x, s - q = x := ⟨_, rfl⟩
              rw [hx] at hnb ct hsx Hl2
              obtain ⟨r', hr'⟩ : ∃ x, r - q = x := ⟨_, rfl⟩
              have hrr : r' < r := by omega
              rw [hr'] at hb2 Hr2
              obtain ⟨t9, ht9⟩ : ∃ t, nth T x = t := ⟨_, rfl⟩
              rw [ht9] at ct Hl2
              clear hx hr' ht9
              generalize leastTo m T s i = l9 at *
              have Hmn : Hid ((if t9 < l9 then t9 else l9) = min l9 t9) := by show _ = _; split <;> omega
              go_wp2_with fail
              go_round
              case rel => exact ⟨p + 1, r', by omega, by omega, by rw [Hl2.out, ← Hmn.out], rfl, Hr2.out⟩
              case measure => simp [intOf] <;> omega
        · obtain rfl : s = k := by omega
          have hle' : decide ((s : Int) ≤ (s : Int) - 1) = false := by simp; omega
          have hfin1 : fillTo ((dimL f s).take s) s s = dimL f s := by rw [fillTo_all, List.take_of_length_le (by rw [dimL_length]; exact Nat.le_refl _)]
          have hfin2 : fillTo (tabL f m s) s s = tabL f m s := fillTo_all _ _
          rw [hfin1] at hop2
          rw [hfin2] at hop3
          have hF : TablesPost f m w (.returned (.tuple #[.slice a2 s s, .slice a3 s s])) wr := by
            unfold TablesPost
            rw [HK.out]
            exact ⟨a2, a3, rfl, (IntsN.own hop2).mono Hbw.out.size, (IntsN.own hop3).mono Hbw.out.size, Below.next Hbw.out hbr⟩
          have HF := Lib.hid hF
          clear hF hop2 hop3 hfin1 hfin2
          go_wp2_with fail
          go_ret2
          have h := HF.out
          unfold TablesPost at h
          rw [HK.out] at h
          exact h
end

/- The walks of the reference's tables: members, Dimensions, Table. -/
section
open Go.RowKit

set_option maxRecDepth 100000 in
set_option maxHeartbeats 4000000 in
theorem rMembers_any (m s : Nat) (w : World) (hm : m ≤ 12) (hs : s < 4096) :
    Calls Try.prog 61 #[.int .i64 m, .int .i64 s] w (NewInts w (bitsTo s m)) := by
  go_enter Try.func61, Try.ntmps61
  go_wp2_with fail
  have hb0 := below1 w (.cells #[] 3)
  go_loopw [5, 6] (fun sv iv wr => ∃ (k : Nat) (aq : Option Addr) (cq : Nat), k ≤ m ∧ iv = .int .i64 k ∧ sv = .slice aq (bitsTo s k).length cq ∧ wr.ownsRow w.heap.size 3 1 (.slice aq (bitsTo s k).length cq) (bitsTo s k).length ((bitsTo s k).map (Value.int .i64)) ∧ Below w.heap.size w wr)
    (fun _ iv _ => m - (intOf iv).toNat)
  case atStart => exact ⟨0, _, _, Nat.zero_le _, rfl, rfl, by simpa [bitsTo] using own_mk w 3 (.int .i64 0) 0 (Nat.le_refl _) (by unfold maxLen; omega), hb0⟩
  case round =>
    obtain ⟨k, aq, cq, hk, rfl, rfl, hop, hbr⟩ := hrel
    have hlen := bitsTo_len s k
    by_cases hlt : k < m
    · have hand := and1_i64 s k hs
      have htb := testBit_div s k
      by_cases ht : s.testBit k = true
      · have hb : Hid (bitsTo s (k + 1) = bitsTo s k ++ [(k : Int)]) := by show _ = _; rw [bitsTo, if_pos ht]
        have h1 : s / 2 ^ k % 2 = 1 := by rw [ht] at htb; simpa using htb.symm
        rw [h1] at hand
        clear ht htb h1
        generalize bitsTo s k = out at *
        have hcn := cell_new wr (.int .i64 k) 3
        have hbn := below1 wr (.cells #[.int .i64 k] 3)
        have hsz := hbr.size
        go_wp2_with (at_builtin; refine wpList_push rfl _ _ 22 3 rfl (.int .i64 0) 8 Try.underlying22 infoInt rfl w.heap.size aq out.length cq _ rfl (hop.alloc _) ⟨wr.heap.size, 0, none⟩ 1 (.int .i64 k) rfl hcn rfl (by omega) (by unfold maxLen; omega) (by simp; omega) ?_; intro a5 c5 w5 hown5 hgr5 hap5)
        go_roundw
        case rel =>
          refine ⟨k + 1, a5, c5, by omega, by go_num, by rw [hb.out]; simp, ?_, Below.app (Below.trans hbr (hbn.mono hsz)) (hop.alloc _) hgr5 (Nat.le_refl _) (Nat.le_trans hsz hbn.size)⟩
          rw [hb.out]; simpa using hown5
        case measure => simp [intOf] <;> omega
      · have hb : Hid (bitsTo s (k + 1) = bitsTo s k) := by show _ = _; rw [bitsTo, if_neg ht]
        have h1 : s / 2 ^ k % 2 = 0 := by
          have h2 := Nat.mod_two_eq_zero_or_one (s / 2 ^ k)
          have h3 : ¬ s / 2 ^ k % 2 = 1 := fun h => by rw [h] at htb; simp at htb; exact ht htb
          omega
        rw [h1] at hand
        clear ht htb h1
        generalize bitsTo s k = out at *
        go_wp2_with fail
        go_roundw
        case rel => exact ⟨k + 1, aq, cq, by omega, by go_num, by rw [hb.out], by rw [hb.out]; exact hop, hbr⟩
        case measure => simp [intOf] <;> omega
    · obtain rfl : k = m := by omega
      have hF : NewInts w (bitsTo s k) (.returned (.slice aq (bitsTo s k).length cq)) wr := ⟨aq, cq, rfl, hop, hbr⟩
      have HF := Lib.hid hF
      clear hF hop
      go_wp2_with fail
      go_ret
      exact HF.out

theorem dim_bits (O : FOps) (L : List (List Int)) {m : Nat} (hm : m ≤ 64) (x : Nat) : dimS O L m (maskS (bitsTo x m)) = dimS O L m x := by
  have e : bitsTo (cplU (maskS (bitsTo x m))) m = bitsTo (cplU x) m := bitsTo_congr m fun i hi => by
    rw [cplU_test _ _ (by omega), cplU_test _ _ (by omega)]
    have := maskS_bits x m hm i
    cases hx : x.testBit i <;> cases hy : (maskS (bitsTo x m)).testBit i <;> simp_all
  unfold dimS
  rw [bitsTo_mask _ _ hm, e]

set_option maxRecDepth 100000 in
set_option maxHeartbeats 4000000 in
theorem rDimensions_any (P M : Int) (am : Option Addr) (mn cm : Nat) (mod : List Int) (m : Nat) (a : Option Addr) (n c : Nat) (L : List (List Int)) (w : World)
    (hmod : Ints w am mn mod) (hi : Mat w a n L) (hE : codeE P M mod m L = 0) (hm12 : m ≤ 12) :
    Calls Try.prog 44 #[.agg #[.int .i64 P, .int .i64 M, .slice am mn cm, .int .i64 m, .slice a n c]] w (NewInts w (cnL (2 ^ m) (dimS (tblOf P M.toNat mod).ops L m))) := by
  obtain ⟨N', e, hm1, hm64, _⟩ := codeE_fld hE
  obtain rfl : m = N' := by omega
  have HOf : Hid (∀ s V a4 c4, Below w.heap.size w V → V.ownsRow 0 3 1 (.slice a4 (bitsTo s m).length c4) (bitsTo s m).length ((bitsTo s m).map (Value.int .i64)) →
      Calls Try.prog 31 #[.agg #[.int .i64 P, .int .i64 M, .slice am mn cm, .int .i64 m, .slice a n c], .slice a4 (bitsTo s m).length c4] V
        fun e w' => e = .returned (.int .i64 (dimS (tblOf P M.toNat mod).ops L m s)) ∧ Below V.heap.size V w') := fun s V a4 c4 hV ho => by
    rw [← dim_bits _ _ hm64 s]
    exact rOf_any P M am mn cm mod m a n c L a4 _ c4 _ V (hmod.keep hV) (hi.keep hV) hE (Ints.own ho).1 (InN.bits _ _) (Nat.le_trans (bitsTo_len _ _) hm64)
  obtain ⟨K, hK⟩ : ∃ K, 2 ^ m = K := ⟨_, rfl⟩
  have hK2 : 2 ≤ K ∧ K ≤ 4096 := by
    have h1 : 2 ^ 1 ≤ 2 ^ m := Nat.pow_le_pow_right (by omega) hm1
    have h2 : 2 ^ m ≤ 2 ^ 12 := Nat.pow_le_pow_right (by omega) hm12
    omega
  have hsh : IntKind.i64.wrap ((2 : Int) ^ m) = (K : Int) := by
    have : (2 : Int) ^ m = (K : Int) := by rw [← hK]; simp
    rw [this]; exact IntWalk.i64_in _ (by omega)
  obtain ⟨f, hf⟩ : ∃ f, dimS (tblOf P M.toNat mod).ops L m = f := ⟨_, rfl⟩
  rw [hf] at HOf
  rw [hK, hf]
  obtain ⟨hK2, hK4⟩ := hK2
  clear hE hf hK e
  go_enter Try.func44, Try.ntmps44
  go_wp2_with (at_make; refine wpList_mk rfl _ _ 22 3 rfl (.int .i64 0) 8 Try.underlying22 infoInt rfl K rfl rfl (by omega) (by unfold maxLen; omega) ?_; intro a1 w1 hown hbel hge hlt)
  obtain ⟨W, hW⟩ : ∃ W : World, W = w.alloc (.cells #[.int .i64 P, .int .i64 M, .slice am mn cm, .int .i64 m, .slice a n c] 27) := ⟨_, rfl⟩
  rw [← hW] at hown hbel hge
  have hbW : Below w.heap.size w W := by rw [hW]; exact below1 _ _
  have x0 : Box W w.heap.size [.int .i64 P, .int .i64 M, .slice am mn cm, .int .i64 m, .slice a n c] := by rw [hW]; exact Box.new _ _ _ rfl
  have hS : ∀ V, Below W.heap.size W V → V.cell? ⟨w.heap.size, 0, none⟩ = some (.int .i64 P) ∧ V.cell? ⟨w.heap.size, 1, none⟩ = some (.int .i64 M) ∧ V.cell? ⟨w.heap.size, 2, none⟩ = some (.slice am mn cm) ∧ V.cell? ⟨w.heap.size, 3, none⟩ = some (.int .i64 m) ∧ V.cell? ⟨w.heap.size, 4, none⟩ = some (.slice a n c) ∧ Below W.heap.size W V := by
    intro V hV
    have x1 := x0.keep hV
    exact ⟨x1.cell 0 rfl, x1.cell 1 rfl, x1.cell 2 rfl, x1.cell 3 rfl, x1.cell 4 rfl, hV⟩
  have HS := Lib.hid hS
  have HbW := Lib.hid hbW
  clear hW hlt hge x0 hS hbW hmod hi
  go_loopw [4] (fun iv wr => ∃ s : Nat, s ≤ K ∧ iv = .int .i64 s ∧ wr.ownsRow W.heap.size 3 1 (.slice a1 K K) K ((fillTo ((cnL K f).take s) s K).map (Value.int .i64)) ∧ Below W.heap.size W wr) (fun iv _ => K - (intOf iv).toNat)
  case atStart => exact ⟨0, Nat.zero_le _, rfl, by simpa [fillTo] using hown, hbel⟩
  case round =>
    clear hown hbel
    obtain ⟨s, hs, rfl, hown, hbr⟩ := hrel
    by_cases hlt : s < K
    · have Hm : Hid (∀ V, Below wr.heap.size wr V → Calls Try.prog 61 #[.int .i64 m, .int .i64 s] V (NewInts V (bitsTo s m))) := fun V _ => rMembers_any m s V hm12 (by omega)
      have HOf2 : Hid (∀ V a4 c4, Below wr.heap.size wr V → V.ownsRow 0 3 1 (.slice a4 (bitsTo s m).length c4) (bitsTo s m).length ((bitsTo s m).map (Value.int .i64)) →
          Calls Try.prog 31 #[.agg #[.int .i64 P, .int .i64 M, .slice am mn cm, .int .i64 m, .slice a n c], .slice a4 (bitsTo s m).length c4] V
            fun e w' => e = .returned (.int .i64 (f s)) ∧ Below V.heap.size V w') := fun V a4 c4 hV => HOf.out s V a4 c4 (Below.next HbW.out (Below.next hbr hV))
      have HK : Hid (∀ V, Below wr.heap.size wr V → (∃ v, V.cell? ⟨ablk a1, aoff a1 + s, none⟩ = some v) ∧ V.frozen? ⟨ablk a1, aoff a1 + s, none⟩ = false ∧ V.ownsRow W.heap.size 3 1 (.slice a1 K K) K ((fillTo ((cnL K f).take s) s K).map (Value.int .i64))) := fun V hV => by
        have ho := own_keep hown hV
        exact ⟨⟨_, (Ints.own ho).1.cell s hlt⟩, ((Ints.own ho).2 (by omega)).2 s hlt, ho⟩
      have hpl1 := (Ints.own hown).1.pl
      have HB := Lib.hid ((Ints.own hown).2 (by omega)).1
      have Hbr := Lib.hid hbr
      have hsk : (s : Int) < K := by omega
      obtain ⟨c0, c1, c2, c3, c4, _⟩ := HS.out wr hbr
      clear hown hbr
      go_wp2_with fail
      go_region_held3 (fun V => V.cell? ⟨w.heap.size, 0, none⟩ = some (.int .i64 P) ∧ V.cell? ⟨w.heap.size, 1, none⟩ = some (.int .i64 M) ∧ V.cell? ⟨w.heap.size, 2, none⟩ = some (.slice am mn cm) ∧ V.cell? ⟨w.heap.size, 3, none⟩ = some (.int .i64 m) ∧ V.cell? ⟨w.heap.size, 4, none⟩ = some (.slice a n c) ∧ Below W.heap.size W V)
        ((refine HS.out _ ?_; first | exact Hbr.out.drew | exact Below.next Hbr.out hb44 | exact Below.next Hbr.out hb55 | exact (Below.next Hbr.out hb55).setCell HB.out _))
        (first
          | (go_at_call 61; ((with_reducible refine (Hm.out _ (Below.refl _ _).drew).mono ?_); rintro e w4 ⟨a4, c4', rfl, hown4, hb4⟩; have hb44 : Below wr.heap.size wr w4 := Below.next (Below.refl _ _).drew hb4; have Hof := Lib.hid (HOf2.out w4 a4 c4' hb44 (own_mono hown4 (Nat.zero_le _))); clear hown4))
          | (go_at_call 31; ((with_reducible refine Hof.out.mono ?_); rintro e w5 ⟨rfl, hb5⟩; have hb55 : Below wr.heap.size wr w5 := Below.next hb44 hb5; obtain ⟨⟨v9, k9⟩, f9, o9⟩ := HK.out w5 hb55)))
      clear k9 f9
      go_wp2_with fail
      go_roundw
      case rel =>
        refine ⟨s + 1, by omega, by go_num, ?_, (Below.next Hbr.out hb55).setCell HB.out _⟩
        have h := own_set o9 s hlt (.int .i64 (f s))
        rw [← List.map_set, fillTo_set _ _ _ _ (by rw [List.length_take, cnL_length]; omega) hlt] at h
        rw [take_all f hlt]
        exact h
      case measure => simp [intOf] <;> omega
    · obtain rfl : s = K := by omega
      have hfin : fillTo ((cnL s f).take s) s s = cnL s f := by rw [fillTo_all, List.take_of_length_le (by rw [cnL_length]; exact Nat.le_refl _)]
      rw [hfin] at hown
      have hF : NewInts w (cnL s f) (.returned (.slice a1 s s)) wr := ⟨a1, s, by rw [cnL_length], by rw [cnL_length]; exact own_mono hown HbW.out.size, Below.next HbW.out hbr⟩
      have HF := Lib.hid hF
      clear hF hown hfin
      go_wp2_with fail
      go_ret
      exact HF.out
end

/- The walk of the reference's Table. -/
section
open Go.RowKit

theorem tab_fill1 (f : Nat → Int) (m : Nat) {k : Nat} (hk : 1 ≤ k) : (fillTo (tabL f m 1) 1 k) = List.replicate k 0 := by
  refine nth_ext (by simp [fillTo, tabL_len]; omega) fun i hi => ?_
  have e2 : nth (List.replicate k (0 : Int)) i = 0 := by simp [nth, List.getD_eq_getElem?_getD, List.getElem?_replicate]; split <;> rfl
  rw [e2]
  by_cases h0 : i = 0
  · subst h0
    rw [fill_lt _ (tabL_len f m 1) (by omega)]
    simp [nth, tabL, entT]
  · unfold fillTo nth
    rw [List.getD_eq_getElem?_getD, List.getElem?_append_right (by rw [tabL_len]; omega), List.getElem?_replicate]
    split <;> rfl

set_option maxRecDepth 100000 in
set_option maxHeartbeats 4000000 in
theorem rTable_any (P M : Int) (am : Option Addr) (mn cm : Nat) (mod : List Int) (m : Nat) (a : Option Addr) (n c : Nat) (L : List (List Int)) (w : World)
    (hmod : Ints w am mn mod) (hi : Mat w a n L) (hE : codeE P M mod m L = 0) (hm12 : m ≤ 12) :
    Calls Try.prog 28 #[.agg #[.int .i64 P, .int .i64 M, .slice am mn cm, .int .i64 m, .slice a n c]] w (NewInts w (tabL (dimS (tblOf P M.toNat mod).ops L m) m (2 ^ m))) := by
  obtain ⟨N', e, hm1, hm64, _⟩ := codeE_fld hE
  obtain rfl : m = N' := by omega
  have Hfl : Hid (∀ y : Nat, dimS (tblOf P M.toNat mod).ops L m y ≤ m) := fun y => dim_le hE y
  obtain ⟨K, hK⟩ : ∃ K, 2 ^ m = K := ⟨_, rfl⟩
  have hK2 : 2 ≤ K ∧ K ≤ 4096 := by
    have h1 : 2 ^ 1 ≤ 2 ^ m := Nat.pow_le_pow_right (by omega) hm1
    have h2 : 2 ^ m ≤ 2 ^ 12 := Nat.pow_le_pow_right (by omega) hm12
    omega
  have HD : Hid (∀ V, Below w.heap.size w V → Calls Try.prog 44 #[.agg #[.int .i64 P, .int .i64 M, .slice am mn cm, .int .i64 m, .slice a n c]] V (NewInts V (cnL K (dimS (tblOf P M.toNat mod).ops L m)))) := fun V hV => by
    rw [← hK]; exact rDimensions_any P M am mn cm mod m a n c L V (hmod.keep hV) (hi.keep hV) hE hm12
  obtain ⟨f, hf⟩ : ∃ f, dimS (tblOf P M.toNat mod).ops L m = f := ⟨_, rfl⟩
  rw [hf] at HD Hfl
  rw [hK, hf]
  have HK := Lib.hid hK
  obtain ⟨hK2, hK4⟩ := hK2
  clear hE hf hK e hmod hi
  go_enter Try.func28, Try.ntmps28
  go_wp2_with fail
  obtain ⟨W, hW⟩ : ∃ W : World, W = w.alloc (.cells #[.int .i64 P, .int .i64 M, .slice am mn cm, .int .i64 m, .slice a n c] 27) := ⟨_, rfl⟩
  rw [← hW]
  have hbW : Below w.heap.size w W := by rw [hW]; exact below1 _ _
  have x0 : Box W w.heap.size [.int .i64 P, .int .i64 M, .slice am mn cm, .int .i64 m, .slice a n c] := by rw [hW]; exact Box.new _ _ _ rfl
  clear hW
  refine (HD.out W hbW).mono ?_
  rintro e U ⟨a2, c2', rfl, hown2, hbU⟩
  rw [cnL_length] at hown2 ⊢
  have hI2 := (Ints.own hown2).1
  have hpl2 := hI2.pl
  have x1 := x0.keep hbU
  have hbwU := Below.next hbW hbU
  clear HD x0 hown2
  go_wp2_with (at_make; refine wpList_mk rfl _ _ 22 3 rfl (.int .i64 0) 8 Try.underlying22 infoInt rfl K rfl rfl (by omega) (by unfold maxLen; omega) ?_; intro a3 w3 hown3 hbel3 hge3 hlt3)
  have hs3 : w3.ownsRow U.heap.size 3 1 (.slice a3 K K) K ((fillTo (tabL f m 1) 1 K).map (Value.int .i64)) := by rw [tab_fill1 f m (by omega), List.map_replicate]; exact hown3
  clear hown3 hge3 hlt3
  go_loopw [5] (fun iv wr => ∃ s : Nat, 1 ≤ s ∧ s ≤ K ∧ iv = .int .i64 s ∧ wr.ownsRow U.heap.size 3 1 (.slice a3 K K) K ((fillTo (tabL f m s) s K).map (Value.int .i64)) ∧ Below U.heap.size U wr) (fun iv _ => K - (intOf iv).toNat)
  case atStart => exact ⟨1, Nat.le_refl _, by omega, rfl, hs3, hbel3⟩
  case round =>
    clear hs3 hbel3
    obtain ⟨s, hs1, hs, rfl, hop3, hbr⟩ := hrel
    by_cases hlt : s < K
    · have hsk : (s : Int) < K := by omega
      have c3 := (x1.keep hbr).cell 3 rfl
      have hI3 := (Ints.own hop3).1
      have hpl3 := hI3.pl
      have hsm : s < 2 ^ m := by rw [HK.out]; exact hlt
      obtain ⟨T, hT⟩ : ∃ T, fillTo (tabL f m s) s K = T := ⟨_, rfl⟩
      rw [hT] at hI3
      have HT : Hid (∀ j, j < s → nth T j = nth (tabL f m s) j) := fun j hj => by rw [← hT]; exact fill_lt _ (tabL_len f m s) hj
      have HTb : Hid (∀ j, j < s → 0 ≤ nth T j ∧ nth T j ≤ m) := fun j hj => by rw [HT.out j hj]; exact tabL_bd Hfl.out s j hj
      clear hT
      go_wp2_with fail
      go_loop [6, 7] (fun bv pv => ∃ p : Nat, p ≤ m ∧ pv = .int .i64 p ∧ bv = .int .i64 (refB T s p)) (fun _ pv => m - (intOf pv).toNat)
      case atStart => exact ⟨0, Nat.zero_le _, rfl, rfl⟩
      case round =>
        obtain ⟨p, hp, rfl, rfl⟩ := hrel
        by_cases hlp : p < m
        · have hand := and1_i64 s p (by omega)
          have htb := testBit_div s p
          by_cases ht : s.testBit p = true
          · have h1 : s / 2 ^ p % 2 = 1 := by rw [ht] at htb; simpa using htb.symm
            rw [h1] at hand
            have hq1 := pow_le_test ht
            have hq0 := Nat.two_pow_pos p
            have hsh : IntKind.i64.wrap ((2 : Int) ^ p) = ((2 ^ p : Nat) : Int) := by
              have : (2 : Int) ^ p = ((2 ^ p : Nat) : Int) := by simp
              rw [this]; exact IntWalk.i64_in _ (by omega)
            have hsub : IntKind.i64.wrap ((s : Int) - ((2 ^ p : Nat) : Int)) = ((s - 2 ^ p : Nat) : Int) := by
              rw [show (s : Int) - ((2 ^ p : Nat) : Int) = ((s - 2 ^ p : Nat) : Int) by omega]; exact IntWalk.i64_in _ (by omega)
            have hst : refB T s (p + 1) = if refB T s p < 0 ∨ nth T (s - 2 ^ p) < refB T s p then nth T (s - 2 ^ p) else refB T s p := by rw [refB, if_pos ht]
            have Hst := Lib.hid hst
            have ct := hI3.cell (s - 2 ^ p) (by omega)
            have hxl : s - 2 ^ p < K := by omega
            clear ht htb h1 hst
            obtain ⟨q, hq⟩ : ∃ q, 2 ^ p = q := ⟨_, rfl⟩
            rw [hq] at hsh hsub Hst ct hxl hq1
            obtain ⟨x, hx⟩ : ∃ x, s - q = x := ⟨_, rfl⟩
            rw [hx] at hsub Hst ct hxl
            have hxk : (x : Int) < K := by omega
            obtain ⟨t9, ht9⟩ : ∃ t, nth T x = t := ⟨_, rfl⟩
            rw [ht9] at ct Hst
            clear hq hx ht9 hq1 hq0
            generalize refB T s p = b9 at *
            by_cases hb0 : b9 < 0
            · have hb0' : decide (b9 < 0) = true := by simpa using hb0
              have Hs2 : Hid (refB T s (p + 1) = t9) := by show _ = _; rw [Hst.out, if_pos (.inl hb0)]
              clear hb0
              go_wp2_with fail
              go_round
              case rel => exact ⟨p + 1, by omega, by go_num, by rw [Hs2.out]⟩
              case measure => simp [intOf] <;> omega
            · have hb0' : decide (b9 < 0) = false := by simpa using hb0
              by_cases hb1 : t9 < b9
              · have hb1' : decide (t9 < b9) = true := by simpa using hb1
                have Hs2 : Hid (refB T s (p + 1) = t9) := by show _ = _; rw [Hst.out, if_pos (.inr hb1)]
                clear hb0 hb1
                go_wp2_with fail
                go_round
                case rel => exact ⟨p + 1, by omega, by go_num, by rw [Hs2.out]⟩
                case measure => simp [intOf] <;> omega
              · have hb1' : decide (t9 < b9) = false := by simpa using hb1
                have Hs2 : Hid (refB T s (p + 1) = b9) := by show _ = _; rw [Hst.out, if_neg (by omega)]
                clear hb0 hb1
                go_wp2_with fail
                go_round
                case rel => exact ⟨p + 1, by omega, by go_num, by rw [Hs2.out]⟩
                case measure => simp [intOf] <;> omega
          · have h1 : s / 2 ^ p % 2 = 0 := by
              have h2 := Nat.mod_two_eq_zero_or_one (s / 2 ^ p)
              have h3 : ¬ s / 2 ^ p % 2 = 1 := fun h => by rw [h] at htb; simp at htb; exact ht htb
              omega
            rw [h1] at hand
            have Hst : Hid (refB T s (p + 1) = refB T s p) := by show _ = _; rw [refB, if_neg ht]
            clear ht htb h1
            generalize refB T s p = b9 at *
            go_wp2_with fail
            go_round
            case rel => exact ⟨p + 1, by omega, by go_num, by rw [Hst.out]⟩
            case measure => simp [intOf] <;> omega
        · obtain rfl : p = m := by omega
          have hrb : refB T s p = leastTo p (tabL f p s) s p := by
            rw [← leastTo_congr HT.out p]
            rcases refB_eq HTb.out p with ⟨_, _, h⟩ | ⟨_, h⟩
            · have := test_lt hsm h; omega
            · exact h
          rw [hrb]
          have Hen : Hid (entT f p (tabL f p s) s = max (f s) (leastTo p (tabL f p s) s p)) := by show _ = _; rw [entT, if_neg (by omega)]
          have d2 := (hI2.keep hbr).cell s hlt
          rw [nth_cnL f hlt] at d2
          obtain ⟨_, hM3⟩ := Ints.own hop3
          have hf3 := (hM3 (by omega)).2 s hlt
          have hc3 := hI3.cell s hlt
          have hB3 := (hM3 (by omega)).1
          have hmx := max_if (f s) (leastTo p (tabL f p s) s p)
          have Hmx := Lib.hid hmx
          clear hM3 hmx hrb
          obtain ⟨l9, hl9⟩ : ∃ l, leastTo p (tabL f p s) s p = l := ⟨_, rfl⟩
          obtain ⟨f9, hf9⟩ : ∃ x, f s = x := ⟨_, rfl⟩
          rw [hl9, hf9] at Hmx Hen
          rw [hl9]
          rw [hf9] at d2
          clear hl9 hf9
          go_wp2_with fail
          go_roundw
          case rel =>
            refine ⟨s + 1, by omega, by omega, by go_num, ?_, hbr.setCell hB3 _⟩
            have h := own_set hop3 s hlt (.int .i64 (if f9 < l9 then l9 else f9))
            rw [← List.map_set, fillTo_set _ _ _ _ (tabL_len f p s) hlt] at h
            have e : tabL f p (s + 1) = tabL f p s ++ [if f9 < l9 then l9 else f9] := by rw [Hmx.out, ← Hen.out]; rfl
            rw [e]
            exact h
          case measure => simp [intOf] <;> omega
    · obtain rfl : s = K := by omega
      have hfin2 : fillTo (tabL f m s) s s = tabL f m s := fillTo_all _ _
      rw [hfin2] at hop3
      have hF : NewInts w (tabL f m s) (.returned (.slice a3 s s)) wr := ⟨a3, s, by rw [tabL_len], by rw [tabL_len]; exact own_mono hop3 hbwU.size, Below.next hbwU hbr⟩
      have HF := Lib.hid hF
      clear hF hop3 hfin2
      go_wp2_with fail
      go_ret
      exact HF.out
end

end Go.Proofs.Ytnielheglicbmaa
