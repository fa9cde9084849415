/- The family of a code (plain laws): its members are information sets with new positions, the positions left are zero columns, and the bound for the weight. -/
import Derived.Test.YtapjcccpokhhhaaGreatK23
import Derived.Test.YtapjcccpokhhhaaGreatK21
import Derived.Test.YtapjcccpokhhhaaGreatK19
import Derived.Test.YtapjcccpokhhhaaGreatK20
import Derived.Test.YtapjcccpokhhhaaGreatK6
import Derived.Test.YtapjcccpokhhhaaGreatK7
import Derived.Test.YtapjcccpokhhhaaGreatK10
namespace Go.Proofs.YtapjcccpokhhhaaGreat
set_option linter.unusedVariables false
set_option linter.unusedSimpArgs false
set_option linter.unusedSectionVars false

/- The walk of right of the reference's exclusion, for rank claims. -/
section
open Go.RowKit

set_option maxRecDepth 100000 in
set_option maxHeartbeats 3200000 in
theorem rRight26_any (P M : Int) (am : Option Addr) (mn cm : Nat) (mod : List Int) (m : Nat) (a : Option Addr) (n c : Nat) (L : List (List Int)) (ay : Option Addr) (ny cy : Nat) (C : Clm) (sa : Option Addr) (ns cs : Nat) (s : List Int) (at' : Option Addr) (nt ct : Nat) (t : List Int) (w : World)
    (hmod : Ints w am mn mod) (hi : Mat w a n L) (hE : codeE P M mod m L = 0) (hc : C.cos = false) (hs : Ints w sa ns s) (ht : Ints w at' nt t) :
    Calls Tryz.prog 103 #[rclV P M am mn cm m a n c ay ny cy C, .slice sa ns cs, .slice at' nt ct] w fun e w' => e = .returned (.bool (rightS (tblOf P M.toNat mod).ops L m C s t)) ∧ Below w.heap.size w w' := by
  have Htl := Lib.hid ht.len
  have hplt := ht.pl
  have hmax := ht.max
  unfold maxLen at hmax
  obtain ⟨RS, hRS⟩ : ∃ RS, rightS (tblOf P M.toNat mod).ops L m C s t = RS := ⟨_, rfl⟩
  rw [hRS]
  have HRS : Hid (RS = (setOk m s t && (decide ((grS (tblOf P M.toNat mod).ops L t).length = t.length) && decide (t.length = C.M)))) := by
    show _ = _
    rw [← hRS, rightS, hc]
    simp only [Bool.false_eq_true, if_false]
  have Hm := Lib.hid (codeE_rws hE)
  unfold rclV
  rw [hc]
  clear hRS hc
  go_enter Tryz.func103, Tryz.ntmps103
  go_wp2_with fail
  obtain ⟨U, hU⟩ : ∃ U : World, U = w.alloc (.cells #[.int .i64 P, .int .i64 M, .slice am mn cm, .int .i64 m, .slice a n c, .int .i64 C.M, .int .i64 C.W, .slice ay ny cy, .bool false] 89) := ⟨_, rfl⟩
  rw [← hU]
  have hbU : Below w.heap.size w U := by rw [hU]; exact below1 _ _
  have x0 : Box U w.heap.size [.int .i64 P, .int .i64 M, .slice am mn cm, .int .i64 m, .slice a n c, .int .i64 C.M, .int .i64 C.W, .slice ay ny cy, .bool false] := by rw [hU]; exact Box.new _ _ _ rfl
  have HS : Hid (∀ V, Below U.heap.size U V → V.cell? ⟨w.heap.size, 0, none⟩ = some (.int .i64 P) ∧ V.cell? ⟨w.heap.size, 1, none⟩ = some (.int .i64 M) ∧ V.cell? ⟨w.heap.size, 2, none⟩ = some (.slice am mn cm) ∧ V.cell? ⟨w.heap.size, 3, none⟩ = some (.int .i64 m) ∧ V.cell? ⟨w.heap.size, 4, none⟩ = some (.slice a n c) ∧
      V.cell? ⟨w.heap.size, 5, none⟩ = some (.int .i64 C.M) ∧ V.cell? ⟨w.heap.size, 8, none⟩ = some (.bool false)) := fun V hV => by
    have x1 := x0.keep hV
    exact ⟨x1.cell 0 rfl, x1.cell 1 rfl, x1.cell 2 rfl, x1.cell 3 rfl, x1.cell 4 rfl, x1.cell 5 rfl, x1.cell 8 rfl⟩
  clear hU x0
  refine (rising_any m at' nt ct t U (ht.keep hbU)).mono ?_
  rintro e w1 ⟨rfl, hd1⟩
  have hb1 : Below U.heap.size U w1 := hd1.below
  have hbw1 := Below.next hbU hb1
  obtain ⟨zo, hzo⟩ : ∃ zo, okSet m t = zo := ⟨_, rfl⟩
  rw [hzo]
  cases zo
  · have HF : Hid (RS = false) := by show _ = _; rw [HRS.out, setOk, hzo]; rfl
    clear hzo
    go_wp2_with fail
    go_ret
    exact ⟨by rw [HF.out]; rfl, hbw1⟩
  have Hok := Lib.hid hzo
  clear hzo
  have ht1 := ht.keep hbw1
  have hs1 := hs.keep hbw1
  go_wp2_with fail
  go_loop [7] (fun iv => ∃ k : Nat, k ≤ nt ∧ iv = .int .i64 k ∧ Hid (∀ j, j < k → ¬ nth t j ∈ s)) (fun iv => nt - (intOf iv).toNat)
  case atStart => exact ⟨0, Nat.zero_le _, rfl, fun j hj => by omega⟩
  case round =>
    obtain ⟨k, hk, rfl, hno⟩ := hrel
    generalize w1 = wr at *
    by_cases hlt : k < nt
    · have ck := ht1.cell k hlt
      have HI := Lib.hid (rIn26_any sa ns cs s (nth t k) wr hs1)
      by_cases hm1 : nth t k ∈ s
      · have hmd : decide (nth t k ∈ s) = true := by simpa using hm1
        rw [hmd] at HI
        have HF : Hid (RS = false) := by
          show _ = _
          have h1 : t.all (fun x => decide (¬ x ∈ s)) = false := by
            rw [List.all_eq_false]
            exact ⟨nth t k, nth_mem (by rw [Htl.out]; exact hlt), by simpa using hm1⟩
          rw [HRS.out, setOk, h1, Bool.and_false]; rfl
        clear hm1 hmd
        go_wp2_with fail
        refine HI.out.mono ?_
        rintro e w6 ⟨rfl, rfl⟩
        go_wp2_with fail
        go_ret
        exact ⟨by rw [HF.out]; rfl, hbw1⟩
      · have hmd : decide (nth t k ∈ s) = false := by simpa using hm1
        rw [hmd] at HI
        have Hno2 : Hid (∀ j, j < k + 1 → ¬ nth t j ∈ s) := fun j hj => by
          by_cases e : j = k
          · rw [e]; exact hm1
          · exact hno.out j (by omega)
        clear hm1 hmd hno
        go_wp2_with fail
        refine HI.out.mono ?_
        rintro e w6 ⟨rfl, rfl⟩
        go_wp2_with fail
        go_round
        case rel => exact ⟨k + 1, by omega, by go_num, Hno2.out⟩
        case measure => simp [intOf] <;> omega
    · have hkn : k = nt := by omega
      subst hkn
      have hset : setOk m s t = true := by
        rw [setOk, Hok.out, Bool.true_and, List.all_eq_true]
        intro x hx
        obtain ⟨j, hj, rfl⟩ := List.mem_iff_getElem.1 hx
        have h1 := hno.out j (by rw [← Htl.out]; exact hj)
        rw [nth_getElem hj] at h1
        simpa using h1
      obtain ⟨m', hm', hm1, hm2, _, _⟩ := Hm.out
      have hklen : k ≤ 64 := by
        have h1 := okSet_len Hok.out (by omega)
        rw [Htl.out] at h1
        omega
      have HO := Lib.hid (rOf25_any P M am mn cm mod m a n c L at' k ct t wr (hmod.keep hbw1) (hi.keep hbw1) ht1 hE (set_in Hok.out) (by omega))
      have HR2 : Hid (RS = (decide ((grS (tblOf P M.toNat mod).ops L t).length = k) && decide (k = C.M))) := by show _ = _; rw [HRS.out, hset, Bool.true_and, Htl.out]
      obtain ⟨r1, hr1⟩ : ∃ r1, (grS (tblOf P M.toNat mod).ops L t).length = r1 := ⟨_, rfl⟩
      rw [hr1] at HO HR2
      obtain ⟨c0, c1, c2, c3, c4, c5, c8⟩ := HS.out wr hb1
      clear hset hr1 hm' hm1 hm2
      go_wp2_with fail
      refine HO.out.mono ?_
      rintro e w2 ⟨rfl, hb2⟩
      have hb12 := Below.next hb1 hb2
      have hbF := Below.next hbU hb12
      clear c0 c1 c2 c3 c4 c5 c8
      obtain ⟨c0, c1, c2, c3, c4, c5, c8⟩ := HS.out w2 hb12
      by_cases hrr : r1 = k
      · have hne : ((r1 : Int) != k) = false := by simp [hrr]
        by_cases hM : k = C.M
        · have HF : Hid (RS = true) := by show _ = _; rw [HR2.out, decide_eq_true hrr, decide_eq_true hM]; rfl
          have hd : ((k : Int) == C.M) = true := by simp [hM]
          clear hrr hM
          go_wp2_with fail
          go_ret
          exact ⟨by rw [HF.out]; rfl, hbF⟩
        · have HF : Hid (RS = false) := by show _ = _; rw [HR2.out, decide_eq_false hM, Bool.and_false]
          have hd : ((k : Int) == C.M) = false := by simp; omega
          clear hrr hM
          go_wp2_with fail
          go_ret
          exact ⟨by rw [HF.out]; rfl, hbF⟩
      · have HF : Hid (RS = false) := by show _ = _; rw [HR2.out, decide_eq_false hrr]; rfl
        have hne : ((r1 : Int) != k) = true := by simp; omega
        clear hrr
        go_wp2_with fail
        go_ret
        exact ⟨by rw [HF.out]; rfl, hbF⟩

/-- right answers as specified, in all worlds over w0 -/
def RightK (P M : Int) (am : Option Addr) (mn cm : Nat) (mod : List Int) (m : Nat) (a : Option Addr) (n c : Nat) (L : List (List Int)) (ay : Option Addr) (ny cy : Nat) (C : Clm) (w0 : World) : Prop :=
  ∀ (V : World) (sa : Option Addr) (ns cs : Nat) (s : List Int) (at' : Option Addr) (nt ct : Nat) (t : List Int), ns ≤ 64 → Below w0.heap.size w0 V → Ints V sa ns s → Ints V at' nt t →
    Calls Tryz.prog 103 #[rclV P M am mn cm m a n c ay ny cy C, .slice sa ns cs, .slice at' nt ct] V fun e w' => e = .returned (.bool (rightS (tblOf P M.toNat mod).ops L m C s t)) ∧ Below V.heap.size V w'
theorem rightK_rank {P M : Int} {am : Option Addr} {mn cm : Nat} {mod : List Int} {m : Nat} {a : Option Addr} {n c : Nat} {L : List (List Int)} {ay : Option Addr} {ny cy : Nat} {C : Clm} {w0 : World}
    (hmod : Ints w0 am mn mod) (hi : Mat w0 a n L) (hE : codeE P M mod m L = 0) (hc : C.cos = false) : RightK P M am mn cm mod m a n c L ay ny cy C w0 := fun V sa ns cs s at' nt ct t _ hV hs ht =>
  rRight26_any P M am mn cm mod m a n c L ay ny cy C sa ns cs s at' nt ct t V (hmod.keep hV) (hi.keep hV) hE hc hs ht
end

/- The walks of the references: Combine of layer 09, List and Encode of layer 12. -/
section
open Go.RowKit

theorem cmbTo_agr {O O' : FOps} {El : Int → Prop} (F : Fld O El) (h : Agr O O' El) {m : Nat} {L : List (List Int)} (hL : Rws El m L) {x : List Int} (hx : ∀ k, k < L.length → El (nth x k)) : ∀ k, k ≤ L.length → cmbTo O m x L k = cmbTo O' m x L k
  | 0, _ => rfl
  | k + 1, hk => by
    have h1 := (cmb_rs F hL hx k (by omega)).1
    rw [cmbTo, cmbTo, ← cmbTo_agr F h hL hx k (by omega), addRow_agr h F.cl _ _ _ h1.2 (hL.row (i := k) (by omega)).2 (hx k (by omega))]

set_option maxRecDepth 100000 in
set_option maxHeartbeats 4000000 in
theorem rCombine_any (P : Int) (m : Nat) (am : Option Addr) (mn cm : Nat) (mod : List Int) (ax : Option Addr) (cx : Nat) (x : List Int) (a : Option Addr) (n c : Nat) (L : List (List Int)) (cols : Nat) (w : World) (hf : RFld w P m am mn mod)
    (hx : Ints w ax n x) (hi : Mat w a n L) (hxe : ∀ k, k < n → ElP P m (nth x k)) (hR : Rws (ElP P m) cols L) (hv : ∀ k, k ≤ n → Vc (ElP P m) cols (cmbTo (rops P m mod) cols x L k)) (hc : cols ≤ 1000000) (hn : n ≤ 1000000) :
    Calls Tryz.prog 127 #[.agg #[.int .i64 P, .int .i64 m, .slice am mn cm], .slice ax n cx, .slice a n c, .int .i64 cols] w fun e w' =>
      ∃ a1 c1, e = .returned (.slice a1 cols c1) ∧ w'.ownsRow w.heap.size 3 1 (.slice a1 cols c1) cols ((cmbTo (rops P m mod) cols x L n).map (Value.int .i64)) ∧ Below w.heap.size w w' := by
  have Hil := Lib.hid hi.len
  have hplx := hx.pl
  have hpla := hi.pl
  have HR := Lib.hid hR
  have Hv := Lib.hid hv
  have Hxe := Lib.hid hxe
  obtain ⟨O, hO⟩ : ∃ O, rops P m mod = O := ⟨_, rfl⟩
  have HA : Hid (∀ V k a1 c1 ra rc, k < n → Below w.heap.size w V → Ints V a1 cols (cmbTo O cols x L k) → Ints V ra cols (nthR L k) → ∀ V2, Below V.heap.size V V2 →
      Calls Tryz.prog 45 #[.agg #[.int .i64 P, .int .i64 m, .slice am mn cm], .slice a1 cols c1, .int .i64 (nth x k), .slice ra cols rc] V2 fun e w' =>
        ∃ a2 c2, e = .returned (.slice a2 cols c2) ∧ w'.ownsRow V2.heap.size 3 1 (.slice a2 cols c2) cols ((addRow O (cmbTo O cols x L k) (nth x k) (nthR L k)).map (Value.int .i64)) ∧ Below V2.heap.size V2 w') := fun V k a1 c1 ra rc hk hV h1 h2 V2 hV2 => by
    have hrow := HR.out.row (i := k) (by rw [Hil.out]; exact hk)
    have hvk := Hv.out k (by omega)
    rw [hO] at hvk
    have h := rAddTo_any P m am mn cm mod a1 cols c1 (cmbTo O cols x L k) (nth x k) ra rc (nthR L k) V2 (hf.keep (Below.next hV hV2)) (Hxe.out k hk) (h1.keep hV2) (h2.keep hV2) hvk.2 hrow.2 hc
    refine h.mono ?_
    rintro e w' ⟨a2, c2, rfl, hown, hb⟩
    rw [hO, addRow_length _ _ _ _ (by rw [hrow.1, hvk.1]), hvk.1] at hown
    rw [hO, addRow_length _ _ _ _ (by rw [hrow.1, hvk.1]), hvk.1]
    exact ⟨a2, c2, rfl, hown, hb⟩
  have hz : (cmbTo O cols x L 0).map (Value.int .i64) = List.replicate cols (Value.int .i64 0) := by simp [cmbTo]
  have Hz := Lib.hid hz
  rw [hO]
  clear hO hR hv hxe hz
  go_enter Tryz.func127, Tryz.ntmps127
  go_upto_region 1 with fail
  obtain ⟨W, hW⟩ : ∃ W : World, W = w.alloc (.cells #[.int .i64 P, .int .i64 m, .slice am mn cm] 24) := ⟨_, rfl⟩
  rw [← hW]
  have hbW : Below w.heap.size w W := by rw [hW]; exact below1 _ _
  have x0 : Box W w.heap.size [.int .i64 P, .int .i64 m, .slice am mn cm] := by rw [hW]; exact Box.new _ _ _ rfl
  have HX := Lib.hid x0
  have HbW := Lib.hid hbW
  have hxW := hx.keep hbW
  have hiW := hi.keep hbW
  clear hW x0
  go_wp2_with (at_make; refine wpList_mk rfl _ _ 22 3 rfl (.int .i64 0) 8 Tryz.underlying22 infoInt rfl cols rfl rfl (by omega) (by unfold maxLen; omega) ?_; intro a5 w5 hown hbel hge hlt)
  have hown0 : w5.ownsRow W.heap.size 3 1 (.slice a5 cols cols) cols ((cmbTo O cols x L 0).map (Value.int .i64)) := by rw [Hz.out]; exact hown
  clear hown hge hlt
  go_loopw [9, 10] (fun ov iv wr => ∃ (k : Nat) (a1 : Option Addr) (c1 : Nat), k ≤ n ∧ iv = .int .i64 k ∧ ov = .slice a1 cols c1 ∧ wr.ownsRow W.heap.size 3 1 (.slice a1 cols c1) cols ((cmbTo O cols x L k).map (Value.int .i64)) ∧ Below W.heap.size W wr) (fun _ iv _ => n - (intOf iv).toNat)
  case atStart => exact ⟨0, a5, cols, Nat.zero_le _, rfl, rfl, hown0, hbel⟩
  case round =>
    clear hown0 hbel
    obtain ⟨k, a1, c1, hk, rfl, rfl, hown, hbr⟩ := hrel
    by_cases hlt : k < n
    · have cxk := (hxW.keep hbr).cell k hlt
      have hrow := HR.out.row (i := k) (by rw [Hil.out]; exact hlt)
      obtain ⟨ra, rn, rc, er, ir⟩ := (hiW.keep hbr).cell k hlt
      have hrn : rn = cols := by rw [← ir.len]; exact hrow.1
      rw [hrn] at er ir
      clear hrn hrow
      by_cases h0 : nth x k = 0
      · have h0' : (nth x k != 0) = false := by simpa using h0
        have Hn : Hid (cmbTo O cols x L (k + 1) = cmbTo O cols x L k) := by show _ = _; rw [cmbTo, if_pos h0]
        clear h0
        go_wp2_with fail
        go_roundw
        case rel => exact ⟨k + 1, a1, c1, by omega, by go_num, rfl, by rw [Hn.out]; exact hown, hbr⟩
        case measure => simp [intOf] <;> omega
      · have h0' : (nth x k != 0) = true := by simpa using h0
        have Hn : Hid (cmbTo O cols x L (k + 1) = addRow O (cmbTo O cols x L k) (nth x k) (nthR L k)) := by show _ = _; rw [cmbTo, if_neg h0]
        have hbwr := Below.next HbW.out hbr
        have Hk := Lib.hid (HA.out wr k a1 c1 ra rc hlt hbwr (Ints.own hown).1 ir)
        have HS2 : Hid (∀ V, Below wr.heap.size wr V → V.cell? ⟨w.heap.size, 0, none⟩ = some (.int .i64 P) ∧ V.cell? ⟨w.heap.size, 1, none⟩ = some (.int .i64 m) ∧ V.cell? ⟨w.heap.size, 2, none⟩ = some (.slice am mn cm) ∧
            V.cell? ⟨ablk ax, aoff ax + k, none⟩ = some (.int .i64 (nth x k)) ∧ V.cell? ⟨ablk a, aoff a + k, none⟩ = some (.slice ra cols rc) ∧ Below wr.heap.size wr V) := fun V hV => by
          have x1 := HX.out.keep (Below.next hbr hV)
          exact ⟨x1.cell 0 rfl, x1.cell 1 rfl, x1.cell 2 rfl, cell_keep hV cxk, cell_keep hV er, hV⟩
        have Hbr := Lib.hid hbr
        have hszr := hbr.size
        clear h0 hbr hown ir HA
        go_wp2_with fail
        go_region_held3 (fun V => V.cell? ⟨w.heap.size, 0, none⟩ = some (.int .i64 P) ∧ V.cell? ⟨w.heap.size, 1, none⟩ = some (.int .i64 m) ∧ V.cell? ⟨w.heap.size, 2, none⟩ = some (.slice am mn cm) ∧
            V.cell? ⟨ablk ax, aoff ax + k, none⟩ = some (.int .i64 (nth x k)) ∧ V.cell? ⟨ablk a, aoff a + k, none⟩ = some (.slice ra cols rc) ∧ Below wr.heap.size wr V)
          ((refine HS2.out _ ?_; first | exact (Below.refl _ _).drew | exact Below.next (Below.refl _ _).drew hb4))
          (first
            | (go_at_call 45; ((with_reducible refine (Hk.out _ (Below.refl _ _).drew).mono ?_); rintro e w4 ⟨a4, c4, rfl, hown4, hb4⟩)))
        have hbr4 := Below.next Hbr.out (Below.next (Below.refl _ _).drew hb4)
        have hown5 := own_mono hown4 (show W.heap.size ≤ wr.drew.heap.size from hszr)
        go_wp2_with fail
        go_roundw
        case rel => exact ⟨k + 1, a4, c4, by omega, by go_num, rfl, by rw [Hn.out]; exact hown5, hbr4⟩
        case measure => simp [intOf] <;> omega
    · obtain rfl : k = n := by omega
      have hF := own_mono hown HbW.out.size
      have HF := Lib.hid hF
      have hbF := Below.next HbW.out hbr
      clear hF hown
      go_wp2_with fail
      go_ret
      exact ⟨a1, c1, rfl, HF.out, hbF⟩

/-- the error of a list of n elements -/
def lstE (q : Int) (l : List Int) (n : Nat) : Int := if l.length = n then elsE q l else 4

set_option maxHeartbeats 1600000 in
theorem rList12_any (P M : Int) (am : Option Addr) (mn cm : Nat) (a : Option Addr) (n c : Nat) (l : List Int) (k : Nat) (w : World) (hi : Ints w a n l) :
    Calls Tryz.prog 43 #[.agg #[.int .i64 P, .int .i64 M, .slice am mn cm], .slice a n c, .int .i64 k] w fun e w' => e = .returned (.int .i64 (lstE (orderS P M) l k)) ∧ Below w.heap.size w w' := by
  have hl := hi.len
  go_enter Tryz.func43, Tryz.ntmps43
  go_upto_region 1 with fail
  obtain ⟨W, hW⟩ : ∃ W : World, W = w.alloc (.cells #[.int .i64 P, .int .i64 M, .slice am mn cm] 24) := ⟨_, rfl⟩
  rw [← hW]
  have hbW : Below w.heap.size w W := by rw [hW]; exact below1 _ _
  have x0 : Box W w.heap.size [.int .i64 P, .int .i64 M, .slice am mn cm] := by rw [hW]; exact Box.new _ _ _ rfl
  have c0 := x0.cell 0 rfl
  have c1 := x0.cell 1 rfl
  have c2 := x0.cell 2 rfl
  clear hW x0
  by_cases h1 : n = k
  · have HL : Hid (lstE (orderS P M) l k = elsE (orderS P M) l) := by show _ = _; rw [lstE, if_pos (by omega)]
    have Hc := Lib.hid (rEntries_any P M am mn cm a n c l W (hi.keep hbW))
    have h1' : ((n : Int) != k) = false := by rw [show (n : Int) = k by omega]; simp
    clear h1 hl
    generalize elsE (orderS P M) l = er at *
    go_wp2_with fail
    refine Hc.out.mono ?_
    rintro e w1 ⟨rfl, hb1⟩
    have hF := Below.next hbW hb1
    go_wp2_with fail
    go_ret
    exact ⟨ret_int HL.out.symm, hF⟩
  · have HL : Hid (lstE (orderS P M) l k = 4) := by show _ = _; rw [lstE, if_neg (by omega)]
    have h1' : ((n : Int) != k) = true := by simp only [bne_iff_ne, ne_eq]; omega
    clear h1 hl
    go_wp2_with fail
    go_ret
    exact ⟨ret_int HL.out.symm, hbW⟩
end

/- The walk of clear of the package exclusion. -/
section
open Go.RowKit

theorem clrS_length (O : FOps) (v : List Int) (i : Nat) (r : List Int) (h : r.length = v.length) : (clrS O v i r).length = v.length := by
  unfold clrS; split <;> simp [h]
theorem nth_clrS (O : FOps) (v : List Int) (i : Nat) (r : List Int) (j : Nat) (h : r.length = v.length) (hj : j < v.length) (h0 : nth v i ≠ 0) :
    nth (clrS O v i r) j = if nth r j = 0 then nth v j else O.add (nth v j) (O.neg (O.mul (nth v i) (nth r j))) := by
  unfold clrS
  rw [if_neg h0, nth_getElem (show j < _ by simp [h]; omega), nth_getElem hj, nth_getElem (show j < r.length by omega)]
  simp
theorem clrS_el {O : FOps} {El : Int → Prop} (hO : FCl O El) {v r : List Int} {i : Nat} (hv : ∀ x ∈ v, El x) (hr : ∀ x ∈ r, El x) (hl : r.length = v.length) (hi : i < v.length) : ∀ x ∈ clrS O v i r, El x := by
  intro x hx
  by_cases h0 : nth v i = 0
  · unfold clrS at hx; rw [if_pos h0] at hx; exact hv x hx
  · obtain ⟨j, hj, rfl⟩ := List.mem_iff_getElem.1 hx
    rw [clrS_length O v i r hl] at hj
    have h1 := nth_clrS O v i r j hl hj h0
    rw [nth_getElem (show j < (clrS O v i r).length by rw [clrS_length O v i r hl]; exact hj)] at h1
    rw [h1]
    have e1 : El (nth v j) := hv _ (nth_mem hj)
    have e2 : El (nth r j) := hr _ (nth_mem (by omega))
    have e3 : El (nth v i) := hv _ (nth_mem hi)
    split
    · exact e1
    · exact hO.add _ _ e1 (hO.neg _ (hO.mul _ _ e3 e2))

variable {w : World} {b : Nat} {G : Tbl}

set_option maxRecDepth 100000 in
set_option maxHeartbeats 4000000 in
theorem exClear_any (w0 : World) (pb : Nat) (av : Option Addr) (cv n : Nat) (v : List Int) (i : Nat) (au : Option Addr) (cu : Nat) (u : List Int) (h : GFw w0 b G) (hb : Below w0.heap.size w0 w)
    (p0 : w0.cell? ⟨pb, 0, none⟩ = some (.pointer (some ⟨b, 0, none⟩)))
    (hv : w.ownsRow w0.heap.size 3 1 (.slice av n cv) n (v.map (Value.int .i64))) (hu : Ints w au n u) (hap : av = none ∨ au = none ∨ ablk au ≠ ablk av)
    (hve : ∀ x ∈ v, G.El x) (hue : ∀ x ∈ u, G.El x) (hin : i < n) :
    Calls Tryz.prog 210 #[.pointer (some ⟨pb, 0, none⟩), .slice av n cv, .int .i64 i, .slice au n cu] w
      fun e w' => e = .returned (.tuple #[]) ∧ w'.ownsRow w0.heap.size 3 1 (.slice av n cv) n ((clrS G.ops v i u).map (Value.int .i64)) ∧ Only av w w' := by
  have hul := hu.len
  have hvl : v.length = n := by simpa using own_len hv
  have hmax := hu.max
  unfold maxLen at hmax
  have hpu := hu.pl
  obtain ⟨iv0, mv0⟩ := Ints.own hv
  have hpv := iv0.pl
  have ci := iv0.cell i hin
  have hav : 0 < n → av ≠ none := fun hn e => by have := hpv hn; rw [e] at this; cases this
  have hxe : G.El (nth v i) := hve _ (nth_mem (by omega))
  have Hul := Lib.hid hul
  have Hvl := Lib.hid hvl
  have Hav := Lib.hid hav
  have Hve := Lib.hid hve
  have Hue := Lib.hid hue
  have HP := Lib.hid (fun (V : World) (hV : Below w0.heap.size w0 V) => cell_keep hV p0)
  clear hav hve hue
  by_cases hx : nth v i = 0
  · have Hn : Hid (clrS G.ops v i u = v) := by show _ = _; rw [clrS, if_pos hx]
    have hx' : (nth v i != 0) = false := by simpa using hx
    clear hx hul hvl
    go_enter Tryz.func210, Tryz.ntmps210
    go_wp2_with fail
    go_end0
    exact ⟨rfl, by rw [Hn.out]; exact hv, Only.refl _ _⟩
  have hx' : (nth v i != 0) = true := by simpa using hx
  have Hnl := Lib.hid (clrS_length G.ops v i u (by omega))
  have Hnth := Lib.hid (fun j hj => nth_clrS G.ops v i u j (by omega) hj hx)
  clear hx hul hvl
  generalize clrS G.ops v i u = N at *
  go_enter Tryz.func210, Tryz.ntmps210
  go_wp2_with fail
  generalize nth v i = x at *
  go_loopw [19] (fun iv wr => ∃ k : Nat, k ≤ n ∧ iv = .int .i64 k ∧ wr.ownsRow w0.heap.size 3 1 (.slice av n cv) n ((mixTo N v k).map (Value.int .i64)) ∧ Only av w wr) (fun iv _ => n - (intOf iv).toNat)
  case atStart => exact ⟨0, Nat.zero_le _, rfl, by rw [mixTo_zero]; exact hv, Only.refl _ _⟩
  case round =>
    obtain ⟨k, hk, rfl, hown, honly⟩ := hrel
    by_cases hlt : k < n
    · have hiu := honly.ints hu hap
      have cu1 := hiu.cell k hlt
      have hkN : N.length = v.length := Hnl.out
      have hkv : k < v.length := by rw [Hvl.out]; exact hlt
      have hval := Hnth.out k hkv
      have hmix := nth_mixTo N v k k hkN (by omega)
      rw [if_neg (by omega)] at hmix
      by_cases hz : nth u k = 0
      · rw [if_pos hz] at hval
        have hsame := mixTo_same N v k hkN hkv hval
        have Hsame := Lib.hid hsame
        have hz' : (nth u k != 0) = false := by simpa using hz
        clear hval hmix hsame hkN hkv hz
        go_wp2_with fail
        go_roundw
        case rel => exact ⟨k + 1, by omega, by go_num, by rw [Hsame.out]; exact hown, honly⟩
        case measure => simp [intOf] <;> omega
      · rw [if_neg hz] at hval
        have hset := mixTo_set N v k hkN hkv
        obtain ⟨hiv, hmv⟩ := Ints.own hown
        have cv1 := hiv.cell k hlt
        have fv1 := (hmv (by omega)).2 k hlt
        rw [hmix] at cv1
        have elv : G.El (nth v k) := Hve.out _ (nth_mem hkv)
        have elu : G.El (nth u k) := Hue.out _ (nth_mem (by rw [Hul.out]; exact hlt))
        have hbr : Below w0.heap.size w0 wr := Below.trans hb (honly.below (fun ha => (own_ne hv ha).1) hb.size)
        have p0r := HP.out wr hbr
        have hGr : GFw wr b G := h.keep hbr
        have elm : ∀ x y, G.El (G.mul x y) := fun x y => Tbl.mul_el h x y
        have HG : Hid (GFw wr.drew b G ∧ ∀ n, GFw (wr.drewN n) b G) := ⟨hGr.keep (Below.refl _ _).drew, fun n => hGr.drewN n⟩
        rw [hval] at hset
        have Hset := Lib.hid hset
        have hz' : (nth u k != 0) = true := by simpa using hz
        clear hval hmix hset hkN hkv hz
        go_wp2_with fail
        go_region_law ((first
          | (go_simp; go_at_call 151; ((with_reducible refine (gMul x (nth u k) HG.out.1 hxe elu).mono ?_); rintro e w4 ⟨m4, rfl, rfl⟩))
          | (go_simp; go_at_call 151; ((with_reducible refine (gMul x (nth u k) (HG.out.2 _) hxe elu).mono ?_); rintro e w4 ⟨m4, rfl, rfl⟩))
          | (go_simp; go_at_call 181; ((with_reducible refine (gSub (nth v k) (G.mul x (nth u k)) (HG.out.2 _) elv (elm _ _)).mono ?_); rintro e w4 ⟨m5, rfl, rfl⟩))))
        all_goals (
          go_wp2_with fail
          go_roundw
          case rel =>
            have hdr : Drawn wr (wr.drewN (1 + m4 + m5)) := ⟨_, rfl⟩
            refine ⟨k + 1, by omega, by go_num, ?_, honly.trans ((Only.drawn hdr).trans (Only.set _ k _ (Hav.out (by omega))))⟩
            have h1 := own_set (w := wr.drewN (1 + m4 + m5)) hown k hlt (.int .i64 (G.sub (nth v k) (G.mul x (nth u k))))
            rw [← List.map_set, show G.sub (nth v k) (G.mul x (nth u k)) = G.ops.add (nth v k) (G.ops.neg (G.ops.mul x (nth u k))) from rfl, Hset.out] at h1
            exact h1
          case measure => simp [intOf] <;> omega)
    · obtain rfl : k = n := by omega
      rw [mixTo_all N v k (by rw [Hnl.out, Hvl.out]) Hvl.out] at hown
      go_wp2_with fail
      go_end0
      exact ⟨rfl, hown, honly⟩
end

/- Plain: the shapes in light of the package exclusion. -/
section
open Go.RowKit

theorem clrTo_length (O : FOps) (t i : Nat) (L : List (List Int)) : ∀ l, (clrTo O t i L l).length = L.length
  | 0 => rfl
  | l + 1 => by
    rw [clrTo]
    split
    · rw [List.length_set]; exact clrTo_length O t i L l
    · exact clrTo_length O t i L l
theorem lgtPiv_length (O : FOps) (L : List (List Int)) (t k i : Nat) : (lgtPiv O L t k i).length = L.length := by
  unfold lgtPiv; rw [clrTo_length, List.length_set, swapRow_length]
theorem Rws.clr {O : FOps} {El : Int → Prop} {m : Nat} (hO : FCl O El) {L : List (List Int)} {t i : Nat} (hL : Rws El m L) (ht : t < L.length) (hi : i < m) : ∀ l, l ≤ L.length → Rws El m (clrTo O t i L l)
  | 0, _ => hL
  | l + 1, hl => by
    have ih := Rws.clr hO hL ht hi l (by omega)
    rw [clrTo]
    split
    · have h1 := ih.row (i := l) (by rw [clrTo_length]; omega)
      have h2 := ih.row (i := t) (by rw [clrTo_length]; omega)
      exact ih.set l ⟨by rw [clrS_length _ _ _ _ (by rw [h1.1, h2.1])]; exact h1.1, clrS_el hO h1.2 h2.2 (by rw [h1.1, h2.1]) (by rw [h1.1]; exact hi)⟩
    · exact ih
theorem cntTo_le (s v : List Int) : ∀ k, cntTo s v k ≤ k
  | 0 => Nat.le_refl _
  | k + 1 => by
    have := cntTo_le s v k
    rw [cntTo]; split <;> omega

variable {w : World} {b : Nat} {G : Tbl}

/-- clear on a row, by another one -/
theorem exClearRow (w0 : World) (pb : Nat) (a : Option Addr) (n c : Nat) (R : List (Option Addr × Nat)) (L : List (List Int)) (m i l t : Nat) (hO : OMat w w0.heap.size a n c R L)
    (h : GFw w0 b G) (hb : Below w0.heap.size w0 w) (p0 : w0.cell? ⟨pb, 0, none⟩ = some (.pointer (some ⟨b, 0, none⟩))) (hl : l < n) (ht : t < n) (hlt : l ≠ t) (hi : i < m) (hR : Rws G.El m L) (V : World) (hd : Drawn w V) :
    Calls Tryz.prog 210 #[.pointer (some ⟨pb, 0, none⟩), .slice (nthA R l).1 m (nthA R l).2, .int .i64 i, .slice (nthA R t).1 m (nthA R t).2] V
      fun e w' => e = .returned (.tuple #[]) ∧ (w'.cell? ⟨ablk a, aoff a + l, none⟩ = some (.slice (nthA R l).1 m (nthA R l).2) ∧ w'.cell? ⟨ablk a, aoff a + t, none⟩ = some (.slice (nthA R t).1 m (nthA R t).2)) ∧
        OMat w' w0.heap.size a n c R (L.set l (clrS G.ops (nthR L l) i (nthR L t))) ∧ Moves w w' (OIn a R) (OIn a R) := by
  have rl := hR.row (i := l) (by rw [hO.ll]; exact hl)
  have rt := hR.row (i := t) (by rw [hO.ll]; exact ht)
  have cl := hO.cell hl
  have ct := hO.cell ht
  have ol := hO.row l hl
  have it := hO.ints ht
  rw [rl.1] at cl ol
  rw [rt.1] at ct it
  have hap : (nthA R l).1 = none ∨ (nthA R t).1 = none ∨ ablk (nthA R t).1 ≠ ablk (nthA R l).1 := hO.sep l t hl ht hlt
  refine (exClear_any w0 pb _ _ m (nthR L l) i _ _ (nthR L t) h (hd.below' hb) p0 (own_keep ol hd.below) (it.keep hd.below) hap rl.2 rt.2 hi).mono ?_
  rintro e w' ⟨rfl, hown, honly⟩
  have hmv : Moves w w' (OIn a R) (OIn a R) := (Moves.of_below hd.below _).trans (honly.moves (fun hn => OMat.inRow (by rw [hO.rl]; exact hl) hn))
  have hne2 : ¬ ((nthA R l).1 ≠ none ∧ ablk a = ablk (nthA R l).1) := by
    rintro ⟨h1, h2⟩
    rcases hO.apt l hl with h3 | h3
    · exact h1 h3
    · exact h3 h2.symm
  refine ⟨rfl, ⟨Moves.cell (Moves.trans (Moves.of_below hd.below _) honly) cl hne2, Moves.cell (Moves.trans (Moves.of_below hd.below _) honly) ct hne2⟩, ?_, hmv⟩
  have hOr := hO.keep hd.below
  have hll : (clrS G.ops (nthR L l) i (nthR L t)).length = (nthR L l).length := clrS_length _ _ _ _ (by rw [rl.1, rt.1])
  refine hOr.rowTo hl hll (by rw [rl.1]; exact hown) fun b hb hne => honly.block b hb fun ⟨h1, h2⟩ => ?_
  rcases hne with h3 | h3
  · exact h1 h3
  · exact h3 h2
/-- a row replaced by a new one -/
theorem exScaleRow (w0 V : World) (a : Option Addr) (n c : Nat) (R : List (Option Addr × Nat)) (L : List (List Int)) (t m : Nat) (r : List Int) (hO : OMat w w0.heap.size a n c R L) (hb : Below w0.heap.size w0 w) (ht : t < n) (hr : r.length = m)
    (hV : Below w.heap.size w V) {a4 : Option Addr} {c4 : Nat} (hown : V.ownsRow w.heap.size 3 1 (.slice a4 m c4) m (r.map (Value.int .i64))) :
    ∃ R', OMat (V.setCell ⟨ablk a, aoff a + t, none⟩ (.slice a4 m c4)) w0.heap.size a n c R' (L.set t r) ∧ Moves w (V.setCell ⟨ablk a, aoff a + t, none⟩ (.slice a4 m c4)) (OIn a R) (OIn a R') := by
  subst hr
  have hO4 := hO.keep hV
  have hnew : ∀ b, b < w.heap.size → Apt a4 b := fun b hb => own_apt hown hb
  have h1 := hO4.setRow ht (own_mono hown hb.size) (hnew _ (hO.lt _ (.inl ⟨hO.ne (by omega), rfl⟩)).2) (fun j hj _ => by
    by_cases hn : (nthA R j).1 = none
    · exact .inl hn
    · exact .inr (hnew _ (hO.lt _ (OMat.inRow (by rw [hO.rl]; exact hj) hn)).2))
  have h2 := hO.setRow_moves' hV ht (r := a4) (rc := c4) (.slice a4 r.length c4) (fun ha => .inr (own_ne hown ha).1)
  exact ⟨_, h1, h2⟩
end

/- Plain: the shapes along light of the package exclusion. -/
section
open Go.RowKit

theorem flip_top {L : List (List Int)} {t q i : Nat} (ht : t < L.length) (hq : q < L.length) (hz : nth (nthR L q) i ≠ 0) : nth (nthR (swapRow L t q) t) i ≠ 0 := by
  rw [nthR_swap _ _ _ _ ht hq, flipN]
  by_cases e : t = q
  · rw [if_pos e, e]; exact hz
  · rw [if_neg e, if_pos rfl]; exact hz
theorem find_lt {L : List (List Int)} {i t : Nat} (ht : t ≤ L.length) (h : findRow L i t ≠ L.length) : t ≤ findRow L i t ∧ findRow L i t < L.length ∧ nth (nthR L (findRow L i t)) i ≠ 0 := by
  have h1 := findRow_bd (c := i) ht
  refine ⟨h1.1, by omega, ?_⟩
  unfold findRow
  refine findTo_stop L i _ _ ?_
  have : findRow L i t < L.length := by omega
  unfold findRow at this
  omega
theorem lgtPiv_rws {O : FOps} {El : Int → Prop} {m : Nat} (hO : FCl O El) {L : List (List Int)} (hL : Rws El m L) {t q i : Nat} (ht : t < L.length) (hq : q < L.length) (hi : i < m) (hz : nth (nthR L q) i ≠ 0) : Rws El m (lgtPiv O L t q i) := by
  unfold lgtPiv
  have hs := hL.swap ht hq
  have hr := hs.row (i := t) (by rw [swapRow_length]; exact ht)
  have hn := flip_top ht hq hz
  refine Rws.clr hO (hs.set t ⟨by rw [List.length_map]; exact hr.1, fun x hx => ?_⟩) (by rw [List.length_set, swapRow_length]; exact ht) hi _ (by rw [List.length_set, swapRow_length]; exact Nat.le_refl _)
  obtain ⟨x0, hx0, rfl⟩ := List.mem_map.1 hx
  exact hO.mul _ _ (hO.inv _ (hr.2 _ (nth_mem (by rw [hr.1]; exact hi))) hn) (hr.2 _ hx0)
theorem lgt_ok {O : FOps} {El : Int → Prop} {m : Nat} (hO : FCl O El) {L : List (List Int)} (hL : Rws El m L) {y t : List Int} (hy : y.length = m ∧ ∀ x ∈ y, El x) (hT : ∀ j, j < t.length → (nth t j).toNat < m) :
    ∀ k, k ≤ t.length → Rws El m (lgtTo O L y t k).rows ∧ ((lgtTo O L y t k).sum.length = m ∧ ∀ x ∈ (lgtTo O L y t k).sum, El x) ∧ (lgtTo O L y t k).top ≤ (lgtTo O L y t k).rows.length
  | 0, _ => ⟨hL, hy, Nat.zero_le _⟩
  | k + 1, hk => by
    obtain ⟨h1, h2, h3⟩ := lgt_ok hO hL hy hT k (by omega)
    have hi := hT k (by omega)
    rw [lgtTo, lgtStep]
    generalize lgtTo O L y t k = st at *
    split
    · exact ⟨h1, h2, h3⟩
    · rename_i hne
      obtain ⟨a1, a2, a3⟩ := find_lt h3 hne
      have hp := lgtPiv_rws hO h1 (t := st.top) (by omega) a2 hi a3
      have hr := hp.row (i := st.top) (by rw [lgtPiv_length]; omega)
      refine ⟨hp, ⟨?_, ?_⟩, ?_⟩
      · dsimp only
        rw [clrS_length _ _ _ _ (by rw [hr.1, h2.1])]; exact h2.1
      · exact clrS_el hO h2.2 hr.2 (by rw [hr.1, h2.1]) (by rw [h2.1]; exact hi)
      · dsimp only
        rw [lgtPiv_length]; omega
end

/- The walk of matrix.Columns, at positions in range. -/
section
open Go.RowKit
end

/- The walk of matrix.Mul, at matrices that fit. -/
section
open Go.RowKit
end

/- The walk of infoset.Systematic. -/
section
open Go.RowKit
end

/- Information sets are bases (plain laws): greedy sets are information sets, and exchanges exist. -/
section
section
variable {O : FOps} {El : Int → Prop} {m : Nat} {L : List (List Int)}
theorem rkQ_out (F : Fld O El) (hL : Rws El m L) {Q : List Int} {x : Int} (h : ¬ clV O El L.length (colS L) (gA Q) x.toNat) : rkQ O L (Q ++ [x]) = rkQ O L Q + 1 := by
  have h1 := rkQ_rk F hL (Q ++ [x])
  rw [gA_snoc] at h1
  exact h1.uniq (Rk.ind _ h (rkQ_rk F hL Q))
end
/-- a code's rows are independent -/
theorem code_full {P M : Int} {mod : List Int} {m : Nat} {L : List (List Int)} (hE : codeE P M mod m L = 0) : Rk (clV (tblOf P M.toNat mod).ops (tblOf P M.toNat mod).El L.length (colS L)) (List.range m) L.length := by
  obtain ⟨N', e, hm1, hm64, F, hR⟩ := codeE_fld hE
  obtain rfl : m = N' := by omega
  have h6 := (spaceE_zero (codeE_zero hE).2.2.2).2
  rw [Int.toNat_natCast] at h6
  have hcan : canO (tblOf P M.toNat mod).ops m L = L := h6
  have h := canO_rk F hR
  rwa [hcan] at h
/-- all positions, in some order -/
def PermN (m : Nat) (Q : List Int) : Prop := Q.Perm ((List.range m).map Int.ofNat)
theorem PermN.mem {m : Nat} {Q : List Int} (h : PermN m Q) {x : Int} : x ∈ Q ↔ ∃ j : Nat, j < m ∧ x = j := by
  rw [h.mem_iff, List.mem_map]
  constructor
  · rintro ⟨j, hj, rfl⟩; exact ⟨j, List.mem_range.1 hj, rfl⟩
  · rintro ⟨j, hj, rfl⟩; exact ⟨j, List.mem_range.2 hj, rfl⟩
theorem PermN.len {m : Nat} {Q : List Int} (h : PermN m Q) : Q.length = m := by rw [h.length_eq]; simp
theorem PermN.nodup {m : Nat} {Q : List Int} (h : PermN m Q) : Q.Nodup := by
  refine h.nodup_iff.2 ?_
  rw [List.nodup_iff_pairwise_ne, List.pairwise_map]
  exact List.nodup_range.imp fun h e => h (Int.ofNat.inj e)
theorem PermN.inN {m : Nat} {Q : List Int} (h : PermN m Q) : InN m Q := fun j hj => by
  obtain ⟨i, hi, e⟩ := h.mem.1 (nth_mem hj)
  omega
section
variable {P M : Int} {mod : List Int} {m : Nat} {L : List (List Int)}
end
end

/- Canonical rows are determined by their row space; the systematic matrix (plain laws). -/
section
section
variable {O : FOps} {El : Int → Prop} {m : Nat}
theorem Piv.lessT (F : Fld O El) {L : List (List Int)} {P : List Int} {c : Nat} (h : Piv L P c) (hL : Rws El m L) {v : List Int} (hv : Vc El L.length v) {φ : List Int → Int} (hφ : Lin O El L.length φ)
    {t : Nat} (ht : t ≤ P.length) (h0 : ∀ j, j < t → φ (colS L (nth P j).toNat) = 0) : ∀ k, k ≤ t → Vc El L.length (lessTo O L P v k) ∧ φ (lessTo O L P v k) = φ v ∧ ∀ i, i < L.length → nth (lessTo O L P v k) i = if i < k then 0 else nth v i
  | 0, _ => ⟨hv, rfl, fun i _ => by rw [if_neg (by omega)]; rfl⟩
  | k + 1, hk => by
    obtain ⟨h1, h2, h3⟩ := h.lessT F hL hv hφ ht h0 k (by omega)
    have hle := h.le
    have hcol := colS_vc hL F.zero (nth P k).toNat
    have hx := h1.at (i := k) (by omega)
    refine ⟨h1.sub F hcol hx, ?_, fun i hi => ?_⟩
    · rw [lessTo, hφ.sub _ _ _ h1 hcol hx, h0 k (by omega), F.mzero hx, F.nzero, F.add_zero _ (hφ.el _ h1), h2]
    · rw [lessTo, nth_subRow O _ _ _ i (by rw [hcol.1, h1.1]) (by rw [h1.1]; exact hi), nth_colS L _ i hi, h.one k i (by omega) hi]
      by_cases e : i = k
      · subst e
        rw [if_pos rfl, F.mone hx, F.add_neg _ hx, if_pos (by omega)]
      · rw [if_neg e, F.mzero hx, F.nzero, F.add_zero _ (h1.at hi), h3 i hi]
        by_cases e2 : i < k
        · rw [if_pos e2, if_pos (by omega)]
        · rw [if_neg e2, if_neg (by omega)]
/-- a form is the combination of its values at the unit vectors -/
theorem unitR_vc (F : Fld O El) (n k : Nat) : Vc El n (unitR n k) := by
  refine ⟨unitR_len n k, fun x hx => ?_⟩
  unfold unitR at hx
  rcases List.mem_or_eq_of_mem_set hx with hx | rfl
  · rw [List.eq_of_mem_replicate hx]; exact F.zero
  · exact F.one
theorem nth_unitR {n k i : Nat} (hk : k < n) : nth (unitR n k) i = if i = k then 1 else 0 := by
  unfold unitR
  rw [nth_set _ _ _ _ (by simpa using hk)]
  split
  · rfl
  · unfold nth
    simp only [List.getD_eq_getElem?_getD, List.getElem?_replicate]
    split <;> rfl
def cutTo (O : FOps) (n : Nat) (v : List Int) : Nat → List Int
  | 0 => v
  | k + 1 => subRow O (cutTo O n v k) (nth v k) (unitR n k)
theorem cut_form (F : Fld O El) {n : Nat} {φ : List Int → Int} (hφ : Lin O El n φ) {v : List Int} (hv : Vc El n v) : ∀ k, k ≤ n → Vc El n (cutTo O n v k) ∧ (∀ i, i < n → nth (cutTo O n v k) i = if i < k then 0 else nth v i) ∧
    O.add (φ (cutTo O n v k)) (dotN O (fun t => φ (unitR n t)) (fun t => nth v t) k) = φ v
  | 0, _ => ⟨hv, fun i _ => by rw [if_neg (by omega)]; rfl, by rw [dotN]; exact F.add_zero _ (hφ.el _ hv)⟩
  | k + 1, hk => by
    obtain ⟨h1, h2, h3⟩ := cut_form F hφ hv k (by omega)
    have hu := unitR_vc F n k
    have hx := hv.at (i := k) (by omega)
    refine ⟨h1.sub F hu hx, fun i hi => ?_, ?_⟩
    · rw [cutTo, nth_subRow O _ _ _ i (by rw [hu.1, h1.1]) (by rw [h1.1]; exact hi), nth_unitR (by omega), h2 i hi]
      by_cases e : i = k
      · subst e
        rw [if_pos rfl, if_neg (by omega), F.mone hx, F.add_neg _ hx, if_pos (by omega)]
      · rw [if_neg e, F.mzero hx, F.nzero]
        by_cases e2 : i < k
        · rw [if_pos e2, if_pos (by omega), F.add_zero _ F.zero]
        · rw [if_neg e2, if_neg (by omega), F.add_zero _ (hv.at hi)]
    · have hm := F.cl.mul _ _ hx (hφ.el _ hu)
      have hd := dotN_el F (a := fun t => φ (unitR n t)) (b := fun t => nth v t) k (fun p _ => hφ.el _ (unitR_vc F n p)) (fun p hp => hv.at (by omega))
      rw [cutTo, hφ.sub _ _ _ h1 hu hx, dotN, F.mul_comm _ _ (hφ.el _ hu) hx, F.add4 (hφ.el _ h1) (F.cl.neg _ hm) hd hm, F.negadd hm, F.add_zero _ (F.cl.add _ _ (hφ.el _ h1) hd), h3]
theorem form_unit (F : Fld O El) {n : Nat} {φ : List Int → Int} (hφ : Lin O El n φ) {v : List Int} (hv : Vc El n v) : φ v = dotN O (fun t => φ (unitR n t)) (fun t => nth v t) n := by
  obtain ⟨h1, h2, h3⟩ := cut_form F hφ hv n (Nat.le_refl _)
  rw [← h3, hφ.zero F h1 fun i hi => by rw [h2 i hi, if_pos hi], F.zadd (dotN_el F n (fun p _ => hφ.el _ (unitR_vc F n p)) (fun p hp => hv.at hp))]
theorem cmb_dot (F : Fld O El) {L : List (List Int)} (hL : Rws El m L) {x : List Int} (hx : ∀ k, k < L.length → El (nth x k)) {y : Nat} (hy : y < m) : ∀ k, k ≤ L.length → nth (cmbTo O m x L k) y = dotN O (fun t => nth x t) (fun t => nth (nthR L t) y) k
  | 0, _ => by
    rw [cmbTo, dotN]
    unfold nth
    simp only [List.getD_eq_getElem?_getD, List.getElem?_replicate]
    split <;> rfl
  | k + 1, hk => by
    have ih := cmb_dot F hL hx hy k (by omega)
    obtain ⟨h1, _⟩ := cmb_rs F hL hx k (by omega)
    have hr := hL.row (i := k) (by omega)
    have hd := dotN_el F (a := fun t => nth x t) (b := fun t => nth (nthR L t) y) k (fun p hp => hx p (by omega)) (fun p hp => Vc.at (hL.row (i := p) (by omega)) hy)
    rw [cmbTo, dotN]
    split
    · rename_i e0
      rw [ih, e0, F.zmul (Vc.at hr hy), F.add_zero _ hd]
    · rw [nth_addRow O _ _ _ y (by rw [hr.1, h1.1]) (by rw [h1.1]; exact hy), ih]
      split
      · rename_i e1
        show _ = O.add _ (O.mul (nth x k) (nth (nthR L k) y))
        rw [e1, F.mzero (hx k (by omega)), F.add_zero _ hd]
      · rfl
end
section
variable {P M : Int} {mod : List Int} {m : Nat} {L : List (List Int)}
end
end

/- The walk of infoset.Floor. -/
section
open Go.RowKit
end

/- The family of a code (plain laws): its members are information sets with new positions, the positions left are zero columns, and the bound for the weight. -/
section
section
variable {O : FOps} {El : Int → Prop} {m : Nat} {L : List (List Int)}
end
/-- weights -/
def wtL (x : List Int) : Nat := x.countP fun y => decide (y ≠ 0)
end

end Go.Proofs.YtapjcccpokhhhaaGreat
