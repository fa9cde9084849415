/- The walks of Word of layer 12 and of coset of the reference's exclusion. -/
import Derived.Test.YtapjcccpokhhhaaGreatK24
import Derived.Test.YtapjcccpokhhhaaGreatK32
import Derived.Test.YtapjcccpokhhhaaGreatK30
import Derived.Test.YtapjcccpokhhhaaGreatK31
import Derived.Test.YtapjcccpokhhhaaGreatK23
namespace Go.Proofs.YtapjcccpokhhhaaGreat
set_option linter.unusedVariables false
set_option linter.unusedSimpArgs false
set_option linter.unusedSectionVars false

/- The walk of right of the reference's exclusion, for coset claims. -/
section
open Go.RowKit

set_option maxRecDepth 100000 in
set_option maxHeartbeats 3200000 in
theorem rRight26C_any (P M : Int) (am : Option Addr) (mn cm : Nat) (mod : List Int) (m : Nat) (a : Option Addr) (n c : Nat) (L : List (List Int)) (ay : Option Addr) (ny cy : Nat) (C : Clm) (sa : Option Addr) (ns cs : Nat) (s : List Int) (at' : Option Addr) (nt ct : Nat) (t : List Int) (w : World)
    (hmod : Ints w am mn mod) (hi : Mat w a n L) (hE : codeE P M mod m L = 0) (hc : C.cos = true) (hny : ny = m) (hy : Ints w ay ny C.y) (hyv : Vc (tblOf P M.toNat mod).El m C.y) (hns : ns ≤ 64) (hs : Ints w sa ns s) (ht : Ints w at' nt t) :
    Calls Tryz.prog 103 #[rclV P M am mn cm m a n c ay ny cy C, .slice sa ns cs, .slice at' nt ct] w fun e w' => e = .returned (.bool (rightS (tblOf P M.toNat mod).ops L m C s t)) ∧ Below w.heap.size w w' := by
  have Htl := Lib.hid ht.len
  have hplt := ht.pl
  have hmax := ht.max
  unfold maxLen at hmax
  obtain ⟨RS, hRS⟩ : ∃ RS, rightS (tblOf P M.toNat mod).ops L m C s t = RS := ⟨_, rfl⟩
  rw [hRS]
  have HRS : Hid (RS = (setOk m s t && (decide ((grS (tblOf P M.toNat mod).ops L t).length = t.length) && (decide ((grS (tblOf P M.toNat mod).ops L (frTo false s m)).length = t.length) && decide (C.W < s.length + lightS (tblOf P M.toNat mod).ops L C.y s t))))) := by
    show _ = _
    rw [← hRS, rightS, hc]
    simp only [if_true]
  have Hm := Lib.hid (codeE_rws hE)
  have Hny := Lib.hid hny
  unfold rclV
  rw [hc]
  clear hny
  clear hRS hc
  go_enter Tryz.func103, Tryz.ntmps103
  go_wp2_with fail
  obtain ⟨U, hU⟩ : ∃ U : World, U = w.alloc (.cells #[.int .i64 P, .int .i64 M, .slice am mn cm, .int .i64 m, .slice a n c, .int .i64 C.M, .int .i64 C.W, .slice ay ny cy, .bool true] 89) := ⟨_, rfl⟩
  rw [← hU]
  have hbU : Below w.heap.size w U := by rw [hU]; exact below1 _ _
  have x0 : Box U w.heap.size [.int .i64 P, .int .i64 M, .slice am mn cm, .int .i64 m, .slice a n c, .int .i64 C.M, .int .i64 C.W, .slice ay ny cy, .bool true] := by rw [hU]; exact Box.new _ _ _ rfl
  have HS : Hid (∀ V, Below U.heap.size U V → V.cell? ⟨w.heap.size, 0, none⟩ = some (.int .i64 P) ∧ V.cell? ⟨w.heap.size, 1, none⟩ = some (.int .i64 M) ∧ V.cell? ⟨w.heap.size, 2, none⟩ = some (.slice am mn cm) ∧ V.cell? ⟨w.heap.size, 3, none⟩ = some (.int .i64 m) ∧ V.cell? ⟨w.heap.size, 4, none⟩ = some (.slice a n c) ∧
      V.cell? ⟨w.heap.size, 5, none⟩ = some (.int .i64 C.M) ∧ V.cell? ⟨w.heap.size, 6, none⟩ = some (.int .i64 C.W) ∧ V.cell? ⟨w.heap.size, 7, none⟩ = some (.slice ay ny cy) ∧ V.cell? ⟨w.heap.size, 8, none⟩ = some (.bool true)) := fun V hV => by
    have x1 := x0.keep hV
    exact ⟨x1.cell 0 rfl, x1.cell 1 rfl, x1.cell 2 rfl, x1.cell 3 rfl, x1.cell 4 rfl, x1.cell 5 rfl, x1.cell 6 rfl, x1.cell 7 rfl, x1.cell 8 rfl⟩
  clear hU x0
  refine (rising_any m at' nt ct t U (ht.keep hbU)).mono ?_
  rintro e w1 ⟨rfl, hd1⟩
  have hb1 : Below U.heap.size U w1 := hd1.below
  have hbw1 := Below.next hbU hb1
  obtain ⟨zo, hzo⟩ : ∃ zo, okSet m t = zo := ⟨_, rfl⟩
  rw [hzo]
  cases zo
  · have HF : Hid (RS = false) := by show _ = _; rw [HRS.out, setOk, hzo]; rfl
    clear hzo
    go_wp2_with fail
    go_ret
    exact ⟨by rw [HF.out]; rfl, hbw1⟩
  have Hok := Lib.hid hzo
  clear hzo
  have ht1 := ht.keep hbw1
  have hs1 := hs.keep hbw1
  go_wp2_with fail
  go_loop [7] (fun iv => ∃ k : Nat, k ≤ nt ∧ iv = .int .i64 k ∧ Hid (∀ j, j < k → ¬ nth t j ∈ s)) (fun iv => nt - (intOf iv).toNat)
  case atStart => exact ⟨0, Nat.zero_le _, rfl, fun j hj => by omega⟩
  case round =>
    obtain ⟨k, hk, rfl, hno⟩ := hrel
    generalize w1 = wr at *
    by_cases hlt : k < nt
    · have ck := ht1.cell k hlt
      have HI := Lib.hid (rIn26_any sa ns cs s (nth t k) wr hs1)
      by_cases hm1 : nth t k ∈ s
      · have hmd : decide (nth t k ∈ s) = true := by simpa using hm1
        rw [hmd] at HI
        have HF : Hid (RS = false) := by
          show _ = _
          have h1 : t.all (fun x => decide (¬ x ∈ s)) = false := by
            rw [List.all_eq_false]
            exact ⟨nth t k, nth_mem (by rw [Htl.out]; exact hlt), by simpa using hm1⟩
          rw [HRS.out, setOk, h1, Bool.and_false]; rfl
        clear hm1 hmd
        go_wp2_with fail
        refine HI.out.mono ?_
        rintro e w6 ⟨rfl, rfl⟩
        go_wp2_with fail
        go_ret
        exact ⟨by rw [HF.out]; rfl, hbw1⟩
      · have hmd : decide (nth t k ∈ s) = false := by simpa using hm1
        rw [hmd] at HI
        have Hno2 : Hid (∀ j, j < k + 1 → ¬ nth t j ∈ s) := fun j hj => by
          by_cases e : j = k
          · rw [e]; exact hm1
          · exact hno.out j (by omega)
        clear hm1 hmd hno
        go_wp2_with fail
        refine HI.out.mono ?_
        rintro e w6 ⟨rfl, rfl⟩
        go_wp2_with fail
        go_round
        case rel => exact ⟨k + 1, by omega, by go_num, Hno2.out⟩
        case measure => simp [intOf] <;> omega
    · have hkn : k = nt := by omega
      subst hkn
      have hset : setOk m s t = true := by
        rw [setOk, Hok.out, Bool.true_and, List.all_eq_true]
        intro x hx
        obtain ⟨j, hj, rfl⟩ := List.mem_iff_getElem.1 hx
        have h1 := hno.out j (by rw [← Htl.out]; exact hj)
        rw [nth_getElem hj] at h1
        simpa using h1
      obtain ⟨m', hm', hm1, hm2, _, _⟩ := Hm.out
      have hklen : k ≤ 64 := by
        have h1 := okSet_len Hok.out (by omega)
        rw [Htl.out] at h1
        omega
      have HO := Lib.hid (rOf25_any P M am mn cm mod m a n c L at' k ct t wr (hmod.keep hbw1) (hi.keep hbw1) ht1 hE (set_in Hok.out) (by omega))
      have HR2 : Hid (RS = (decide ((grS (tblOf P M.toNat mod).ops L t).length = k) && (decide ((grS (tblOf P M.toNat mod).ops L (frTo false s m)).length = k) && decide (C.W < s.length + lightS (tblOf P M.toNat mod).ops L C.y s t)))) := by show _ = _; rw [HRS.out, hset, Bool.true_and, Htl.out]
      have hts : ∀ x ∈ t, ¬ x ∈ s := (setOk_ok hset).2
      have hT : InN m t := set_in Hok.out
      obtain ⟨m'', em, _, _, F, hR⟩ := codeE_fld hE
      obtain rfl : m = m'' := by omega
      have hsl := hs.len
      have HVn : Hid ((grS (tblOf P M.toNat mod).ops L t).length = k → ∀ V, Below w.heap.size w V → Calls Tryz.prog 157 #[.agg #[.int .i64 P, .int .i64 M, .slice am mn cm, .int .i64 m, .slice a n c], .slice ay m cy, .slice at' k ct] V fun e w' =>
          ∃ a1 c1, e = .returned (.slice a1 m c1) ∧ Ints w' a1 m (vanL (tblOf P M.toNat mod).ops m L C.y t) ∧ Below V.heap.size V w') := fun hk V hV =>
        rVanish_any P M am mn cm mod m a n c L ay cy C.y at' k ct t V (hmod.keep hV) (hi.keep hV) hE (by rw [← Hny.out]; exact hy.keep hV) (ht.keep hV) hyv hT (by rw [Htl.out]; exact hk) (by omega)
      have HLt : Hid ((grS (tblOf P M.toNat mod).ops L t).length = k → (grS (tblOf P M.toNat mod).ops L (frTo false s m)).length = k → lightS (tblOf P M.toNat mod).ops L C.y s t = wtL (pickL (frTo false s m) (vanL (tblOf P M.toNat mod).ops m L C.y t))) := fun h1 h2 => by
        obtain ⟨hcos, h0, _, _⟩ := van_cos F hR hyv hT (show rkQ (tblOf P M.toNat mod).ops L t = t.length by rw [Htl.out]; exact h1)
        rw [light_cnt F hR hyv hT (show rkQ (tblOf P M.toNat mod).ops L t = t.length by rw [Htl.out]; exact h1) (show rkQ (tblOf P M.toNat mod).ops L (frTo false s m) = t.length by rw [Htl.out]; exact h2) hts hcos h0, wt_pick]
      have hfin : InN m (frTo false s m) := fun j hj => by
        obtain ⟨i, hi', e, _⟩ := (mem_frTo m).1 (nth_mem hj)
        omega
      have hfl := frTo_len false s m
      obtain ⟨Fr, hFr⟩ : ∃ Fr, frTo false s m = Fr := ⟨_, rfl⟩
      rw [hFr] at HR2 HLt hfin hfl
      have HOt : Hid (∀ V, Below w.heap.size w V → Calls Tryz.prog 101 #[.slice sa ns cs, .int .i64 m] V fun e w' => ∃ a2 c2, e = .returned (.slice a2 Fr.length c2) ∧ Ints w' a2 Fr.length Fr ∧ Below V.heap.size V w') := fun V hV => by
        have h := rOthers10_any sa ns cs s m V (hs.keep hV) (by omega)
        rw [hFr] at h
        refine h.mono ?_
        rintro e w' ⟨a2, c2, rfl, ho, hbw⟩
        exact ⟨a2, c2, rfl, (Ints.own ho).1, hbw⟩
      have HOf2 : Hid (∀ V ao co, Below w.heap.size w V → Ints V ao Fr.length Fr → Calls Tryz.prog 122 #[.agg #[.int .i64 P, .int .i64 M, .slice am mn cm], .slice a n c, .slice ao Fr.length co] V fun e w' => e = .returned (.int .i64 (grS (tblOf P M.toNat mod).ops L Fr).length) ∧ Below V.heap.size V w') := fun V ao co hV ho =>
        rOf25_any P M am mn cm mod m a n c L ao Fr.length co Fr V (hmod.keep hV) (hi.keep hV) ho hE hfin (by omega)
      obtain ⟨r1, hr1⟩ : ∃ r1, (grS (tblOf P M.toNat mod).ops L t).length = r1 := ⟨_, rfl⟩
      obtain ⟨r2, hr2⟩ : ∃ r2, (grS (tblOf P M.toNat mod).ops L Fr).length = r2 := ⟨_, rfl⟩
      obtain ⟨lt, hlt2⟩ : ∃ lt, lightS (tblOf P M.toNat mod).ops L C.y s t = lt := ⟨_, rfl⟩
      obtain ⟨Vn, hVn⟩ : ∃ Vn, vanL (tblOf P M.toNat mod).ops m L C.y t = Vn := ⟨_, rfl⟩
      rw [hr1] at HO HR2 HVn HLt
      rw [hr2] at HR2 HOf2 HLt
      rw [hlt2] at HR2 HLt
      rw [hVn] at HVn HLt
      rw [hsl] at HR2
      obtain ⟨fl, hfle⟩ : ∃ fl, Fr.length = fl := ⟨_, rfl⟩
      rw [hfle] at HOt HOf2 hfl
      have Hfle := Lib.hid hfle
      have HPi : Hid (∀ V av cv ao co, Ints V av m Vn → Ints V ao fl Fr → Calls Tryz.prog 79 #[.slice av m cv, .slice ao fl co] V fun e w' => ∃ a1 c1, e = .returned (.slice a1 fl c1) ∧ Ints w' a1 fl (pickL Fr Vn) ∧ Below V.heap.size V w') := fun V av cv ao co h1 h2 => by
        refine (rPick_any av m cv Vn ao fl co Fr V h1 h2 hfin (by omega)).mono ?_
        rintro e w' ⟨a1, c1, rfl, ho, hb⟩
        have hpl : (pickL Fr Vn).length = fl := by simp [pickL, Hfle.out]
        rw [hpl] at ho ⊢
        exact ⟨a1, c1, rfl, (Ints.own ho).1, hb⟩
      have HWt : Hid (∀ V ao co, Ints V ao fl (pickL Fr Vn) → Calls Tryz.prog 44 #[.slice ao fl co] V fun e w' => e = .returned (.int .i64 (wtL (pickL Fr Vn))) ∧ w' = V) := fun V ao co h => rWeight25_any ao fl co _ V h
      have hwl : wtL (pickL Fr Vn) ≤ fl := by
        have h : wtL (pickL Fr Vn) ≤ (pickL Fr Vn).length := List.countP_le_length
        simpa [pickL, Hfle.out] using h
      obtain ⟨wt, hwt⟩ : ∃ wt, wtL (pickL Fr Vn) = wt := ⟨_, rfl⟩
      rw [hwt] at HLt HWt hwl
      obtain ⟨c0, c1, c2, c3, c4, c5, c6, c7, c8⟩ := HS.out wr hb1
      clear hset hr1 hr2 hlt2 hVn hfle hwt hFr hm' hm1 hm2 em F hR hT hts hfin hsl hmod hi hs ht hy hyv hs1 ht1
      go_wp2_with fail
      refine HO.out.mono ?_
      rintro e w2 ⟨rfl, hb2⟩
      have hb12 := Below.next hb1 hb2
      have hbF := Below.next hbU hb12
      clear c0 c1 c2 c3 c4 c5 c6 c7 c8 HO
      obtain ⟨c0, c1, c2, c3, c4, c5, c6, c7, c8⟩ := HS.out w2 hb12
      by_cases hrr : r1 = k
      rotate_left
      · have HF : Hid (RS = false) := by show _ = _; rw [HR2.out, decide_eq_false hrr]; rfl
        have hne : ((r1 : Int) != k) = true := by simp; omega
        clear hrr
        go_wp2_with fail
        go_ret
        exact ⟨by rw [HF.out]; rfl, hbF⟩
      have hne : ((r1 : Int) != k) = false := by simp [hrr]
      have HVn2 := Lib.hid (HVn.out hrr)
      have HLt2 := Lib.hid (HLt.out hrr)
      have Hot := Lib.hid (HOt.out w2 hbF)
      have HR3 : Hid (RS = (decide (r2 = k) && decide (C.W < ns + lt))) := by show _ = _; rw [HR2.out, decide_eq_true hrr, Bool.true_and]
      clear hrr HVn HLt HOt HR2
      go_wp2_with fail
      refine Hot.out.mono ?_
      rintro e w3 ⟨ao, co, rfl, hIo, hb3⟩
      have hb13 := Below.next hb12 hb3
      have hbF3 := Below.next hbU hb13
      have Hof := Lib.hid (HOf2.out w3 ao co hbF3 hIo)
      clear c0 c1 c2 c3 c4 c5 c6 c7 c8 Hot HOf2
      obtain ⟨c0, c1, c2, c3, c4, c5, c6, c7, c8⟩ := HS.out w3 hb13
      go_wp2_with fail
      refine Hof.out.mono ?_
      rintro e w4 ⟨rfl, hb4⟩
      have hb14 := Below.next hb13 hb4
      have hbF4 := Below.next hbU hb14
      have HIo := Lib.hid (hIo.keep hb4)
      clear c0 c1 c2 c3 c4 c5 c6 c7 c8 Hof hIo
      obtain ⟨c0, c1, c2, c3, c4, c5, c6, c7, c8⟩ := HS.out w4 hb14
      by_cases hr2 : r2 = k
      rotate_left
      · have HF : Hid (RS = false) := by show _ = _; rw [HR3.out, decide_eq_false hr2]; rfl
        have hne2 : ((k : Int) != r2) = true := by simp; omega
        clear hr2
        go_wp2_with fail
        go_ret
        exact ⟨by rw [HF.out]; rfl, hbF4⟩
      have hne2 : ((k : Int) != r2) = false := by simp; omega
      have hltw := HLt2.out hr2
      have HR4 : Hid (RS = decide ((C.W : Int) < (ns : Int) + wt)) := by
        show _ = _
        rw [HR3.out, decide_eq_true hr2, Bool.true_and, hltw]
        exact decide_eq_decide.2 (by omega)
      have kwr : IntKind.i64.wrap ((ns : Int) + wt) = (ns : Int) + wt := IntWalk.i64_in _ (by omega)
      obtain ⟨bz, hbz⟩ : ∃ bz, decide ((C.W : Int) < (ns : Int) + wt) = bz := ⟨_, rfl⟩
      rw [hbz] at HR4
      have HS4 : Hid (∀ V, Below w4.heap.size w4 V → V.cell? ⟨w.heap.size, 0, none⟩ = some (.int .i64 P) ∧ V.cell? ⟨w.heap.size, 1, none⟩ = some (.int .i64 M) ∧ V.cell? ⟨w.heap.size, 2, none⟩ = some (.slice am mn cm) ∧ V.cell? ⟨w.heap.size, 3, none⟩ = some (.int .i64 m) ∧ V.cell? ⟨w.heap.size, 4, none⟩ = some (.slice a n c) ∧
          V.cell? ⟨w.heap.size, 6, none⟩ = some (.int .i64 C.W) ∧ V.cell? ⟨w.heap.size, 7, none⟩ = some (.slice ay m cy) ∧ Below w4.heap.size w4 V) := fun V hV => by
        obtain ⟨q0, q1, q2, q3, q4, q5, q6, q7, q8⟩ := HS.out V (Below.next hb14 hV)
        rw [Hny.out] at q7
        exact ⟨q0, q1, q2, q3, q4, q6, q7, hV⟩
      have HVn3 : Hid (∀ V, Below w4.heap.size w4 V → Calls Tryz.prog 157 #[.agg #[.int .i64 P, .int .i64 M, .slice am mn cm, .int .i64 m, .slice a n c], .slice ay m cy, .slice at' k ct] V fun e w' =>
          ∃ a1 c1, e = .returned (.slice a1 m c1) ∧ Ints w' a1 m Vn ∧ Below V.heap.size V w') := fun V hV => HVn2.out V (Below.next hbF4 hV)
      have HbF4 := Lib.hid hbF4
      clear c0 c1 c2 c3 c4 c5 c6 c7 c8 hr2 hltw HVn2 HLt2 HR3 HS
      obtain ⟨c0, c1, c2, c3, c4, c6, c7, _⟩ := HS4.out w4 (Below.refl _ _)
      go_upto_region 15 with fail
      go_region_held3 (fun V => V.cell? ⟨w.heap.size, 0, none⟩ = some (.int .i64 P) ∧ V.cell? ⟨w.heap.size, 1, none⟩ = some (.int .i64 M) ∧ V.cell? ⟨w.heap.size, 2, none⟩ = some (.slice am mn cm) ∧ V.cell? ⟨w.heap.size, 3, none⟩ = some (.int .i64 m) ∧ V.cell? ⟨w.heap.size, 4, none⟩ = some (.slice a n c) ∧
          V.cell? ⟨w.heap.size, 6, none⟩ = some (.int .i64 C.W) ∧ V.cell? ⟨w.heap.size, 7, none⟩ = some (.slice ay m cy) ∧ Below w4.heap.size w4 V)
        ((refine HS4.out _ ?_; first | exact hb9w | exact hb7w | exact hb5w | exact (Below.refl _ _).drew | assumption | (go_split_ands; assumption)))
        (first
          | (go_at_call 157; ((with_reducible refine (HVn3.out _ (by go_split_ands; assumption)).mono ?_); rintro e w5 ⟨a5, k5, rfl, hI5, hb5⟩; have hb5w : Below w4.heap.size w4 w5 := (by go_split_ands; exact Below.next (by assumption) hb5)))
          | (go_at_call 79; ((with_reducible refine (HPi.out _ a5 k5 ao co hI5 (HIo.out.keep hb5w)).mono ?_); rintro e w7 ⟨a7, k7, rfl, hI7, hb7⟩; have hb7w : Below w4.heap.size w4 w7 := (by go_split_ands; exact Below.next hb5w hb7)))
          | (go_at_call 44; ((with_reducible refine (HWt.out _ a7 k7 hI7).mono ?_); rintro e w9 ⟨rfl, rfl⟩; have hb9w := hb7w)))
      all_goals (
        have hF := Below.next HbF4.out hb7w
        clear hI5 hI7
        go_wp2_with fail
        go_ret
        exact ⟨by rw [HR4.out]; rfl, hF⟩)

theorem rightK_cos {P M : Int} {am : Option Addr} {mn cm : Nat} {mod : List Int} {m : Nat} {a : Option Addr} {n c : Nat} {L : List (List Int)} {ay : Option Addr} {cy : Nat} {C : Clm} {w0 : World}
    (hmod : Ints w0 am mn mod) (hi : Mat w0 a n L) (hE : codeE P M mod m L = 0) (hc : C.cos = true) (hy : Ints w0 ay m C.y) (hyv : Vc (tblOf P M.toNat mod).El m C.y) : RightK P M am mn cm mod m a n c L ay m cy C w0 := fun V sa ns cs s at' nt ct t hns hV hs ht =>
  rRight26C_any P M am mn cm mod m a n c L ay m cy C sa ns cs s at' nt ct t V (hmod.keep hV) (hi.keep hV) hE hc rfl (hy.keep hV) hyv hns hs ht
end

/- The walks of Word of layer 12 and of coset of the reference's exclusion. -/
section
open Go.RowKit

/-- the error of a code and a word -/
def wrdE (P M : Int) (mod : List Int) (N : Int) (L : List (List Int)) (y : List Int) : Int := if codeE P M mod N L = 0 then lstE (orderS P M) y N.toNat else codeE P M mod N L

set_option maxRecDepth 100000 in
set_option maxHeartbeats 1600000 in
theorem rWord12_any (P M : Int) (am : Option Addr) (mn cm : Nat) (mod : List Int) (N : Int) (a : Option Addr) (n c : Nat) (L : List (List Int)) (ay : Option Addr) (ny cy : Nat) (y : List Int) (w : World) (hmod : Ints w am mn mod) (hi : Mat w a n L) (hy : Ints w ay ny y) :
    Calls Tryz.prog 108 #[.agg #[.int .i64 P, .int .i64 M, .slice am mn cm, .int .i64 N, .slice a n c], .slice ay ny cy] w fun e w' => e = .returned (.int .i64 (wrdE P M mod N L y)) ∧ Below w.heap.size w w' := by
  go_enter Tryz.func108, Tryz.ntmps108
  go_wp2_with fail
  obtain ⟨U, hU⟩ : ∃ U : World, U = w.alloc (.cells #[.int .i64 P, .int .i64 M, .slice am mn cm, .int .i64 N, .slice a n c] 27) := ⟨_, rfl⟩
  rw [← hU]
  have hbU : Below w.heap.size w U := by rw [hU]; exact below1 _ _
  have x0 : Box U w.heap.size [.int .i64 P, .int .i64 M, .slice am mn cm, .int .i64 N, .slice a n c] := by rw [hU]; exact Box.new _ _ _ rfl
  have HX := Lib.hid x0
  clear hU x0
  refine (rCheck_any P M am mn cm mod N a n c L U (hmod.keep hbU) (hi.keep hbU)).mono ?_
  rintro e w1 ⟨rfl, hb1⟩
  have hbF := Below.next hbU hb1
  have x1 := HX.out.keep hb1
  have c0 := x1.cell 0 rfl
  have c1 := x1.cell 1 rfl
  have c2 := x1.cell 2 rfl
  have c3 := x1.cell 3 rfl
  have c4 := x1.cell 4 rfl
  clear x1
  by_cases hE : codeE P M mod N L = 0
  · have HE : Hid (wrdE P M mod N L y = lstE (orderS P M) y N.toNat) := if_pos hE
    obtain ⟨m, rfl, _⟩ := codeE_rws hE
    have Hli := Lib.hid (rList12_any P M am mn cm ay ny cy y m w1 (hy.keep hbF))
    rw [hE]
    clear hE
    go_wp2_with fail
    refine Hli.out.mono ?_
    rintro e w2 ⟨rfl, hb2⟩
    have hbG := Below.next hbF hb2
    go_wp2_with fail
    go_ret
    exact ⟨by rw [HE.out, Int.toNat_natCast]; rfl, hbG⟩
  · have HE : Hid (wrdE P M mod N L y = codeE P M mod N L) := if_neg hE
    have hE1 : (codeE P M mod N L == 0) = false := by simpa using hE
    clear hE
    generalize codeE P M mod N L = er at *
    go_wp2_with fail
    go_ret
    exact ⟨by rw [HE.out]; rfl, hbF⟩

theorem cosE_eq (P M : Int) (mod : List Int) (N : Int) (L : List (List Int)) (y : List Int) (W : Int) : cosE P M mod N L y W = if wrdE P M mod N L y = 0 then (if W < 0 ∨ N < W then 6 else 0) else wrdE P M mod N L y := by
  unfold cosE wrdE
  by_cases hE : codeE P M mod N L = 0
  · rw [if_pos hE, if_pos hE]
    obtain ⟨m, rfl, _⟩ := codeE_rws hE
    have hq : ((tblOf P M.toNat mod).q : Int) = orderS P M := by
      obtain ⟨m1, e1, _, h1, _⟩ := eq_ops (codeE_zero hE).1
      rw [show M.toNat = m1 by omega]; exact h1
    rw [Int.toNat_natCast, ← hq]
    unfold lstE elsE
    by_cases h1 : (y.length : Int) ≠ m
    · rw [if_pos h1, if_neg (by omega), if_neg (by omega)]
    · rw [if_neg h1, if_pos (show y.length = m by omega)]
      cases h2 : elsQ (tblOf P M.toNat mod).q y
      · simp
      · simp
  · rw [if_neg hE, if_neg hE, if_neg hE]

set_option maxRecDepth 100000 in
set_option maxHeartbeats 1600000 in
theorem rCoset26_any (P M : Int) (am : Option Addr) (mn cm : Nat) (mod : List Int) (N : Int) (a : Option Addr) (n c : Nat) (L : List (List Int)) (ay : Option Addr) (ny cy : Nat) (y : List Int) (W : Int) (w : World) (hmod : Ints w am mn mod) (hi : Mat w a n L) (hy : Ints w ay ny y) :
    Calls Tryz.prog 60 #[.agg #[.int .i64 P, .int .i64 M, .slice am mn cm, .int .i64 N, .slice a n c], .slice ay ny cy, .int .i64 W] w fun e w' => e = .returned (.int .i64 (cosE P M mod N L y W)) ∧ Below w.heap.size w w' := by
  obtain ⟨R0, hR0⟩ : ∃ R0, cosE P M mod N L y W = R0 := ⟨_, rfl⟩
  rw [hR0]
  rw [cosE_eq] at hR0
  have HR0 := Lib.hid hR0
  clear hR0
  go_enter Tryz.func60, Tryz.ntmps60
  go_wp2_with fail
  obtain ⟨U, hU⟩ : ∃ U : World, U = w.alloc (.cells #[.int .i64 P, .int .i64 M, .slice am mn cm, .int .i64 N, .slice a n c] 27) := ⟨_, rfl⟩
  rw [← hU]
  have hbU : Below w.heap.size w U := by rw [hU]; exact below1 _ _
  have x0 : Box U w.heap.size [.int .i64 P, .int .i64 M, .slice am mn cm, .int .i64 N, .slice a n c] := by rw [hU]; exact Box.new _ _ _ rfl
  have HX := Lib.hid x0
  clear hU x0
  refine (rWord12_any P M am mn cm mod N a n c L ay ny cy y U (hmod.keep hbU) (hi.keep hbU) (hy.keep hbU)).mono ?_
  rintro e w1 ⟨rfl, hb1⟩
  have hbF := Below.next hbU hb1
  have c3 := (HX.out.keep hb1).cell 3 rfl
  generalize wrdE P M mod N L y = E at *
  by_cases hE : E = 0
  · subst hE
    by_cases h3 : W < 0
    · have HE : Hid (R0 = 6) := by show _ = _; rw [← HR0.out, if_pos rfl, if_pos (.inl h3)]
      have d3 : decide (W < 0) = true := by simpa using h3
      clear h3 HR0
      go_wp2_with fail
      go_ret
      exact ⟨by rw [HE.out]; rfl, hbF⟩
    have d3 : decide (W < 0) = false := by simpa using h3
    by_cases h4 : N < W
    · have HE : Hid (R0 = 6) := by show _ = _; rw [← HR0.out, if_pos rfl, if_pos (.inr h4)]
      have d4 : decide (N < W) = true := by simpa using h4
      clear h3 h4 HR0
      go_wp2_with fail
      go_ret
      exact ⟨by rw [HE.out]; rfl, hbF⟩
    have d4 : decide (N < W) = false := by simpa using h4
    have HE : Hid (R0 = 0) := by show _ = _; rw [← HR0.out, if_pos rfl, if_neg (by omega)]
    clear h3 h4 HR0
    go_wp2_with fail
    go_ret
    exact ⟨by rw [HE.out]; rfl, hbF⟩
  · have hE2 : (E == 0) = false := by simpa using hE
    have HE : Hid (R0 = E) := by show _ = _; rw [← HR0.out, if_neg hE]
    clear hE HR0
    go_wp2_with fail
    go_ret
    exact ⟨by rw [HE.out]; rfl, hbF⟩
end

end Go.Proofs.YtapjcccpokhhhaaGreat
