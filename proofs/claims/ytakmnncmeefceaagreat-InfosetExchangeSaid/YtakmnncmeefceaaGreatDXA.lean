/- InfosetExchange: the statement. -/
import Derived.Test.YtakmnncmeefceaaGreatH4
import Derived.Test.YtakmnncmeefceaaGreatG30
import Derived.Test.YtakmnncmeefceaaGreatG29
import Derived.Test.YtakmnncmeefceaaGreatRows
namespace Go.Proofs.YtakmnncmeefceaaGreat
set_option linter.unusedVariables false
set_option linter.unusedSimpArgs false
set_option linter.unusedSectionVars false

/- The walk of codewrightref25.Exchange. -/
section
open Go.RowKit

/-- 'append(out, xs...)' in a region, where a guard asks for it -/
theorem step_appAllG {P : Program} {w : World} {ops : Array Oper} {o : Oper} {ac : Act} {K : Act → World → Prop} {Q : Exit → Act → World → Prop} {E : Prop}
    (hw : Region.wanted o (yielded ops ac.tmps) = true) (s x : Operand) (t e : TypeId) (hop : o.op = .call { callee := .builtin .append, args := #[s, x], argTypes := #[t, t] }) (z : Value) (bytes : Nat)
    (h1 : P.underlying t = some (.slice e)) (h2 : (P.info? e).map (fun i => (i.zero, i.size, i.bytes)) = some (some z, 1, bytes)) (hz : z.cells = #[z])
    (B : Nat) (a : Option Addr) (n c : Nat) (xs : List Value) (hs : ac.eval s = .slice a n c) (hown : w.ownsRow B e 1 (.slice a n c) n xs)
    (ao : Option Addr) (m cc : Nat) (news : List Value) (hx : ac.eval x = .slice ao m cc) (hp : Pl ao m) (hl : news.length = m) (hc : ∀ j, j < m → w.cell? ⟨ablk ao, aoff ao + j, none⟩ = news[j]?) (h1c : ∀ u ∈ news, u.oneCell' = true)
    (b2 : (n + m) * bytes ≤ 140737488355328) (b3 : n + m ≤ maxLen) (hB : B ≤ w.heap.size)
    (hK : ∀ a' c' w', w'.ownsRow B e 1 (.slice a' (n + m) c') (n + m) (xs ++ news) → w.grownBy w' (Value.slice a n c).ownBlock → (∀ b, b < w.heap.size → Apt a b → Apt a' b) → K (ac.put o.dst (.slice a' (n + m) c')) w') :
    if Region.wanted o (yielded ops ac.tmps) = true then Oper.wp P o ac w K Q else E := by
  rw [if_pos hw]
  obtain ⟨a', c', w', hr, h3, h4, h5⟩ := run_appAll (P := P) t o.type e z bytes h1 h2 hz B a n c xs hown ao m cc news hp hl hc h1c b2 b3 hB
  unfold Oper.wp execOp
  simp only [hop, resolve, invoke, builtin, Sem.run_bind, Sem.run_pure, Result.andThen_ok, List.map_toArray, List.map_cons, List.map_nil, hs, hx, hr]
  exact hK a' c' w' h3 h4 h5

theorem rk2E_z {P M : Int} {mod : List Int} {N : Int} {L : List (List Int)} {A B : List Int} (h : rk2E P M mod N L A B = 0) : ∃ m : Nat, N = m ∧ m ≤ 64 ∧ codeE P M mod m L = 0 ∧ okSet m A = true ∧ okSet m B = true := by
  unfold rk2E at h
  by_cases h1 : codeE P M mod N L = 0
  · rw [if_pos h1] at h
    obtain ⟨m, rfl, hm1, hm64, _, _⟩ := codeE_rws h1
    refine ⟨m, rfl, hm64, h1, ?_⟩
    by_cases h2 : okSet m A = true ∧ okSet m B = true
    · exact h2
    · have hse : setsE m [A, B] = if okSet m A = true ∧ okSet m B = true then 0 else 6 := by simp [setsE]
      rw [hse, if_neg h2] at h
      omega
  · rw [if_neg h1] at h; exact absurd h h1
def flt (i : Int) (A : List Int) (k : Nat) : List Int := (A.take k).filter fun x => decide (x ≠ i)
theorem flt_succ (i : Int) {A : List Int} {k : Nat} (h : k < A.length) : flt i A (k + 1) = if nth A k = i then flt i A k else flt i A k ++ [nth A k] := by
  unfold flt
  rw [List.take_succ_eq_append_getElem h, List.filter_append, nth_getElem h]
  by_cases e : A[k] = i
  · simp [e]
  · simp [e]
theorem flt_len (i : Int) (A : List Int) (k : Nat) : (flt i A k).length ≤ k := Nat.le_trans (List.length_filter_le _ _) (by rw [List.length_take]; omega)

set_option maxRecDepth 100000 in
set_option maxHeartbeats 8000000 in
theorem rExchange25_any (P M : Int) (am : Option Addr) (mn cm : Nat) (mod : List Int) (N : Int) (a : Option Addr) (n c : Nat) (L : List (List Int)) (aa : Option Addr) (na ca : Nat) (A : List Int) (ab : Option Addr) (nb cb : Nat) (B : List Int) (i : Int) (w : World)
    (hmod : Ints w am mn mod) (hi : Mat w a n L) (hA : Ints w aa na A) (hB : Ints w ab nb B) :
    Calls Tryz.prog 34 #[.agg #[.int .i64 P, .int .i64 M, .slice am mn cm, .int .i64 N, .slice a n c], .slice aa na ca, .slice ab nb cb, .int .i64 i] w
      fun e w' => e = .returned (.tuple #[.int .i64 (exV P M mod N L A B i).1, .int .i64 (exV P M mod N L A B i).2]) ∧ Below w.heap.size w w' := by
  have Hal := Lib.hid hA.len
  have Hbl := Lib.hid hB.len
  have hpla := hA.pl
  have hplb := hB.pl
  have HSe : Hid (∀ V, Below w.heap.size w V → Calls Tryz.prog 75 #[.agg #[.int .i64 P, .int .i64 M, .slice am mn cm, .int .i64 N, .slice a n c], .slice (some ⟨V.heap.size, 0, none⟩) 2 2] (V.alloc (.cells #[.slice aa na ca, .slice ab nb cb] 22)) fun e w' => e = .returned (.int .i64 (rk2E P M mod N L A B)) ∧ Below V.heap.size V w') := fun V hV => by
    have hb := Below.next hV (below1 V (.cells #[.slice aa na ca, .slice ab nb cb] 22))
    have hMs : Mat (V.alloc (.cells #[.slice aa na ca, .slice ab nb cb] 22)) (some ⟨V.heap.size, 0, none⟩) 2 [A, B] := ⟨rfl, fun _ => rfl, by unfold maxLen; omega, fun k hk => by
      have h2 := cell_alloc_at V #[.slice aa na ca, .slice ab nb cb] 22 rfl k
      match k, hk with
      | 0, _ => exact ⟨aa, na, ca, h2, hA.keep hb⟩
      | 1, _ => exact ⟨ab, nb, cb, h2, hB.keep hb⟩⟩
    refine (rSets_any P M am mn cm mod N a n c L _ 2 2 [A, B] _ (hmod.keep hb) (hi.keep hb) hMs).mono ?_
    rintro e w' ⟨rfl, h1⟩
    exact ⟨by rw [setsC_two], Below.next (below1 _ _) h1⟩
  go_enter Tryz.func34, Tryz.ntmps34
  go_upto_region 1 with fail
  obtain ⟨W, hW⟩ : ∃ W : World, W = w.alloc (.cells #[.int .i64 P, .int .i64 M, .slice am mn cm, .int .i64 N, .slice a n c] 27) := ⟨_, rfl⟩
  rw [← hW]
  have hbW : Below w.heap.size w W := by rw [hW]; exact below1 _ _
  have x0 : Box W w.heap.size [.int .i64 P, .int .i64 M, .slice am mn cm, .int .i64 N, .slice a n c] := by rw [hW]; exact Box.new _ _ _ rfl
  have HS : Hid (∀ V, Below W.heap.size W V → V.cell? ⟨w.heap.size, 0, none⟩ = some (.int .i64 P) ∧ V.cell? ⟨w.heap.size, 1, none⟩ = some (.int .i64 M) ∧ V.cell? ⟨w.heap.size, 2, none⟩ = some (.slice am mn cm) ∧ V.cell? ⟨w.heap.size, 3, none⟩ = some (.int .i64 N) ∧ V.cell? ⟨w.heap.size, 4, none⟩ = some (.slice a n c)) := fun V hV => by
    have x1 := x0.keep hV
    exact ⟨x1.cell 0 rfl, x1.cell 1 rfl, x1.cell 2 rfl, x1.cell 3 rfl, x1.cell 4 rfl⟩
  have HbW := Lib.hid hbW
  clear hW x0 hbW
  obtain ⟨c0, c1, c2, c3, c4⟩ := HS.out W (Below.refl _ _)
  have Hse := Lib.hid (HSe.out W HbW.out)
  go_wp2_with fail
  refine Hse.out.mono ?_
  rintro e w1 ⟨rfl, hb1⟩
  have hbw1 := Below.next HbW.out hb1
  clear c0 c1 c2 c3 c4 Hse HSe
  by_cases hz : rk2E P M mod N L A B = 0
  rotate_left
  · have HV : Hid (exV P M mod N L A B i = (0, rk2E P M mod N L A B)) := by show _ = _; rw [exV, if_pos hz]
    have hz' : (rk2E P M mod N L A B != 0) = true := by simpa using hz
    clear hz
    generalize rk2E P M mod N L A B = er at *
    go_wp2_with fail
    go_ret2
    exact ⟨by rw [HV.out]; rfl, hbw1⟩
  obtain ⟨m, rfl, hm64, hE, hokA, hokB⟩ := rk2E_z hz
  obtain ⟨m', em, hm1, _, F, hR⟩ := codeE_fld hE
  obtain rfl : m = m' := by omega
  have hAi : InN m A := set_in hokA
  have hBi : InN m B := set_in hokB
  have hna : na ≤ 64 := by have := okSet_len hokA (by omega); rw [← Hal.out]; omega
  have hnb : nb ≤ 64 := by have := okSet_len hokB (by omega); rw [← Hbl.out]; omega
  obtain ⟨O, hO⟩ : ∃ O, (tblOf P M.toNat mod).ops = O := ⟨_, rfl⟩
  have HI : Hid (∀ V Q aq nq cq, Below w.heap.size w V → Ints V aq nq Q → InN m Q → nq ≤ 1000000 →
      Calls Tryz.prog 77 #[.agg #[.int .i64 P, .int .i64 M, .slice am mn cm, .int .i64 m, .slice a n c], .slice aq nq cq] V fun e w' => e = .returned (.bool (isB O L Q)) ∧ Below V.heap.size V w') := fun V Q aq nq cq hV hq hQ hnq => by
    have h := rInfo_any P M am mn cm mod m a n c L aq nq cq Q V (hmod.keep hV) (hi.keep hV) hq hE hQ hnq
    rw [hO] at h; exact h
  have HexV : Hid (exV P M mod m L A B i = if (isB O L A && isB O L B) = false then ((0, 9) : Int × Int) else if ¬ i ∈ A then (0, 11) else match B.find? (exP O L A (A.findIdx fun x => x == i)) with | some j => (j, 0) | none => (0, 11)) := by
    show _ = _
    rw [exV, hz, if_neg (by decide), hO]
    rfl
  have hfl : i ∈ A → ∃ t, (A.findIdx fun x => x == i) = t ∧ ∀ j, exP O L A t j = (decide (¬ j ∈ A) && isB O L (sortL (flt i A na ++ [j]))) := fun hi' => by
    obtain ⟨t, hix, htl, hti⟩ := ix_in hi'
    have htx : (A.findIdx fun x => x == i) = t := by rw [ixV, if_pos hi'] at hix; omega
    refine ⟨t, htx, fun j => ?_⟩
    rw [← hO, exP_filt F hR (okSet_nodup hokA) htl hti j, flt, List.take_of_length_le (by rw [Hal.out]; exact Nat.le_refl _)]
  have Hfl := Lib.hid hfl
  have HAi := Lib.hid hAi
  have HBi := Lib.hid hBi
  rw [hz]
  clear hfl hz hE hokA hokB hO F hR hAi hBi em hmod hi
  obtain ⟨c0, c1, c2, c3, c4⟩ := HS.out w1 hb1
  have HiA := Lib.hid (HI.out w1 A aa na ca hbw1 (hA.keep hbw1) HAi.out (by omega))
  go_wp2_with fail
  refine HiA.out.mono ?_
  rintro e w2 ⟨rfl, hb2⟩
  have hb12 := Below.next hb1 hb2
  have hbw2 := Below.next hbw1 hb2
  clear c0 c1 c2 c3 c4 HiA
  by_cases hiA : isB O L A = true
  rotate_left
  · have hiA' : isB O L A = false := by simpa using hiA
    have HV : Hid (exV P M mod m L A B i = (0, 9)) := by show _ = _; rw [HexV.out, hiA']; rfl
    rw [hiA']
    clear hiA hiA'
    go_wp2_with fail
    go_ret2
    exact ⟨by rw [HV.out]; rfl, hbw2⟩
  obtain ⟨c0, c1, c2, c3, c4⟩ := HS.out w2 hb12
  have HiB := Lib.hid (HI.out w2 B ab nb cb hbw2 (hB.keep hbw2) HBi.out (by omega))
  rw [hiA]
  go_wp2_with fail
  refine HiB.out.mono ?_
  rintro e w3 ⟨rfl, hb3⟩
  have hb13 := Below.next hb12 hb3
  have hbw3 := Below.next hbw2 hb3
  clear c0 c1 c2 c3 c4 HiB
  by_cases hiB : isB O L B = true
  rotate_left
  · have hiB' : isB O L B = false := by simpa using hiB
    have HV : Hid (exV P M mod m L A B i = (0, 9)) := by show _ = _; rw [HexV.out, hiA, hiB']; rfl
    rw [hiB']
    clear hiB hiB' hiA
    go_wp2_with fail
    go_ret2
    exact ⟨by rw [HV.out]; rfl, hbw3⟩
  have HexV2 : Hid (exV P M mod m L A B i = if ¬ i ∈ A then ((0, 11) : Int × Int) else match B.find? (exP O L A (A.findIdx fun x => x == i)) with | some j => (j, 0) | none => (0, 11)) := by
    show _ = _
    rw [HexV.out, hiA, hiB, if_neg (by decide)]
  rw [hiB]
  have Hin := Lib.hid (rIn25_any aa na ca A i w3 (hA.keep hbw3))
  clear hiA hiB HexV
  go_wp2_with fail
  refine Hin.out.mono ?_
  rintro e w4 ⟨rfl, rfl⟩
  by_cases hin : i ∈ A
  rotate_left
  · have HV : Hid (exV P M mod m L A B i = (0, 11)) := by show _ = _; rw [HexV2.out, if_pos hin]
    have hd : decide (i ∈ A) = false := by simpa using hin
    rw [hd]
    clear hin hd Hin
    go_wp2_with fail
    go_ret2
    exact ⟨by rw [HV.out]; rfl, hbw3⟩
  obtain ⟨t, htx, hex⟩ := Hfl.out hin
  have HexV3 : Hid (exV P M mod m L A B i = match B.find? (exP O L A t) with | some j => (j, 0) | none => (0, 11)) := by
    show _ = _
    rw [HexV2.out, if_neg (by simpa using hin), htx]
  have Hex := Lib.hid hex
  have hd : decide (i ∈ A) = true := by simpa using hin
  rw [hd]
  clear hin htx hex HexV2 Hfl hd Hin
  generalize w4 = U at *
  go_wp2_with fail
  go_loopw [11, 12] (fun rv iv wr => ∃ (k g : Nat) (a1 : Option Addr) (c1 : Nat), k ≤ na ∧ iv = .int .i64 k ∧ Hid ((flt i A k).length = g) ∧ rv = .slice a1 g c1 ∧ wr.ownsRow U.heap.size 3 1 (.slice a1 g c1) g ((flt i A k).map (Value.int .i64)) ∧ Below U.heap.size U wr) (fun _ iv _ => na - (intOf iv).toNat)
  case atStart => exact ⟨0, 0, none, 0, Nat.zero_le _, rfl, by show _ = _; simp [flt], rfl, by simpa [flt] using own_none, Below.refl _ _⟩
  case round =>
    obtain ⟨k, g, a1, c1, hk, rfl, Hg, rfl, hown, hbr⟩ := hrel
    have hgk : g ≤ 64 := by have h1 := flt_len i A k; rw [Hg.out] at h1; omega
    have hbwr := Below.next hbw3 hbr
    by_cases hlt : k < na
    · have ca' := (hA.keep hbwr).cell k hlt
      have hst := flt_succ i (show k < A.length by rw [Hal.out]; exact hlt)
      obtain ⟨z, hz⟩ : ∃ z, nth A k = z := ⟨_, rfl⟩
      rw [hz] at ca' hst
      clear hz
      by_cases he : z = i
      · have he' : (z != i) = false := by simpa using he
        have Hst : Hid (flt i A (k + 1) = flt i A k) := by show _ = _; rw [hst, if_pos he]
        clear he hst
        go_wp2_with fail
        go_roundw
        case rel => exact ⟨k + 1, g, a1, c1, by omega, by go_num, by show _ = _; rw [Hst.out]; exact Hg.out, rfl, by rw [Hst.out]; exact hown, hbr⟩
        case measure => simp [intOf] <;> omega
      · have he' : (z != i) = true := by simpa using he
        have Hst : Hid (flt i A (k + 1) = flt i A k ++ [z]) := by show _ = _; rw [hst, if_neg he]
        have hsz := hbr.size
        have hcn := cell_new wr (.int .i64 z) 3
        clear he hst
        go_wp2_with (at_builtin; refine wpList_push rfl _ _ 22 3 rfl (.int .i64 0) 8 Tryz.underlying22 infoInt rfl U.heap.size a1 g c1 _ rfl (hown.alloc _) ⟨wr.heap.size, 0, none⟩ 1 (.int .i64 z) rfl hcn rfl (by omega) (by unfold maxLen; omega) (by simp; omega) ?_; intro a5 c5 w5 hown5 hgr5 hap5)
        go_roundw
        case rel =>
          refine ⟨k + 1, g + 1, a5, c5, by omega, by go_num, by show _ = _; rw [Hst.out, List.length_append, Hg.out]; rfl, rfl, by rw [Hst.out]; simpa using hown5, Below.app (Below.allocN hbr _) (hown.alloc _) hgr5 (Nat.le_refl _) (Below.allocN hbr _).size⟩
        case measure => simp [intOf] <;> omega
    · obtain rfl : k = na := by omega
      generalize wr = X at *
      have hbWX := Below.next hb13 hbr
      have hR := (Ints.own hown).1
      have hplR := hR.pl
      obtain ⟨R, hRR⟩ : ∃ R, flt i A k = R := ⟨_, rfl⟩
      have HRin : Hid (InN m R) := inN_of fun x hx => by
        rw [← hRR] at hx
        exact inN_mem HAi.out (List.mem_of_mem_take (List.mem_filter.1 hx).1)
      rw [hRR] at Hg Hex hR
      have HR := Lib.hid hR
      have HbX := Lib.hid (And.intro hbwr hbWX)
      clear hown hRR hR hbr hbwr hbWX
      go_wp2_with fail
      go_loopw [13] (fun iv wr => ∃ j : Nat, j ≤ nb ∧ iv = .int .i64 j ∧ Hid (∀ q, q < j → exP O L A t (nth B q) = false) ∧ Below X.heap.size X wr) (fun iv _ => nb - (intOf iv).toNat)
      case atStart => exact ⟨0, Nat.zero_le _, rfl, fun q hq => by omega, Below.refl _ _⟩
      case round =>
        obtain ⟨j, hj, rfl, hno, hbr⟩ := hrel
        have hbwr := Below.next HbX.out.1 hbr
        have hbWr := Below.next HbX.out.2 hbr
        by_cases hlt : j < nb
        · have cz := (hB.keep hbwr).cell j hlt
          have hjB : j < B.length := by rw [Hbl.out]; exact hlt
          have hzm := HBi.out j hjB
          have hexz := Hex.out (nth B j)
          have Hno := Lib.hid (show exP O L A t (nth B j) = false → ∀ q, q < j + 1 → exP O L A t (nth B q) = false from fun h q hq => by
            by_cases e : q = j
            · subst e; exact h
            · exact hno.out q (by omega))
          have Hyes := Lib.hid (show exP O L A t (nth B j) = true → exV P M mod m L A B i = (nth B j, 0) from fun h => by
            rw [HexV3.out, find_at _ B j hjB hno.out h])
          obtain ⟨z, hz⟩ : ∃ z, nth B j = z := ⟨_, rfl⟩
          have Hz := Lib.hid hz
          rw [hz] at cz hzm hexz Hno Hyes
          have hin := rIn25_any aa k ca A z
          clear hz hno hjB
          by_cases hm : z ∈ A
          · have hmd : decide (z ∈ A) = true := by simpa using hm
            have Hn := Lib.hid (Hno.out (by rw [hexz]; simp [hm]))
            have HcA : Hid (∀ V, Below wr.heap.size wr V → Calls Tryz.prog 86 #[.slice aa k ca, .int .i64 z] V fun e w' => e = .returned (.bool true) ∧ w' = V) := fun V hV => by
              have h := hin V (hA.keep (Below.next hbwr hV))
              rw [hmd] at h; exact h
            clear hm hmd Hno Hyes hexz hin hzm
            go_wp2_with fail
            refine wp_region_held_drew (S := (fun V => V.cell? ⟨ablk ab, aoff ab + j, none⟩ = some (.int .i64 z) ∧ Below wr.heap.size wr V)) (by kernel_rfl) ?_ (fun hHeld => ?_)
            · exact ⟨by first | exact cz | (go_simp; done), (Below.refl _ _).drew⟩
            refine wpAnyH_take (i := 0) (v := ?_) (by simp only [List.getElem?_toArray, List.getElem?_cons_succ, List.getElem?_cons_zero]; rfl) (by kernel_rfl) (by kernel_rfl) (by kernel_rfl) (by exact fun _ _ _ h => h) (Or.inl ⟨by rfl, ?_⟩) (by assumption) ?_
            rotate_left
            · (intro w hSw; (try dsimp only at hSw); obtain ⟨hSa, hSb⟩ := hSw; go_simp; first | done | with_reducible rfl)
            try simp only [Act.put, List.setIfInBounds_toArray, List.set_cons_zero, List.set_cons_succ]
            refine wpAnyH_take (i := 1) (v := ?_) (by simp only [List.getElem?_toArray, List.getElem?_cons_succ, List.getElem?_cons_zero]; rfl) (by kernel_rfl) (by kernel_rfl) (by kernel_rfl) (by exact fun _ _ _ h => h) (Or.inl ⟨by rfl, ?_⟩) (by assumption) ?_
            rotate_left
            · (intro w hSw; (try dsimp only at hSw); obtain ⟨hSa, hSb⟩ := hSw; go_simp; first | done | with_reducible rfl)
            try simp only [Act.put, List.setIfInBounds_toArray, List.set_cons_zero, List.set_cons_succ]
            refine wpAnyH_take (i := 2) (v := ?_) (by simp only [List.getElem?_toArray, List.getElem?_cons_succ, List.getElem?_cons_zero]; rfl) (by kernel_rfl) (by kernel_rfl) (by kernel_rfl) (by exact fun _ _ _ h => h) (Or.inl ⟨by rfl, ?_⟩) (by assumption) ?_
            rotate_left
            · (intro w hSw; (try dsimp only at hSw); obtain ⟨hSa, hSb⟩ := hSw; go_simp; first | done | with_reducible rfl)
            try simp only [Act.put, List.setIfInBounds_toArray, List.set_cons_zero, List.set_cons_succ]
            refine wpAnyH_take (i := 3) (v := ?_) (by simp only [List.getElem?_toArray, List.getElem?_cons_succ, List.getElem?_cons_zero]; rfl) (by kernel_rfl) (by kernel_rfl) (by kernel_rfl) (by exact fun _ _ _ h => h) (Or.inl ⟨by rfl, ?_⟩) (by assumption) ?_
            rotate_left
            · (intro w hSw; (try dsimp only at hSw); obtain ⟨hSa, hSb⟩ := hSw; go_simp; first | done | with_reducible rfl)
            try simp only [Act.put, List.setIfInBounds_toArray, List.set_cons_zero, List.set_cons_succ]
            refine wpAnyH_take (i := 4) (v := ?_) (by simp only [List.getElem?_toArray, List.getElem?_cons_succ, List.getElem?_cons_zero]; rfl) (by kernel_rfl) (by kernel_rfl) (by kernel_rfl) (by exact fun _ _ _ h => h) (Or.inl ⟨by rfl, ?_⟩) (by assumption) ?_
            rotate_left
            · (intro w hSw; (try dsimp only at hSw); obtain ⟨hSa, hSb⟩ := hSw; go_simp; first | done | with_reducible rfl)
            try simp only [Act.put, List.setIfInBounds_toArray, List.set_cons_zero, List.set_cons_succ]
            refine wpAnyH_ready (rs := [5]) (by kernel_rfl) (by simp) ?_
            refine AllReadyH.cons rfl (fun K hK => ?_) AllReadyH.nil
            go_simp
            refine (HcA.out _ (Below.refl _ _).drew).mono ?_; rintro e w6 ⟨rfl, rfl⟩
            go_wp2_with fail
            refine hK.out _ _ ?_ (fun hHeld => ?_)
            · exact hHeld
            clear hK K
            try simp only [Act.put, List.setIfInBounds_toArray, List.set_cons_zero, List.set_cons_succ]
            refine wpAnyH_take (i := 6) (v := ?_) (by simp only [List.getElem?_toArray, List.getElem?_cons_succ, List.getElem?_cons_zero]; rfl) (by kernel_rfl) (by kernel_rfl) (by kernel_rfl) (by exact fun _ _ _ h => h) (Or.inl ⟨by rfl, ?_⟩) (by assumption) ?_
            rotate_left
            · (intro w hSw; (try dsimp only at hSw); obtain ⟨hSa, hSb⟩ := hSw; go_simp; first | done | with_reducible rfl)
            try simp only [Act.put, List.setIfInBounds_toArray, List.set_cons_zero, List.set_cons_succ]
            refine wpAnyH_take (i := 7) (v := ?_) (by simp only [List.getElem?_toArray, List.getElem?_cons_succ, List.getElem?_cons_zero]; rfl) (by kernel_rfl) (by kernel_rfl) (by kernel_rfl) (by exact fun _ _ _ h => h) (Or.inl ⟨by rfl, ?_⟩) (by assumption) ?_
            rotate_left
            · (intro w hSw; (try dsimp only at hSw); obtain ⟨hSa, hSb⟩ := hSw; go_simp; first | done | with_reducible rfl)
            try simp only [Act.put, List.setIfInBounds_toArray, List.set_cons_zero, List.set_cons_succ]
            refine wpAnyH_take (i := 8) (v := undef) (by simp only [List.getElem?_toArray, List.getElem?_cons_succ, List.getElem?_cons_zero]; rfl) (by kernel_rfl) (by kernel_rfl) (by kernel_rfl) (by exact fun _ _ _ h => h) (Or.inr ⟨by rfl, rfl⟩) (by assumption) ?_
            try simp only [Act.put, List.setIfInBounds_toArray, List.set_cons_zero, List.set_cons_succ]
            refine wpAnyH_take (i := 9) (v := undef) (by simp only [List.getElem?_toArray, List.getElem?_cons_succ, List.getElem?_cons_zero]; rfl) (by kernel_rfl) (by kernel_rfl) (by kernel_rfl) (by exact fun _ _ _ h => h) (Or.inr ⟨by rfl, rfl⟩) (by assumption) ?_
            try simp only [Act.put, List.setIfInBounds_toArray, List.set_cons_zero, List.set_cons_succ]
            refine wpAnyH_take (i := 10) (v := undef) (by simp only [List.getElem?_toArray, List.getElem?_cons_succ, List.getElem?_cons_zero]; rfl) (by kernel_rfl) (by kernel_rfl) (by kernel_rfl) (by exact fun _ _ _ h => h) (Or.inr ⟨by rfl, rfl⟩) (by assumption) ?_
            try simp only [Act.put, List.setIfInBounds_toArray, List.set_cons_zero, List.set_cons_succ]
            refine wpAnyH_take (i := 11) (v := undef) (by simp only [List.getElem?_toArray, List.getElem?_cons_succ, List.getElem?_cons_zero]; rfl) (by kernel_rfl) (by kernel_rfl) (by kernel_rfl) (by exact fun _ _ _ h => h) (Or.inr ⟨by rfl, rfl⟩) (by assumption) ?_
            try simp only [Act.put, List.setIfInBounds_toArray, List.set_cons_zero, List.set_cons_succ]
            refine wpAnyH_take (i := 12) (v := undef) (by simp only [List.getElem?_toArray, List.getElem?_cons_succ, List.getElem?_cons_zero]; rfl) (by kernel_rfl) (by kernel_rfl) (by kernel_rfl) (by exact fun _ _ _ h => h) (Or.inr ⟨by rfl, rfl⟩) (by assumption) ?_
            try simp only [Act.put, List.setIfInBounds_toArray, List.set_cons_zero, List.set_cons_succ]
            refine wpAnyH_take (i := 13) (v := undef) (by simp only [List.getElem?_toArray, List.getElem?_cons_succ, List.getElem?_cons_zero]; rfl) (by kernel_rfl) (by kernel_rfl) (by kernel_rfl) (by exact fun _ _ _ h => h) (Or.inr ⟨by rfl, rfl⟩) (by assumption) ?_
            try simp only [Act.put, List.setIfInBounds_toArray, List.set_cons_zero, List.set_cons_succ]
            refine wpAnyH_take (i := 14) (v := undef) (by simp only [List.getElem?_toArray, List.getElem?_cons_succ, List.getElem?_cons_zero]; rfl) (by kernel_rfl) (by kernel_rfl) (by kernel_rfl) (by exact fun _ _ _ h => h) (Or.inr ⟨by rfl, rfl⟩) (by assumption) ?_
            try simp only [Act.put, List.setIfInBounds_toArray, List.set_cons_zero, List.set_cons_succ]
            refine wpAnyH_take (i := 15) (v := undef) (by simp only [List.getElem?_toArray, List.getElem?_cons_succ, List.getElem?_cons_zero]; rfl) (by kernel_rfl) (by kernel_rfl) (by kernel_rfl) (by exact fun _ _ _ h => h) (Or.inr ⟨by rfl, rfl⟩) (by assumption) ?_
            try simp only [Act.put, List.setIfInBounds_toArray, List.set_cons_zero, List.set_cons_succ]
            refine wpAnyH_take (i := 16) (v := undef) (by simp only [List.getElem?_toArray, List.getElem?_cons_succ, List.getElem?_cons_zero]; rfl) (by kernel_rfl) (by kernel_rfl) (by kernel_rfl) (by exact fun _ _ _ h => h) (Or.inr ⟨by rfl, rfl⟩) (by assumption) ?_
            try simp only [Act.put, List.setIfInBounds_toArray, List.set_cons_zero, List.set_cons_succ]
            refine wpAnyH_take (i := 17) (v := undef) (by simp only [List.getElem?_toArray, List.getElem?_cons_succ, List.getElem?_cons_zero]; rfl) (by kernel_rfl) (by kernel_rfl) (by kernel_rfl) (by exact fun _ _ _ h => h) (Or.inr ⟨by rfl, rfl⟩) (by assumption) ?_
            try simp only [Act.put, List.setIfInBounds_toArray, List.set_cons_zero, List.set_cons_succ]
            refine wpAnyH_take (i := 18) (v := undef) (by simp only [List.getElem?_toArray, List.getElem?_cons_succ, List.getElem?_cons_zero]; rfl) (by kernel_rfl) (by kernel_rfl) (by kernel_rfl) (by exact fun _ _ _ h => h) (Or.inr ⟨by rfl, rfl⟩) (by assumption) ?_
            try simp only [Act.put, List.setIfInBounds_toArray, List.set_cons_zero, List.set_cons_succ]
            refine wpAnyH_take (i := 19) (v := undef) (by simp only [List.getElem?_toArray, List.getElem?_cons_succ, List.getElem?_cons_zero]; rfl) (by kernel_rfl) (by kernel_rfl) (by kernel_rfl) (by exact fun _ _ _ h => h) (Or.inr ⟨by rfl, rfl⟩) (by assumption) ?_
            try simp only [Act.put, List.setIfInBounds_toArray, List.set_cons_zero, List.set_cons_succ]
            refine wpAnyH_take (i := 20) (v := ?_) (by simp only [List.getElem?_toArray, List.getElem?_cons_succ, List.getElem?_cons_zero]; rfl) (by kernel_rfl) (by kernel_rfl) (by kernel_rfl) (by exact fun _ _ _ h => h) (Or.inl ⟨by rfl, ?_⟩) (by assumption) ?_
            rotate_left
            · (intro w hSw; (try dsimp only at hSw); obtain ⟨hSa, hSb⟩ := hSw; go_simp; first | done | with_reducible rfl)
            try simp only [Act.put, List.setIfInBounds_toArray, List.set_cons_zero, List.set_cons_succ]
            refine wpAnyH_done (by kernel_rfl) ?_ _
            go_wp2_with fail
            go_roundw
            case rel => exact ⟨j + 1, by omega, by go_num, Hn.out, Below.next hbr (Drawn.below ⟨_, rfl⟩)⟩
            case measure => simp [intOf] <;> omega
          · have hmd : decide (z ∈ A) = false := by simpa using hm
            have HcA : Hid (∀ V, Below wr.heap.size wr V → Calls Tryz.prog 86 #[.slice aa k ca, .int .i64 z] V fun e w' => e = .returned (.bool false) ∧ w' = V) := fun V hV => by
              have h := hin V (hA.keep (Below.next hbwr hV))
              rw [hmd] at h; exact h
            have hexz2 : exP O L A t z = isB O L (sortL (R ++ [z])) := by rw [hexz, show decide (¬ z ∈ A) = true by simpa using hm, Bool.true_and]
            have hgl : (R ++ [z]).length = g + 1 := by rw [List.length_append, Hg.out]; rfl
            have hinz : InN m (sortL (R ++ [z])) := inN_of fun x hx => by
              rcases List.mem_append.1 ((sortL_perm _).mem_iff.1 hx) with h | h
              · exact inN_mem HRin.out h
              · rw [List.mem_singleton.1 h]; exact hzm
            obtain ⟨y, hy⟩ : ∃ y, isB O L (sortL (R ++ [z])) = y := ⟨_, rfl⟩
            rw [hy] at hexz2
            have HSo : Hid (∀ V a5 c5, Below wr.heap.size wr V → V.ownsRow wr.heap.size 3 1 (.slice a5 (g + 1) c5) (g + 1) (R.map (Value.int .i64) ++ [.int .i64 z]) →
                Calls Tryz.prog 38 #[.slice a5 (g + 1) c5] V fun e w' => ∃ a7 c7, e = .returned (.slice a7 (g + 1) c7) ∧ Ints w' a7 (g + 1) (sortL (R ++ [z])) ∧ Below V.heap.size V w') := fun V a5 c5 hV ho => by
              refine (sorted25_any a5 (g + 1) c5 (R ++ [z]) V (Ints.own (l := R ++ [z]) (by simpa using ho)).1 (by omega)).mono ?_
              rintro e w' ⟨a7, c7, rfl, ho7, hb7⟩
              exact ⟨a7, c7, rfl, (Ints.own ho7).1, hb7⟩
            have HIz : Hid (∀ V a7 c7, Below wr.heap.size wr V → Ints V a7 (g + 1) (sortL (R ++ [z])) → ∀ V2, Below V.heap.size V V2 → Calls Tryz.prog 77 #[.agg #[.int .i64 P, .int .i64 M, .slice am mn cm, .int .i64 m, .slice a n c], .slice a7 (g + 1) c7] V2 fun e w' => e = .returned (.bool y) ∧ Below V2.heap.size V2 w') := fun V a7 c7 hV hI V2 hV2 => by
              have h := HI.out V2 (sortL (R ++ [z])) a7 (g + 1) c7 (Below.next hbwr (Below.next hV hV2)) (hI.keep hV2) hinz (by omega)
              rw [hy] at h; exact h
            have HS2 : Hid (∀ V, Below wr.heap.size wr V → V.cell? ⟨w.heap.size, 0, none⟩ = some (.int .i64 P) ∧ V.cell? ⟨w.heap.size, 1, none⟩ = some (.int .i64 M) ∧ V.cell? ⟨w.heap.size, 2, none⟩ = some (.slice am mn cm) ∧ V.cell? ⟨w.heap.size, 3, none⟩ = some (.int .i64 m) ∧ V.cell? ⟨w.heap.size, 4, none⟩ = some (.slice a n c) ∧
                V.cell? ⟨ablk ab, aoff ab + j, none⟩ = some (.int .i64 z) ∧ Ints V a1 g R ∧ Below wr.heap.size wr V) := fun V hV => by
              obtain ⟨d0, d1, d2, d3, d4⟩ := HS.out V (Below.next hbWr hV)
              refine ⟨d0, d1, d2, d3, d4, ?_, HR.out.keep (Below.next hbr hV), hV⟩
              have h := (hB.keep (Below.next hbwr hV)).cell j hlt
              rwa [Hz.out] at h
            have Hexz := Lib.hid hexz2
            have hGl := Hg.out
            have Hbr := Lib.hid (And.intro hbr hbwr)
            clear hm hmd hin hexz hexz2 hgl hinz hy cz hbr hbwr hbWr hzm
            go_wp2_with fail
            go_cut [81] (fun v wx => v = .bool y ∧ Below wr.heap.size wr wx)
            case first =>
              have hO := own_emp wr 3
              have hO2 : ((wr.alloc (.cells #[.int .i64 z] 3)).alloc (.cells #[] 3)).ownsRow wr.heap.size 3 1 (.slice (some ⟨wr.heap.size + 1, 0, none⟩) 0 0) 0 [] := by
                have h := own_mono (own_emp (wr.alloc (.cells #[.int .i64 z] 3)) 3) (B' := wr.heap.size) (by simp)
                rwa [World.size_alloc] at h
              go_region_held3 (fun V => V.cell? ⟨w.heap.size, 0, none⟩ = some (.int .i64 P) ∧ V.cell? ⟨w.heap.size, 1, none⟩ = some (.int .i64 M) ∧ V.cell? ⟨w.heap.size, 2, none⟩ = some (.slice am mn cm) ∧ V.cell? ⟨w.heap.size, 3, none⟩ = some (.int .i64 m) ∧ V.cell? ⟨w.heap.size, 4, none⟩ = some (.slice a n c) ∧
                V.cell? ⟨ablk ab, aoff ab + j, none⟩ = some (.int .i64 z) ∧ Ints V a1 g R ∧ Below wr.heap.size wr V)
                ((refine HS2.out _ ?_; first | exact (Below.refl _ _).drew | exact hb8 | exact hb7 | exact hb5 | exact hb4 | exact Below.allocN hb4 _ | assumption | (go_split_ands; assumption) | exact ((Below.refl _ _).alloc (Nat.le_refl _) _).drew | (go_split_ands; exact Below.allocN (by assumption) _)))
                (first
                  | (go_at_call 86; ((with_reducible refine (HcA.out _ (by go_split_ands; assumption)).mono ?_); rintro e w6 ⟨rfl, rfl⟩))
                  | (obtain ⟨_, _, _, _, _, _, hI9, hB9⟩ := (by assumption : _ ∧ _ ∧ _ ∧ _ ∧ _ ∧ _ ∧ Ints _ a1 g R ∧ Below wr.heap.size wr _); refine step_appAllG (by rfl) (.tmp 70) (.tmp 71) 22 3 (by rfl) (.int .i64 0) 8 Tryz.underlying22 infoInt (by rfl) wr.heap.size _ 0 0 [] (by rfl) (by first | exact hO | exact hO.alloc _ | exact hO2) a1 g c1 (R.map (Value.int .i64)) (by rfl) hplR (by simp [hGl]) (Ints.news hI9) (ints_oneCell _ _) (by omega) (by unfold maxLen; omega) (Below.size hB9) ?_; intro a4 c4 w4 hown4 hgr4 hap4; have hb4 : Below wr.heap.size wr w4 := Below.app (B := wr.heap.size) (e := 3) (xs := []) hB9 (by first | exact hO | exact hO.alloc _ | exact hO2) hgr4 (Nat.le_refl _) (Below.size hB9); rw [Nat.zero_add] at hown4 ⊢; rw [List.nil_append] at hown4; (first | (have hc4 := cell_grownApt (ad := ⟨wr.heap.size + 1, 0, none⟩) (v := .int .i64 z) hgr4 (cell_new' _ _ _ (by simp)) (.inr (by simp))) | (have hc4 := cell_grownApt (ad := ⟨wr.heap.size, 0, none⟩) (v := .int .i64 z) hgr4 (cell_box (cell_new' _ _ _ rfl) _) (.inr (by simp))) | skip))
                  | (refine step_appAllG (by rfl) (.tmp 72) (.tmp 77) 22 3 (by rfl) (.int .i64 0) 8 Tryz.underlying22 infoInt (by rfl) wr.heap.size a4 g c4 (R.map (Value.int .i64)) (by rfl) (by first | exact hown4 | exact hown4.alloc _) _ 1 1 [.int .i64 z] (by rfl) (fun _ => rfl) rfl (by intro j hj; obtain rfl : j = 0 := (by omega); first | exact cell_new' _ _ _ rfl | exact hc4) (by intro y hy; simp at hy; subst hy; rfl) (by omega) (by unfold maxLen; omega) (by first | exact hb4.size | exact (Below.allocN hb4 _).size) ?_; intro a5 c5 w5 hown5 hgr5 hap5; have hb5 : Below wr.heap.size wr w5 := (by first | exact Below.app (Below.allocN hb4 _) (hown4.alloc _) hgr5 (Nat.le_refl _) (Below.allocN hb4 _).size | exact Below.app hb4 hown4 hgr5 (Nat.le_refl _) hb4.size))
                  | (go_at_call 38; ((with_reducible refine (HSo.out _ a5 c5 hb5 hown5).mono ?_); rintro e w7 ⟨a7, c7, rfl, hI7, hb7'⟩; have hb7 : Below wr.heap.size wr w7 := Below.next hb5 hb7'; have Hr2 := Lib.hid (HIz.out w7 a7 c7 hb7 hI7); clear hI7))
                  | (go_at_call 77; ((with_reducible refine (Hr2.out _ (by first | exact Below.refl _ _ | assumption)).mono ?_); rintro e w8 ⟨rfl, hb8'⟩; have hb8 : Below wr.heap.size wr w8 := Below.next hb7 hb8')))
              all_goals (go_wp2_with fail; go_meet; exact ⟨rfl, hb8⟩)
            obtain ⟨rfl, hb9⟩ := hcut
            generalize wc = V at *
            cases y
            · have Hn := Lib.hid (Hno.out Hexz.out)
              clear Hno Hyes
              go_wp2_with fail
              go_roundw
              case rel => exact ⟨j + 1, by omega, by go_num, Hn.out, Below.next Hbr.out.1 hb9⟩
              case measure => simp [intOf] <;> omega
            · have HV := Lib.hid (Hyes.out Hexz.out)
              have cz := (HS2.out V hb9).2.2.2.2.2.1
              have hF := Below.next Hbr.out.2 hb9
              clear Hno Hyes
              go_wp2_with fail
              go_ret2
              exact ⟨by rw [HV.out]; rfl, hF⟩
        · obtain rfl : j = nb := by omega
          have HV : Hid (exV P M mod m L A B i = (0, 11)) := by
            show _ = _
            rw [HexV3.out, find_no _ B (by rw [Hbl.out]; exact hno.out)]
          clear hno
          go_wp2_with fail
          go_ret2
          exact ⟨by rw [HV.out]; rfl, hbwr⟩
end

/- The walk of InfosetExchange. -/
section
open Go.RowKit

set_option maxRecDepth 100000 in
set_option maxHeartbeats 8000000 in
theorem infExchange_any (P M : Int) (am : Option Addr) (mn cm : Nat) (mod : List Int) (N : Int) (a : Option Addr) (n c : Nat) (L : List (List Int)) (aa : Option Addr) (na ca : Nat) (A : List Int) (ab : Option Addr) (nb cb : Nat) (B : List Int) (i : Int) (w : World)
    (hmod : Ints w am mn mod) (hi : Mat w a n L) (hA : Ints w aa na A) (hB : Ints w ab nb B) :
    Calls Tryz.prog 6 #[.agg #[.int .i64 P, .int .i64 M, .slice am mn cm, .int .i64 N, .slice a n c], .agg #[.slice aa na ca, .slice ab nb cb], .int .i64 i] w fun e w' => e = .returned (.bool true) ∧ Below w.heap.size w w' := by
  have HF : Hid (∀ V, Below w.heap.size w V → Calls Tryz.prog 25 #[.agg #[.int .i64 P, .int .i64 M, .slice am mn cm, .int .i64 N, .slice a n c]] V (SomeBool V)) :=
    fun V hV => few25_any P M am mn cm N a n c L V (hi.keep hV)
  have HX1 : Hid (∀ V, Below w.heap.size w V → Calls Tryz.prog 33 #[.agg #[.int .i64 P, .int .i64 M, .slice am mn cm, .int .i64 N, .slice a n c], .slice aa na ca, .slice ab nb cb, .int .i64 i] V
      fun e w' => e = .returned (.tuple #[.int .i64 (exV P M mod N L A B i).1, .int .i64 (exV P M mod N L A B i).2]) ∧ Below V.heap.size V w') :=
    fun V hV => exchange_any P M am mn cm mod N a n c L aa na ca A ab nb cb B i V (hmod.keep hV) (hi.keep hV) (hA.keep hV) (hB.keep hV)
  have HX2 : Hid (∀ V, Below w.heap.size w V → Calls Tryz.prog 34 #[.agg #[.int .i64 P, .int .i64 M, .slice am mn cm, .int .i64 N, .slice a n c], .slice aa na ca, .slice ab nb cb, .int .i64 i] V
      fun e w' => e = .returned (.tuple #[.int .i64 (exV P M mod N L A B i).1, .int .i64 (exV P M mod N L A B i).2]) ∧ Below V.heap.size V w') :=
    fun V hV => rExchange25_any P M am mn cm mod N a n c L aa na ca A ab nb cb B i V (hmod.keep hV) (hi.keep hV) (hA.keep hV) (hB.keep hV)
  obtain ⟨r, hr⟩ : ∃ r, (exV P M mod N L A B i).1 = r := ⟨_, rfl⟩
  obtain ⟨er, her⟩ : ∃ er, (exV P M mod N L A B i).2 = er := ⟨_, rfl⟩
  rw [hr, her] at HX1 HX2
  clear hmod hi hA hB hr her
  go_enter Tryz.func6, Tryz.ntmps6
  go_wp2_with fail
  obtain ⟨W, hW⟩ : ∃ W : World, W = (w.alloc (.cells #[.int .i64 P, .int .i64 M, .slice am mn cm, .int .i64 N, .slice a n c] 27)).alloc (.cells #[.slice aa na ca, .slice ab nb cb] 45) := ⟨_, rfl⟩
  rw [← hW]
  have hbW : Below w.heap.size w W := by rw [hW]; exact below2 _ _ _
  have x0 : Box W w.heap.size [.int .i64 P, .int .i64 M, .slice am mn cm, .int .i64 N, .slice a n c] := by rw [hW]; exact (Box.new _ _ _ rfl).alloc _
  have y0 : Box W (w.heap.size + 1) [.slice aa na ca, .slice ab nb cb] := by rw [hW]; exact Box.new _ _ _ (by simp)
  have HS : Hid (∀ V, Below W.heap.size W V → V.cell? ⟨w.heap.size, 0, none⟩ = some (.int .i64 P) ∧ V.cell? ⟨w.heap.size, 1, none⟩ = some (.int .i64 M) ∧ V.cell? ⟨w.heap.size, 2, none⟩ = some (.slice am mn cm) ∧ V.cell? ⟨w.heap.size, 3, none⟩ = some (.int .i64 N) ∧ V.cell? ⟨w.heap.size, 4, none⟩ = some (.slice a n c) ∧
      V.cell? ⟨w.heap.size + 1, 0, none⟩ = some (.slice aa na ca) ∧ V.cell? ⟨w.heap.size + 1, 1, none⟩ = some (.slice ab nb cb)) := fun V hV => by
    have x1 := x0.keep hV
    have y1 := y0.keep hV
    exact ⟨x1.cell 0 rfl, x1.cell 1 rfl, x1.cell 2 rfl, x1.cell 3 rfl, x1.cell 4 rfl, y1.cell 0 rfl, y1.cell 1 rfl⟩
  have HbW := Lib.hid hbW
  clear hW x0 hbW y0
  refine (awake_any W).mono ?_
  rintro e w1 ⟨rfl, hb1⟩
  obtain ⟨c0, c1, c2, c3, c4, d0, d1⟩ := HS.out w1 hb1
  go_wp2_with fail
  refine (HF.out w1 (Below.next HbW.out hb1)).mono ?_
  rintro e w2 ⟨z, rfl, hb2⟩
  have hB2 := Below.next hb1 hb2
  clear c0 c1 c2 c3 c4 d0 d1 HF
  cases z
  · go_wp2_with fail
    refine (awake_any w2).mono ?_
    rintro e w3 ⟨rfl, hb3⟩
    have hF := Below.next HbW.out (Below.next hB2 hb3)
    go_wp2_with fail
    go_ret
    exact ⟨rfl, hF⟩
  obtain ⟨c0, c1, c2, c3, c4, d0, d1⟩ := HS.out w2 hB2
  by_cases hno : 100 < na
  · have hd : decide ((100 : Int) < na) = true := by simp; omega
    clear hno
    go_wp2_with fail
    refine (awake_any w2).mono ?_
    rintro e w3 ⟨rfl, hb3⟩
    have hF := Below.next HbW.out (Below.next hB2 hb3)
    go_wp2_with fail
    go_ret
    exact ⟨rfl, hF⟩
  have hd : decide ((100 : Int) < na) = false := by simp; omega
  clear hno
  by_cases hno : 100 < nb
  · have hd : decide ((100 : Int) < nb) = true := by simp; omega
    clear hno
    go_wp2_with fail
    refine (awake_any w2).mono ?_
    rintro e w3 ⟨rfl, hb3⟩
    have hF := Below.next HbW.out (Below.next hB2 hb3)
    go_wp2_with fail
    go_ret
    exact ⟨rfl, hF⟩
  have hd2 : decide ((100 : Int) < nb) = false := by simp; omega
  clear hno
  go_wp2_with fail
  refine (HX1.out w2 (Below.next HbW.out hB2)).mono ?_
  rintro e w3 ⟨rfl, hb3⟩
  have hB3 := Below.next hB2 hb3
  clear c0 c1 c2 c3 c4 d0 d1 HX1 hd hd2 hb1 hb2
  obtain ⟨c0, c1, c2, c3, c4, d0, d1⟩ := HS.out w3 hB3
  go_wp2_with fail
  refine (HX2.out w3 (Below.next HbW.out hB3)).mono ?_
  rintro e w4 ⟨rfl, hb4⟩
  have hF := Below.next HbW.out (Below.next hB3 hb4)
  have e1 : (er == er) = true := by simp
  have e4 : (r == r) = true := by simp
  clear c0 c1 c2 c3 c4 d0 d1 HX2
  go_wp2_with fail
  go_ret
  exact ⟨rfl, hF⟩
end

/- InfosetExchange: the statement. -/
section
open Go.ChangeShapes Go.WideShapes Go.ChangeAt Go.RowKit

set_option maxRecDepth 100000 in
theorem infExchange_lifted (os : Os) (started : os.Started) (H : Type) (enc : TypeId × Value → H) :
    ReturnsInHanded {} Tryz.checked os 6 .any (Rows.infosetExchangeSpec.pre6 enc Tryz.prog Tryz.f6 Rows.infosetExchangeRow.domain false) (Rows.infosetExchangeSpec.post enc Tryz.prog Tryz.f6 false true false false) := by
  refine returnsInHanded_of_change (C := Tryz.checked) Tryz.own started (by kernel_rfl) Tryz.func6
    (ChangeSpec.witness6 (enc := enc) (C := Tryz.checked) false ⟨#[], #[.agg #[.int .i64 0, .int .i64 0, .slice none 0 0, .int .i64 0, .slice none 0 0], .agg #[.slice none 0 0, .slice none 0 0], .int .i64 0], []⟩ 8 (by kernel_rfl) (by kernel_rfl) (by kernel_rfl) (by kernel_rfl)) ?_
  intro W base args ds gs before hval0 hW hcnd _
  have hval : ∀ (j : Nat) t v, Tryz.f6.params[j]? = some t → args[j]? = some v → Value.okWide Tryz.prog W .any base t v := hval0
  have hW' := hW
  obtain ⟨p, q, hA0, hV, rfl, hfz, hnd⟩ := hW
  have hA : DataW.TrodAll enc Tryz.prog W 0 (fun _ => true) true Tryz.f6.params.toList args.toList ds p := hA0
  rw [Tryz.params6] at hA hval
  obtain ⟨v0, vs0, d0, ds0, p0, q0, hargs, rfl, rfl, h0, r0⟩ := trodAll_cons hA
  obtain ⟨v1, vs1, d1, ds1, p1, q1, rfl, rfl, rfl, h1, r1⟩ := trodAll_cons r0
  obtain ⟨v2, vs2, d2, ds2, p2, q2, rfl, rfl, rfl, h2, r2⟩ := trodAll_cons r1
  obtain ⟨rfl, rfl, rfl⟩ := trodAll_nil r2
  obtain rfl : args = #[v0, v1, v2] := by cases args; simp_all
  obtain ⟨rfl, rfl⟩ := trodVars_none hV
  have k0 := h0
  have k1 := h1
  have lt0 : ∀ x ∈ p0, x.block < W.heap.size := by obtain ⟨m, hm⟩ := k0; exact DataW.trod_lt m _ _ _ hm
  have lt1 : ∀ x ∈ p1, x.block < W.heap.size := by obtain ⟨m, hm⟩ := k1; exact DataW.trod_lt m _ _ _ hm
  obtain ⟨P, M, am, mn, cm, mod, N, a, n, c, L, rfl, hI0, hM0⟩ := arg_code (hval 0 _ v0 rfl rfl) h0
  obtain ⟨a1x, n1x, c1x, Q1, a1y, n1y, c1y, R1, rfl, hQ1, hR1⟩ := arg_two (hval 1 _ v1 rfl rfl) h1
  obtain ⟨z2, rfl, rfl, rfl, w2⟩ := open_int Tryz.underlying3 (hval 2 _ v2 rfl rfl) h2
  clear hA0 hval0
  refine (infExchange_any P M am mn cm mod N a n c L a1x n1x c1x Q1 a1y n1y c1y R1 z2 W hI0 hM0 hQ1 hR1).mono fun e W' ⟨he, bel⟩ => ?_
  subst he
  exact ⟨_, rfl, _, _, _, [], _, [], hW', trodAll_mk1 (shut_bool Tryz.underlying4 _), (trodAll_cons_mk (Below.trod Tryz.laid (by kernel_rfl) (of_decide_eq_true (by kernel_rfl)) k0 bel lt0) (trodAll_cons_mk (Below.trod Tryz.laid (by kernel_rfl) (of_decide_eq_true (by kernel_rfl)) k1 bel lt1) (trodAll_cons_mk (shut_int Tryz.underlying3 w2) trodAll_mk0))), rfl, bel.frame _, fun h => by cases h⟩

theorem infExchange_over : Rows.infosetExchangeRow.holds Tryz.pinned (OpenSpec.ofChange Rows.infosetExchangeSpec) :=
  OpenClaim.holds_of_wide 6 Tryz.f6 rfl rfl rfl rfl rfl rfl rfl ⟨rfl, rfl, rfl, rfl, rfl⟩ rfl rfl rfl rfl rfl (by kernel_rfl) Tryz.func6 (by kernel_rfl)
    (of_decide_eq_true (by kernel_rfl)) (by unfold Func.isWrapper; first | (rw [if_pos (by decide +kernel)]; kernel_rfl) | (rw [if_neg (by decide +kernel)]; exact ⟨rfl, rfl⟩))
    (fun os started H enc _ => infExchange_lifted os started H enc)

theorem infExchange_holds : Rows.InfosetExchangeSaid := infExchange_over
#print axioms infExchange_holds
end

end Go.Proofs.YtakmnncmeefceaaGreat
