/- The greedy choice by ranks alone (plain law). -/
import Derived.Test.YtapjcccpokhhhaaG20
import Derived.Test.YtapjcccpokhhhaaG17
import Derived.Test.YtapjcccpokhhhaaG19
namespace Go.Proofs.Ytapjcccpokhhhaa
set_option linter.unusedVariables false
set_option linter.unusedSimpArgs false
set_option linter.unusedSectionVars false

/- Elimination with columns put behind (plain law): the pivots stay. -/
section
theorem nthR_map0 (f : List Int → List Int) (hf : f [] = []) (L : List (List Int)) (i : Nat) : nthR (L.map f) i = f (nthR L i) := by
  by_cases h : i < L.length
  · exact nthR_mapf f L h
  · rw [nthR_nil_of_le (by simpa using h), nthR_nil_of_le (by omega), hf]
section
variable {O : FOps} {k : Nat}
theorem findTo_take {J : List (List Int)} {c : Nat} (hc : c < k) : ∀ f i, findTo (J.map (List.take k)) c i f = findTo J c i f
  | 0, i => rfl
  | f + 1, i => by
    rw [findTo, findTo, nthR_map0 _ List.take_nil, nth_takeL _ hc, findTo_take hc f (i + 1)]
theorem findRow_take {J : List (List Int)} {c : Nat} (hc : c < k) (i : Nat) : findRow (J.map (List.take k)) c i = findRow J c i := by
  unfold findRow
  rw [List.length_map, findTo_take hc]
theorem clearRow_take {pv r : List Int} {c : Nat} (hc : c < k) : clearRow O (pv.take k) c (r.take k) = (clearRow O pv c r).take k := by
  unfold clearRow
  rw [nth_takeL _ hc]
  split
  · rfl
  · rw [addRow_take]
theorem clearTo_take {J : List (List Int)} {t c : Nat} (hc : c < k) : ∀ i, clearTo O t c (J.map (List.take k)) i = (clearTo O t c J i).map (List.take k)
  | 0 => rfl
  | i + 1 => by
    rw [clearTo, clearTo, clearTo_take hc i]
    split
    · rfl
    · rw [nthR_map0 _ List.take_nil, nthR_map0 _ List.take_nil, clearRow_take hc, List.map_set]
theorem normRow_take {J : List (List Int)} {t c : Nat} (hc : c < k) : normRow O (J.map (List.take k)) t c = (normRow O J t c).map (List.take k) := by
  unfold normRow
  rw [nthR_map0 _ List.take_nil, nth_takeL _ hc]
  split
  · rfl
  · rw [List.map_set, List.map_take]
theorem swapRow_take {J : List (List Int)} {t i : Nat} : swapRow (J.map (List.take k)) t i = (swapRow J t i).map (List.take k) := by
  unfold swapRow
  rw [nthR_map0 _ List.take_nil, nthR_map0 _ List.take_nil, List.map_set, List.map_set]
theorem pivotS_take {J : List (List Int)} {t i c : Nat} (hc : c < k) : pivotS O (J.map (List.take k)) t i c = (pivotS O J t i c).map (List.take k) := by
  have h : ∀ J : List (List Int), clearTo O t c (normRow O (J.map (List.take k)) t c) (normRow O (J.map (List.take k)) t c).length = (clearTo O t c (normRow O J t c) (normRow O J t c).length).map (List.take k) := fun J => by
    rw [normRow_take hc, List.length_map, clearTo_take hc]
  unfold pivotS
  split
  · exact h J
  · rw [swapRow_take]; exact h _
theorem elimTo_take {J : List (List Int)} : ∀ c, c ≤ k → (elimTo O (J.map (List.take k)) c).1 = (elimTo O J c).1.map (List.take k) ∧ (elimTo O (J.map (List.take k)) c).2 = (elimTo O J c).2
  | 0, _ => ⟨rfl, rfl⟩
  | c + 1, h => by
    obtain ⟨h1, h2⟩ := elimTo_take (J := J) c (by omega)
    simp only [elimTo]
    rw [h1, h2, List.length_map, findRow_take (by omega)]
    split
    · split
      · exact ⟨h1, h2⟩
      · exact ⟨pivotS_take (by omega), rfl⟩
    · exact ⟨h1, h2⟩
end
section
variable {O : FOps} {El : Int → Prop} {m : Nat}
theorem elim_gr (F : Fld O El) {L : List (List Int)} (hL : Rws El m L) {Q : List Int} (hQ : InN m Q) : (elimTo O (L.map (pickL Q)) Q.length).2.length = (grS O L Q).length := by
  refine Rk.same (col_clo F hL) (pick_rk F hL hQ) (grS_rk F hL Q) fun x => ?_
  rw [mem_grL, List.mem_map]
  constructor
  · rintro ⟨j, hj, rfl⟩; exact ⟨j, List.mem_range.1 hj, rfl⟩
  · rintro ⟨j, hj, e⟩; exact ⟨j, List.mem_range.2 hj, e⟩
theorem sys_pv (F : Fld O El) {L : List (List Int)} (hL : Rws El m L) {Q : List Int} (hQ : InN m Q) (hl : Q.length = L.length) (hg : (grS O L Q).length = Q.length) :
    (elimTo O (joinL (L.map (pickL Q)) (unitL Q.length)) Q.length).2.length = Q.length := by
  have hJ := joinL_take (k := Q.length) (D := L.map (pickL Q)) (U := unitL Q.length) (by rw [List.length_map, unitL_len]; omega) (fun r hr => by
    obtain ⟨s, _, rfl⟩ := List.mem_map.1 hr
    simp [pickL])
  have h := (elimTo_take (O := O) (k := Q.length) (J := joinL (L.map (pickL Q)) (unitL Q.length)) Q.length (Nat.le_refl _)).2
  rw [hJ] at h
  rw [← h, elim_gr F hL hQ, hg]
end
end

/- The walk of matrix.Columns, at positions in range. -/
section
open Go.RowKit

def ColsPost (n : Nat) (Q : List Int) (L : List (List Int)) (w : World) (e : Ending) (w' : World) : Prop :=
  ∃ a1 c1, e = .returned (.tuple #[.agg #[.int .i64 Q.length, .slice a1 n c1], .int .i64 0]) ∧ MatN w.heap.size w' a1 n (L.map (pickL Q)) ∧ Below w.heap.size w w'

set_option maxRecDepth 100000 in
set_option maxHeartbeats 4000000 in
theorem columns_any (P M : Int) (am : Option Addr) (mn cm : Nat) (mod : List Int) (m : Nat) (a : Option Addr) (n c : Nat) (L : List (List Int)) (ao : Option Addr) (no co : Nat) (Q : List Int) (w : World) (hmod : Ints w am mn mod) (hi : Mat w a n L) (hq : Ints w ao no Q)
    (hE : codeE P M mod m L = 0) (hQ : InN m Q) (hno : no ≤ 256) :
    Calls Try.prog 22 #[.agg #[.int .i64 P, .int .i64 M, .slice am mn cm], .agg #[.int .i64 m, .slice a n c], .slice ao no co] w (ColsPost n Q L w) := by
  have Hlen := Lib.hid hi.len
  have Hql := Lib.hid hq.len
  have hplq := hq.pl
  have hpla := hi.pl
  obtain ⟨N', e, hm1, hm64, F, hR⟩ := codeE_fld hE
  obtain rfl : m = N' := by omega
  have hL256 := (codeE_rws hE).choose_spec.2.2.2.1
  have hn : n ≤ 256 := by rw [← hi.len]; exact hL256
  obtain ⟨h5, h6⟩ := spaceE_zero (codeE_zero hE).2.2.2
  obtain ⟨hfB, h8⟩ := fmatE_zero h5
  have HLl : Hid (∀ k, k < n → (nthR L k).length = m) := fun k hk => (hR.row (i := k) (by rw [hi.len]; exact hk)).1
  have HQ := Lib.hid hQ
  obtain ⟨L2, hL2⟩ : ∃ L2, L.map (pickL Q) = L2 := ⟨_, rfl⟩
  have HL2l : Hid (L2.length = n) := by show _ = _; rw [← hL2, List.length_map]; exact Hlen.out
  have HLk : Hid (∀ k, k < n → L2.take (k + 1) = L2.take k ++ [pickL Q (nthR L k)]) := fun k hk => by
    have hk' : k < L2.length := by rw [HL2l.out]; exact hk
    rw [List.take_succ_eq_append_getElem hk', ← nthR_getElem hk', ← hL2, nthR_map _ L (by rw [Hlen.out]; exact hk)]
  unfold ColsPost
  rw [hL2, Hql.out]
  clear hE h5 h6 e hL256 F hR hQ hL2
  go_enter Try.func22, Try.ntmps22
  go_wp2_with fail
  obtain ⟨W, hW⟩ : ∃ W : World, W = ((((w.alloc (.cells #[.int .i64 P, .int .i64 M, .slice am mn cm] 29)).alloc (.cells #[.int .i64 m, .slice a n c] 39)).alloc (.cells #[.int .i64 0, .slice none 0 0] 39)).alloc (.cells #[.int .i64 m, .slice a n c] 39)) := ⟨_, rfl⟩
  rw [← hW]
  have hbW : Below w.heap.size w W := by rw [hW]; exact ((((Below.refl _ _).alloc (Nat.le_refl _) _).alloc (by simp) _).alloc (by simp; omega) _).alloc (by simp; omega) _
  have hsW : W.heap.size = w.heap.size + 4 := by rw [hW]; simp
  have x1 : Box W (w.heap.size + 1) [.int .i64 m, .slice a n c] := by rw [hW]; exact ((Box.new _ _ _ (by simp)).alloc _).alloc _
  have x2 : Box W (w.heap.size + 1 + 1) [.int .i64 0, .slice none 0 0] := by rw [hW]; exact (Box.new _ _ _ (by simp)).alloc _
  have q3 : W.cell? ⟨w.heap.size + 1 + 1 + 1, 0, none⟩ = some (.int .i64 m) ∧ W.cell? ⟨w.heap.size + 1 + 1 + 1, 1, none⟩ = some (.slice a n c) := by rw [hW]; exact ⟨cell_alloc_at _ _ _ (by simp) 0, cell_alloc_at _ _ _ (by simp) 1⟩
  have hMs : Mats W (some ⟨w.heap.size + 1 + 1 + 1, 0, none⟩) 1 [((m : Int), L)] := ⟨rfl, fun _ => rfl, by unfold maxLen; omega, fun i hi' => by
    have : i = 0 := by simp at hi'; omega
    subst this
    exact ⟨a, n, c, by simpa using q3.1, by simpa using q3.2, hi.keep hbW⟩⟩
  have HX := Lib.hid (And.intro x1 x2)
  have HsW := Lib.hid hsW
  have HbW := Lib.hid hbW
  clear hW hsW x1 x2 q3
  refine (open_any P M am mn cm mod _ 1 1 _ W (hmod.keep hbW) hMs).mono ?_
  rintro e w1 ⟨hb1, hcase⟩
  rw [matsE_one] at hcase
  rcases hcase with ⟨hB, _⟩ | ⟨_, er, h0, h1, _⟩ | ⟨_, _, b, rfl, hG, hbl⟩
  · rw [hfB] at hB; exact absurd hB (by decide)
  · rw [h8] at h1; exact absurd h1.symm h0
  have hbw1 := Below.next hbW hb1
  have r1 := HX.out.1.keep hb1
  have m0 := r1.cell 0 rfl
  have m1 := r1.cell 1 rfl
  have hq1 := hq.keep hbw1
  have d256 : decide ((256 : Int) < no) = false := by simp; omega
  clear hMs hfB h8 hbW r1 hG hbl
  go_wp2_with fail
  go_loop [35] (fun iv => ∃ k : Nat, k ≤ no ∧ iv = .int .i64 k) (fun iv => no - (intOf iv).toNat)
  case atStart => exact ⟨0, Nat.zero_le _, rfl⟩
  case round =>
    obtain ⟨k, hk, rfl⟩ := hrel
    by_cases hlt : k < no
    · have cq := hq1.cell k hlt
      have hb := HQ.out k (by rw [Hql.out]; exact hlt)
      have e1 : decide (nth Q k < 0) = false := by simp; omega
      have e2 : decide ((m : Int) ≤ nth Q k) = false := by simp; omega
      clear hb
      go_wp2_with fail
      go_round
      case rel => exact ⟨k + 1, by omega, by go_num⟩
      case measure => simp [intOf] <;> omega
    · obtain rfl : k = no := by omega
      go_upto_region 12 with fail
      obtain ⟨g, hg⟩ : ∃ g, w1.heap.size = g := ⟨_, rfl⟩
      have HG := Lib.hid hg
      clear hg
      go_cut [12] (fun v wx => v = .pointer (some ⟨w1.heap.size, 0, none⟩) ∧ MOut wx w1.heap.size (.int .i64 k) none 0 0 [] [] ∧ Below w1.heap.size w1 wx)
      case first =>
        go_wp2_with fail
        go_meet
        exact ⟨rfl, MOut.start (Box.new w1 [.int .i64 k, .slice none 0 0] _ rfl), below1 _ _⟩
      obtain ⟨rfl, hO0, hbc⟩ := hcut
      generalize wc = U at *
      have hs3 := HG.out
      rw [hs3] at hO0 ⊢
      have HbU := Lib.hid (Below.next hb1 hbc)
      have r1 := HX.out.1.keep HbU.out
      clear m0 m1
      have m0 := r1.cell 0 rfl
      have m1 := r1.cell 1 rfl
      have hgU := hO0.lt
      have hgW : W.heap.size ≤ g := by have := hb1.size; omega
      have hqU := hq1.keep hbc
      clear r1 hbc hs3 hq1
      go_wp2_with fail
      clear m0 m1
      go_loopw [55] (fun iv wr => ∃ (j : Nat) (a1 : Option Addr) (c1 : Nat) (Rr : List (Option Addr × Nat)), j ≤ n ∧ iv = .int .i64 j ∧ MOut wr g (.int .i64 k) a1 j c1 Rr (L2.take j) ∧ Below g U wr) (fun iv _ => n - (intOf iv).toNat)
      case atStart => exact ⟨0, none, 0, [], Nat.zero_le _, rfl, by simpa using hO0, Below.refl _ _⟩
      case round =>
        clear hO0
        obtain ⟨j, a1, c1, Rr, hj, rfl, hO, hbr⟩ := hrel
        have hbWr := Below.trans HbU.out (hbr.mono hgW)
        have hbwr := Below.next HbW.out hbWr
        have hgr := hO.lt
        by_cases hltj : j < n
        · obtain ⟨ra, rn, rc, hcell, hrow⟩ := (hi.keep hbwr).cell j hltj
          have hrn : rn = m := by rw [← hrow.len]; exact HLl.out j hltj
          rw [hrn] at hcell hrow
          have Htk := Lib.hid (HLk.out j hltj)
          obtain ⟨l, hl⟩ : ∃ l, nthR L j = l := ⟨_, rfl⟩
          rw [hl] at Htk hrow
          have hplr := hrow.pl
          obtain ⟨pk, hpk⟩ : ∃ pk, pickL Q l = pk := ⟨_, rfl⟩
          have Hpk := Lib.hid hpk
          have hpl : pk.length = k := by rw [← hpk]; simp [pickL]; exact Hql.out
          have Hpl := Lib.hid hpl
          clear hl hrn hpk hpl
          go_wp2_with (at_make; refine wpList_mk rfl _ _ 22 3 rfl (.int .i64 0) 8 Try.underlying22 infoInt rfl k rfl rfl (by omega) (by unfold maxLen; omega) ?_; intro a5 w5 hown hbel hge hlt5)
          have hown0 : w5.ownsRow wr.heap.size 3 1 (.slice a5 k k) k ((mixTo pk (List.replicate k 0) 0).map (Value.int .i64)) := by rw [mixTo_zero, List.map_replicate]; exact hown
          clear hown hge hlt5 hcell
          generalize wr = X1 at *
          go_loopw [64] (fun jv ws => ∃ t : Nat, t ≤ k ∧ jv = .int .i64 t ∧ ws.ownsRow X1.heap.size 3 1 (.slice a5 k k) k ((mixTo pk (List.replicate k 0) t).map (Value.int .i64)) ∧ Below X1.heap.size X1 ws) (fun jv _ => k - (intOf jv).toNat)
          case atStart => exact ⟨0, Nat.zero_le _, rfl, hown0, hbel⟩
          case round =>
            clear hown0 hbel
            obtain ⟨t, ht, rfl, hown, hbs⟩ := hrel
            by_cases hltt : t < k
            · have hbU1 : Below w.heap.size w wr := Below.next hbwr hbs
              have cq := (hq.keep hbU1).cell t hltt
              have hqb := HQ.out t (by rw [Hql.out]; exact hltt)
              obtain ⟨z, hz⟩ : ∃ z : Nat, nth Q t = z := ⟨(nth Q t).toNat, by omega⟩
              have hzm : z < m := by omega
              have cr := (hrow.keep hbs).cell z hzm
              have Hst : Hid ((mixTo pk (List.replicate k 0) t).set t (nth l z) = mixTo pk (List.replicate k 0) (t + 1)) := by
                show _ = _
                have h1 := mixTo_set pk (List.replicate k 0) t (by rw [Hpl.out, List.length_replicate]) (by rw [List.length_replicate]; exact hltt)
                rw [← Hpk.out, nth_pickL Q l (by rw [Hql.out]; exact hltt), hz, Int.toNat_natCast] at h1
                rw [← Hpk.out]
                exact h1
              rw [hz] at cq
              obtain ⟨hints, hmine⟩ := Ints.own hown
              have hpl5 := hints.pl
              have cz := hints.cell t hltt
              have fz := (hmine (by omega)).2 t hltt
              have hB := (hmine (by omega)).1
              clear hz hqb
              go_wp2_with fail
              go_roundw
              case rel =>
                have h := own_set hown t hltt (.int .i64 (nth l z))
                rw [← List.map_set, Hst.out] at h
                exact ⟨t + 1, by omega, by go_num, h, hbs.setCell hB _⟩
              case measure => simp [intOf] <;> omega
            · obtain rfl : t = k := by omega
              rw [mixTo_all pk (List.replicate t 0) t (by simp [Hpl.out]) (by simp)] at hown
              have hs := hO.keep hbs
              have hOk := hs.om.keep (below1 wr (.cells #[.slice a5 t t] 22))
              have hcp := hs.c1
              have hgs := hs.lt
              go_wp2_with (at_builtin; refine wpList_push rfl _ _ 30 22 rfl (.slice none 0 0) 24 Try.underlying30 infoInts rfl (g + 1) a1 j c1 _ rfl hOk.own ⟨wr.heap.size, 0, none⟩ 1 (.slice a5 t t) rfl (cell_new wr _ _) rfl (by omega) (by unfold maxLen; omega) (by simp; omega) ?_; intro a6 c6 w6 hown6 hgr6 hap6; have hk6 := (hs.pushed hgr6).2.1; have hf6 := (hs.pushed hgr6).2.2)
              go_roundw
              case rel =>
                have hra : a5 ≠ none → ¬ OIn a1 Rr (ablk a5) := fun h0 hI => by
                  have h1 := (own_ne hown h0).1
                  have h2 := (hO.om.lt _ hI).2
                  omega
                obtain ⟨hP, hbP⟩ := hs.push Hpl.out (own_mono hown (by omega)) hra hown6 hgr6 hap6
                exact ⟨j + 1, a6, c6, _, by omega, by go_num, by rw [Htk.out, Hpk.out]; exact hP, Below.trans hbr ((hbs.mono (by omega)).trans hbP)⟩
              case measure => simp [intOf] <;> omega
        · obtain rfl : j = n := by omega
          rw [List.take_of_length_le (by rw [HL2l.out]; exact Nat.le_refl _)] at hO
          have g0 := hO.c0
          have g1 := hO.c1
          have z6 := HX.out.2.keep hbWr
          have z0 := z6.cell 0 rfl
          have z1 := z6.cell 1 rfl
          have f0 := z6.frozen 0
          have f1 := z6.frozen 1
          have hs := HsW.out
          have hMN : MatN (g + 1) wr a1 j L2 := MatN.own hO.om
          have HF := Lib.hid (And.intro (((hMN.setCell (p := ⟨w.heap.size + 1 + 1, 0, none⟩) (by simp; omega) (.int .i64 k)).setCell (p := ⟨w.heap.size + 1 + 1, 1, none⟩) (by simp; omega) (.slice a1 j c1)).mono (show w.heap.size ≤ g + 1 by omega))
            ((hbwr.setCell (p := ⟨w.heap.size + 1 + 1, 0, none⟩) (by simp; omega) (.int .i64 k)).setCell (p := ⟨w.heap.size + 1 + 1, 1, none⟩) (by simp; omega) (.slice a1 j c1)))
          clear hMN z6 hO
          go_wp2_with fail
          exact bodyPost_ret (v := .tuple #[.agg #[.int .i64 k, .slice a1 j c1], .int .i64 0]) (by simp [results, Try.results22, go_sem, z0, z1]) rfl ⟨a1, c1, rfl, HF.out.1, HF.out.2⟩
end

/- The walk of matrix.Mul, at matrices that fit. -/
section
open Go.RowKit

def mtL (O : FOps) (m : Nat) (A B : List (List Int)) : List (List Int) := A.map fun r => cmbTo O m r B B.length

set_option maxRecDepth 100000 in
set_option maxHeartbeats 8000000 in
theorem mul_any (P M : Int) (am : Option Addr) (mn cm : Nat) (mod : List Int) (k : Nat) (a : Option Addr) (n c : Nat) (A : List (List Int)) (m : Nat) (ab : Option Addr) (cb : Nat) (B : List (List Int)) (w : World) (hmod : Ints w am mn mod) (hi : Mat w a n A) (hb : Mat w ab k B)
    (hfB : fieldB P M mod = true) (hA : Rws (tblOf P M.toNat mod).El k A) (hBr : Rws (tblOf P M.toNat mod).El m B) (hk : k ≤ 64) (hm1 : 1 ≤ m) (hm : m ≤ 64) (hn : n ≤ 64) :
    Calls Try.prog 24 #[.agg #[.int .i64 P, .int .i64 M, .slice am mn cm], .agg #[.int .i64 k, .slice a n c], .agg #[.int .i64 m, .slice ab k cb]] w
      fun e w' => ∃ a1 c1, e = .returned (.tuple #[.agg #[.int .i64 m, .slice a1 n c1], .int .i64 0]) ∧ MatN w.heap.size w' a1 n (mtL (tblOf P M.toNat mod).ops m A B) ∧ Below w.heap.size w w' := by
  have hAl := hi.len
  have hBl := hb.len
  have F := fieldB_fld hfB
  have hmE1 : matE (tblOf P M.toNat mod).q k A = 0 := (fmatE_zero (fmatE_mk hfB (show k ≤ 256 by omega) (show A.length ≤ 256 by omega) hA)).2
  have hmE2 : matE (tblOf P M.toNat mod).q m B = 0 := (fmatE_zero (fmatE_mk hfB (show m ≤ 256 by omega) (show B.length ≤ 256 by omega) hBr)).2
  have hpla := hi.pl
  obtain ⟨G, hGG⟩ : ∃ G, tblOf P M.toNat mod = G := ⟨_, rfl⟩
  rw [hGG] at hA hBr F hmE1 hmE2 ⊢
  obtain ⟨L2, hL2⟩ : ∃ L2, mtL G.ops m A B = L2 := ⟨_, rfl⟩
  have HL2l : Hid (L2.length = n) := by show _ = _; rw [← hL2, mtL, List.length_map]; exact hAl
  have HLk : Hid (∀ j, j < n → L2.take (j + 1) = L2.take j ++ [cmbTo G.ops m (nthR A j) B k]) := fun j hj => by
    have hj' : j < L2.length := by rw [HL2l.out]; exact hj
    rw [List.take_succ_eq_append_getElem hj', ← nthR_getElem hj', ← hL2, mtL, nthR_map _ A (by omega), hBl]
  rw [hL2]
  have HAr : Hid (∀ j, j < n → (nthR A j).length = k ∧ ∀ x ∈ nthR A j, G.El x) := fun j hj => hA.row (by omega)
  have HBr := Lib.hid hBr
  have HFl := Lib.hid F
  have HBl := Lib.hid hBl
  have HB := Lib.hid hfB
  have HmE := Lib.hid (And.intro hmE1 hmE2)
  have HGG := Lib.hid hGG
  clear hA hBr F hAl hBl hfB hmE1 hmE2 hGG hL2
  go_enter Try.func24, Try.ntmps24
  go_wp2_with fail
  obtain ⟨W, hW⟩ : ∃ W : World, W = (((((w.alloc (.cells #[.int .i64 P, .int .i64 M, .slice am mn cm] 29)).alloc (.cells #[.int .i64 k, .slice a n c] 39)).alloc (.cells #[.int .i64 m, .slice ab k cb] 39)).alloc (.cells #[.int .i64 0, .slice none 0 0] 39)).alloc (.cells #[.int .i64 k, .slice a n c, .int .i64 m, .slice ab k cb] 39)) := ⟨_, rfl⟩
  rw [← hW]
  have hbW : Below w.heap.size w W := by rw [hW]; exact (((((Below.refl _ _).alloc (Nat.le_refl _) _).alloc (by simp) _).alloc (by simp; omega) _).alloc (by simp; omega) _).alloc (by simp; omega) _
  have hsW : W.heap.size = w.heap.size + 5 := by rw [hW]; simp
  have x1 : Box W (w.heap.size + 1) [.int .i64 k, .slice a n c] := by rw [hW]; exact (((Box.new _ _ _ (by simp)).alloc _).alloc _).alloc _
  have x2 : Box W (w.heap.size + 1 + 1) [.int .i64 m, .slice ab k cb] := by rw [hW]; exact ((Box.new _ _ _ (by simp)).alloc _).alloc _
  have x3 : Box W (w.heap.size + 1 + 1 + 1) [.int .i64 0, .slice none 0 0] := by rw [hW]; exact (Box.new _ _ _ (by simp)).alloc _
  have q3 : ∀ i v, [Value.int .i64 k, .slice a n c, .int .i64 m, .slice ab k cb][i]? = some v → W.cell? ⟨w.heap.size + 1 + 1 + 1 + 1, i, none⟩ = some v := fun i v hv => by
    have h : Box W (w.heap.size + 1 + 1 + 1 + 1) [.int .i64 k, .slice a n c, .int .i64 m, .slice ab k cb] := by rw [hW]; exact Box.new _ _ _ (by simp)
    exact h.cell i hv
  have hMs : Mats W (some ⟨w.heap.size + 1 + 1 + 1 + 1, 0, none⟩) 2 [((k : Int), A), ((m : Int), B)] := ⟨rfl, fun _ => rfl, by unfold maxLen; omega, fun i hi' => by
    match i, hi' with
    | 0, _ => exact ⟨a, n, c, by simpa using q3 0 _ rfl, by simpa using q3 1 _ rfl, hi.keep hbW⟩
    | 1, _ => exact ⟨ab, k, cb, by simpa using q3 2 _ rfl, by simpa using q3 3 _ rfl, hb.keep hbW⟩⟩
  have HX := Lib.hid (And.intro x1 (And.intro x2 x3))
  have HsW := Lib.hid hsW
  have HbW := Lib.hid hbW
  clear hW hsW x1 x2 x3 q3
  refine (open_any P M am mn cm mod _ 2 2 _ W (hmod.keep hbW) hMs).mono ?_
  rintro e w1 ⟨hb1, hcase⟩
  have hms : matsE (tblOf P M.toNat mod).q [((k : Int), A), ((m : Int), B)] = 0 := by
    rw [HGG.out]
    simp [matsE, HmE.out.1, HmE.out.2]
  rcases hcase with ⟨hB, _⟩ | ⟨_, er, h0, h1, _⟩ | ⟨_, _, b, rfl, hG, hbl⟩
  · rw [HB.out] at hB; exact absurd hB (by decide)
  · rw [hms] at h1; exact absurd h1.symm h0
  rw [HGG.out] at hG
  have hbw1 := Below.next hbW hb1
  have r1 := HX.out.1.keep hb1
  have r2 := HX.out.2.1.keep hb1
  have m0 := r1.cell 0 rfl
  have m1 := r1.cell 1 rfl
  have p0 := r2.cell 0 rfl
  have p1 := r2.cell 1 rfl
  have hkk : ((k : Int) != k) = false := by simp
  clear hMs hbW r1 r2 hbl hmod hms
  go_upto_region 6 with fail
  obtain ⟨g, hg⟩ : ∃ g, w1.heap.size = g := ⟨_, rfl⟩
  have HGs := Lib.hid hg
  clear hg
  go_cut [10] (fun v wx => v = .pointer (some ⟨w1.heap.size, 0, none⟩) ∧ MOut wx w1.heap.size (.int .i64 m) none 0 0 [] [] ∧ Below w1.heap.size w1 wx)
  case first =>
    go_wp2_with fail
    go_meet
    exact ⟨rfl, MOut.start (Box.new w1 [.int .i64 m, .slice none 0 0] _ rfl), below1 _ _⟩
  obtain ⟨rfl, hO0, hbc⟩ := hcut
  generalize wc = U at *
  have hs3 := HGs.out
  rw [hs3] at hO0 ⊢
  have HbU := Lib.hid (Below.next hb1 hbc)
  have HbU1 := Lib.hid hbc
  have HS : Hid (∀ V, Below W.heap.size W V → V.cell? ⟨w.heap.size + 1, 0, none⟩ = some (.int .i64 k) ∧ V.cell? ⟨w.heap.size + 1, 1, none⟩ = some (.slice a n c) ∧ V.cell? ⟨w.heap.size + 1 + 1, 0, none⟩ = some (.int .i64 m) ∧ V.cell? ⟨w.heap.size + 1 + 1, 1, none⟩ = some (.slice ab k cb)) := fun V hV => by
    have r1 := HX.out.1.keep hV
    have r2 := HX.out.2.1.keep hV
    exact ⟨r1.cell 0 rfl, r1.cell 1 rfl, r2.cell 0 rfl, r2.cell 1 rfl⟩
  clear m0 m1 p0 p1
  obtain ⟨m0, m1, p0, p1⟩ := HS.out U HbU.out
  have hgU := hO0.lt
  have hgW : W.heap.size ≤ g := by have := hb1.size; omega
  have hw1g : w1.heap.size ≤ g := by omega
  clear hbc hs3
  go_wp2_with fail
  clear m0 m1 p0 p1
  go_loopw [38] (fun iv wr => ∃ (j : Nat) (a1 : Option Addr) (c1 : Nat) (Rr : List (Option Addr × Nat)), j ≤ n ∧ iv = .int .i64 j ∧ MOut wr g (.int .i64 m) a1 j c1 Rr (L2.take j) ∧ Below g U wr) (fun iv _ => n - (intOf iv).toNat)
  case atStart => exact ⟨0, none, 0, [], Nat.zero_le _, rfl, by simpa using hO0, Below.refl _ _⟩
  case round =>
    clear hO0
    obtain ⟨j, a1, c1, Rr, hj, rfl, hO, hbr⟩ := hrel
    have hbWr := Below.trans HbU.out (hbr.mono hgW)
    have hbwr := Below.next HbW.out hbWr
    have hb1r : Below w1.heap.size w1 wr := Below.trans HbU1.out (hbr.mono hw1g)
    have hgr := hO.lt
    by_cases hltj : j < n
    · obtain ⟨ra, rn, rc, hcell, hrow⟩ := (hi.keep hbwr).cell j hltj
      have hA := HAr.out j hltj
      have hrn : rn = k := by rw [← hrow.len]; exact hA.1
      rw [hrn] at hcell hrow
      have Htk := Lib.hid (HLk.out j hltj)
      obtain ⟨l, hl⟩ : ∃ l, nthR A j = l := ⟨_, rfl⟩
      rw [hl] at Htk hrow hA
      have Hvec : Hid (∀ V, Below wr.heap.size wr V → Calls Try.prog 41 #[.pointer (some ⟨b, 0, none⟩), .slice ra k rc, .slice ab k cb, .int .i64 m] V fun e w' =>
          ∃ a1 c1, e = .returned (.slice a1 m c1) ∧ w'.ownsRow V.heap.size 3 1 (.slice a1 m c1) m ((cmbTo G.ops m l B k).map (Value.int .i64)) ∧ Below V.heap.size V w') := fun V hV =>
        vec_any ra rc l ab k cb B m (hG.keep (Below.next hb1r hV)) HFl.out (hrow.keep hV) (hb.keep (Below.next hbwr hV)) (fun t ht => hA.2 _ (nth_mem (by rw [hA.1]; exact ht))) HBr.out hm1 (by omega) (by omega)
      have hvl : (cmbTo G.ops m l B k).length = m := (cmb_rs HFl.out HBr.out (x := l) (fun t ht => hA.2 _ (nth_mem (by rw [hA.1, ← HBl.out]; exact ht))) k (by rw [HBl.out]; exact Nat.le_refl _)).1.1
      obtain ⟨pk, hpk⟩ : ∃ pk, cmbTo G.ops m l B k = pk := ⟨_, rfl⟩
      rw [hpk] at Hvec hvl Htk
      have Hvl := Lib.hid hvl
      have Hbr := Lib.hid hbr
      have HbWr := Lib.hid hbWr
      have HO := Lib.hid hO
      have g1 := hO.c1
      obtain ⟨_, _, p0, p1⟩ := HS.out wr hbWr
      clear hl hrn hpk hvl hA hrow hbr hbWr hbwr hb1r hO
      go_wp2_with fail
      go_region_law ((first
        | (go_simp; go_at_call 41; ((with_reducible refine (Hvec.out _ (Below.refl _ _).drew).mono ?_); rintro e w4 ⟨a4, c4, rfl, hown4, hb4⟩; have hb4' := Below.next (Below.refl wr.heap.size wr).drew hb4; have hs4 := HO.out.keep hb4'; have g2 := hs4.c1; have g3 := cell_box hs4.c1 (.cells #[.slice a4 m c4] 22)))
        | (refine step_appAll (by rfl) (.tmp 43) (.tmp 51) 30 22 (by rfl) (.slice none 0 0) 24 Try.underlying30 infoInts (by rfl) (g + 1) a1 j c1 (List.zipWith rowV Rr (L2.take j)) (by rfl) ((hs4.om.keep (below1 _ _)).own) (some ⟨w4.heap.size, 0, none⟩) 1 1 [.slice a4 m c4] (by rfl) (fun _ => rfl) rfl (by intro y hy; obtain rfl : y = 0 := (by omega); exact cell_new' _ _ _ rfl) (by intro y hy; simp at hy; subst hy; rfl) (by omega) (by unfold maxLen; omega) (by have e2 := hs4.lt; simp; omega) ?_; intro a5 c5 w5 hown5 hgr5 hap5; have k5 := (hs4.pushed hgr5).2.1; have f5 := (hs4.pushed hgr5).2.2)))
      all_goals (
        go_wp2_with fail
        go_roundw
        case rel =>
          have hra : a4 ≠ none → ¬ OIn a1 Rr (ablk a4) := fun h0 hI => by
            have h1 := (own_ne hown4 h0).1
            have h2 := (HO.out.om.lt _ hI).2
            have h3 : wr.drew.heap.size = wr.heap.size := rfl
            omega
          obtain ⟨hP, hbP⟩ := hs4.push Hvl.out (own_mono hown4 (show g + 1 ≤ wr.drew.heap.size from hgr)) hra hown5 hgr5 hap5
          exact ⟨j + 1, a5, c5, _, by omega, by go_num, by rw [Htk.out]; exact hP, Below.trans Hbr.out ((hb4'.mono (by omega)).trans hbP)⟩
        case measure => simp [intOf] <;> omega)
    · obtain rfl : j = n := by omega
      rw [List.take_of_length_le (by rw [HL2l.out]; exact Nat.le_refl _)] at hO
      have g0 := hO.c0
      have g1 := hO.c1
      have z6 := HX.out.2.2.keep hbWr
      have z0 := z6.cell 0 rfl
      have z1 := z6.cell 1 rfl
      have f0 := z6.frozen 0
      have f1 := z6.frozen 1
      have hs := HsW.out
      have hMN : MatN (g + 1) wr a1 j L2 := MatN.own hO.om
      have HF := Lib.hid (And.intro (((hMN.setCell (p := ⟨w.heap.size + 1 + 1 + 1, 0, none⟩) (by simp; omega) (.int .i64 m)).setCell (p := ⟨w.heap.size + 1 + 1 + 1, 1, none⟩) (by simp; omega) (.slice a1 j c1)).mono (show w.heap.size ≤ g + 1 by omega))
        ((hbwr.setCell (p := ⟨w.heap.size + 1 + 1 + 1, 0, none⟩) (by simp; omega) (.int .i64 m)).setCell (p := ⟨w.heap.size + 1 + 1 + 1, 1, none⟩) (by simp; omega) (.slice a1 j c1)))
      clear hMN z6 hO
      go_wp2_with fail
      exact bodyPost_ret (v := .tuple #[.agg #[.int .i64 m, .slice a1 j c1], .int .i64 0]) (by simp [results, Try.results24, go_sem, z0, z1]) rfl ⟨a1, c1, rfl, HF.out.1, HF.out.2⟩
end

/- The walk of infoset.Systematic. -/
section
open Go.RowKit

/-- the error of a set for a systematic matrix -/
def sysE (P M : Int) (mod : List Int) (N : Int) (L : List (List Int)) (Q : List Int) : Int :=
  if rankE P M mod N L Q ≠ 0 then rankE P M mod N L Q else if isV P M mod N L Q = true then 0 else 9
def sysL (O : FOps) (m : Nat) (L : List (List Int)) (Q : List Int) : List (List Int) := mtL O m (invL O (L.map (pickL Q)) Q.length) L

def SysPost (P M : Int) (mod : List Int) (N : Int) (L : List (List Int)) (Q : List Int) (w : World) (e : Ending) (w' : World) : Prop :=
  Below w.heap.size w w' ∧ ((sysE P M mod N L Q ≠ 0 ∧ e = .returned (.tuple #[.agg #[.int .i64 0, .slice none 0 0], .int .i64 (sysE P M mod N L Q)])) ∨
    (sysE P M mod N L Q = 0 ∧ ∃ m : Nat, N = m ∧ ∃ a c, e = .returned (.tuple #[.agg #[.int .i64 m, .slice a L.length c], .int .i64 0]) ∧ MatN w.heap.size w' a L.length (sysL (tblOf P M.toNat mod).ops m L Q)))

theorem isV_true {P M : Int} {mod : List Int} {N : Int} {L : List (List Int)} {Q : List Int} (h : isV P M mod N L Q = true) :
    codeE P M mod N L = 0 ∧ okSet N Q = true ∧ (grS (tblOf P M.toNat mod).ops L Q).length = Q.length ∧ Q.length = L.length := by
  unfold isV at h
  simp only [Bool.and_eq_true, decide_eq_true_eq] at h
  obtain ⟨h1, h2, h3⟩ := h
  have hE : codeE P M mod N L = 0 := by
    unfold rankE at h1
    split at h1
    · assumption
    · rename_i h0; exact absurd h1 h0
  refine ⟨hE, ?_, h2, by omega⟩
  rw [rankE, if_pos hE, setsE_one] at h1
  split at h1
  · assumption
  · omega
theorem elimTo_rws {O : FOps} {El : Int → Prop} {m : Nat} (F : Fld O El) {L : List (List Int)} (hL : Rws El m L) (k : Nat) (hk : k ≤ m) : Rws El m (elimTo O L k).1 := elim_rws F hL k hk
theorem invL_rws {O : FOps} {El : Int → Prop} (F : Fld O El) {D : List (List Int)} {k : Nat} (hD : Rws El k D) : Rws El k (invL O D k) := fun r hr => by
  unfold invL at hr
  obtain ⟨s, hs, rfl⟩ := List.mem_map.1 hr
  have h := elim_rws F (joinL_rws hD (unit_rws F.zero F.one k)) k (by omega) s hs
  exact ⟨by rw [List.length_drop, h.1]; omega, fun x hx => h.2 x (List.mem_of_mem_drop hx)⟩

set_option maxRecDepth 100000 in
set_option maxHeartbeats 8000000 in
theorem systematic_any (P M : Int) (am : Option Addr) (mn cm : Nat) (mod : List Int) (N : Int) (a : Option Addr) (n c : Nat) (L : List (List Int)) (ao : Option Addr) (no co : Nat) (Q : List Int) (w : World)
    (hmod : Ints w am mn mod) (hi : Mat w a n L) (hq : Ints w ao no Q) :
    Calls Try.prog 10 #[.agg #[.int .i64 P, .int .i64 M, .slice am mn cm, .int .i64 N, .slice a n c], .slice ao no co] w (SysPost P M mod N L Q w) := by
  have Hql := Lib.hid hq.len
  have Hil := Lib.hid hi.len
  go_enter Try.func10, Try.ntmps10
  go_wp2_with fail
  obtain ⟨W, hW⟩ : ∃ W : World, W = (w.alloc (.cells #[.int .i64 P, .int .i64 M, .slice am mn cm, .int .i64 N, .slice a n c] 32)).alloc (.cells #[.int .i64 0, .slice none 0 0] 39) := ⟨_, rfl⟩
  rw [← hW]
  have hbW : Below w.heap.size w W := by rw [hW]; exact below2 _ _ _
  have hsW : W.heap.size = w.heap.size + 2 := by rw [hW]; simp
  have x0 : Box W w.heap.size [.int .i64 P, .int .i64 M, .slice am mn cm, .int .i64 N, .slice a n c] := by rw [hW]; exact (Box.new _ _ _ rfl).alloc _
  have z0 : Box W (w.heap.size + 1) [.int .i64 0, .slice none 0 0] := by rw [hW]; exact Box.new _ _ _ (by simp)
  have hS : ∀ V, Below W.heap.size W V → V.cell? ⟨w.heap.size, 0, none⟩ = some (.int .i64 P) ∧ V.cell? ⟨w.heap.size, 1, none⟩ = some (.int .i64 M) ∧ V.cell? ⟨w.heap.size, 2, none⟩ = some (.slice am mn cm) ∧ V.cell? ⟨w.heap.size, 3, none⟩ = some (.int .i64 N) ∧ V.cell? ⟨w.heap.size, 4, none⟩ = some (.slice a n c) ∧
      Box V (w.heap.size + 1) [.int .i64 0, .slice none 0 0] := fun V hV => by
    have x1 := x0.keep hV
    exact ⟨x1.cell 0 rfl, x1.cell 1 rfl, x1.cell 2 rfl, x1.cell 3 rfl, x1.cell 4 rfl, z0.keep hV⟩
  have HS := Lib.hid hS
  have HbW := Lib.hid hbW
  have HsW := Lib.hid hsW
  clear hW x0 z0 hS
  refine (infIs_any P M am mn cm mod N a n c L ao no co Q W (hmod.keep hbW) (hi.keep hbW) (hq.keep hbW)).mono ?_
  rintro e w1 ⟨rfl, hb1⟩
  have hbw1 := Below.next hbW hb1
  have hend : ∀ er : Int, sysE P M mod N L Q ≠ 0 → sysE P M mod N L Q = er → SysPost P M mod N L Q w (.returned (.tuple #[.agg #[.int .i64 0, .slice none 0 0], .int .i64 er])) ((w1.setCell ⟨w.heap.size + 1, 0, none⟩ (.int .i64 0)).setCell ⟨w.heap.size + 1, 1, none⟩ (.slice none 0 0)) := fun er h0 h1 =>
    ⟨(hbw1.setCell (p := ⟨w.heap.size + 1, 0, none⟩) (by simp) _).setCell (p := ⟨w.heap.size + 1, 1, none⟩) (by simp) _, .inl ⟨h0, by rw [h1]⟩⟩
  have Hend := Lib.hid hend
  have zz := (HS.out w1 hb1).2.2.2.2.2
  have z0 := zz.cell 0 rfl
  have z1 := zz.cell 1 rfl
  have f0 := zz.frozen 0
  have f1 := zz.frozen 1
  clear hend zz hbW hsW
  by_cases hr : rankE P M mod N L Q = 0
  rotate_left
  · have hs : sysE P M mod N L Q = rankE P M mod N L Q := by rw [sysE, if_pos hr]
    have HF := Lib.hid (Hend.out (rankE P M mod N L Q) (by rw [hs]; exact hr) hs)
    have hr' : (rankE P M mod N L Q != 0) = true := by simpa using hr
    clear hr hs Hend
    generalize rankE P M mod N L Q = er at *
    go_wp2_with fail
    exact bodyPost_ret (v := .tuple #[.agg #[.int .i64 0, .slice none 0 0], .int .i64 er]) (by simp [results, Try.results10, go_sem, z0, z1]) rfl HF.out
  rw [hr]
  by_cases hv : isV P M mod N L Q = true
  rotate_left
  · have hs : sysE P M mod N L Q = 9 := by rw [sysE, if_neg (by simpa using hr), if_neg hv]
    have HF := Lib.hid (Hend.out 9 (by rw [hs]; decide) hs)
    have hv' : isV P M mod N L Q = false := by simpa using hv
    rw [hv']
    clear hr hs Hend hv hv'
    go_wp2_with fail
    exact bodyPost_ret (v := .tuple #[.agg #[.int .i64 0, .slice none 0 0], .int .i64 9]) (by simp [results, Try.results10, go_sem, z0, z1]) rfl HF.out
  have hs0 : sysE P M mod N L Q = 0 := by rw [sysE, if_neg (by simpa using hr), if_pos hv]
  have Hs0 := Lib.hid hs0
  obtain ⟨hE, hok, hg, hl⟩ := isV_true hv
  obtain ⟨m, rfl, hm1, hm64, F, hR⟩ := codeE_fld hE
  have hQ : InN m Q := fun j hj => by have := okSet_at hok hj; omega
  have hno : no = n := by rw [← Hql.out, hl, Hil.out]
  have hqm : (Q.length : Int) ≤ m := okSet_len hok (by omega)
  have hn64 : n ≤ 64 := by rw [← Hil.out, ← hl]; omega
  have hpv := sys_pv F hR hQ hl hg
  have hDr : Rws (tblOf P M.toNat mod).El n (L.map (pickL Q)) := by have h := pick_rws hR hQ; rw [Hql.out, hno] at h; exact h
  have hIr := invL_rws F hDr
  have hqn : Q.length = n := by rw [Hql.out]; exact hno
  rw [hqn] at hpv
  have hfB := (codeE_zero hE).1
  have hsyl : sysL (tblOf P M.toNat mod).ops m L Q = mtL (tblOf P M.toNat mod).ops m (invL (tblOf P M.toNat mod).ops (L.map (pickL Q)) n) L := by rw [sysL, hqn]
  have HCo : Hid (∀ V, Below w.heap.size w V → Calls Try.prog 22 #[.agg #[.int .i64 P, .int .i64 M, .slice am mn cm], .agg #[.int .i64 m, .slice a n c], .slice ao no co] V fun e w' =>
      ∃ a1 c1, e = .returned (.tuple #[.agg #[.int .i64 n, .slice a1 n c1], .int .i64 0]) ∧ Mat w' a1 n (L.map (pickL Q)) ∧ Below V.heap.size V w') := fun V hV => by
    refine (columns_any P M am mn cm mod m a n c L ao no co Q V (hmod.keep hV) (hi.keep hV) (hq.keep hV) hE hQ (by omega)).mono ?_
    rintro e w' ⟨a1, c1, rfl, hM, hb⟩
    exact ⟨a1, c1, by rw [hqn], hM.mat, hb⟩
  have HIn : Hid (∀ V a1 c1, Below w.heap.size w V → Mat V a1 n (L.map (pickL Q)) → Calls Try.prog 23 #[.agg #[.int .i64 P, .int .i64 M, .slice am mn cm], .agg #[.int .i64 n, .slice a1 n c1]] V fun e w' =>
      ∃ a2 c2, e = .returned (.tuple #[.agg #[.int .i64 n, .slice a2 n c2], .int .i64 0]) ∧ Mat w' a2 n (invL (tblOf P M.toNat mod).ops (L.map (pickL Q)) n) ∧ Below V.heap.size V w') := fun V a1 c1 hV hM => by
    refine (inverse_any P M am mn cm mod n a1 c1 (L.map (pickL Q)) V (hmod.keep hV) hM hfB hDr hn64 hpv).mono ?_
    rintro e w' ⟨a2, c2, rfl, hM2, hb⟩
    exact ⟨a2, c2, rfl, hM2.mat, hb⟩
  have HMu : Hid (∀ V a2 c2, Below w.heap.size w V → Mat V a2 n (invL (tblOf P M.toNat mod).ops (L.map (pickL Q)) n) → Calls Try.prog 24 #[.agg #[.int .i64 P, .int .i64 M, .slice am mn cm], .agg #[.int .i64 n, .slice a2 n c2], .agg #[.int .i64 m, .slice a n c]] V fun e w' =>
      ∃ a3 c3, e = .returned (.tuple #[.agg #[.int .i64 m, .slice a3 n c3], .int .i64 0]) ∧ MatN V.heap.size w' a3 n (sysL (tblOf P M.toNat mod).ops m L Q) ∧ Below V.heap.size V w') := fun V a2 c2 hV hM => by
    rw [hsyl]
    exact mul_any P M am mn cm mod n a2 n c2 _ m a c L V (hmod.keep hV) hM (hi.keep hV) hfB hIr hR hn64 hm1 hm64 hn64
  have HPost : Hid (∀ a3 c3 w', Below w.heap.size w w' → MatN w.heap.size w' a3 n (sysL (tblOf P M.toNat mod).ops m L Q) → SysPost P M mod m L Q w (.returned (.tuple #[.agg #[.int .i64 m, .slice a3 n c3], .int .i64 0])) w') := fun a3 c3 w' h1 h2 => by
    rw [← Hil.out] at h2 ⊢
    exact ⟨h1, .inr ⟨Hs0.out, m, rfl, a3, c3, rfl, h2⟩⟩
  obtain ⟨D, hD⟩ : ∃ D, L.map (pickL Q) = D := ⟨_, rfl⟩
  obtain ⟨Iv, hIv⟩ : ∃ Iv, invL (tblOf P M.toNat mod).ops D n = Iv := ⟨_, rfl⟩
  rw [hD] at HCo HIn HMu
  rw [hIv] at HIn HMu
  rw [hv]
  clear hr hv hs0 hE hok hg hl hQ hno hqm hpv hDr hIr hqn hfB hsyl hD hIv F hR Hend z0 z1 f0 f1
  obtain ⟨c0, c1, c2, c3, c4, _⟩ := HS.out w1 hb1
  have hb8 := below1 w1 (.cells #[.int .i64 m, .slice a n c] 39)
  have x8 := Box.new w1 [.int .i64 m, .slice a n c] 39 rfl
  have HX8 := Lib.hid x8
  obtain ⟨d0, d1, d2, d3, d4, _⟩ := HS.out _ (Below.next hb1 hb8)
  clear x8
  go_wp2_with fail
  refine (HCo.out _ (Below.next hbw1 hb8)).mono ?_
  rintro e w2 ⟨a1, c1', rfl, hM1, hb2⟩
  have hb9 := below1 w2 (.cells #[.int .i64 n, .slice a1 n c1'] 39)
  have hk2 := Below.next hb2 hb9
  have hbk2 := Below.next (Below.next hb1 hb8) hk2
  clear c0 c1 c2 c3 c4 d0 d1 d2 d3 d4 HCo
  obtain ⟨c0, c1, c2, c3, c4, _⟩ := HS.out _ hbk2
  have Hin := Lib.hid (HIn.out _ a1 c1' (Below.next HbW.out hbk2) (hM1.keep hb9))
  clear hM1 HIn
  go_wp2_with fail
  refine Hin.out.mono ?_
  rintro e w3 ⟨a2, c2', rfl, hM2, hb3⟩
  have hb10 := below1 w3 (.cells #[.int .i64 n, .slice a2 n c2'] 39)
  have hk3 := Below.next hb3 hb10
  have hbk3 := Below.next hbk2 hk3
  clear c0 c1 c2 c3 c4 Hin
  obtain ⟨c0, c1, c2, c3, c4, _⟩ := HS.out _ hbk3
  have x8 := HX8.out.keep (Below.next hk2 hk3)
  have e0 := x8.cell 0 rfl
  have e1 := x8.cell 1 rfl
  have Hmu := Lib.hid (HMu.out _ a2 c2' (Below.next HbW.out hbk3) (hM2.keep hb10))
  clear hM2 HMu x8
  go_wp2_with fail
  refine Hmu.out.mono ?_
  rintro e w4 ⟨a3, c3', rfl, hM3, hb4⟩
  have hbk4 := Below.next hbk3 hb4
  have zz := (HS.out w4 hbk4).2.2.2.2.2
  have z0 := zz.cell 0 rfl
  have z1 := zz.cell 1 rfl
  have f0 := zz.frozen 0
  have f1 := zz.frozen 1
  have hs := HsW.out
  have hsz := hbk3.size
  have HF := Lib.hid (HPost.out a3 c3' _ (((Below.next HbW.out hbk4).setCell (p := ⟨w.heap.size + 1, 0, none⟩) (by simp) (.int .i64 m)).setCell (p := ⟨w.heap.size + 1, 1, none⟩) (by simp) (.slice a3 n c3'))
    (((hM3.setCell (p := ⟨w.heap.size + 1, 0, none⟩) (by simp at hsz ⊢; omega) (.int .i64 m)).setCell (p := ⟨w.heap.size + 1, 1, none⟩) (by simp at hsz ⊢; omega) (.slice a3 n c3')).mono (by simp at hsz ⊢; omega)))
  clear c0 c1 c2 c3 c4 e0 e1 Hmu zz hM3 HPost
  go_wp2_with fail
  exact bodyPost_ret (v := .tuple #[.agg #[.int .i64 m, .slice a3 n c3'], .int .i64 0]) (by simp [results, Try.results10, go_sem, z0, z1]) rfl HF.out
end

/- A list of steps (a set and its rank) of the call's own. -/
section
open Go.RowKit

/-- the cells of steps whose sets lie in the slices R -/
def stV : List (Option Addr × Nat) → List (List Int × Int) → List Value
  | r :: R, t :: T => .slice r.1 t.1.length r.2 :: .int .i64 t.2 :: stV R T
  | _, _ => []
theorem stV_snoc (r : Option Addr × Nat) (t : List Int × Int) : ∀ (R : List (Option Addr × Nat)) (T : List (List Int × Int)), R.length = T.length → stV (R ++ [r]) (T ++ [t]) = stV R T ++ [.slice r.1 t.1.length r.2, .int .i64 t.2]
  | [], [], _ => rfl
  | [], _ :: _, h => by simp at h
  | _ :: _, [], h => by simp at h
  | x :: R, y :: T, h => by
    rw [List.cons_append, List.cons_append, stV, stV_snoc r t R T (by simpa using h)]
    rfl
/-- 'append(out, x)' of one element of two cells -/
theorem wpList_push2 {P : Program} {w : World} {ops : Array Oper} {rest : List Oper} {o : Oper} {ac : Act} {Q : Exit → Act → World → Prop}
    (hg : o.guard = none) (s x : Operand) (t e : TypeId) (hop : o.op = .call { callee := .builtin .append, args := #[s, x], argTypes := #[t, t] }) (z : Value) (bytes : Nat)
    (h1 : P.underlying t = some (.slice e)) (h2 : (P.info? e).map (fun i => (i.zero, i.size, i.bytes)) = some (some z, 2, bytes)) (hz : z.cells.size = 2)
    (B : Nat) (a : Option Addr) (n c : Nat) (xs : List Value) (hs : ac.eval s = .slice a n c) (hown : w.ownsRow B e 2 (.slice a n c) n xs)
    (g cc : Nat) (u v : Value) (hx : ac.eval x = .slice (some ⟨g, 0, none⟩) 1 cc) (hu : w.cell? ⟨g, 0, none⟩ = some u) (hv : w.cell? ⟨g, 1, none⟩ = some v) (h1c : u.oneCell' = true) (h1d : v.oneCell' = true)
    (b2 : (n + 1) * bytes ≤ 140737488355328) (b3 : n + 1 ≤ maxLen) (hB : B ≤ w.heap.size)
    (hK : ∀ a' c' w', w'.ownsRow B e 2 (.slice a' (n + 1) c') (n + 1) (xs ++ [u, v]) → w.grownBy w' (Value.slice a n c).ownBlock → (∀ b, b < w.heap.size → Apt a b → Apt a' b) → wpList P ops Q rest (ac.put o.dst (.slice a' (n + 1) c')) w') :
    wpList P ops Q (o :: rest) ac w := by
  obtain ⟨i, hi, hz0, hz1, hz2⟩ : ∃ i, P.info? e = some i ∧ i.zero = some z ∧ i.size = 2 ∧ i.bytes = bytes := by
    cases hp : P.info? e with
    | none => rw [hp] at h2; cases h2
    | some i => rw [hp] at h2; simp at h2; exact ⟨i, rfl, h2.1, h2.2.1, h2.2.2⟩
  refine wpList_append_own_at w hg s x t hop B e i z 2 bytes h1 hi hz0 hz1 hz2 hz (by decide) _ n xs hs hown ⟨g, 0, none⟩ 1 cc [u, v] hx rfl ?_ ?_ b3 b2 hB fun v' w' hown' hgr _ hat => ?_
  · intro j y hj
    match j, hj with
    | 0, hj => simp at hj; subst hj; simpa [Addr.add] using hu
    | 1, hj => simp at hj; subst hj; simpa [Addr.add] using hv
  · intro y hy
    simp at hy
    rcases hy with rfl | rfl
    · exact h1c
    · exact h1d
  · obtain ⟨a', c', rfl⟩ : ∃ a' c', v' = .slice a' (n + 1) c' := by
      rcases hown'.2 with ⟨_, h0⟩ | ⟨g', cap, cur, rfl, _⟩
      · omega
      · exact ⟨_, cap, rfl⟩
    refine hK a' c' w' hown' hgr fun b hb hapt => ?_
    have h := hapt.own n c
    rcases hat with h3 | h3
    · exact Apt.of_own (n := n + 1) (c := c') (by rw [h3]; exact h)
    · exact Apt.of_own (n := n + 1) (c := c') (by rw [h3]; intro h4; cases h4; omega)

/-- own steps -/
structure OSt (w : World) (B : Nat) (a : Option Addr) (k c : Nat) (R : List (Option Addr × Nat)) (T : List (List Int × Int)) : Prop where
  rl : R.length = k
  tl : T.length = k
  own : w.ownsRow B 50 2 (.slice a k c) k (stV R T)
  row : ∀ p ∈ R.zip T, Ints w p.1.1 p.2.1.length p.2.1 ∧ (p.1.1 ≠ none → B ≤ ablk p.1.1 ∧ ablk p.1.1 < w.heap.size) ∧ (p.1.1 ≠ none → Apt a (ablk p.1.1))
namespace OSt
variable {w w' w5 V : World} {B : Nat} {a : Option Addr} {k c : Nat} {R : List (Option Addr × Nat)} {T : List (List Int × Int)}
theorem start (w : World) (B : Nat) : OSt w B none 0 0 [] [] := ⟨rfl, rfl, ⟨rfl, .inl ⟨rfl, rfl⟩⟩, fun p hp => by simp at hp⟩
theorem blk (h : OSt w B a k c R T) (ha : a ≠ none) : B ≤ ablk a ∧ ablk a < w.heap.size := by
  rcases h.own.2 with ⟨hv, _⟩ | ⟨g, cap, cur, hv, hg, hh, _⟩
  · cases hv; exact absurd rfl ha
  · cases hv; exact ⟨hg, (Array.getElem?_eq_some_iff.1 hh).1⟩
/-- the blocks of the steps and of their sets are as they were -/
theorem of_blocks (h : OSt w B a k c R T) (hs : w.heap.size ≤ w'.heap.size) (h1 : a ≠ none → w'.heap[ablk a]? = w.heap[ablk a]?) (h2 : ∀ r ∈ R, r.1 ≠ none → w'.heap[ablk r.1]? = w.heap[ablk r.1]?) : OSt w' B a k c R T := by
  refine ⟨h.rl, h.tl, ⟨h.own.1, ?_⟩, fun p hp => ?_⟩
  · rcases h.own.2 with hn | ⟨g, cap, cur, hv, hg, hh, r⟩
    · exact .inl hn
    · cases hv
      exact .inr ⟨g, _, cur, rfl, hg, by rw [show w'.heap[g]? = w.heap[g]? from h1 (by simp)]; exact hh, r⟩
  · obtain ⟨g1, g2, g3⟩ := h.row p hp
    have hm : p.1 ∈ R := (List.of_mem_zip (a := p.1) (b := p.2) hp).1
    refine ⟨g1.of_block fun hn => h2 p.1 hm fun e => ?_, fun hn => ⟨(g2 hn).1, Nat.lt_of_lt_of_le (g2 hn).2 hs⟩, g3⟩
    have := g1.pl hn
    rw [e] at this; cases this
theorem keep (h : OSt w B a k c R T) (hb : Below w.heap.size w w') : OSt w' B a k c R T :=
  h.of_blocks hb.size (fun ha => hb.block _ (h.blk ha).2) fun r hr hn => by
    obtain ⟨i, hi, rfl⟩ := List.mem_iff_getElem.1 hr
    have hi2 : i < T.length := by rw [h.tl, ← h.rl]; exact hi
    exact hb.block _ ((h.row (R[i], T[i]) (List.mem_iff_getElem.2 ⟨i, by simp; omega, by simp⟩)).2.1 hn).2
theorem row_of (h : OSt w B a k c R T) {r : Option Addr × Nat} (hr : r ∈ R) (hn : r.1 ≠ none) : (B ≤ ablk r.1 ∧ ablk r.1 < w.heap.size) ∧ Apt a (ablk r.1) := by
  obtain ⟨i, hi, rfl⟩ := List.mem_iff_getElem.1 hr
  have hi2 : i < T.length := by rw [h.tl, ← h.rl]; exact hi
  have h1 := h.row (R[i], T[i]) (List.mem_iff_getElem.2 ⟨i, by simp; omega, by simp⟩)
  exact ⟨h1.2.1 hn, h1.2.2 hn⟩
/-- another slice has grown -/
theorem grown {au : Option Addr} {nu cu : Nat} (h : OSt w B a k c R T) (hg : w.grownBy w' (Value.slice au nu cu).ownBlock) (h1 : a ≠ none → Apt au (ablk a)) (h2 : ∀ r ∈ R, r.1 ≠ none → Apt au (ablk r.1)) : OSt w' B a k c R T :=
  h.of_blocks hg.size (fun ha => hg.block _ (h.blk ha).2 fun e => (h1 ha).own nu cu e.symm) fun r hr hn => hg.block _ (h.row_of hr hn).1.2 fun e => (h2 r hr hn).own nu cu e.symm
/-- a step is put behind them -/
theorem push {sa a5 : Option Addr} {sc c5 : Nat} {S : List Int} {rk : Int} (h : OSt V B a k c R T) (hS : Ints V sa S.length S) (hSB : sa ≠ none → B ≤ ablk sa ∧ ablk sa < V.heap.size) (hSa : sa ≠ none → Apt a (ablk sa))
    (hown5 : w5.ownsRow B 50 2 (.slice a5 (k + 1) c5) (k + 1) (stV R T ++ [.slice sa S.length sc, .int .i64 rk])) (hgr5 : V.grownBy w5 (Value.slice a k c).ownBlock)
    (hap5 : ∀ b, b < V.heap.size → Apt a b → Apt a5 b) : OSt w5 B a5 (k + 1) c5 (R ++ [(sa, sc)]) (T ++ [(S, rk)]) := by
  refine ⟨by simp [h.rl], by simp [h.tl], by rw [stV_snoc _ _ R T (by rw [h.rl, h.tl])]; exact hown5, fun p hp => ?_⟩
  rw [List.zip_append (by rw [h.rl, h.tl])] at hp
  rcases List.mem_append.1 hp with hp | hp
  · obtain ⟨g1, g2, g3⟩ := h.row p hp
    refine ⟨g1.of_block fun hn => ?_, fun hn => ⟨(g2 hn).1, Nat.lt_of_lt_of_le (g2 hn).2 hgr5.size⟩, fun hn => hap5 _ (g2 hn).2 (g3 hn)⟩
    have hne : p.1.1 ≠ none := fun e => by
      have := g1.pl hn
      rw [e] at this; cases this
    exact hgr5.block _ (g2 hne).2 fun e => (g3 hne).own k c e.symm
  · simp at hp
    subst hp
    refine ⟨hS.of_block fun hn => ?_, fun hn => ⟨(hSB hn).1, Nat.lt_of_lt_of_le (hSB hn).2 hgr5.size⟩, fun hn => hap5 _ (hSB hn).2 (hSa hn)⟩
    have hne : sa ≠ none := fun e => by
      have := hS.pl hn
      rw [e] at this; cases this
    exact hgr5.block _ (hSB hne).2 fun e => (hSa hne).own k c e.symm
end OSt
end

/- The greedy choice by ranks alone (plain law). -/
section
theorem nth_snoc_lt {l : List Int} {x : Int} {i : Nat} (h : i < l.length) : nth (l ++ [x]) i = nth l i := by
  simp only [nth, List.getD_eq_getElem?_getD]; rw [List.getElem?_append_left h]
theorem nth_snoc (l : List Int) (x : Int) : nth (l ++ [x]) l.length = x := by simp [nth]
theorem grL_snoc (l : List Int) (x : Int) : ∀ k, k ≤ l.length → grL (l ++ [x]) k = grL l k
  | 0, _ => rfl
  | k + 1, h => by rw [grL, grL, nth_snoc_lt (by omega), grL_snoc l x k (by omega)]
theorem grL_snoc_all (l : List Int) (x : Int) : grL (l ++ [x]) (l ++ [x]).length = x.toNat :: grL l l.length := by
  rw [List.length_append, List.length_singleton, grL, nth_snoc, grL_snoc l x l.length (Nat.le_refl _)]
/-- all positions of a list, the last ahead -/
def gA (Q : List Int) : List Nat := grL Q Q.length
theorem gA_snoc (l : List Int) (x : Int) : gA (l ++ [x]) = x.toNat :: gA l := grL_snoc_all l x
theorem mem_gA {Q : List Int} {x : Nat} : x ∈ gA Q ↔ ∃ y ∈ Q, y.toNat = x := by
  unfold gA
  rw [mem_grL]
  constructor
  · rintro ⟨j, hj, e⟩; exact ⟨nth Q j, nth_mem hj, e⟩
  · rintro ⟨y, hy, e⟩
    obtain ⟨j, hj, rfl⟩ := List.mem_iff_getElem.1 hy
    exact ⟨j, hj, by rw [nth_getElem hj]; exact e⟩

/-- the greedy choice by a rank, at most so many -/
def rgTo (rk : List Int → Nat) (Q : List Int) (most : Nat) : Nat → List Int
  | 0 => []
  | k + 1 => if (rgTo rk Q most k).length < most ∧ rk (rgTo rk Q most k ++ [nth Q k]) = (rgTo rk Q most k).length + 1 then rgTo rk Q most k ++ [nth Q k] else rgTo rk Q most k
theorem rgTo_stop {rk : List Int → Nat} {Q : List Int} {most : Nat} : ∀ {j k : Nat}, k ≤ j → most ≤ (rgTo rk Q most k).length → rgTo rk Q most j = rgTo rk Q most k
  | 0, k, h, _ => by obtain rfl : k = 0 := by omega
                     rfl
  | j + 1, k, h, h2 => by
    by_cases e : k = j + 1
    · subst e; rfl
    · have ih := rgTo_stop (j := j) (k := k) (by omega) h2
      rw [rgTo, if_neg (by rw [ih]; omega), ih]

section
variable {O : FOps} {El : Int → Prop} {m : Nat} {L : List (List Int)}
/-- the rank of a list of positions -/
def rkQ (O : FOps) (L : List (List Int)) (Q : List Int) : Nat := (grS O L Q).length
theorem rkQ_rk (F : Fld O El) (hL : Rws El m L) (Q : List Int) : Rk (clV O El L.length (colS L)) (gA Q) (rkQ O L Q) := grS_rk F hL Q
/-- the chosen ones: independent, among those seen, and they span those seen -/
theorem gr_out (F : Fld O El) (hL : Rws El m L) (Q : List Int) : ∀ k, Rk (clV O El L.length (colS L)) (gA (grTo O L Q k).2) (grTo O L Q k).2.length ∧
    (∀ x ∈ gA (grTo O L Q k).2, x ∈ grL Q k) ∧ (∀ x ∈ grL Q k, clV O El L.length (colS L) (gA (grTo O L Q k).2) x)
  | 0 => ⟨.nil, fun x hx => by simp [gA, grTo, grL] at hx, fun x hx => by simp [grL] at hx⟩
  | k + 1 => by
    obtain ⟨h1, h2, h3⟩ := gr_out F hL Q k
    obtain ⟨g1, g2, _⟩ := gr_inv F hL Q k
    have hC := col_clo F hL
    have hc := colS_vc hL F.zero
    have htk := takes_false F g1 (hc (nth Q k).toNat)
    have hcl : clV O El L.length (colS L) (grL Q k) (nth Q k).toNat ↔ (grTo O L Q k).1.takes O (colS L (nth Q k).toNat) = false := by
      rw [htk]
      exact ⟨fun h φ hφ h0 => h φ hφ ((g2 φ hφ).2 h0), fun h φ hφ h0 => h φ hφ ((g2 φ hφ).1 h0)⟩
    rw [grTo]
    by_cases ht : (grTo O L Q k).1.takes O (colS L (nth Q k).toNat) = true
    · simp only [if_pos ht]
      rw [gA_snoc, List.length_append, List.length_singleton]
      refine ⟨.ind _ (fun h => ?_) h1, fun x hx => ?_, fun x hx => ?_⟩
      · have := hcl.1 (hC.sub h2 h)
        rw [ht] at this; exact absurd this (by decide)
      · rw [grL]
        rcases List.mem_cons.1 hx with rfl | hx
        · exact List.mem_cons_self ..
        · exact List.mem_cons_of_mem _ (h2 x hx)
      · rw [grL] at hx
        rcases List.mem_cons.1 hx with rfl | hx
        · exact hC.mem _ _ (List.mem_cons_self ..)
        · exact hC.sub (fun y hy => List.mem_cons_of_mem _ hy) (h3 x hx)
    · simp only [if_neg ht]
      have hf : (grTo O L Q k).1.takes O (colS L (nth Q k).toNat) = false := by simpa using ht
      refine ⟨h1, fun x hx => ?_, fun x hx => ?_⟩
      · rw [grL]; exact List.mem_cons_of_mem _ (h2 x hx)
      · rw [grL] at hx
        rcases List.mem_cons.1 hx with rfl | hx
        · exact hC.mono _ _ h3 _ (hcl.2 hf)
        · exact h3 x hx
theorem gr_takes (F : Fld O El) (hL : Rws El m L) (Q : List Int) (k : Nat) :
    (grTo O L Q k).1.takes O (colS L (nth Q k).toNat) = true ↔ rkQ O L ((grTo O L Q k).2 ++ [nth Q k]) = (grTo O L Q k).2.length + 1 := by
  obtain ⟨h1, h2, h3⟩ := gr_out F hL Q k
  obtain ⟨g1, g2, _⟩ := gr_inv F hL Q k
  have hC := col_clo F hL
  have hc := colS_vc hL F.zero
  have htk := takes_false F g1 (hc (nth Q k).toNat)
  have hcl : clV O El L.length (colS L) (grL Q k) (nth Q k).toNat ↔ (grTo O L Q k).1.takes O (colS L (nth Q k).toNat) = false := by
    rw [htk]
    exact ⟨fun h φ hφ h0 => h φ hφ ((g2 φ hφ).2 h0), fun h φ hφ h0 => h φ hφ ((g2 φ hφ).1 h0)⟩
  have hr := rkQ_rk F hL ((grTo O L Q k).2 ++ [nth Q k])
  rw [gA_snoc] at hr
  have hcl2 : clV O El L.length (colS L) (gA (grTo O L Q k).2) (nth Q k).toNat ↔ (grTo O L Q k).1.takes O (colS L (nth Q k).toNat) = false := by
    rw [← hcl]
    exact ⟨fun h => hC.sub h2 h, fun h => hC.mono _ _ h3 _ h⟩
  constructor
  · intro ht
    refine hr.uniq (.ind _ (fun h => ?_) h1)
    have := hcl2.1 h
    rw [ht] at this; exact absurd this (by decide)
  · intro he
    apply Classical.byContradiction
    intro ht
    have := hr.uniq (.dep _ (hcl2.2 (by simpa using ht)) h1)
    omega
/-- the program's greedy choice is the one by ranks, where it may take as many as the rank -/
theorem gr_rg (F : Fld O El) (hL : Rws El m L) (Q : List Int) {most : Nat} (hmost : ∀ k, k ≤ Q.length → (grTo O L Q k).2.length ≤ most) : ∀ k, k ≤ Q.length → rgTo (rkQ O L) Q most k = (grTo O L Q k).2
  | 0, _ => rfl
  | k + 1, h => by
    have ih := gr_rg F hL Q hmost k (by omega)
    have ht := gr_takes F hL Q k
    have hm := hmost (k + 1) h
    rw [rgTo, ih]
    rw [grTo] at hm ⊢
    by_cases hk : (grTo O L Q k).1.takes O (colS L (nth Q k).toNat) = true
    · simp only [if_pos hk] at hm ⊢
      rw [List.length_append, List.length_singleton] at hm
      rw [if_pos ⟨by omega, ht.1 hk⟩]
    · simp only [if_neg hk]
      rw [if_neg fun h => hk (ht.2 h.2)]
/-- lists that span one another have one rank -/
theorem rkQ_span (F : Fld O El) (hL : Rws El m L) {Q Q' : List Int} (h : ∀ x ∈ gA Q, clV O El L.length (colS L) (gA Q') x) : rkQ O L Q ≤ rkQ O L Q' := Rk.le (col_clo F hL) (rkQ_rk F hL Q) (rkQ_rk F hL Q') h
theorem rkQ_same (F : Fld O El) (hL : Rws El m L) {Q Q' : List Int} (h : ∀ x, x ∈ gA Q ↔ x ∈ gA Q') : rkQ O L Q = rkQ O L Q' := Rk.same (col_clo F hL) (rkQ_rk F hL Q) (rkQ_rk F hL Q') h
theorem rkQ_perm (F : Fld O El) (hL : Rws El m L) {Q Q' : List Int} (h : Q.Perm Q') : rkQ O L Q = rkQ O L Q' :=
  rkQ_same F hL fun x => by
    rw [mem_gA, mem_gA]
    exact ⟨fun ⟨y, hy, e⟩ => ⟨y, h.mem_iff.1 hy, e⟩, fun ⟨y, hy, e⟩ => ⟨y, h.mem_iff.2 hy, e⟩⟩
end
end

end Go.Proofs.Ytapjcccpokhhhaa
