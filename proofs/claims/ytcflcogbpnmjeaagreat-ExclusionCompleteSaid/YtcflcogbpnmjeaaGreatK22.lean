/- Plain: the shapes in light of the package exclusion. -/
import Derived.Test.YtcflcogbpnmjeaaGreatK21
import Derived.Test.YtcflcogbpnmjeaaGreatK9
import Derived.Test.YtcflcogbpnmjeaaGreatK20
import Derived.Test.YtcflcogbpnmjeaaGreatK19
import Derived.Test.YtcflcogbpnmjeaaGreatK6
import Derived.Test.YtcflcogbpnmjeaaGreatK7
namespace Go.Proofs.YtcflcogbpnmjeaaGreat
set_option linter.unusedVariables false
set_option linter.unusedSimpArgs false
set_option linter.unusedSectionVars false

/- The walks of column and greedy of the package exclusion. -/
section
open Go.RowKit

theorem exColumn_any (pb : Nat) (a : Option Addr) (n c : Nat) (L : List (List Int)) (i : Nat) (w : World) (p5 : w.cell? ⟨pb, 5, none⟩ = some (.slice a n c)) (hi : Mat w a n L) (hL : ∀ r ∈ L, i < r.length) (hn : n ≤ 1000000) :
    Calls Tryz.prog 200 #[.pointer (some ⟨pb, 0, none⟩), .int .i64 i] w (NewInts w (colS L i)) := by
  have Hlen := Lib.hid hi.len
  have hpl := hi.pl
  have HL := Lib.hid hL
  clear hL
  go_enter Tryz.func200, Tryz.ntmps200
  go_wp2_with (at_make; refine wpList_mk rfl _ _ 22 3 rfl (.int .i64 0) 8 Tryz.underlying22 infoInt rfl n rfl rfl (by omega) (by unfold maxLen; omega) ?_; intro a1 w1 hown hbel hge hlt; have c5 : w1.cell? ⟨pb, 5, none⟩ = some (.slice a n c) := cell_keep hbel p5)
  have hbw : Below w.heap.size w w1 := hbel
  have hown1 : w1.ownsRow w.heap.size 3 1 (.slice a1 n n) n (List.replicate n (.int .i64 0)) := hown
  clear hown hbel
  go_loopw [21] (fun iv wr => ∃ k : Nat, k ≤ n ∧ iv = .int .i64 k ∧
      wr.ownsRow w.heap.size 3 1 (.slice a1 n n) n ((fillTo ((colS L i).take k) k n).map (Value.int .i64)) ∧ Below w.heap.size w wr)
    (fun i _ => n - (intOf i).toNat)
  case atStart => exact ⟨0, Nat.zero_le _, rfl, by simpa [fillTo] using hown1, hbw⟩
  case round =>
    obtain ⟨k, hk, rfl, hown, hbel⟩ := hrel
    obtain ⟨hints, hmine⟩ := Ints.own hown
    have hpl1 := hints.pl
    by_cases hlt : k < n
    · obtain ⟨ra, rn, rc, hcell, hrow⟩ := (hi.keep hbel).cell k hlt
      have hkL : k < L.length := by rw [Hlen.out]; exact hlt
      have hri : i < rn := by rw [← hrow.len, nthR_getElem hkL]; exact HL.out _ (List.getElem_mem hkL)
      have ci := hrow.cell i hri
      have hpr := hrow.pl
      have hf := (hmine (by omega)).2 k hlt
      have hc2 := hints.cell k hlt
      have hB := (hmine (by omega)).1
      have Hv := Lib.hid (nth_colS L i k hkL)
      go_wp2_with fail
      go_roundw
      case rel =>
        refine ⟨k + 1, by omega, by go_num, ?_, hbel.setCell hB _⟩
        have h := own_set hown k hlt (.int .i64 (nth (nthR L k) i))
        rw [← List.map_set, fillTo_set _ _ _ _ (by rw [List.length_take, colS_length]; omega) hlt] at h
        rw [List.take_succ_eq_append_getElem (by rw [colS_length]; omega), ← nth_getElem, Hv.out]
        exact h
      case measure => simp [intOf] <;> omega
    · obtain rfl : k = n := by omega
      have hl : (colS L i).length = k := by rw [colS_length]; exact Hlen.out
      rw [fillTo_all, List.take_of_length_le (by omega)] at hown
      have Hl := Lib.hid hl
      clear hl
      go_wp2_with fail
      go_ret
      exact ⟨a1, k, by rw [Hl.out]; rfl, by rw [Hl.out]; exact hown, hbel⟩

set_option maxRecDepth 100000 in
set_option maxHeartbeats 4000000 in
theorem exGreedy_any {w : World} {b : Nat} {G : Tbl} (pb : Nat) (a : Option Addr) (n c : Nat) (L : List (List Int)) (m : Nat) (ao : Option Addr) (no co : Nat) (Q : List Int) (most : Nat)
    (p0 : w.cell? ⟨pb, 0, none⟩ = some (.pointer (some ⟨b, 0, none⟩))) (p5 : w.cell? ⟨pb, 5, none⟩ = some (.slice a n c))
    (h : GFw w b G) (hi : Mat w a n L) (hR : Rws G.El m L) (hq : Ints w ao no Q) (hQ : ∀ k, k < no → 0 ≤ nth Q k ∧ nth Q k < m) (hn : n ≤ 1000000) (hno : no ≤ 1000000) :
    Calls Tryz.prog 162 #[.pointer (some ⟨pb, 0, none⟩), .slice ao no co, .int .i64 most] w (NewInts w (grM G.ops L Q most)) := by
  have Hlen := Lib.hid hi.len
  have HR := Lib.hid hR
  have HQ := Lib.hid hQ
  have Hql := Lib.hid hq.len
  have hplq := hq.pl
  have hcl := Lib.hid (Tbl.cl h)
  have HP := Lib.hid (fun (V : World) (hV : Below w.heap.size w V) => cell_keep hV p5)
  clear hR hQ
  go_enter Tryz.func162, Tryz.ntmps162
  go_wp2_with fail
  obtain ⟨V, hV⟩ : ∃ V : World, V = w.alloc (.cells #[.pointer (some ⟨b, 0, none⟩), .slice none 0 0, .slice none 0 0] 213) := ⟨_, rfl⟩
  rw [← hV]
  have hbV : Below w.heap.size w V := by rw [hV]; exact below1 _ _
  have hB0 : Bas V w.heap.size w.heap.size b none 0 [] none 0 ⟨[], []⟩ := Bas.start (Nat.le_refl _) (by rw [hV]; exact Box.new _ _ _ rfl)
  clear hV p0 p5
  go_loopw [8, 19] (fun qv iv wr => ∃ (k : Nat) (aq : Option Addr) (cq : Nat) (out : List Int) (s : BS) (ar : Option Addr) (cr : Nat) (R : List (Option Addr × Nat)) (ap : Option Addr) (cp : Nat), k ≤ no ∧ iv = .int .i64 k ∧ qv = .slice aq out.length cq ∧
      Hid (grTo G.ops L Q k = (s, out)) ∧ Bas wr w.heap.size w.heap.size b ar cr R ap cp s ∧ wr.ownsRow w.heap.size 3 1 (.slice aq out.length cq) out.length (out.map (Value.int .i64)) ∧ Hid (aq ≠ none → ¬ BIn w.heap.size ar R ap (ablk aq)) ∧
      Below w.heap.size w wr ∧ Hid (s.Ok G.El n) ∧ s.rows.length ≤ k ∧ out.length ≤ k ∧ Hid (out.length ≤ most))
    (fun _ iv _ => no - (intOf iv).toNat)
  case atStart => exact ⟨0, none, 0, [], ⟨[], []⟩, none, 0, [], none, 0, Nat.zero_le _, rfl, rfl, rfl, hB0, own_none, fun h0 => absurd rfl h0, hbV, ⟨fun r hr => by simp at hr, rfl, fun i hi => by simp at hi⟩, Nat.zero_le _, Nat.zero_le _, Nat.zero_le _⟩
  case round =>
    obtain ⟨k, aq, cq, out, s, ar, cr, R, ap, cp, hk, rfl, rfl, hst, hBr, hop, hdq, hbr, hok, hsk, hok2, hom⟩ := hrel
    generalize wr = U at *
    by_cases hlt : k < no
    · have cq1 := (hq.keep hbr).cell k hlt
      have hQk := HQ.out k hlt
      obtain ⟨i, hik⟩ : ∃ i : Nat, nth Q k = i := ⟨(nth Q k).toNat, by omega⟩
      rw [hik] at cq1 hQk
      by_cases hmo : out.length = most
      · have Ho : Hid (grM G.ops L Q most = out) := by
          show _ = _
          have h1 := grM_stop (O := G.ops) (L := L) (Q := Q) (k := k) (most := most) (by rw [Hql.out]; exact hk) (by rw [hst.out]; exact hmo)
          rw [h1, hst.out]
        have hd : ((out.length : Int) == (most : Int)) = true := by simp; omega
        clear hmo
        go_wp2_with fail
        go_ret
        exact ⟨aq, cq, by rw [Ho.out]; rfl, by rw [Ho.out]; exact hop, hbr⟩
      have hd : ((out.length : Int) == (most : Int)) = false := by simp; omega
      have Hom : Hid (out.length + 1 ≤ most) := by have := hom.out; show _ ≤ _; omega
      have him : i < m := by omega
      have p5 := HP.out U hbr
      have hcol := colS_el HR.out him
      rw [Hlen.out] at hcol
      have hstep : grTo G.ops L Q (k + 1) = (s.next G.ops (colS L i), if s.takes G.ops (colS L i) = true then out ++ [(i : Int)] else out) := by rw [grTo, hst.out, hik, Int.toNat_natCast]
      have Hstep := Lib.hid hstep
      have Hcol := Lib.hid hcol
      clear hstep hcol hik hmo
      go_wp2_with fail
      refine (exColumn_any pb a n c L i U p5 (hi.keep hbr) (fun r hr => by rw [(HR.out r hr).1]; exact him) hn).mono ?_
      rintro e w3 ⟨a3, c3, rfl, hown3, hb3⟩
      rw [Hcol.out.1] at hown3
      rw [Hcol.out.1]
      have hB3 := hBr.keep hb3
      have hbw3 := Below.next hbr hb3
      have hn3 : a3 ≠ none → ¬ BIn w.heap.size ar R ap (ablk a3) := fun h0 hI => by
        have h1 := (own_ne hown3 h0).1
        have h2 := (hBr.lt _ hI).2
        omega
      clear p5
      go_wp2_with fail
      refine (baddE_any w.heap.size ar cr R ap cp s a3 c3 n (colS L i) h hbw3 hB3 hok.out (own_mono hown3 hbr.size) hn3 Hcol.out.2 hn (by omega)).mono ?_
      rintro e w4 ⟨ar', cr', R', ap', cp', rfl, hB4, hM4⟩
      have hbw4 : Below w.heap.size w w4 := hbw3.trans (hM4.below (fun x hx => by
        rcases hx with h1 | ⟨h1, h2⟩
        · exact (hB3.lt x h1).1
        · rw [h2]; exact Nat.le_trans hbr.size (own_ne hown3 h1).1) hbw3.size)
      have hop3 := own_keep hop hb3
      have hnI : aq ≠ none → ¬ (BIn w.heap.size ar R ap (ablk aq) ∨ (a3 ≠ none ∧ ablk aq = ablk a3)) := fun h0 hI => by
        rcases hI with h1 | ⟨h1, h2⟩
        · exact hdq.out h0 h1
        · have e1 := (own_ne hop h0).2
          have e2 := (own_ne hown3 h1).1
          omega
      have hop4 := hM4.own hop3 hnI
      have hdq4 : aq ≠ none → ¬ BIn w.heap.size ar' R' ap' (ablk aq) := fun h0 => hM4.not (own_ne hop3 h0).2 (hnI h0)
      have hok4 : (s.next G.ops (colS L i)).Ok G.El n := BS.Ok.next hcl.out hok.out Hcol.out
      have hlen4 := BS.next_len G.ops s (colS L i)
      have Hok4 := Lib.hid hok4
      have Hdq4 := Lib.hid hdq4
      clear hnI hdq4 hok4
      by_cases ht : s.takes G.ops (colS L i) = true
      · rw [ht]
        have Hst : Hid (grTo G.ops L Q (k + 1) = (s.next G.ops (colS L i), out ++ [(i : Int)])) := by show _ = _; rw [Hstep.out, if_pos ht]
        clear ht
        generalize s.next G.ops (colS L i) = s' at *
        have hcn := cell_new w4 (.int .i64 i) 3
        have hbn := below1 w4 (.cells #[.int .i64 i] 3)
        have hsz4 := hbw4.size
        go_wp2_with (at_builtin; refine wpList_push rfl _ _ 22 3 rfl (.int .i64 0) 8 Tryz.underlying22 infoInt rfl w.heap.size aq out.length cq _ rfl (hop4.alloc _) ⟨w4.heap.size, 0, none⟩ 1 (.int .i64 i) rfl hcn rfl (by omega) (by unfold maxLen; omega) (by simp; omega) ?_; intro a5 c5 w5 hown5 hgr5 hap5)
        go_roundw
        case rel =>
          have hBn := hB4.keep hbn
          have haq : ∀ x, BIn w.heap.size ar' R' ap' x → Apt aq x := fun x hx => by
            by_cases h0 : aq = none
            · exact .inl h0
            · exact .inr fun e => Hdq4.out h0 (e ▸ hx)
          have hB5 : Bas w5 w.heap.size w.heap.size b ar' cr' R' ap' cp' s' := hBn.of_blocks fun x hx => hgr5.block x (hBn.lt x hx).2 fun e => (haq x hx).own _ _ e.symm
          have hb5 : Below w.heap.size w w5 := Below.app (Below.trans hbw4 (hbn.mono hsz4)) (hop4.alloc _) hgr5 (Nat.le_refl _) (Nat.le_trans hsz4 hbn.size)
          refine ⟨k + 1, a5, c5, out ++ [(i : Int)], s', ar', cr', R', ap', cp', by omega, by go_num, by simp, Hst.out, hB5, ?_, ?_, hb5, Hok4.out, by omega, by simp; omega, ?_⟩
          · simpa using hown5
          · show a5 ≠ none → _
            intro h0 hI
            rcases hap5 _ (hBn.lt _ hI).2 (haq _ hI) with h1 | h1
            · exact h0 h1
            · exact h1 rfl
          · show _ ≤ _
            rw [List.length_append]; exact Hom.out
        case measure => simp [intOf] <;> omega
      · have ht' : s.takes G.ops (colS L i) = false := by simpa using ht
        rw [ht']
        have Hst : Hid (grTo G.ops L Q (k + 1) = (s.next G.ops (colS L i), out)) := by show _ = _; rw [Hstep.out, if_neg ht]
        clear ht ht'
        generalize s.next G.ops (colS L i) = s' at *
        go_wp2_with fail
        go_roundw
        case rel => exact ⟨k + 1, aq, cq, out, s', ar', cr', R', ap', cp', by omega, by go_num, rfl, Hst.out, hB4, hop4, Hdq4.out, hbw4, Hok4.out, by omega, by omega, hom.out⟩
        case measure => simp [intOf] <;> omega
    · obtain rfl : k = no := by omega
      have Ho : Hid (grM G.ops L Q most = out) := by
        show _ = _
        have h1 := grM_all (O := G.ops) (L := L) (Q := Q) (most := most) (by rw [Hql.out, hst.out]; exact hom.out)
        rw [h1, Hql.out, hst.out]
      go_wp2_with fail
      go_ret
      exact ⟨aq, cq, by rw [Ho.out]; rfl, by rw [Ho.out]; exact hop, hbr⟩
end

/- The walk of outside of the package exclusion. -/
section
open Go.RowKit

theorem frTo_step (U : List Int) (k : Nat) : frTo false U (k + 1) = if decide ((k : Int) ∈ U) = false then frTo false U k ++ [(k : Int)] else frTo false U k := rfl

set_option maxRecDepth 100000 in
set_option maxHeartbeats 4000000 in
theorem exOutside_any (pb m : Nat) (sa : Option Addr) (ns cs : Nat) (s : List Int) (az : Option Addr) (nz cz : Nat) (z : List Int) (w : World) (p4 : w.cell? ⟨pb, 4, none⟩ = some (.int .i64 m)) (hs : Ints w sa ns s) (hz : Ints w az nz z)
    (hnz : nz ≤ 1000000) (hm : m ≤ 1000) :
    Calls Tryz.prog 163 #[.pointer (some ⟨pb, 0, none⟩), .slice sa ns cs, .slice az nz cz] w (NewInts w (outS m s z)) := by
  have Hzl := Lib.hid hz.len
  have HP := Lib.hid (fun (V : World) (hV : Below w.heap.size w V) => cell_keep hV p4)
  go_enter Tryz.func163, Tryz.ntmps163
  go_wp2_with fail
  refine (values_any az nz cz w).mono ?_
  rintro e w1 ⟨rfl, rfl⟩
  have hb1 : Below w.heap.size w (w.alloc (.cells #[.slice az nz cz] 22)) := below1 _ _
  have HSo := Lib.hid (sorted_any w.heap.size az nz cz z hnz (w.alloc (.cells #[.slice az nz cz] 22)) (by simp) (cell_alloc_at _ _ _ rfl 0) (hz.keep hb1))
  have hsz1 : w.heap.size ≤ (w.alloc (.cells #[.slice az nz cz] 22)).heap.size := hb1.size
  generalize w.alloc (.cells #[.slice az nz cz] 22) = w1 at *
  go_wp2_with fail
  refine HSo.out.mono ?_
  rintro e w2 ⟨a2, c2, rfl, hown2, hb2⟩
  have hbw2 := Below.next hb1 hb2
  have p4' := HP.out w2 hbw2
  have hO2 : w2.ownsRow w.heap.size 3 1 (.slice a2 nz c2) nz ((sortL z).map (Value.int .i64)) := own_mono hown2 hsz1
  clear hown2 p4
  go_wp2_with fail
  go_loopw [7, 17] (fun qv iv wr => ∃ (k : Nat) (aq : Option Addr) (cq : Nat) (out : List Int), k ≤ m ∧ iv = .int .i64 k ∧ qv = .slice aq out.length cq ∧ Hid (out = sortL z ++ frTo false (s ++ z) k) ∧ Hid (out.length ≤ nz + k) ∧
      wr.ownsRow w.heap.size 3 1 (.slice aq out.length cq) out.length (out.map (Value.int .i64)) ∧ Below w.heap.size w wr)
    (fun _ iv _ => m - (intOf iv).toNat)
  case atStart =>
    refine ⟨0, a2, c2, sortL z, Nat.zero_le _, rfl, ?_, ?_, ?_, ?_, hbw2⟩
    · rw [sortL_len, Hzl.out]
    · show _ = _; simp [frTo]
    · show _ ≤ _; rw [sortL_len, Hzl.out]; omega
    · rw [sortL_len, Hzl.out]; exact hO2
  case round =>
    obtain ⟨k, aq, cq, out, hk, rfl, rfl, hst, hln, hop, hbr⟩ := hrel
    generalize wr = U at *
    by_cases hlt : k < m
    · have hsU := hs.keep hbr
      have hzU := hz.keep hbr
      have hlen := hln.out
      have Hskip : Hid (((k : Int) ∈ s ++ z) → out = sortL z ++ frTo false (s ++ z) (k + 1)) := fun hmem => by
        rw [frTo_step, if_neg (by rw [decide_eq_true hmem]; decide)]; exact hst.out
      have Htake : Hid (¬ ((k : Int) ∈ s ++ z) → out ++ [(k : Int)] = sortL z ++ frTo false (s ++ z) (k + 1)) := fun hmem => by
        rw [frTo_step, if_pos (by rw [decide_eq_false hmem]), ← List.append_assoc, ← hst.out]
      by_cases h1 : (k : Int) ∈ s
      · have hmd : decide ((k : Int) ∈ s) = true := by simpa using h1
        have HcA := Lib.hid (contains_any sa ns cs s k U hsU)
        rw [hmd] at HcA
        have Hst : Hid (out = sortL z ++ frTo false (s ++ z) (k + 1)) := Hskip.out (List.mem_append.2 (.inl h1))
        clear h1 hmd
        go_wp2_with fail
        refine HcA.out.mono ?_
        rintro e w6 ⟨rfl, rfl⟩
        go_wp2_with fail
        go_roundw
        case rel => exact ⟨k + 1, aq, cq, out, by omega, by go_num, rfl, Hst.out, (show _ ≤ _ by omega), hop, hbr⟩
        case measure => simp [intOf] <;> omega
      · have hmd : decide ((k : Int) ∈ s) = false := by simpa using h1
        have HcA := Lib.hid (contains_any sa ns cs s k U hsU)
        rw [hmd] at HcA
        by_cases h2 : (k : Int) ∈ z
        · have hmd2 : decide ((k : Int) ∈ z) = true := by simpa using h2
          have HcB := Lib.hid (contains_any az nz cz z k U hzU)
          rw [hmd2] at HcB
          have Hst : Hid (out = sortL z ++ frTo false (s ++ z) (k + 1)) := Hskip.out (List.mem_append.2 (.inr h2))
          clear h1 hmd h2 hmd2
          go_wp2_with fail
          refine HcA.out.mono ?_
          rintro e w6 ⟨rfl, rfl⟩
          go_wp2_with fail
          refine HcB.out.mono ?_
          rintro e w7 ⟨rfl, rfl⟩
          go_wp2_with fail
          go_roundw
          case rel => exact ⟨k + 1, aq, cq, out, by omega, by go_num, rfl, Hst.out, (show _ ≤ _ by omega), hop, hbr⟩
          case measure => simp [intOf] <;> omega
        · have hmd2 : decide ((k : Int) ∈ z) = false := by simpa using h2
          have HcB := Lib.hid (contains_any az nz cz z k U hzU)
          rw [hmd2] at HcB
          have Hst : Hid (out ++ [(k : Int)] = sortL z ++ frTo false (s ++ z) (k + 1)) := Htake.out fun h => by
            rcases List.mem_append.1 h with h | h
            · exact h1 h
            · exact h2 h
          have hcn := cell_new U (.int .i64 k) 3
          have hbn := below1 U (.cells #[.int .i64 k] 3)
          have hszU := hbr.size
          clear h1 hmd h2 hmd2
          go_wp2_with fail
          refine HcA.out.mono ?_
          rintro e w6 ⟨rfl, rfl⟩
          go_wp2_with fail
          refine HcB.out.mono ?_
          rintro e w7 ⟨rfl, rfl⟩
          go_wp2_with (at_builtin; refine wpList_push rfl _ _ 22 3 rfl (.int .i64 0) 8 Tryz.underlying22 infoInt rfl w.heap.size aq out.length cq _ rfl (hop.alloc _) ⟨w7.heap.size, 0, none⟩ 1 (.int .i64 k) rfl hcn rfl (by omega) (by unfold maxLen; omega) (by simp; omega) ?_; intro a5 c5 w5 hown5 hgr5 hap5)
          go_roundw
          case rel =>
            have hb5 : Below w.heap.size w w5 := Below.app (Below.trans hbr (hbn.mono hszU)) (hop.alloc _) hgr5 (Nat.le_refl _) (Nat.le_trans hszU hbn.size)
            refine ⟨k + 1, a5, c5, out ++ [(k : Int)], by omega, by go_num, by simp, Hst.out, (show _ ≤ _ by rw [List.length_append, List.length_singleton]; omega), ?_, hb5⟩
            simpa using hown5
          case measure => simp [intOf] <;> omega
    · obtain rfl : k = m := by omega
      have Ho : Hid (outS k s z = out) := by show _ = _; rw [outS, hst.out]
      go_wp2_with fail
      go_ret
      exact ⟨aq, cq, by rw [Ho.out]; rfl, by rw [Ho.out]; exact hop, hbr⟩
end

/- The cells of a proof of the package exclusion; what a claim's memory holds. -/
section
open Go.RowKit

/-- the cells of a proof -/
def prfL (b : Nat) (P M : Int) (am : Option Addr) (mn cm : Nat) (m : Nat) (a : Option Addr) (n c : Nat) (ay : Option Addr) (ny cy : Nat) (C : Clm) (sv : Value) (k : Nat) : List Value :=
  [.pointer (some ⟨b, 0, none⟩), .int .i64 P, .int .i64 M, .slice am mn cm, .int .i64 m, .slice a n c, .slice ay ny cy, .bool C.cos, .int .i64 C.M, .int .i64 C.W, sv, .int .i64 k]
structure PEnv (w0 : World) (b : Nat) (G : Tbl) (a : Option Addr) (n : Nat) (L : List (List Int)) (m : Nat) (ay : Option Addr) (ny : Nat) (C : Clm) : Prop where
  g : GFw w0 b G
  mat : Mat w0 a n L
  rws : Rws G.El m L
  n6 : n ≤ 1000000
  m6 : m ≤ 64
  w6 : C.W ≤ 64
  yl : C.cos = true → ny = m
  y : C.cos = true → Ints w0 ay m C.y
  ye : C.cos = true → G.Els C.y
theorem outS_nil (m : Nat) (s : List Int) : outS m s [] = frTo false s m := by
  unfold outS
  rw [List.append_nil, show sortL [] = [] by unfold sortL; simp]
  rfl
theorem Box.setCell {w : World} {b : Nat} {cs : List Value} (h : Box w b cs) (i : Nat) (v : Value) : Box (w.setCell ⟨b, i, none⟩ v) b (cs.set i v) := by
  refine ⟨by simpa using h.1, fun j u hu => ?_, fun j => by rw [World.frozen?_setCell]; exact h.2.2 j⟩
  by_cases e : j = i
  · subst e
    by_cases hl : j < cs.length
    · rw [List.getElem?_set_self hl] at hu
      cases hu
      exact World.cell?_setCell_same _ _ _ (h.2.1 j cs[j] (List.getElem?_eq_getElem hl))
    · rw [List.set_eq_of_length_le (by omega), List.getElem?_eq_none (by omega)] at hu
      cases hu
  · rw [List.getElem?_set_ne (by omega)] at hu
    rw [World.cell?_setCell_other _ _ _ _ (by simp <;> omega)]
    exact h.2.1 j u hu
/-- an index of a right set -/
theorem okSet_rng {m : Nat} {t : List Int} (h : okSet m t = true) : ∀ k, k < t.length → 0 ≤ nth t k ∧ nth t k < m := fun _ hk => ⟨(okSet_at h hk).1, (okSet_at h hk).2.1⟩
end

/- The walk of clear of the package exclusion. -/
section
open Go.RowKit

theorem clrS_length (O : FOps) (v : List Int) (i : Nat) (r : List Int) (h : r.length = v.length) : (clrS O v i r).length = v.length := by
  unfold clrS; split <;> simp [h]
theorem nth_clrS (O : FOps) (v : List Int) (i : Nat) (r : List Int) (j : Nat) (h : r.length = v.length) (hj : j < v.length) (h0 : nth v i ≠ 0) :
    nth (clrS O v i r) j = if nth r j = 0 then nth v j else O.add (nth v j) (O.neg (O.mul (nth v i) (nth r j))) := by
  unfold clrS
  rw [if_neg h0, nth_getElem (show j < _ by simp [h]; omega), nth_getElem hj, nth_getElem (show j < r.length by omega)]
  simp
theorem clrS_el {O : FOps} {El : Int → Prop} (hO : FCl O El) {v r : List Int} {i : Nat} (hv : ∀ x ∈ v, El x) (hr : ∀ x ∈ r, El x) (hl : r.length = v.length) (hi : i < v.length) : ∀ x ∈ clrS O v i r, El x := by
  intro x hx
  by_cases h0 : nth v i = 0
  · unfold clrS at hx; rw [if_pos h0] at hx; exact hv x hx
  · obtain ⟨j, hj, rfl⟩ := List.mem_iff_getElem.1 hx
    rw [clrS_length O v i r hl] at hj
    have h1 := nth_clrS O v i r j hl hj h0
    rw [nth_getElem (show j < (clrS O v i r).length by rw [clrS_length O v i r hl]; exact hj)] at h1
    rw [h1]
    have e1 : El (nth v j) := hv _ (nth_mem hj)
    have e2 : El (nth r j) := hr _ (nth_mem (by omega))
    have e3 : El (nth v i) := hv _ (nth_mem hi)
    split
    · exact e1
    · exact hO.add _ _ e1 (hO.neg _ (hO.mul _ _ e3 e2))

variable {w : World} {b : Nat} {G : Tbl}

set_option maxRecDepth 100000 in
set_option maxHeartbeats 4000000 in
theorem exClear_any (w0 : World) (pb : Nat) (av : Option Addr) (cv n : Nat) (v : List Int) (i : Nat) (au : Option Addr) (cu : Nat) (u : List Int) (h : GFw w0 b G) (hb : Below w0.heap.size w0 w)
    (p0 : w0.cell? ⟨pb, 0, none⟩ = some (.pointer (some ⟨b, 0, none⟩)))
    (hv : w.ownsRow w0.heap.size 3 1 (.slice av n cv) n (v.map (Value.int .i64))) (hu : Ints w au n u) (hap : av = none ∨ au = none ∨ ablk au ≠ ablk av)
    (hve : ∀ x ∈ v, G.El x) (hue : ∀ x ∈ u, G.El x) (hin : i < n) :
    Calls Tryz.prog 238 #[.pointer (some ⟨pb, 0, none⟩), .slice av n cv, .int .i64 i, .slice au n cu] w
      fun e w' => e = .returned (.tuple #[]) ∧ w'.ownsRow w0.heap.size 3 1 (.slice av n cv) n ((clrS G.ops v i u).map (Value.int .i64)) ∧ Only av w w' := by
  have hul := hu.len
  have hvl : v.length = n := by simpa using own_len hv
  have hmax := hu.max
  unfold maxLen at hmax
  have hpu := hu.pl
  obtain ⟨iv0, mv0⟩ := Ints.own hv
  have hpv := iv0.pl
  have ci := iv0.cell i hin
  have hav : 0 < n → av ≠ none := fun hn e => by have := hpv hn; rw [e] at this; cases this
  have hxe : G.El (nth v i) := hve _ (nth_mem (by omega))
  have Hul := Lib.hid hul
  have Hvl := Lib.hid hvl
  have Hav := Lib.hid hav
  have Hve := Lib.hid hve
  have Hue := Lib.hid hue
  have HP := Lib.hid (fun (V : World) (hV : Below w0.heap.size w0 V) => cell_keep hV p0)
  clear hav hve hue
  by_cases hx : nth v i = 0
  · have Hn : Hid (clrS G.ops v i u = v) := by show _ = _; rw [clrS, if_pos hx]
    have hx' : (nth v i != 0) = false := by simpa using hx
    clear hx hul hvl
    go_enter Tryz.func238, Tryz.ntmps238
    go_wp2_with fail
    go_end0
    exact ⟨rfl, by rw [Hn.out]; exact hv, Only.refl _ _⟩
  have hx' : (nth v i != 0) = true := by simpa using hx
  have Hnl := Lib.hid (clrS_length G.ops v i u (by omega))
  have Hnth := Lib.hid (fun j hj => nth_clrS G.ops v i u j (by omega) hj hx)
  clear hx hul hvl
  generalize clrS G.ops v i u = N at *
  go_enter Tryz.func238, Tryz.ntmps238
  go_wp2_with fail
  generalize nth v i = x at *
  go_loopw [19] (fun iv wr => ∃ k : Nat, k ≤ n ∧ iv = .int .i64 k ∧ wr.ownsRow w0.heap.size 3 1 (.slice av n cv) n ((mixTo N v k).map (Value.int .i64)) ∧ Only av w wr) (fun iv _ => n - (intOf iv).toNat)
  case atStart => exact ⟨0, Nat.zero_le _, rfl, by rw [mixTo_zero]; exact hv, Only.refl _ _⟩
  case round =>
    obtain ⟨k, hk, rfl, hown, honly⟩ := hrel
    by_cases hlt : k < n
    · have hiu := honly.ints hu hap
      have cu1 := hiu.cell k hlt
      have hkN : N.length = v.length := Hnl.out
      have hkv : k < v.length := by rw [Hvl.out]; exact hlt
      have hval := Hnth.out k hkv
      have hmix := nth_mixTo N v k k hkN (by omega)
      rw [if_neg (by omega)] at hmix
      by_cases hz : nth u k = 0
      · rw [if_pos hz] at hval
        have hsame := mixTo_same N v k hkN hkv hval
        have Hsame := Lib.hid hsame
        have hz' : (nth u k != 0) = false := by simpa using hz
        clear hval hmix hsame hkN hkv hz
        go_wp2_with fail
        go_roundw
        case rel => exact ⟨k + 1, by omega, by go_num, by rw [Hsame.out]; exact hown, honly⟩
        case measure => simp [intOf] <;> omega
      · rw [if_neg hz] at hval
        have hset := mixTo_set N v k hkN hkv
        obtain ⟨hiv, hmv⟩ := Ints.own hown
        have cv1 := hiv.cell k hlt
        have fv1 := (hmv (by omega)).2 k hlt
        rw [hmix] at cv1
        have elv : G.El (nth v k) := Hve.out _ (nth_mem hkv)
        have elu : G.El (nth u k) := Hue.out _ (nth_mem (by rw [Hul.out]; exact hlt))
        have hbr : Below w0.heap.size w0 wr := Below.trans hb (honly.below (fun ha => (own_ne hv ha).1) hb.size)
        have p0r := HP.out wr hbr
        have hGr : GFw wr b G := h.keep hbr
        have elm : ∀ x y, G.El (G.mul x y) := fun x y => Tbl.mul_el h x y
        have HG : Hid (GFw wr.drew b G ∧ ∀ n, GFw (wr.drewN n) b G) := ⟨hGr.keep (Below.refl _ _).drew, fun n => hGr.drewN n⟩
        rw [hval] at hset
        have Hset := Lib.hid hset
        have hz' : (nth u k != 0) = true := by simpa using hz
        clear hval hmix hset hkN hkv hz
        go_wp2_with fail
        go_region_law ((first
          | (go_simp; go_at_call 112; ((with_reducible refine (gMul x (nth u k) HG.out.1 hxe elu).mono ?_); rintro e w4 ⟨m4, rfl, rfl⟩))
          | (go_simp; go_at_call 112; ((with_reducible refine (gMul x (nth u k) (HG.out.2 _) hxe elu).mono ?_); rintro e w4 ⟨m4, rfl, rfl⟩))
          | (go_simp; go_at_call 170; ((with_reducible refine (gSub (nth v k) (G.mul x (nth u k)) (HG.out.2 _) elv (elm _ _)).mono ?_); rintro e w4 ⟨m5, rfl, rfl⟩))))
        all_goals (
          go_wp2_with fail
          go_roundw
          case rel =>
            have hdr : Drawn wr (wr.drewN (1 + m4 + m5)) := ⟨_, rfl⟩
            refine ⟨k + 1, by omega, by go_num, ?_, honly.trans ((Only.drawn hdr).trans (Only.set _ k _ (Hav.out (by omega))))⟩
            have h1 := own_set (w := wr.drewN (1 + m4 + m5)) hown k hlt (.int .i64 (G.sub (nth v k) (G.mul x (nth u k))))
            rw [← List.map_set, show G.sub (nth v k) (G.mul x (nth u k)) = G.ops.add (nth v k) (G.ops.neg (G.ops.mul x (nth u k))) from rfl, Hset.out] at h1
            exact h1
          case measure => simp [intOf] <;> omega)
    · obtain rfl : k = n := by omega
      rw [mixTo_all N v k (by rw [Hnl.out, Hvl.out]) Hvl.out] at hown
      go_wp2_with fail
      go_end0
      exact ⟨rfl, hown, honly⟩
end

/- Plain: the shapes in light of the package exclusion. -/
section
open Go.RowKit

theorem clrTo_length (O : FOps) (t i : Nat) (L : List (List Int)) : ∀ l, (clrTo O t i L l).length = L.length
  | 0 => rfl
  | l + 1 => by
    rw [clrTo]
    split
    · rw [List.length_set]; exact clrTo_length O t i L l
    · exact clrTo_length O t i L l
theorem lgtPiv_length (O : FOps) (L : List (List Int)) (t k i : Nat) : (lgtPiv O L t k i).length = L.length := by
  unfold lgtPiv; rw [clrTo_length, List.length_set, swapRow_length]
theorem Rws.clr {O : FOps} {El : Int → Prop} {m : Nat} (hO : FCl O El) {L : List (List Int)} {t i : Nat} (hL : Rws El m L) (ht : t < L.length) (hi : i < m) : ∀ l, l ≤ L.length → Rws El m (clrTo O t i L l)
  | 0, _ => hL
  | l + 1, hl => by
    have ih := Rws.clr hO hL ht hi l (by omega)
    rw [clrTo]
    split
    · have h1 := ih.row (i := l) (by rw [clrTo_length]; omega)
      have h2 := ih.row (i := t) (by rw [clrTo_length]; omega)
      exact ih.set l ⟨by rw [clrS_length _ _ _ _ (by rw [h1.1, h2.1])]; exact h1.1, clrS_el hO h1.2 h2.2 (by rw [h1.1, h2.1]) (by rw [h1.1]; exact hi)⟩
    · exact ih
theorem cntTo_le (s v : List Int) : ∀ k, cntTo s v k ≤ k
  | 0 => Nat.le_refl _
  | k + 1 => by
    have := cntTo_le s v k
    rw [cntTo]; split <;> omega

variable {w : World} {b : Nat} {G : Tbl}

/-- clear on a row, by another one -/
theorem exClearRow (w0 : World) (pb : Nat) (a : Option Addr) (n c : Nat) (R : List (Option Addr × Nat)) (L : List (List Int)) (m i l t : Nat) (hO : OMat w w0.heap.size a n c R L)
    (h : GFw w0 b G) (hb : Below w0.heap.size w0 w) (p0 : w0.cell? ⟨pb, 0, none⟩ = some (.pointer (some ⟨b, 0, none⟩))) (hl : l < n) (ht : t < n) (hlt : l ≠ t) (hi : i < m) (hR : Rws G.El m L) (V : World) (hd : Drawn w V) :
    Calls Tryz.prog 238 #[.pointer (some ⟨pb, 0, none⟩), .slice (nthA R l).1 m (nthA R l).2, .int .i64 i, .slice (nthA R t).1 m (nthA R t).2] V
      fun e w' => e = .returned (.tuple #[]) ∧ (w'.cell? ⟨ablk a, aoff a + l, none⟩ = some (.slice (nthA R l).1 m (nthA R l).2) ∧ w'.cell? ⟨ablk a, aoff a + t, none⟩ = some (.slice (nthA R t).1 m (nthA R t).2)) ∧
        OMat w' w0.heap.size a n c R (L.set l (clrS G.ops (nthR L l) i (nthR L t))) ∧ Moves w w' (OIn a R) (OIn a R) := by
  have rl := hR.row (i := l) (by rw [hO.ll]; exact hl)
  have rt := hR.row (i := t) (by rw [hO.ll]; exact ht)
  have cl := hO.cell hl
  have ct := hO.cell ht
  have ol := hO.row l hl
  have it := hO.ints ht
  rw [rl.1] at cl ol
  rw [rt.1] at ct it
  have hap : (nthA R l).1 = none ∨ (nthA R t).1 = none ∨ ablk (nthA R t).1 ≠ ablk (nthA R l).1 := hO.sep l t hl ht hlt
  refine (exClear_any w0 pb _ _ m (nthR L l) i _ _ (nthR L t) h (hd.below' hb) p0 (own_keep ol hd.below) (it.keep hd.below) hap rl.2 rt.2 hi).mono ?_
  rintro e w' ⟨rfl, hown, honly⟩
  have hmv : Moves w w' (OIn a R) (OIn a R) := (Moves.of_below hd.below _).trans (honly.moves (fun hn => OMat.inRow (by rw [hO.rl]; exact hl) hn))
  have hne2 : ¬ ((nthA R l).1 ≠ none ∧ ablk a = ablk (nthA R l).1) := by
    rintro ⟨h1, h2⟩
    rcases hO.apt l hl with h3 | h3
    · exact h1 h3
    · exact h3 h2.symm
  refine ⟨rfl, ⟨Moves.cell (Moves.trans (Moves.of_below hd.below _) honly) cl hne2, Moves.cell (Moves.trans (Moves.of_below hd.below _) honly) ct hne2⟩, ?_, hmv⟩
  have hOr := hO.keep hd.below
  have hll : (clrS G.ops (nthR L l) i (nthR L t)).length = (nthR L l).length := clrS_length _ _ _ _ (by rw [rl.1, rt.1])
  refine hOr.rowTo hl hll (by rw [rl.1]; exact hown) fun b hb hne => honly.block b hb fun ⟨h1, h2⟩ => ?_
  rcases hne with h3 | h3
  · exact h1 h3
  · exact h3 h2
/-- a row replaced by a new one -/
theorem exScaleRow (w0 V : World) (a : Option Addr) (n c : Nat) (R : List (Option Addr × Nat)) (L : List (List Int)) (t m : Nat) (r : List Int) (hO : OMat w w0.heap.size a n c R L) (hb : Below w0.heap.size w0 w) (ht : t < n) (hr : r.length = m)
    (hV : Below w.heap.size w V) {a4 : Option Addr} {c4 : Nat} (hown : V.ownsRow w.heap.size 3 1 (.slice a4 m c4) m (r.map (Value.int .i64))) :
    ∃ R', OMat (V.setCell ⟨ablk a, aoff a + t, none⟩ (.slice a4 m c4)) w0.heap.size a n c R' (L.set t r) ∧ Moves w (V.setCell ⟨ablk a, aoff a + t, none⟩ (.slice a4 m c4)) (OIn a R) (OIn a R') := by
  subst hr
  have hO4 := hO.keep hV
  have hnew : ∀ b, b < w.heap.size → Apt a4 b := fun b hb => own_apt hown hb
  have h1 := hO4.setRow ht (own_mono hown hb.size) (hnew _ (hO.lt _ (.inl ⟨hO.ne (by omega), rfl⟩)).2) (fun j hj _ => by
    by_cases hn : (nthA R j).1 = none
    · exact .inl hn
    · exact .inr (hnew _ (hO.lt _ (OMat.inRow (by rw [hO.rl]; exact hj) hn)).2))
  have h2 := hO.setRow_moves' hV ht (r := a4) (rc := c4) (.slice a4 r.length c4) (fun ha => .inr (own_ne hown ha).1)
  exact ⟨_, h1, h2⟩
end

end Go.Proofs.YtcflcogbpnmjeaaGreat
