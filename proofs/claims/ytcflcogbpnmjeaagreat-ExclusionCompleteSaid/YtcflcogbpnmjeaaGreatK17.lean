/- A condition on the world that need not hold behind the region's last operation: loads are taken first under it. -/
import Derived.Test.YtcflcogbpnmjeaaGreatK16
import Derived.Test.YtcflcogbpnmjeaaGreatK9
import Derived.StillTail
import Derived.OrdersHeld
import Derived.Deep.RegionHeld
import Derived.Test.YtcflcogbpnmjeaaGreatK1
namespace Go.Proofs.YtcflcogbpnmjeaaGreat
set_option linter.unusedVariables false
set_option linter.unusedSimpArgs false
set_option linter.unusedSectionVars false

/- The walks of the reference of layer 9: AddTo, Copy. -/
section
open Go.RowKit

theorem OMat.nul (w : World) (B : Nat) : OMat w B none 0 0 [] [] :=
  ⟨rfl, rfl, own_none, fun i hi => by omega, fun i hi => by omega, fun i j hi => by omega⟩

set_option maxRecDepth 100000 in
set_option maxHeartbeats 3200000 in
theorem rAddTo_any (P : Int) (m : Nat) (am : Option Addr) (mn cm : Nat) (mod : List Int) (av : Option Addr) (n cv : Nat) (v : List Int) (s : Int) (au : Option Addr) (cu : Nat) (u : List Int) (w : World) (hf : RFld w P m am mn mod) (hs : ElP P m s)
    (hi : Ints w av n v) (hu : Ints w au n u) (hve : ∀ x ∈ v, ElP P m x) (hue : ∀ x ∈ u, ElP P m x) (hn : n ≤ 1000000) :
    Calls Tryz.prog 23 #[.agg #[.int .i64 P, .int .i64 m, .slice am mn cm], .slice av n cv, .int .i64 s, .slice au n cu] w (NewInts w (addRow (rops P m mod) v s u)) := by
  have hrf := hf.rf
  have Hs := Lib.hid (hrf.isQ hs)
  have Hvl := Lib.hid hi.len
  have Hul := Lib.hid hu.len
  have hplv := hi.pl
  have hplu := hu.pl
  have Hev : Hid (∀ k, k < n → isQ (orderS P m) (nth v k) = true) := fun k hk => hrf.isQ (hve _ (nth_mem (by rw [hi.len]; exact hk)))
  have Heu : Hid (∀ k, k < n → isQ (orderS P m) (nth u k) = true) := fun k hk => hrf.isQ (hue _ (nth_mem (by rw [hu.len]; exact hk)))
  have HNl : Hid ((addRow (rops P m mod) v s u).length = n) := by show _ = _; rw [addRow_length _ _ _ _ (by rw [hi.len, hu.len]), hi.len]
  have HNn : Hid (∀ k, k < n → nth (addRow (rops P m mod) v s u) k = if nth u k = 0 then nth v k else fsum P m (nth v k) (mulR P m mod s (nth u k))) := fun k hk => nth_addRow (rops P m mod) v s u k (by rw [hi.len, hu.len]) (by rw [hi.len]; exact hk)
  obtain ⟨NN, hNN⟩ : ∃ NN, addRow (rops P m mod) v s u = NN := ⟨_, rfl⟩
  rw [hNN] at HNl HNn
  rw [hNN]
  clear hve hue hNN
  go_enter Tryz.func23, Tryz.ntmps23
  go_wp2_with (at_make; refine wpList_mk rfl _ _ 22 3 rfl (.int .i64 0) 8 Tryz.underlying22 infoInt rfl n rfl rfl (by omega) (by unfold maxLen; omega) ?_; intro a1 w1 hown hbel hge hlt)
  obtain ⟨W, hW⟩ : ∃ W : World, W = w.alloc (.cells #[.int .i64 P, .int .i64 m, .slice am mn cm] 24) := ⟨_, rfl⟩
  rw [← hW] at hown hbel hge
  have hbW : Below w.heap.size w W := by rw [hW]; exact below1 _ _
  have x0 : Box W w.heap.size [.int .i64 P, .int .i64 m, .slice am mn cm] := by rw [hW]; exact Box.new _ _ _ rfl
  have hfW := hf.keep hbW
  have hiW := hi.keep hbW
  have huW := hu.keep hbW
  have hS : ∀ k, k < n → ∀ V, Below W.heap.size W V → V.cell? ⟨w.heap.size, 0, none⟩ = some (.int .i64 P) ∧ V.cell? ⟨w.heap.size, 1, none⟩ = some (.int .i64 m) ∧ V.cell? ⟨w.heap.size, 2, none⟩ = some (.slice am mn cm) ∧
      V.cell? ⟨ablk av, aoff av + k, none⟩ = some (.int .i64 (nth v k)) ∧ V.cell? ⟨ablk au, aoff au + k, none⟩ = some (.int .i64 (nth u k)) ∧ Below W.heap.size W V := by
    intro k hk V hV
    have x1 := x0.keep hV
    exact ⟨x1.cell 0 rfl, x1.cell 1 rfl, x1.cell 2 rfl, (hiW.keep hV).cell k hk, (huW.keep hV).cell k hk, hV⟩
  have HS := Lib.hid hS
  clear hW x0 hS
  go_loopw [10] (fun iv wr => ∃ k : Nat, k ≤ n ∧ iv = .int .i64 k ∧
      wr.ownsRow W.heap.size 3 1 (.slice a1 n n) n ((fillTo (NN.take k) k n).map (Value.int .i64)) ∧ Below W.heap.size W wr)
    (fun i _ => n - (intOf i).toNat)
  case atStart => exact ⟨0, Nat.zero_le _, rfl, by simpa [fillTo] using hown, hbel⟩
  case round =>
    obtain ⟨k, hk, rfl, hown, hbel⟩ := hrel
    obtain ⟨hints, hmine⟩ := Ints.own hown
    have hpl1 := hints.pl
    by_cases hlt : k < n
    · have hB := (hmine (by omega)).1
      have cc := hints.cell k hlt
      have cf := (hmine (by omega)).2 k hlt
      obtain ⟨d0, d1, d2, d3, d4, _⟩ := HS.out k hlt wr hbel
      have hset : ∀ (V : World) (z : Int), z = nth NN k → V.ownsRow W.heap.size 3 1 (.slice a1 n n) n ((fillTo (NN.take k) k n).map (Value.int .i64)) → (V.setCell ⟨ablk a1, aoff a1 + k, none⟩ (.int .i64 z)).ownsRow W.heap.size 3 1 (.slice a1 n n) n ((fillTo (NN.take (k + 1)) (k + 1) n).map (Value.int .i64)) := by
        rintro V z rfl hV
        have h := own_set hV k hlt (.int .i64 (nth NN k))
        rw [← List.map_set, fillTo_set _ _ _ _ (by simp [HNl.out]; omega) hlt] at h
        rw [List.take_succ_eq_append_getElem (by rw [HNl.out]; omega)]
        rw [nth_getElem (by rw [HNl.out]; omega)] at h ⊢
        exact h
      have Hset := Lib.hid hset
      have HB := Lib.hid hB
      have hNk := HNn.out k hlt
      -- the first store makes the entry that of v
      have hown' := own_set hown k hlt (.int .i64 (nth v k))
      by_cases hz : nth u k = 0
      · rw [if_pos hz] at hNk
        have hz' : (nth u k != 0) = false := by simpa using hz
        have HNk := Lib.hid hNk
        have dd : (wr.setCell ⟨ablk a1, aoff a1 + k, none⟩ (.int .i64 (nth v k))).cell? ⟨ablk au, aoff au + k, none⟩ = some (.int .i64 (nth u k)) := (HS.out k hlt _ (hbel.setCell hB _)).2.2.2.2.1
        clear hset hz hNk hown'
        go_wp2_with fail
        go_roundw
        case rel => exact ⟨k + 1, by omega, by go_num, Hset.out _ _ HNk.out.symm hown, hbel.setCell HB.out _⟩
        case measure => simp [intOf] <;> omega
      · rw [if_neg hz] at hNk
        have hz' : (nth u k != 0) = true := by simpa using hz
        have HNk := Lib.hid hNk
        obtain ⟨U, hU⟩ : ∃ U : World, U = wr.setCell ⟨ablk a1, aoff a1 + k, none⟩ (.int .i64 (nth v k)) := ⟨_, rfl⟩
        have hbU : Below W.heap.size W U := by rw [hU]; exact hbel.setCell hB _
        have dd : (wr.setCell ⟨ablk a1, aoff a1 + k, none⟩ (.int .i64 (nth v k))).cell? ⟨ablk au, aoff au + k, none⟩ = some (.int .i64 (nth u k)) := (HS.out k hlt _ (hbel.setCell hB _)).2.2.2.2.1
        rw [← hU] at hown'
        have hmdU := (hfW.keep hbU).mods
        have Hmd : Hid (∀ V, Below U.heap.size U V → Mods V P m am mn mod) := fun V hV => hmdU.keep hV
        have HK : Hid (∀ V, Below U.heap.size U V → (∃ y, V.cell? ⟨ablk a1, aoff a1 + k, none⟩ = some y) ∧ V.frozen? ⟨ablk a1, aoff a1 + k, none⟩ = false ∧ V.ownsRow W.heap.size 3 1 (.slice a1 n n) n (((fillTo (NN.take k) k n).map (Value.int .i64)).set k (.int .i64 (nth v k)))) := fun V hV => by
          have ho := own_keep hown' hV
          have h5 := ownsRow_cell ho k hlt
          exact ⟨⟨_, by rw [h5.1, List.getElem?_eq_getElem (by rw [h5.2.2.2.1]; exact hlt)]⟩, h5.2.1, ho⟩
        have HbU := Lib.hid hbU
        have HelM : Hid (isQ (orderS P m) (mulR P m mod s (nth u k)) = true) := hrf.isQ (mulR_el hrf mod _ _)
        have HSk : Hid (∀ V, Below W.heap.size W V → V.cell? ⟨w.heap.size, 0, none⟩ = some (.int .i64 P) ∧ V.cell? ⟨w.heap.size, 1, none⟩ = some (.int .i64 m) ∧ V.cell? ⟨w.heap.size, 2, none⟩ = some (.slice am mn cm) ∧
          V.cell? ⟨ablk av, aoff av + k, none⟩ = some (.int .i64 (nth v k)) ∧ V.cell? ⟨ablk au, aoff au + k, none⟩ = some (.int .i64 (nth u k)) ∧ Below W.heap.size W V) := HS.out k hlt
        have hset2 : ∀ V : World, V.ownsRow W.heap.size 3 1 (.slice a1 n n) n (((fillTo (NN.take k) k n).map (Value.int .i64)).set k (.int .i64 (nth v k))) →
            (V.setCell ⟨ablk a1, aoff a1 + k, none⟩ (.int .i64 (fsum P m (nth v k) (mulR P m mod s (nth u k))))).ownsRow W.heap.size 3 1 (.slice a1 n n) n ((fillTo (NN.take (k + 1)) (k + 1) n).map (Value.int .i64)) := by
          intro V hV
          rw [← HNk.out]
          have h := own_set hV k hlt (.int .i64 (nth NN k))
          rw [List.set_set, ← List.map_set, fillTo_set _ _ _ _ (by simp [HNl.out]; omega) hlt] at h
          rw [List.take_succ_eq_append_getElem (by rw [HNl.out]; omega)]
          rw [nth_getElem (by rw [HNl.out]; omega)] at h ⊢
          exact h
        have Hset2 := Lib.hid hset2
        clear hset hz hNk hown' hmdU hbU hset2
        go_wp2_with fail
        rw [← hU]
        clear hU d0 d1 d2 d3 d4 cc cf dd hbel hints hmine hown hB
        go_region_held3 (fun V => V.cell? ⟨w.heap.size, 0, none⟩ = some (.int .i64 P) ∧ V.cell? ⟨w.heap.size, 1, none⟩ = some (.int .i64 m) ∧ V.cell? ⟨w.heap.size, 2, none⟩ = some (.slice am mn cm) ∧
            V.cell? ⟨ablk av, aoff av + k, none⟩ = some (.int .i64 (nth v k)) ∧ V.cell? ⟨ablk au, aoff au + k, none⟩ = some (.int .i64 (nth u k)) ∧ Below W.heap.size W V)
          ((refine HSk.out _ ?_; first | exact HbU.out.drew | exact Below.next HbU.out hb7 | exact Below.next HbU.out hb9 | exact (Below.next HbU.out hb9).setCell HB.out _))
          (first
            | (go_at_call 64; ((with_reducible refine (rMul_any P m am mn cm mod s (nth u k) _ hrf (Hmd.out _ (Below.refl _ _).drew) Hs.out (Heu.out k hlt)).mono ?_); rintro e w4 ⟨rfl, hb4⟩; have hb7 : Below U.heap.size U w4 := Below.next (Below.refl _ _).drew hb4))
            | (go_at_call 63; ((with_reducible refine (rAdd_any P m am mn cm (nth v k) (mulR P m mod s (nth u k)) _ hrf (Hev.out k hlt) HelM.out).mono ?_); rintro e w5 ⟨rfl, hb5⟩; have hb9 : Below U.heap.size U w5 := Below.next hb7 hb5; obtain ⟨⟨v9, k9⟩, f9, o9⟩ := HK.out w5 hb9)))
        clear k9 f9
        go_wp2_with fail
        go_roundw
        case rel => exact ⟨k + 1, by omega, by go_num, Hset2.out _ o9, (Below.next HbU.out hb9).setCell HB.out _⟩
        case measure => simp [intOf] <;> omega
    · obtain rfl : k = n := by omega
      have hfin : fillTo (NN.take k) k k = NN := by rw [fillTo_all, List.take_of_length_le (by rw [HNl.out]; exact Nat.le_refl _)]
      rw [hfin] at hown
      clear hfin
      go_wp2_with fail
      go_ret
      exact ⟨a1, k, by rw [HNl.out]; rfl, by rw [HNl.out]; exact own_mono hown hbW.size, Below.next hbW hbel⟩

set_option maxRecDepth 100000 in
set_option maxHeartbeats 3200000 in
theorem rCopy_any (a : Option Addr) (n c : Nat) (L : List (List Int)) (w : World) (hi : Mat w a n L) (hn : n ≤ 1000000) (hL : ∀ l ∈ L, l.length ≤ 1000000) :
    Calls Tryz.prog 208 #[.slice a n c] w (NewMat w L) := by
  have hpl := hi.pl
  have Hlen := Lib.hid hi.len
  have HL := Lib.hid hL
  clear hL
  go_enter Tryz.func208, Tryz.ntmps208
  go_wp2_with fail
  go_loopw [3, 4] (fun sv iv wr => ∃ (k : Nat) (a1 : Option Addr) (c1 : Nat), k ≤ n ∧ iv = .int .i64 k ∧ sv = .slice a1 k c1 ∧ (∃ R, OMat wr w.heap.size a1 k c1 R (L.take k)) ∧ Below w.heap.size w wr) (fun _ iv _ => n - (intOf iv).toNat)
  case atStart => exact ⟨0, none, 0, Nat.zero_le _, rfl, rfl, ⟨[], by simpa using OMat.nul w w.heap.size⟩, Below.refl _ _⟩
  case round =>
    obtain ⟨k, a1, c1, hk, rfl, rfl, ⟨R, hO⟩, hbr⟩ := hrel
    by_cases hlt : k < n
    · obtain ⟨ra, rn, rc, hcell, hrow⟩ := (hi.keep hbr).cell k hlt
      have hkL : k < L.length := by rw [Hlen.out]; exact hlt
      have hrl : rn ≤ 1000000 := by rw [← hrow.len, nthR_getElem hkL]; exact HL.out _ (List.getElem_mem hkL)
      have hO1 := own_emp wr 3
      have hbe := below1 wr (.cells #[] 3)
      obtain ⟨l, hl⟩ : ∃ l, nthR L k = l := ⟨_, rfl⟩
      rw [hl] at hrow
      have Htk : Hid (L.take (k + 1) = L.take k ++ [l]) := by show _ = _; rw [List.take_succ_eq_append_getElem hkL, ← hl, nthR_getElem hkL]
      have hrowe := hrow.keep hbe
      have hcell2 := cell_box hcell (.cells #[] 3)
      have hpr := hrow.pl
      have Hrl := Lib.hid hrow.len
      have hsz := hbr.size
      clear hl
      go_wp2_with (at_builtin; first
        | (refine wpList_appAll (by rfl) (.tmp 12) (.tmp 16) 22 3 (by rfl) (.int .i64 0) 8 Tryz.underlying22 infoInt (by rfl) wr.heap.size _ 0 0 [] (by rfl) hO1 ra rn rc (l.map (Value.int .i64)) (by rfl) hpr (by simp [Hrl.out]) (Ints.news hrowe) (ints_oneCell _ _) (by omega) (by unfold maxLen; omega) (Below.size hbe) ?_; intro a3 c3 w3 hown3 hgr3 hap3; have hb3 : Below wr.heap.size wr w3 := Below.app (B := wr.heap.size) (e := 3) (xs := []) hbe hO1 hgr3 (Nat.le_refl _) (Below.size hbe); rw [Nat.zero_add] at hown3 ⊢; rw [List.nil_append] at hown3)
        | (refine wpList_push rfl _ _ 25 22 rfl (.slice none 0 0) 24 Tryz.underlying25 infoInts rfl w.heap.size a1 k c1 _ rfl ((hO.keep (Below.next hb3 (below1 _ _))).own) ⟨w3.heap.size, 0, none⟩ 1 (.slice a3 rn c3) rfl (cell_new w3 _ _) rfl (by omega) (by unfold maxLen; omega) (by have h1 := Below.size hb3; simp; omega) ?_; intro a5 c5 w5 hown5 hgr5 hap5)
        | fail)
      go_roundw
      case rel =>
        have hb4 : Below wr.heap.size wr (w3.alloc (.cells #[.slice a3 rn c3] 22)) := Below.next hb3 (below1 _ _)
        have hO4 := hO.keep hb4
        have hown4 : (w3.alloc (.cells #[.slice a3 rn c3] 22)).ownsRow w.heap.size 3 1 (.slice a3 l.length c3) l.length (l.map (Value.int .i64)) := by
          rw [Hrl.out]; exact own_mono (own_keep hown3 (below1 _ _)) hsz
        have hra : a3 ≠ none → ¬ OIn a1 R (ablk a3) := fun h0 hI => by
          have h1 := (own_ne hown3 h0).1
          have h2 := (hO.lt _ hI).2
          omega
        have hP := OMat.push hO4 hown4 hra (by rw [Hrl.out]; exact hown5) hgr5 hap5
        have hb5 : Below w.heap.size w w5 := Below.app (Below.next hbr hb4) hO4.own hgr5 (Nat.le_refl _) (Nat.le_trans hsz hb4.size)
        exact ⟨k + 1, a5, c5, by omega, by go_num, rfl, ⟨_, by rw [Htk.out]; exact hP⟩, hb5⟩
      case measure => simp [intOf] <;> omega
    · obtain rfl : k = n := by omega
      rw [List.take_of_length_le (by rw [Hlen.out]; exact Nat.le_refl _)] at hO
      go_wp2_with fail
      go_ret
      exact ⟨a1, c1, R, by rw [Hlen.out]; rfl, by rw [Hlen.out]; exact hO, hbr⟩
end

/- A condition on the world that need not hold behind the region's last operation: loads are taken first under it. -/
section
section
variable {P : Program} {ops : Array Oper} {Q : Exit → Act → World → Prop} {md : Region.Mode} {S : World → Prop} {n : Nat}

/-- whatever order comes: S holds behind each operation ahead of number n -/
def wpAnyK (P : Program) (md : Region.Mode) (ops : Array Oper) (Q : Exit → Act → World → Prop) (S : World → Prop) (n : Nat) : Nat → Array Bool → Act → World → Prop
  | 0, listed, a, w => Region.ready md ops listed = [] ∧ Q .normal a w
  | fuel + 1, listed, a, w =>
    (Region.ready md ops listed = [] → Q .normal a w) ∧
    ∀ i ∈ Region.ready md ops listed, wpOp P ops Q i (fun a' w' => (i < n → S w') ∧ wpAnyK P md ops Q S n fuel (listed.setIfInBounds i true) a' w') a w

theorem wpAny_of_K : ∀ (fuel : Nat) (listed : Array Bool) (a : Act) (w : World), wpAnyK P md ops Q S n fuel listed a w → wpAny P md ops Q fuel listed a w
  | 0, _, _, _, h => h
  | fuel + 1, _, _, _, h => ⟨h.1, fun i hi => wpOp_mono (fun a' w' h' => wpAny_of_K fuel _ a' w' h'.2) (h.2 i hi)⟩

theorem wpAnyK_first {i : Nat} {oi : Oper} {v : Value} (hi : ops[i]? = some oi) (hsel : ∀ (j : Nat) (o : Oper) cs b, ops[j]? = some o → o.op ≠ .select cs b)
    (hQ : ∀ c a w, Q (.panic c) (a.put oi.dst v) w → Q (.panic c) a w) (hs : Region.sinkB md ops n = true) (hc : Region.chainB md ops n = true) (hn : n < ops.size) (hin : i < n) :
    ∀ (fuel : Nat) (listed : Array Bool) (a : Act) (w : World), HeadInv md ops n listed →
      (∀ j oj, ops[j]? = some oj → j ≠ i → listed.getD j true = false → (∀ e ∈ oj.after, Region.binds md e = true → e.on ≠ i) → oi.apart ops oj = true) →
      i ∈ Region.ready md ops listed → YieldsIf P ops S oi v a → S w →
      wpAnyK P md ops Q S n fuel (listed.setIfInBounds i true) (a.put oi.dst v) w → wpAnyK P md ops Q S n (fuel + 1) listed a w := by
  intro fuel
  induction fuel with
  | zero =>
    intro listed a w inv _ hr hy hS H
    refine ⟨fun h => (by rw [h] at hr; cases hr), fun j hj => ?_⟩
    by_cases hji : j = i
    · subst hji; exact hy.wpOp hi hS ⟨fun _ => hS, H⟩
    · have := ready_mono hj hji
      rw [H.1] at this
      cases this
  | succ fuel ih =>
    intro listed a w inv hfree hr hy hS H
    have hun := (mem_ready.1 hr).1
    refine ⟨fun h => (by rw [h] at hr; cases hr), fun j hj => ?_⟩
    by_cases hji : j = i
    · subst hji; exact hy.wpOp hi hS ⟨fun _ => hS, H⟩
    · have hjn : j < n := by
        rcases Nat.lt_or_ge j n with h | h
        · exact h
        · exact absurd hj (tail_waits hs hc hn inv _ i rfl hin hun j h)
      have h1 := H.2 j (ready_mono hj hji)
      obtain ⟨hjun, oj, hoj, hall⟩ := mem_ready.1 hj
      have hnot : ∀ e ∈ oj.after, Region.binds md e = true → e.on ≠ i := fun e he hb heq => by
        have h1 := hall e he hb
        rw [heq, getD_both hun] at h1
        cases h1
      have h2 := wpOp_putIf hoj (hfree j oj hoj hji hjun hnot) (fun cs b => hsel i oi cs b hi) (fun cs b => hsel j oj cs b hoj) hQ hy h1
      have hfree' : ∀ k ok, ops[k]? = some ok → k ≠ i → (listed.setIfInBounds j true).getD k true = false →
          (∀ e ∈ ok.after, Region.binds md e = true → e.on ≠ i) → oi.apart ops ok = true := fun k ok hk hki hku hno => by
        refine hfree k ok hk hki ?_ hno
        by_cases hjk : j = k
        · subst hjk; exact hjun
        · rw [getD_set_ne true hjk] at hku; exact hku
      refine wpOp_mono (fun a' w' h3 => ?_) h2
      have hSw := h3.2.1 hjn
      refine ⟨fun _ => hSw, ih (listed.setIfInBounds j true) a' w' (inv.set hj hjn) hfree' (ready_mono hr (Ne.symm hji)) h3.1 hSw ?_⟩
      rw [Array.setIfInBounds_comm _ _ hji]
      exact h3.2.2

/-- take number i first -/
theorem wpAnyK_take {i : Nat} {oi : Oper} {v : Value} {fuel : Nat} {listed : Array Bool} {a : Act} {w : World} (hi : ops[i]? = some oi)
    (hs : (Region.noSelect ops && (Region.sinkB md ops n && (Region.chainB md ops n && (decide (n < ops.size) && decide (i < n))))) = true) (hf : Region.free md ops listed i = true) (hr : (Region.ready md ops listed).contains i = true)
    (hQ : ∀ c a w, Q (.panic c) (a.put oi.dst v) w → Q (.panic c) a w) (hy : YieldsIf P ops S oi v a) (hI : HeadInv md ops n listed ∧ S w)
    (h : HeadInv md ops n (listed.setIfInBounds i true) ∧ S w → wpAnyK P md ops Q S n fuel (listed.setIfInBounds i true) (a.put oi.dst v) w) : wpAnyK P md ops Q S n (fuel + 1) listed a w := by
  simp only [Bool.and_eq_true, decide_eq_true_eq] at hs
  have hr' : i ∈ Region.ready md ops listed := by simpa using hr
  exact wpAnyK_first hi (Region.noSelect_spec hs.1) hQ hs.2.1 hs.2.2.1 hs.2.2.2.1 hs.2.2.2.2 fuel listed a w hI.1 (Region.free_spec hi hf) hr' hy hI.2 (h ⟨hI.1.set hr' hs.2.2.2.2, hI.2⟩)

/-- one operation alone may come up -/
theorem wpAnyK_one {i : Nat} {fuel : Nat} {listed : Array Bool} {a : Act} {w : World} (hr : Region.ready md ops listed = [i]) (hin : i < n) (hI : HeadInv md ops n listed)
    (h : wpOp P ops Q i (fun a' w' => S w' ∧ (HeadInv md ops n (listed.setIfInBounds i true) ∧ S w' → wpAnyK P md ops Q S n fuel (listed.setIfInBounds i true) a' w')) a w) : wpAnyK P md ops Q S n (fuel + 1) listed a w :=
  ⟨fun h0 => (by rw [hr] at h0; cases h0), fun j hj => by
    rw [hr, List.mem_singleton] at hj; subst hj
    exact wpOp_mono (fun a' w' h' => ⟨fun _ => h'.1, h'.2 ⟨hI.set (by rw [hr]; simp) hin, h'.1⟩⟩) h⟩
/-- the last one: nothing is asked behind it -/
theorem wpAnyK_last {i : Nat} {fuel : Nat} {listed : Array Bool} {a : Act} {w : World} (hr : Region.ready md ops listed = [i]) (hin : n ≤ i) (hd : Region.ready md ops (listed.setIfInBounds i true) = [])
    (h : wpOp P ops Q i (fun a' w' => Q .normal a' w') a w) : wpAnyK P md ops Q S n (fuel + 1) listed a w :=
  ⟨fun h0 => (by rw [hr] at h0; cases h0), fun j hj => by
    rw [hr, List.mem_singleton] at hj; subst hj
    refine wpOp_mono (fun a' w' h' => ⟨fun h1 => by omega, ?_⟩) h
    cases fuel with
    | zero => exact ⟨hd, h'⟩
    | succ f => exact ⟨fun _ => h', by rw [hd]; simp⟩⟩
/-- one operation alone may come up: it is handed over, and the way back -/
theorem wpAnyK_op {i : Nat} {o : Oper} {fuel : Nat} {listed : Array Bool} {a : Act} {w : World} (hr : Region.ready md ops listed = [i]) (hin : i < n) (hI : HeadInv md ops n listed) (ho : ops[i]? = some o)
    (h : ∀ K' : Act → World → Prop, Shut (∀ a w, S w → (HeadInv md ops n (listed.setIfInBounds i true) ∧ S w → wpAnyK P md ops Q S n fuel (listed.setIfInBounds i true) a w) → K' a w) → if Region.wanted o (yielded ops a.tmps) = true then Oper.wp P o a w K' Q else K' (a.put o.dst undef) w) :
    wpAnyK P md ops Q S n (fuel + 1) listed a w :=
  wpAnyK_one hr hin hI (wpOp_step ho fun K' hK => h K' fun a w hS hW => hK a w ⟨hS, hW⟩)
theorem wpAnyK_end {i : Nat} {o : Oper} {fuel : Nat} {listed : Array Bool} {a : Act} {w : World} (hr : Region.ready md ops listed = [i]) (hin : n ≤ i) (hd : Region.ready md ops (listed.setIfInBounds i true) = []) (ho : ops[i]? = some o)
    (h : ∀ K' : Act → World → Prop, Shut (∀ a w, Q .normal a w → K' a w) → if Region.wanted o (yielded ops a.tmps) = true then Oper.wp P o a w K' Q else K' (a.put o.dst undef) w) :
    wpAnyK P md ops Q S n (fuel + 1) listed a w :=
  wpAnyK_last hr hin hd (wpOp_step ho fun K' hK => h K' fun a w hq => hK a w hq)
theorem headInv0 : HeadInv md ops n (Array.replicate ops.size false) :=
  ⟨by simp, fun j oj _ hl => (by rw [getD_replicate_false] at hl; cases hl), fun t _ ht => by
    have := getD_replicate_false ops.size t
    exact getD_in (by simpa using ht) this⟩
theorem wp_region_K {id : Nat} {a : Act} {w : World} (S : World → Prop) (n : Nat) (hm : P.follows .mixedOrders = true) (hS : S w.drew)
    (h : HeadInv .any ops n (Array.replicate ops.size false) ∧ S w.drew → wpAnyK P .any ops Q S n ops.size (Array.replicate ops.size false) a w.drew) : (Code.region id ops true).wp P Q a w :=
  wp_region_any hm (wpAny_of_K _ _ _ _ (h ⟨headInv0, hS⟩))
end
end

end Go.Proofs.YtcflcogbpnmjeaaGreat
