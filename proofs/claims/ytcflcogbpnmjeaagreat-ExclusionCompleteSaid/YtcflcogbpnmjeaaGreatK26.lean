/- The walk of children of the package exclusion, for the method check. -/
import Derived.Test.YtcflcogbpnmjeaaGreatK21
import Derived.Test.YtcflcogbpnmjeaaGreatK19
import Derived.Test.YtcflcogbpnmjeaaGreatK5
import Derived.Test.YtcflcogbpnmjeaaGreatK20
import Derived.Test.YtcflcogbpnmjeaaGreatK7
namespace Go.Proofs.YtcflcogbpnmjeaaGreat
set_option linter.unusedVariables false
set_option linter.unusedSimpArgs false
set_option linter.unusedSectionVars false

/- The walk of children of the package exclusion, for the method check. -/
section
open Go.RowKit

set_option maxRecDepth 100000 in
set_option maxHeartbeats 8000000 in
theorem exChildrenC_any {σ : Type} (I : World → σ → Prop) (J : σ → Nat → Prop) (val : σ → List (List Int)) (F : List Int → List Int → List (List Int) → Int × List (List Int)) (pb W : Nat)
    (sa : Option Addr) (ns cs : Nat) (s : List Int) (az : Option Addr) (nz cz : Nat) (z : List Int) (at' : Option Addr) (nt ct : Nat) (t : List Int) (w : World) (σ0 : σ)
    (hI0 : I w σ0) (hIb : ∀ V V' σ, I V σ → Moves V V' (fun b => w.heap.size ≤ b ∧ ¬ J σ b) (fun b => w.heap.size ≤ b ∧ ¬ J σ b) → I V' σ) (hp : w.cell? ⟨pb, 9, none⟩ = some (.int .i64 W)) (hS : ∀ V σ, I V σ → Ints V sa ns s ∧ Ints V at' nt t)
    (hJ : ∀ V σ x, I V σ → J σ x → x < V.heap.size) (hz : Ints w az nz z) (htn : t.Nodup) (hns : ns ≤ 1000) (hnz : nz ≤ 1000) (hnt : nt ≤ 1000) (hWs : ns ≤ W)
    (hF : ns < W → ∀ (V : World) (σ : σ) (a1 : Option Addr) (c1 : Nat) (a2 : Option Addr) (c2 k : Nat) (zc : List Int), k < nt → zc = z ++ (t.take k).filter (fun x => decide (¬ x ∈ z)) → ¬ nth t k ∈ z → I V σ → Moves w V (J σ0) (J σ) →
      Ints V a1 (ns + 1) (s ++ [nth t k]) → Ints V a2 zc.length zc → ¬ J σ (ablk a1) → (a2 ≠ none → ¬ J σ (ablk a2)) →
      Calls Tryz.prog 121 #[.pointer (some ⟨pb, 0, none⟩), .slice a1 (ns + 1) c1, .slice a2 zc.length c2] V
        fun e V' => ∃ σ', I V' σ' ∧ Moves V V' (J σ) (J σ') ∧ e = .returned (.int .i64 (F (s ++ [nth t k]) zc (val σ)).1) ∧ ((F (s ++ [nth t k]) zc (val σ)).1 = 0 → val σ' = (F (s ++ [nth t k]) zc (val σ)).2)) :
    Calls Tryz.prog 166 #[.pointer (some ⟨pb, 0, none⟩), .slice sa ns cs, .slice az nz cz, .slice at' nt ct, .func (.func 121) #[.pointer (some ⟨pb, 0, none⟩)] #[]] w
      fun e w' => ∃ σ', I w' σ' ∧ Moves w w' (J σ0) (J σ') ∧ e = .returned (.int .i64 (kbld F s z (if ns < W then t.filter (fun x => decide (¬ x ∈ z)) else []) (val σ0)).1) ∧
        ((kbld F s z (if ns < W then t.filter (fun x => decide (¬ x ∈ z)) else []) (val σ0)).1 = 0 → val σ' = (kbld F s z (if ns < W then t.filter (fun x => decide (¬ x ∈ z)) else []) (val σ0)).2) := by
  obtain ⟨KB, hKB⟩ : ∃ KB, kbld F s z (if ns < W then t.filter (fun x => decide (¬ x ∈ z)) else []) (val σ0) = KB := ⟨_, rfl⟩
  rw [hKB]
  have HKB := Lib.hid hKB
  clear hKB
  have Hzl := Lib.hid hz.len
  have Htl := Lib.hid (hS w σ0 hI0).2.len
  have Hsl := Lib.hid (hS w σ0 hI0).1.len
  have hplt := (hS w σ0 hI0).2.pl
  have HS := Lib.hid hS
  have HI0 := Lib.hid hI0
  have HIb := Lib.hid hIb
  have HJ := Lib.hid hJ
  have Htn := Lib.hid htn
  have HF := Lib.hid hF
  clear hS hI0 hIb hJ htn hF
  by_cases hW : ns = W
  · have hd : ((ns : Int) == (W : Int)) = true := by simp; omega
    have Hk : Hid (KB = (0, val σ0)) := by
      show _ = _
      rw [← HKB.out, if_neg (by omega)]; rfl
    go_enter Tryz.func166, Tryz.ntmps166
    clear hW
    go_wp2_with fail
    go_ret
    exact ⟨σ0, HI0.out, Moves.refl _ _, by rw [Hk.out]; rfl, fun _ => by rw [Hk.out]⟩
  have hd : ((ns : Int) == (W : Int)) = false := by simp; omega
  have hlW : ns < W := by omega
  have HKB : Hid (KB = kbld F s z (t.filter (fun x => decide (¬ x ∈ z))) (val σ0)) := by
    show _ = _
    rw [← HKB.out, if_pos hlW]
  have HF := Lib.hid (HF.out hlW)
  clear hlW hW
  go_enter Tryz.func166, Tryz.ntmps166
  go_wp2_with fail
  refine (clone1_any az nz cz z hz (by omega)).mono ?_
  rintro e w1 ⟨a0, c0, rfl, hown0, hb1⟩
  have hI1 := HIb.out w w1 σ0 HI0.out (Moves.of_below hb1 _)
  go_wp2_with fail
  go_loopw [2, 25] (fun zv iv wr => ∃ (k : Nat) (aq : Option Addr) (cq : Nat) (zc : List Int) (σ : σ), k ≤ nt ∧ iv = .int .i64 k ∧ zv = .slice aq zc.length cq ∧ Hid (zc = z ++ (t.take k).filter (fun x => decide (¬ x ∈ z))) ∧
      wr.ownsRow w.heap.size 3 1 (.slice aq zc.length cq) zc.length (zc.map (Value.int .i64)) ∧ Hid (I wr σ) ∧ Hid (Moves w wr (J σ0) (J σ)) ∧ Hid (aq ≠ none → ¬ J σ (ablk aq)) ∧
      Hid (KB = kbld F s zc ((t.drop k).filter (fun x => decide (¬ x ∈ z))) (val σ)) ∧ zc.length ≤ nz + k)
    (fun _ iv _ => nt - (intOf iv).toNat)
  case atStart =>
    refine ⟨0, a0, c0, z, σ0, Nat.zero_le _, rfl, rfl, ?_, hown0, hI1, Moves.of_below hb1 _, ?_, ?_, by rw [Hzl.out]; omega⟩
    · show _ = _; simp
    · show a0 ≠ none → _
      intro ha hj
      have h1 := HJ.out w σ0 _ HI0.out hj
      have h2 := (own_ne hown0 ha).1
      omega
    · show _ = _; rw [List.drop_zero]; exact HKB.out
  case round =>
    obtain ⟨k, aq, cq, zc, σ, hk, rfl, rfl, hzc, hop, hI, hM, hap, hkb, hzn⟩ := hrel
    generalize wr = U at *
    by_cases hlt : k < nt
    · have htU := (HS.out U σ hI.out).2
      have hsU := (HS.out U σ hI.out).1
      have ck := htU.cell k hlt
      obtain ⟨hzi, _⟩ := Ints.own hop
      have hktl : k < t.length := by rw [Htl.out]; exact hlt
      have Htk := Lib.hid (show t.take (k + 1) = t.take k ++ [nth t k] from take_nth t hktl)
      have Hdk := Lib.hid (show t.drop k = nth t k :: t.drop (k + 1) by rw [nth_getElem hktl]; exact List.drop_eq_getElem_cons hktl)
      have Hzm : Hid (nth t k ∈ zc ↔ nth t k ∈ z) := by
        show _ ↔ _
        rw [hzc.out, List.mem_append, List.mem_filter]
        constructor
        · rintro (h | h)
          · exact h
          · exfalso
            have hn : (t.take k ++ t.drop k).Nodup := by rw [List.take_append_drop]; exact Htn.out
            rw [List.nodup_append] at hn
            exact hn.2.2 _ h.1 (nth t k) (by rw [Hdk.out]; simp) rfl
        · exact .inl
      by_cases hmz : nth t k ∈ z
      · have hmd : decide (nth t k ∈ zc) = true := by simpa using Hzm.out.2 hmz
        have HcA := Lib.hid (contains_any aq zc.length cq zc (nth t k) U hzi)
        rw [hmd] at HcA
        have Hzc2 : Hid (zc = z ++ (t.take (k + 1)).filter (fun x => decide (¬ x ∈ z))) := by
          show _ = _
          rw [Htk.out, List.filter_append, List.filter_cons_of_neg (by simpa using hmz), List.filter_nil, List.append_nil]; exact hzc.out
        have Hkb2 : Hid (KB = kbld F s zc ((t.drop (k + 1)).filter (fun x => decide (¬ x ∈ z))) (val σ)) := by
          show _ = _
          rw [hkb.out, Hdk.out, List.filter_cons_of_neg (by simpa using hmz)]
        clear hmz hmd
        go_wp2_with fail
        refine HcA.out.mono ?_
        rintro e w6 ⟨rfl, rfl⟩
        go_wp2_with fail
        go_roundw
        case rel => exact ⟨k + 1, aq, cq, zc, σ, by omega, by go_num, rfl, Hzc2.out, hop, hI.out, hM.out, hap.out, Hkb2.out, by omega⟩
        case measure => simp [intOf] <;> omega
      · have hmd : decide (nth t k ∈ zc) = false := by simpa using fun h => hmz (Hzm.out.1 h)
        have HcA := Lib.hid (contains_any aq zc.length cq zc (nth t k) U hzi)
        rw [hmd] at HcA
        have Hzc2 : Hid (zc ++ [nth t k] = z ++ (t.take (k + 1)).filter (fun x => decide (¬ x ∈ z))) := by
          show _ = _
          rw [Htk.out, List.filter_append, List.filter_cons_of_pos (by simpa using hmz), List.filter_nil, ← List.append_assoc, ← hzc.out]
        have Hkb2 : Hid (KB = if (F (s ++ [nth t k]) zc (val σ)).1 = 0 then kbld F s (zc ++ [nth t k]) ((t.drop (k + 1)).filter (fun x => decide (¬ x ∈ z))) (F (s ++ [nth t k]) zc (val σ)).2 else ((F (s ++ [nth t k]) zc (val σ)).1, [])) := by
          show _ = _
          rw [hkb.out, Hdk.out, List.filter_cons_of_pos (by simpa using hmz), kbld]
        have HFk := Lib.hid (fun V σ a1 c1 a2 c2 => HF.out V σ a1 c1 a2 c2 k zc hlt hzc.out hmz)
        have hszU := hM.out.size
        clear hmz hmd
        go_wp2_with fail
        refine HcA.out.mono ?_
        rintro e w6 ⟨rfl, rfl⟩
        go_wp2_with fail
        refine (clone1_any sa ns cs s hsU (by omega)).mono ?_
        rintro e w7 ⟨a7, c7, rfl, hown7, hb7⟩
        rw [Hsl.out] at hown7
        rw [Hsl.out]
        obtain ⟨x, hx⟩ : ∃ x, nth t k = x := ⟨_, rfl⟩
        rw [hx] at ck Hzc2 Hkb2 HFk Htk Hdk Hzm HcA ⊢
        have hcn := cell_new w7 (.int .i64 x) 3
        have hbn := below1 w7 (.cells #[.int .i64 x] 3)
        go_wp2_with (at_builtin; refine wpList_push rfl _ _ 22 3 rfl (.int .i64 0) 8 Tryz.underlying22 infoInt rfl w6.heap.size a7 ns c7 _ rfl (hown7.alloc _) ⟨w7.heap.size, 0, none⟩ 1 (.int .i64 x) rfl hcn rfl (by omega) (by unfold maxLen; omega) (Nat.le_trans hb7.size hbn.size) ?_; intro a8 c8 w8 hown8 hgr8 hap8)
        have hb68 : Below w6.heap.size w6 w8 := Below.app (Below.next hb7 hbn) (hown7.alloc _) hgr8 (Nat.le_refl _) (Nat.le_trans hb7.size hbn.size)
        have own8 : w8.ownsRow w6.heap.size 3 1 (.slice a8 (ns + 1) c8) (ns + 1) ((s ++ [x]).map (Value.int .i64)) := by simpa using hown8
        have hz8 := hzi.keep hb68
        clear hown7 hown8 hgr8 hap8 hcn hbn
        go_wp2_with fail
        refine (clone1_any aq zc.length cq zc hz8 (by omega)).mono ?_
        rintro e w9 ⟨a9, c9, rfl, hown9, hb9⟩
        have hb69 := Below.next hb68 hb9
        have hI9 := HIb.out w6 w9 σ hI.out (Moves.of_below hb69 _)
        have hM9 : Moves w w9 (J σ0) (J σ) := hM.out.then_new (hb69.mono hszU)
        have hs9 := (Ints.own own8).1.keep hb9
        have hz9 := (Ints.own hown9).1
        have hn8 : ¬ J σ (ablk a8) := fun hj => by
          have h1 := HJ.out w6 σ _ hI.out hj
          have h2 := (own_lt_pos own8 (by omega)).1
          omega
        have hn9 : a9 ≠ none → ¬ J σ (ablk a9) := fun ha hj => by
          have h1 := HJ.out w6 σ _ hI.out hj
          have h2 := (own_ne hown9 ha).1
          have h3 := hb68.size
          omega
        have hopz := own_keep hop hb69
        have HCall := Lib.hid (HFk.out w9 σ a8 c8 a9 c9 hI9 hM9 hs9 hz9 hn8 hn9)
        clear HFk hI9 hs9 hz9 hn8 hn9 hz8 own8 hown9
        generalize F (s ++ [x]) zc (val σ) = FR at *
        obtain ⟨fe, fv⟩ := FR
        dsimp only at HCall Hkb2
        go_wp2_with fail
        refine HCall.out.mono ?_
        rintro e w10 ⟨σ', hI', hM', rfl, hval⟩
        have hM10 := Lib.hid (hM9.trans hM')
        have hapz : aq ≠ none → ¬ J σ' (ablk aq) := fun ha => hM'.not (own_ne hopz ha).2 (hap.out ha)
        have hopq := hM'.own hopz hap.out
        have Hapz := Lib.hid hapz
        have HI' := Lib.hid hI'
        clear HCall hM9 hM' hapz hI' hopz
        by_cases hfe : fe = 0
        · have Hval : Hid (val σ' = fv) := hval hfe
          subst hfe
          rw [if_pos rfl] at Hkb2
          have hcn := cell_new w10 (.int .i64 x) 3
          have hbn := below1 w10 (.cells #[.int .i64 x] 3)
          have hsz10 := hM10.out.size
          clear hval
          go_wp2_with (at_builtin; refine wpList_push rfl _ _ 22 3 rfl (.int .i64 0) 8 Tryz.underlying22 infoInt rfl w.heap.size aq zc.length cq _ rfl (hopq.alloc _) ⟨w10.heap.size, 0, none⟩ 1 (.int .i64 x) rfl hcn rfl (by omega) (by unfold maxLen; omega) (Nat.le_trans hsz10 hbn.size) ?_; intro a11 c11 w11 hown11 hgr11 hap11)
          go_roundw
          case rel =>
            have hb11 : Below w.heap.size w10 w11 := Below.app (hbn.mono hsz10) (hopq.alloc _) hgr11 (Nat.le_refl _) (Nat.le_trans hsz10 hbn.size)
            have hK : Moves w10 w11 (fun b => w.heap.size ≤ b ∧ ¬ J σ' b) (fun b => w.heap.size ≤ b ∧ ¬ J σ' b) := (Moves.of_below hbn _).trans (Moves.grown hgr11 fun ha => ⟨(own_ne hopq ha).1, Hapz.out ha⟩)
            refine ⟨k + 1, a11, c11, zc ++ [x], σ', by omega, by go_num, by simp, Hzc2.out, by simpa using hown11, HIb.out w10 w11 σ' HI'.out hK, hM10.out.then_new hb11, ?_, ?_, by simp; omega⟩
            · show a11 ≠ none → _
              intro ha hj
              have h1 := HJ.out w10 σ' _ HI'.out hj
              have h2 : Apt aq (ablk a11) := by
                by_cases h0 : aq = none
                · exact .inl h0
                · exact .inr fun e => Hapz.out h0 (by rw [e]; exact hj)
              rcases hap11 _ (Nat.lt_of_lt_of_le h1 hbn.size) h2 with h3 | h3
              · exact ha h3
              · exact h3 rfl
            · show _ = _
              rw [Hkb2.out, Hval.out]
          case measure => simp [intOf] <;> omega
        · have hfe' : (fe != 0) = true := by simpa using hfe
          have Hk2 : Hid (KB = (fe, [])) := by show _ = _; rw [Hkb2.out, if_neg hfe]
          have Hfe := Lib.hid hfe
          clear hfe hval
          go_wp2_with fail
          go_ret
          exact ⟨σ', HI'.out, hM10.out, by rw [Hk2.out]; rfl, fun h0 => absurd (by rw [Hk2.out] at h0; exact h0) Hfe.out⟩
    · obtain rfl : k = nt := by omega
      have Hf : Hid (KB = (0, val σ)) := by
        show _ = _
        rw [hkb.out, List.drop_of_length_le (by rw [Htl.out]; exact Nat.le_refl _), List.filter_nil, kbld]
      go_wp2_with fail
      go_ret
      exact ⟨σ, hI.out, hM.out, by rw [Hf.out]; rfl, fun _ => by rw [Hf.out]⟩
end

end Go.Proofs.YtcflcogbpnmjeaaGreat
