/- The walks of proves and tree of the package exclusion. -/
import Derived.Test.YtcflcogbpnmjeaaGreatK21
import Derived.Test.YtcflcogbpnmjeaaGreatK19
import Derived.Test.YtcflcogbpnmjeaaGreatK5
import Derived.Test.YtcflcogbpnmjeaaGreatK20
import Derived.Test.YtcflcogbpnmjeaaGreatK7
import Derived.Test.YtcflcogbpnmjeaaGreatK25
import Derived.Test.YtcflcogbpnmjeaaGreatK22
import Derived.Test.YtcflcogbpnmjeaaGreatK9
import Derived.Test.YtcflcogbpnmjeaaGreatK16
import Derived.Test.YtcflcogbpnmjeaaGreatK27
namespace Go.Proofs.YtcflcogbpnmjeaaGreat
set_option linter.unusedVariables false
set_option linter.unusedSimpArgs false
set_option linter.unusedSectionVars false

/- The walk of children of the package exclusion, for the method build. -/
section
open Go.RowKit

set_option maxRecDepth 100000 in
set_option maxHeartbeats 8000000 in
theorem exChildrenB_any {σ : Type} (I : World → σ → Prop) (J : σ → Nat → Prop) (val : σ → List (List Int)) (F : List Int → List Int → List (List Int) → Int × List (List Int)) (pb W : Nat)
    (sa : Option Addr) (ns cs : Nat) (s : List Int) (az : Option Addr) (nz cz : Nat) (z : List Int) (at' : Option Addr) (nt ct : Nat) (t : List Int) (w : World) (σ0 : σ)
    (hI0 : I w σ0) (hIb : ∀ V V' σ, I V σ → Moves V V' (fun b => w.heap.size ≤ b ∧ ¬ J σ b) (fun b => w.heap.size ≤ b ∧ ¬ J σ b) → I V' σ) (hp : w.cell? ⟨pb, 9, none⟩ = some (.int .i64 W)) (hS : ∀ V σ, I V σ → Ints V sa ns s ∧ Ints V at' nt t)
    (hJ : ∀ V σ x, I V σ → J σ x → x < V.heap.size) (hz : Ints w az nz z) (htn : t.Nodup) (hns : ns ≤ 1000) (hnz : nz ≤ 1000) (hnt : nt ≤ 1000) (hWs : ns ≤ W)
    (hF : ns < W → ∀ (V : World) (σ : σ) (a1 : Option Addr) (c1 : Nat) (a2 : Option Addr) (c2 k : Nat) (zc : List Int), k < nt → zc = z ++ (t.take k).filter (fun x => decide (¬ x ∈ z)) → ¬ nth t k ∈ z → I V σ → Moves w V (J σ0) (J σ) →
      Ints V a1 (ns + 1) (s ++ [nth t k]) → Ints V a2 zc.length zc → ¬ J σ (ablk a1) → (a2 ≠ none → ¬ J σ (ablk a2)) →
      Calls Tryz.prog 120 #[.pointer (some ⟨pb, 0, none⟩), .slice a1 (ns + 1) c1, .slice a2 zc.length c2] V
        fun e V' => ∃ σ', I V' σ' ∧ Moves V V' (J σ) (J σ') ∧ e = .returned (.int .i64 (F (s ++ [nth t k]) zc (val σ)).1) ∧ ((F (s ++ [nth t k]) zc (val σ)).1 = 0 → val σ' = (F (s ++ [nth t k]) zc (val σ)).2)) :
    Calls Tryz.prog 166 #[.pointer (some ⟨pb, 0, none⟩), .slice sa ns cs, .slice az nz cz, .slice at' nt ct, .func (.func 120) #[.pointer (some ⟨pb, 0, none⟩)] #[]] w
      fun e w' => ∃ σ', I w' σ' ∧ Moves w w' (J σ0) (J σ') ∧ e = .returned (.int .i64 (kbld F s z (if ns < W then t.filter (fun x => decide (¬ x ∈ z)) else []) (val σ0)).1) ∧
        ((kbld F s z (if ns < W then t.filter (fun x => decide (¬ x ∈ z)) else []) (val σ0)).1 = 0 → val σ' = (kbld F s z (if ns < W then t.filter (fun x => decide (¬ x ∈ z)) else []) (val σ0)).2) := by
  obtain ⟨KB, hKB⟩ : ∃ KB, kbld F s z (if ns < W then t.filter (fun x => decide (¬ x ∈ z)) else []) (val σ0) = KB := ⟨_, rfl⟩
  rw [hKB]
  have HKB := Lib.hid hKB
  clear hKB
  have Hzl := Lib.hid hz.len
  have Htl := Lib.hid (hS w σ0 hI0).2.len
  have Hsl := Lib.hid (hS w σ0 hI0).1.len
  have hplt := (hS w σ0 hI0).2.pl
  have HS := Lib.hid hS
  have HI0 := Lib.hid hI0
  have HIb := Lib.hid hIb
  have HJ := Lib.hid hJ
  have Htn := Lib.hid htn
  have HF := Lib.hid hF
  clear hS hI0 hIb hJ htn hF
  by_cases hW : ns = W
  · have hd : ((ns : Int) == (W : Int)) = true := by simp; omega
    have Hk : Hid (KB = (0, val σ0)) := by
      show _ = _
      rw [← HKB.out, if_neg (by omega)]; rfl
    go_enter Tryz.func166, Tryz.ntmps166
    clear hW
    go_wp2_with fail
    go_ret
    exact ⟨σ0, HI0.out, Moves.refl _ _, by rw [Hk.out]; rfl, fun _ => by rw [Hk.out]⟩
  have hd : ((ns : Int) == (W : Int)) = false := by simp; omega
  have hlW : ns < W := by omega
  have HKB : Hid (KB = kbld F s z (t.filter (fun x => decide (¬ x ∈ z))) (val σ0)) := by
    show _ = _
    rw [← HKB.out, if_pos hlW]
  have HF := Lib.hid (HF.out hlW)
  clear hlW hW
  go_enter Tryz.func166, Tryz.ntmps166
  go_wp2_with fail
  refine (clone1_any az nz cz z hz (by omega)).mono ?_
  rintro e w1 ⟨a0, c0, rfl, hown0, hb1⟩
  have hI1 := HIb.out w w1 σ0 HI0.out (Moves.of_below hb1 _)
  go_wp2_with fail
  go_loopw [2, 25] (fun zv iv wr => ∃ (k : Nat) (aq : Option Addr) (cq : Nat) (zc : List Int) (σ : σ), k ≤ nt ∧ iv = .int .i64 k ∧ zv = .slice aq zc.length cq ∧ Hid (zc = z ++ (t.take k).filter (fun x => decide (¬ x ∈ z))) ∧
      wr.ownsRow w.heap.size 3 1 (.slice aq zc.length cq) zc.length (zc.map (Value.int .i64)) ∧ Hid (I wr σ) ∧ Hid (Moves w wr (J σ0) (J σ)) ∧ Hid (aq ≠ none → ¬ J σ (ablk aq)) ∧
      Hid (KB = kbld F s zc ((t.drop k).filter (fun x => decide (¬ x ∈ z))) (val σ)) ∧ zc.length ≤ nz + k)
    (fun _ iv _ => nt - (intOf iv).toNat)
  case atStart =>
    refine ⟨0, a0, c0, z, σ0, Nat.zero_le _, rfl, rfl, ?_, hown0, hI1, Moves.of_below hb1 _, ?_, ?_, by rw [Hzl.out]; omega⟩
    · show _ = _; simp
    · show a0 ≠ none → _
      intro ha hj
      have h1 := HJ.out w σ0 _ HI0.out hj
      have h2 := (own_ne hown0 ha).1
      omega
    · show _ = _; rw [List.drop_zero]; exact HKB.out
  case round =>
    obtain ⟨k, aq, cq, zc, σ, hk, rfl, rfl, hzc, hop, hI, hM, hap, hkb, hzn⟩ := hrel
    generalize wr = U at *
    by_cases hlt : k < nt
    · have htU := (HS.out U σ hI.out).2
      have hsU := (HS.out U σ hI.out).1
      have ck := htU.cell k hlt
      obtain ⟨hzi, _⟩ := Ints.own hop
      have hktl : k < t.length := by rw [Htl.out]; exact hlt
      have Htk := Lib.hid (show t.take (k + 1) = t.take k ++ [nth t k] from take_nth t hktl)
      have Hdk := Lib.hid (show t.drop k = nth t k :: t.drop (k + 1) by rw [nth_getElem hktl]; exact List.drop_eq_getElem_cons hktl)
      have Hzm : Hid (nth t k ∈ zc ↔ nth t k ∈ z) := by
        show _ ↔ _
        rw [hzc.out, List.mem_append, List.mem_filter]
        constructor
        · rintro (h | h)
          · exact h
          · exfalso
            have hn : (t.take k ++ t.drop k).Nodup := by rw [List.take_append_drop]; exact Htn.out
            rw [List.nodup_append] at hn
            exact hn.2.2 _ h.1 (nth t k) (by rw [Hdk.out]; simp) rfl
        · exact .inl
      by_cases hmz : nth t k ∈ z
      · have hmd : decide (nth t k ∈ zc) = true := by simpa using Hzm.out.2 hmz
        have HcA := Lib.hid (contains_any aq zc.length cq zc (nth t k) U hzi)
        rw [hmd] at HcA
        have Hzc2 : Hid (zc = z ++ (t.take (k + 1)).filter (fun x => decide (¬ x ∈ z))) := by
          show _ = _
          rw [Htk.out, List.filter_append, List.filter_cons_of_neg (by simpa using hmz), List.filter_nil, List.append_nil]; exact hzc.out
        have Hkb2 : Hid (KB = kbld F s zc ((t.drop (k + 1)).filter (fun x => decide (¬ x ∈ z))) (val σ)) := by
          show _ = _
          rw [hkb.out, Hdk.out, List.filter_cons_of_neg (by simpa using hmz)]
        clear hmz hmd
        go_wp2_with fail
        refine HcA.out.mono ?_
        rintro e w6 ⟨rfl, rfl⟩
        go_wp2_with fail
        go_roundw
        case rel => exact ⟨k + 1, aq, cq, zc, σ, by omega, by go_num, rfl, Hzc2.out, hop, hI.out, hM.out, hap.out, Hkb2.out, by omega⟩
        case measure => simp [intOf] <;> omega
      · have hmd : decide (nth t k ∈ zc) = false := by simpa using fun h => hmz (Hzm.out.1 h)
        have HcA := Lib.hid (contains_any aq zc.length cq zc (nth t k) U hzi)
        rw [hmd] at HcA
        have Hzc2 : Hid (zc ++ [nth t k] = z ++ (t.take (k + 1)).filter (fun x => decide (¬ x ∈ z))) := by
          show _ = _
          rw [Htk.out, List.filter_append, List.filter_cons_of_pos (by simpa using hmz), List.filter_nil, ← List.append_assoc, ← hzc.out]
        have Hkb2 : Hid (KB = if (F (s ++ [nth t k]) zc (val σ)).1 = 0 then kbld F s (zc ++ [nth t k]) ((t.drop (k + 1)).filter (fun x => decide (¬ x ∈ z))) (F (s ++ [nth t k]) zc (val σ)).2 else ((F (s ++ [nth t k]) zc (val σ)).1, [])) := by
          show _ = _
          rw [hkb.out, Hdk.out, List.filter_cons_of_pos (by simpa using hmz), kbld]
        have HFk := Lib.hid (fun V σ a1 c1 a2 c2 => HF.out V σ a1 c1 a2 c2 k zc hlt hzc.out hmz)
        have hszU := hM.out.size
        clear hmz hmd
        go_wp2_with fail
        refine HcA.out.mono ?_
        rintro e w6 ⟨rfl, rfl⟩
        go_wp2_with fail
        refine (clone1_any sa ns cs s hsU (by omega)).mono ?_
        rintro e w7 ⟨a7, c7, rfl, hown7, hb7⟩
        rw [Hsl.out] at hown7
        rw [Hsl.out]
        obtain ⟨x, hx⟩ : ∃ x, nth t k = x := ⟨_, rfl⟩
        rw [hx] at ck Hzc2 Hkb2 HFk Htk Hdk Hzm HcA ⊢
        have hcn := cell_new w7 (.int .i64 x) 3
        have hbn := below1 w7 (.cells #[.int .i64 x] 3)
        go_wp2_with (at_builtin; refine wpList_push rfl _ _ 22 3 rfl (.int .i64 0) 8 Tryz.underlying22 infoInt rfl w6.heap.size a7 ns c7 _ rfl (hown7.alloc _) ⟨w7.heap.size, 0, none⟩ 1 (.int .i64 x) rfl hcn rfl (by omega) (by unfold maxLen; omega) (Nat.le_trans hb7.size hbn.size) ?_; intro a8 c8 w8 hown8 hgr8 hap8)
        have hb68 : Below w6.heap.size w6 w8 := Below.app (Below.next hb7 hbn) (hown7.alloc _) hgr8 (Nat.le_refl _) (Nat.le_trans hb7.size hbn.size)
        have own8 : w8.ownsRow w6.heap.size 3 1 (.slice a8 (ns + 1) c8) (ns + 1) ((s ++ [x]).map (Value.int .i64)) := by simpa using hown8
        have hz8 := hzi.keep hb68
        clear hown7 hown8 hgr8 hap8 hcn hbn
        go_wp2_with fail
        refine (clone1_any aq zc.length cq zc hz8 (by omega)).mono ?_
        rintro e w9 ⟨a9, c9, rfl, hown9, hb9⟩
        have hb69 := Below.next hb68 hb9
        have hI9 := HIb.out w6 w9 σ hI.out (Moves.of_below hb69 _)
        have hM9 : Moves w w9 (J σ0) (J σ) := hM.out.then_new (hb69.mono hszU)
        have hs9 := (Ints.own own8).1.keep hb9
        have hz9 := (Ints.own hown9).1
        have hn8 : ¬ J σ (ablk a8) := fun hj => by
          have h1 := HJ.out w6 σ _ hI.out hj
          have h2 := (own_lt_pos own8 (by omega)).1
          omega
        have hn9 : a9 ≠ none → ¬ J σ (ablk a9) := fun ha hj => by
          have h1 := HJ.out w6 σ _ hI.out hj
          have h2 := (own_ne hown9 ha).1
          have h3 := hb68.size
          omega
        have hopz := own_keep hop hb69
        have HCall := Lib.hid (HFk.out w9 σ a8 c8 a9 c9 hI9 hM9 hs9 hz9 hn8 hn9)
        clear HFk hI9 hs9 hz9 hn8 hn9 hz8 own8 hown9
        generalize F (s ++ [x]) zc (val σ) = FR at *
        obtain ⟨fe, fv⟩ := FR
        dsimp only at HCall Hkb2
        go_wp2_with fail
        refine HCall.out.mono ?_
        rintro e w10 ⟨σ', hI', hM', rfl, hval⟩
        have hM10 := Lib.hid (hM9.trans hM')
        have hapz : aq ≠ none → ¬ J σ' (ablk aq) := fun ha => hM'.not (own_ne hopz ha).2 (hap.out ha)
        have hopq := hM'.own hopz hap.out
        have Hapz := Lib.hid hapz
        have HI' := Lib.hid hI'
        clear HCall hM9 hM' hapz hI' hopz
        by_cases hfe : fe = 0
        · have Hval : Hid (val σ' = fv) := hval hfe
          subst hfe
          rw [if_pos rfl] at Hkb2
          have hcn := cell_new w10 (.int .i64 x) 3
          have hbn := below1 w10 (.cells #[.int .i64 x] 3)
          have hsz10 := hM10.out.size
          clear hval
          go_wp2_with (at_builtin; refine wpList_push rfl _ _ 22 3 rfl (.int .i64 0) 8 Tryz.underlying22 infoInt rfl w.heap.size aq zc.length cq _ rfl (hopq.alloc _) ⟨w10.heap.size, 0, none⟩ 1 (.int .i64 x) rfl hcn rfl (by omega) (by unfold maxLen; omega) (Nat.le_trans hsz10 hbn.size) ?_; intro a11 c11 w11 hown11 hgr11 hap11)
          go_roundw
          case rel =>
            have hb11 : Below w.heap.size w10 w11 := Below.app (hbn.mono hsz10) (hopq.alloc _) hgr11 (Nat.le_refl _) (Nat.le_trans hsz10 hbn.size)
            have hK : Moves w10 w11 (fun b => w.heap.size ≤ b ∧ ¬ J σ' b) (fun b => w.heap.size ≤ b ∧ ¬ J σ' b) := (Moves.of_below hbn _).trans (Moves.grown hgr11 fun ha => ⟨(own_ne hopq ha).1, Hapz.out ha⟩)
            refine ⟨k + 1, a11, c11, zc ++ [x], σ', by omega, by go_num, by simp, Hzc2.out, by simpa using hown11, HIb.out w10 w11 σ' HI'.out hK, hM10.out.then_new hb11, ?_, ?_, by simp; omega⟩
            · show a11 ≠ none → _
              intro ha hj
              have h1 := HJ.out w10 σ' _ HI'.out hj
              have h2 : Apt aq (ablk a11) := by
                by_cases h0 : aq = none
                · exact .inl h0
                · exact .inr fun e => Hapz.out h0 (by rw [e]; exact hj)
              rcases hap11 _ (Nat.lt_of_lt_of_le h1 hbn.size) h2 with h3 | h3
              · exact ha h3
              · exact h3 rfl
            · show _ = _
              rw [Hkb2.out, Hval.out]
          case measure => simp [intOf] <;> omega
        · have hfe' : (fe != 0) = true := by simpa using hfe
          have Hk2 : Hid (KB = (fe, [])) := by show _ = _; rw [Hkb2.out, if_neg hfe]
          have Hfe := Lib.hid hfe
          clear hfe hval
          go_wp2_with fail
          go_ret
          exact ⟨σ', HI'.out, hM10.out, by rw [Hk2.out]; rfl, fun h0 => absurd (by rw [Hk2.out] at h0; exact h0) Hfe.out⟩
    · obtain rfl : k = nt := by omega
      have Hf : Hid (KB = (0, val σ)) := by
        show _ = _
        rw [hkb.out, List.drop_of_length_le (by rw [Htl.out]; exact Nat.le_refl _), List.filter_nil, kbld]
      go_wp2_with fail
      go_ret
      exact ⟨σ, hI.out, hM.out, by rw [Hf.out]; rfl, fun _ => by rw [Hf.out]⟩
end

/- The walk of build of the package exclusion. -/
section
open Go.RowKit

theorem bldS_eq (O : FOps) (L : List (List Int)) (m : Nat) (C : Clm) (d : Nat) (s z : List Int) (T : List (List Int)) (hd : s.length + d = C.W) (hr : rightS O L m C s (csetS O L m C s z) = true) (hT : T.length ≠ 65536) :
    bldS O L m C d s z T = kbld (bldS O L m C (d - 1)) s z (if s.length < C.W then (csetS O L m C s z).filter (fun x => decide (¬ x ∈ z)) else []) (T ++ [csetS O L m C s z]) := by
  match d with
  | 0 =>
    have h1 : (if s.length < C.W then (csetS O L m C s z).filter (fun x => decide (¬ x ∈ z)) else []) = [] := if_neg (by omega)
    rw [h1, bldS, if_pos hr, if_neg hT]
    rfl
  | d + 1 =>
    have h1 : (if s.length < C.W then (csetS O L m C s z).filter (fun x => decide (¬ x ∈ z)) else []) = kidsS C s z (csetS O L m C s z) := rfl
    rw [h1, bldS, if_pos hr, if_neg hT]
    rfl
theorem bldS_none (O : FOps) (L : List (List Int)) (m : Nat) (C : Clm) (d : Nat) (s z : List Int) (T : List (List Int)) (hr : rightS O L m C s (csetS O L m C s z) = false) : bldS O L m C d s z T = (11, []) := by
  match d with
  | 0 => rw [bldS]; exact if_neg (by rw [hr]; simp)
  | d + 1 => rw [bldS]; exact if_neg (by rw [hr]; simp)
theorem bldS_big (O : FOps) (L : List (List Int)) (m : Nat) (C : Clm) (d : Nat) (s z : List Int) (T : List (List Int)) (hr : rightS O L m C s (csetS O L m C s z) = true) (hT : T.length = 65536) : bldS O L m C d s z T = (8, []) := by
  match d with
  | 0 => rw [bldS, if_pos hr, if_pos hT]
  | d + 1 => rw [bldS, if_pos hr, if_pos hT]
theorem nthA_pre {R R' : List (Option Addr × Nat)} (h : R <+: R') {i : Nat} (hi : i < R.length) : nthA R' i = nthA R i := by
  obtain ⟨X, rfl⟩ := h
  rw [nthA_getElem (show i < (R ++ X).length by simp; omega), nthA_getElem hi, List.getElem_append_left]
theorem nthR_pre {R R' : List (List Int)} (h : R <+: R') {i : Nat} (hi : i < R.length) : nthR R' i = nthR R i := by
  obtain ⟨X, rfl⟩ := h
  rw [nthR_getElem (show i < (R ++ X).length by simp; omega), nthR_getElem hi, List.getElem_append_left]
theorem nthA_last (R : List (Option Addr × Nat)) (r : Option Addr × Nat) : nthA (R ++ [r]) R.length = r := by rw [nthA_getElem (by simp)]; simp
theorem nthR_last (R : List (List Int)) (r : List Int) : nthR (R ++ [r]) R.length = r := by rw [nthR_getElem (by simp)]; simp

structure BSt where
  ar : Option Addr
  cr : Nat
  R : List (Option Addr × Nat)
  T : List (List Int)
def BSt.J (pb : Nat) (σ : BSt) (x : Nat) : Prop := x = pb ∨ OIn σ.ar σ.R x
structure BMem (w : World) (B pb b : Nat) (P M : Int) (am : Option Addr) (mn cm : Nat) (m : Nat) (a : Option Addr) (n c : Nat) (ay : Option Addr) (ny cy : Nat) (C : Clm) (σ : BSt) : Prop where
  box : Box w pb (prfL b P M am mn cm m a n c ay ny cy C (.slice σ.ar σ.T.length σ.cr) 0)
  om : OMat w B σ.ar σ.T.length σ.cr σ.R σ.T
  np : ¬ OIn σ.ar σ.R pb
  ln : σ.T.length ≤ 65536
theorem BMem.lt {w : World} {B pb b : Nat} {P M : Int} {am : Option Addr} {mn cm m : Nat} {a : Option Addr} {n c : Nat} {ay : Option Addr} {ny cy : Nat} {C : Clm} {σ : BSt} (h : BMem w B pb b P M am mn cm m a n c ay ny cy C σ) {x : Nat} (hx : σ.J pb x) : x < w.heap.size := by
  rcases hx with rfl | hx
  · exact h.box.1
  · exact (h.om.lt x hx).2
theorem BMem.moves {w w' : World} {I : Nat → Prop} {B pb b : Nat} {P M : Int} {am : Option Addr} {mn cm m : Nat} {a : Option Addr} {n c : Nat} {ay : Option Addr} {ny cy : Nat} {C : Clm} {σ : BSt} (h : BMem w B pb b P M am mn cm m a n c ay ny cy C σ)
    (hM : Moves w w' I I) (hI : ∀ x, σ.J pb x → ¬ I x) : BMem w' B pb b P M am mn cm m a n c ay ny cy C σ :=
  ⟨h.box.moves hM (hI _ (.inl rfl)), h.om.of_blocks fun x hx => hM.block x (h.om.lt x hx).2 (hI x (.inr hx)), h.np, h.ln⟩
theorem BMem.keep {w w' : World} {B pb b : Nat} {P M : Int} {am : Option Addr} {mn cm m : Nat} {a : Option Addr} {n c : Nat} {ay : Option Addr} {ny cy : Nat} {C : Clm} {σ : BSt} (h : BMem w B pb b P M am mn cm m a n c ay ny cy C σ)
    (hM : Below w.heap.size w w') : BMem w' B pb b P M am mn cm m a n c ay ny cy C σ := h.moves (I := fun _ => False) (Moves.of_below hM _) fun _ _ h => h

def BldPost (w0 : World) (pb b : Nat) (P M : Int) (am : Option Addr) (mn cm : Nat) (m : Nat) (a : Option Addr) (n c : Nat) (ay : Option Addr) (ny cy : Nat) (C : Clm) (σ : BSt) (V : Int × List (List Int)) (w : World) (e : Ending) (w' : World) : Prop :=
  ∃ σ' : BSt, BMem w' w0.heap.size pb b P M am mn cm m a n c ay ny cy C σ' ∧ σ.R <+: σ'.R ∧ σ.T <+: σ'.T ∧ Moves w w' (σ.J pb) (σ'.J pb) ∧ e = .returned (.int .i64 V.1) ∧ (V.1 = 0 → σ'.T = V.2)

/-- the proof's sets with one set more -/
theorem BMem.push {V w5 : World} {B pb b : Nat} {P M : Int} {am : Option Addr} {mn cm m : Nat} {a : Option Addr} {n c : Nat} {ay : Option Addr} {ny cy : Nat} {C : Clm} {σ : BSt} (h : BMem V B pb b P M am mn cm m a n c ay ny cy C σ) (hB : B ≤ V.heap.size)
    {a3 : Option Addr} {c3 : Nat} {t : List Int} (hr : V.ownsRow B 3 1 (.slice a3 t.length c3) t.length (t.map (Value.int .i64))) (hra : a3 ≠ none → ¬ σ.J pb (ablk a3)) (hT : σ.T.length < 65536) {o : Obj}
    {a5 : Option Addr} {c5 : Nat} (hown : w5.ownsRow B 22 1 (.slice a5 (σ.T.length + 1) c5) (σ.T.length + 1) (List.zipWith rowV σ.R σ.T ++ [.slice a3 t.length c3])) (hg : (V.alloc o).grownBy w5 (Value.slice σ.ar σ.T.length σ.cr).ownBlock)
    (hap : ∀ b, b < (V.alloc o).heap.size → Apt σ.ar b → Apt a5 b) :
    BMem (w5.setCell ⟨pb, 10, none⟩ (.slice a5 (σ.T.length + 1) c5)) B pb b P M am mn cm m a n c ay ny cy C ⟨a5, c5, σ.R ++ [(a3, c3)], σ.T ++ [t]⟩ ∧
      Moves V (w5.setCell ⟨pb, 10, none⟩ (.slice a5 (σ.T.length + 1) c5)) (fun x => σ.J pb x ∨ (a3 ≠ none ∧ x = ablk a3)) ((⟨a5, c5, σ.R ++ [(a3, c3)], σ.T ++ [t]⟩ : BSt).J pb) := by
  have hal := below1 V o
  have hO1 : OMat (V.alloc o) B σ.ar σ.T.length σ.cr σ.R σ.T := h.om.keep hal
  have hra2 : a3 ≠ none → ¬ OIn σ.ar σ.R (ablk a3) := fun h0 hh => hra h0 (.inr hh)
  have hO5 := OMat.push hO1 (own_keep hr hal) hra2 hown hg hap
  have hnp : σ.ar = none ∨ ablk σ.ar ≠ pb := by
    by_cases e : σ.ar = none
    · exact .inl e
    · exact .inr fun e2 => h.np (.inl ⟨e, e2.symm⟩)
  have hbox5 : Box w5 pb (prfL b P M am mn cm m a n c ay ny cy C (.slice σ.ar σ.T.length σ.cr) 0) := (h.box.keep hal).moves (Moves.grown (K := fun x => σ.ar ≠ none ∧ x = ablk σ.ar) hg fun h0 => ⟨h0, rfl⟩) fun ⟨h0, e⟩ => by
    rcases hnp with h1 | h1
    · exact h0 h1
    · exact h1 e.symm
  have hne : ¬ OIn a5 (σ.R ++ [(a3, c3)]) pb := fun hh => by
    rcases OIn.push hO1 hap hh with h1 | ⟨h1, h2⟩ | h1
    · exact h.np h1
    · exact hra h1 (.inl h2.symm)
    · have h2 := h.box.1
      have h3 := hal.size
      omega
  refine ⟨⟨?_, ?_, hne, by simp; omega⟩, ?_⟩
  · have h1 := hbox5.setCell 10 (.slice a5 (σ.T.length + 1) c5)
    show Box _ pb (prfL b P M am mn cm m a n c ay ny cy C (.slice a5 (σ.T ++ [t]).length c5) 0)
    rw [List.length_append, List.length_singleton]
    exact h1
  · show OMat _ B a5 (σ.T ++ [t]).length c5 _ _
    rw [List.length_append, List.length_singleton]
    exact hO5.of_blocks fun x hx => Below.heap_setCell _ _ _ _ fun e => hne (by have e' : x = pb := e; rw [← e']; exact hx)
  · have hM0 : Moves V (V.alloc o) (fun x => σ.J pb x ∨ (a3 ≠ none ∧ x = ablk a3)) (fun x => σ.J pb x ∨ (a3 ≠ none ∧ x = ablk a3)) := Moves.of_below hal _
    have hM1 : Moves (V.alloc o) w5 (fun x => σ.J pb x ∨ (a3 ≠ none ∧ x = ablk a3)) (fun x => σ.J pb x ∨ (a3 ≠ none ∧ x = ablk a3)) := Moves.grown hg fun h0 => .inl (.inr (.inl ⟨h0, rfl⟩))
    have hM2 := hM0.trans hM1
    have hb0 : Below 0 w5 (w5.setCell ⟨pb, 10, none⟩ (.slice a5 (σ.T.length + 1) c5)) := (Below.refl 0 w5).setCell (Nat.zero_le _) _
    refine ⟨hb0.os.trans hM2.os, hb0.tape.trans hM2.tape, hb0.output.trans hM2.output, Nat.le_trans hM2.size hb0.size, fun x hx hI => ?_, fun x hx => ?_⟩
    · exact (Below.heap_setCell _ _ _ _ fun e => hI (.inl (.inl e))).trans (hM2.block x hx hI)
    · rcases hx with hx | hx
      · exact .inl (.inl (.inl hx))
      · rcases OIn.push hO1 hap hx with h1 | h1 | h1
        · exact .inl (.inl (.inr h1))
        · exact .inl (.inr h1)
        · exact .inr (Nat.le_trans hal.size h1)

theorem BMem.boxGrown {V w5 : World} {B pb b : Nat} {P M : Int} {am : Option Addr} {mn cm m : Nat} {a : Option Addr} {n c : Nat} {ay : Option Addr} {ny cy : Nat} {C : Clm} {σ : BSt} (h : BMem V B pb b P M am mn cm m a n c ay ny cy C σ)
    {o : Obj} (hg : (V.alloc o).grownBy w5 (Value.slice σ.ar σ.T.length σ.cr).ownBlock) : Box w5 pb (prfL b P M am mn cm m a n c ay ny cy C (.slice σ.ar σ.T.length σ.cr) 0) :=
  (h.box.keep (below1 V o)).moves (Moves.grown (K := fun x => σ.ar ≠ none ∧ x = ablk σ.ar) hg fun h0 => ⟨h0, rfl⟩) fun ⟨h0, e⟩ => h.np (.inl ⟨h0, e⟩)
theorem Moves.own_new {w V Z : World} {I I' A : Nat → Prop} (h : Below w.heap.size w V) (g : Moves V Z (fun x => I x ∨ A x) I') (hA : ∀ x, A x → w.heap.size ≤ x) : Moves w Z I I' :=
  ⟨g.os.trans h.os, g.tape.trans h.tape, g.output.trans h.output, Nat.le_trans h.size g.size, fun x hx hI => (g.block x (Nat.lt_of_lt_of_le hx h.size) fun hh => by
    rcases hh with hh | hh
    · exact hI hh
    · have := hA x hh; omega).trans (h.block x hx), fun x hx => by
    rcases g.grow x hx with hh | hh
    · rcases hh with hh | hh
      · exact .inl hh
      · exact .inr (hA x hh)
    · exact .inr (Nat.le_trans h.size hh)⟩

set_option maxRecDepth 100000 in
set_option maxHeartbeats 8000000 in
theorem exBuild_any {w0 : World} {b : Nat} {G : Tbl} {a : Option Addr} {n : Nat} {L : List (List Int)} {m : Nat} {ay : Option Addr} {ny : Nat} {C : Clm} (pb : Nat) (P M : Int) (am : Option Addr) (mn cm c cy : Nat)
    (E : PEnv w0 b G a n L m ay ny C) (hpb : w0.heap.size ≤ pb) :
    ∀ (d : Nat) (w : World) (σ : BSt) (sa : Option Addr) (ns cs : Nat) (s : List Int) (az : Option Addr) (nz cz : Nat) (z : List Int), ns + d = C.W → nz ≤ 64 → Below w0.heap.size w0 w → BMem w w0.heap.size pb b P M am mn cm m a n c ay ny cy C σ →
      Ints w sa ns s → Ints w az nz z → (0 < ns → ¬ σ.J pb (ablk sa)) → (0 < nz → ¬ σ.J pb (ablk az)) → z.Nodup → (∀ x ∈ z, 0 ≤ x ∧ x < (m : Int)) →
      Calls Tryz.prog 120 #[.pointer (some ⟨pb, 0, none⟩), .slice sa ns cs, .slice az nz cz] w (BldPost w0 pb b P M am mn cm m a n c ay ny cy C σ (bldS G.ops L m C d s z σ.T) w)
  | d, w, σ, sa, ns, cs, s, az, nz, cz, z, hd, hnz, hb, hB, hs, hz, hsp, hzp, hzn, hzb => by
    have IH : Hid (∀ d', d' + 1 = d → ∀ (w : World) (σ : BSt) (sa : Option Addr) (ns cs : Nat) (s : List Int) (az : Option Addr) (nz cz : Nat) (z : List Int), ns + d' = C.W → nz ≤ 64 → Below w0.heap.size w0 w → BMem w w0.heap.size pb b P M am mn cm m a n c ay ny cy C σ →
      Ints w sa ns s → Ints w az nz z → (0 < ns → ¬ σ.J pb (ablk sa)) → (0 < nz → ¬ σ.J pb (ablk az)) → z.Nodup → (∀ x ∈ z, 0 ≤ x ∧ x < (m : Int)) →
      Calls Tryz.prog 120 #[.pointer (some ⟨pb, 0, none⟩), .slice sa ns cs, .slice az nz cz] w (BldPost w0 pb b P M am mn cm m a n c ay ny cy C σ (bldS G.ops L m C d' s z σ.T) w)) := fun d' hd' => by
      subst hd'
      exact exBuild_any pb P M am mn cm c cy E hpb d'
    have hm6 := E.m6
    have hw6 := E.w6
    have HE := Lib.hid E
    have Hsl := Lib.hid hs.len
    have Hzl := Lib.hid hz.len
    have p4 := hB.box.cell 4 rfl
    have p7 := hB.box.cell 7 rfl
    have p8 := hB.box.cell 8 rfl
    obtain ⟨RF, hRF⟩ : ∃ RF, bldS G.ops L m C d s z σ.T = RF := ⟨_, rfl⟩
    rw [hRF]
    have HRF := Lib.hid hRF
    have HB := Lib.hid hB
    have Hz := Lib.hid (And.intro hzn hzb)
    obtain ⟨mo, hmo⟩ : ∃ mo, (if C.cos = true then m else C.M) = mo := ⟨_, rfl⟩
    have Hmo := Lib.hid hmo
    obtain ⟨bc, hbc⟩ : ∃ bc, C.cos = bc := ⟨_, rfl⟩
    rw [hbc] at p7
    have Hbc := Lib.hid hbc
    clear hbc
    have hol := outS_len m s z
    have horng : ∀ j, j < (outS m s z).length → 0 ≤ nth (outS m s z) j ∧ nth (outS m s z) j < m := fun j hj => by
      rcases mem_outS (nth_mem hj) with h1 | h1
      · exact hzb _ h1
      · exact ⟨h1.1, h1.2.1⟩
    have Horng := Lib.hid horng
    have HO : Hid (Calls Tryz.prog 163 #[.pointer (some ⟨pb, 0, none⟩), .slice sa ns cs, .slice az nz cz] w (NewInts w (outS m s z))) := exOutside_any pb m sa ns cs s az nz cz z w p4 hs hz (by omega) (by omega)
    clear hRF hB hzn hzb E hmo horng
    go_enter Tryz.func120, Tryz.ntmps120
    go_upto_if 16 with fail
    go_cut [7] (fun v wx => v = .int .i64 mo ∧ w = wx)
    case first =>
      cases bc
      · have Hm2 : Hid (mo = C.M) := by show _ = _; rw [← Hmo.out, Hbc.out]; rfl
        go_wp2_with fail
        go_meet
        exact ⟨by rw [Hm2.out], rfl⟩
      · have Hm2 : Hid (mo = m) := by show _ = _; rw [← Hmo.out, Hbc.out]; rfl
        go_wp2_with fail
        go_meet
        exact ⟨by rw [Hm2.out], rfl⟩
    obtain ⟨rfl, rfl⟩ := hcut
    go_wp2_with fail
    refine HO.out.mono ?_
    rintro e w2 ⟨a2, c2, rfl, hown2, hb2⟩
    have hB2 := HB.out.keep hb2
    have hGr := exGreedy_any pb a n c L m a2 _ c2 (outS m s z) mo (hB2.box.cell 0 rfl) (hB2.box.cell 5 rfl) (HE.out.g.keep (hb.trans (hb2.mono hb.size))) (HE.out.mat.keep (hb.trans (hb2.mono hb.size))) HE.out.rws (Ints.own hown2).1 Horng.out HE.out.n6 (by rw [Hzl.out] at hol; omega)
    have hgl := grM_sub (O := G.ops) (L := L) (Q := outS m s z) (most := mo)
    have Hcs : Hid (csetS G.ops L m C s z = sortL (grM G.ops L (outS m s z) mo)) := by show _ = _; rw [csetS, Hmo.out]
    have hcn : (csetS G.ops L m C s z).Nodup := cset_nodup Hz.out.1
    have hcb : ∀ x ∈ csetS G.ops L m C s z, 0 ≤ x ∧ x < (m : Int) := fun x hx => by
      rcases mem_outS (grM_sub x (cset_mem.1 hx)) with h1 | h1
      · exact Hz.out.2 x h1
      · exact ⟨h1.1, h1.2.1⟩
    have hcl : (csetS G.ops L m C s z).length ≤ 64 := Nat.le_trans (used_len hcn hcb) hm6
    rw [Hcs.out, sortL_len] at hcl
    have Hcn := Lib.hid (And.intro hcn hcb)
    unfold NewInts at hGr
    obtain ⟨gl, hgle⟩ : ∃ gl, (grM G.ops L (outS m s z) mo).length = gl := ⟨_, rfl⟩
    have Hgl := Lib.hid hgle
    rw [hgle] at hGr hcl
    obtain ⟨t, hte⟩ : ∃ t, csetS G.ops L m C s z = t := ⟨_, rfl⟩
    have Htl : Hid (t.length = gl) := by show _ = _; rw [← hte, Hcs.out, sortL_len, hgle]
    have Hcs2 : Hid (sortL (grM G.ops L (outS m s z) mo) = t) := by show _ = _; rw [← hte, Hcs.out]
    rw [hte] at Hcn
    have Hte := Lib.hid hte
    clear hcn hcb hgle hgl hte Hcs
    have HGr := Lib.hid hGr
    clear hGr
    generalize (outS m s z).length = ol at *
    go_wp2_with fail
    refine HGr.out.mono ?_
    rintro e w3 ⟨a3, c3, rfl, hown3, hb3⟩
    have hbw3 := Below.next hb2 hb3
    have hown3' := own_mono hown3 (B' := w.heap.size) hb2.size
    have HSo := Lib.hid (sort_any w.heap.size a3 gl c3 _ w3 hown3' hbw3.size (by omega))
    rw [Hcs2.out] at HSo
    clear hown3 hown3'
    go_wp2_with fail
    refine HSo.out.mono ?_
    rintro e w4 ⟨rfl, hown4, _, hb4⟩
    have hbw4 : Below w.heap.size w w4 := hbw3.trans hb4
    have hB4 := HB.out.keep hbw4
    have ht4 := (Ints.own hown4).1
    have HRt := Lib.hid (exRight_any (c := c) (cy := cy) pb P M am mn cm _ 0 sa ns cs s a3 gl c3 t HE.out (hb.trans (hbw4.mono hb.size)) hB4.box (hs.keep hbw4) ht4 (by omega))
    obtain ⟨rr, hrr⟩ : ∃ rr, rightS G.ops L m C s t = rr := ⟨_, rfl⟩
    rw [hrr] at HRt
    have Hrr : Hid (rightS G.ops L m C s (csetS G.ops L m C s z) = rr) := by show _ = _; rw [Hte.out]; exact hrr
    clear hrr
    go_wp2_with fail
    refine HRt.out.mono ?_
    rintro e w5 ⟨rfl, hb5⟩
    have hbw5 : Below w.heap.size w w5 := Below.next hbw4 hb5
    have hB5 := HB.out.keep hbw5
    cases rr
    · have HF : Hid (RF = (11, [])) := by show _ = _; rw [← HRF.out, bldS_none _ _ _ _ _ _ _ _ Hrr.out]
      go_wp2_with fail
      go_ret
      exact ⟨σ, hB5, List.prefix_rfl, List.prefix_rfl, Moves.of_below hbw5 _, by rw [HF.out]; rfl, fun h => by rw [HF.out] at h; cases h⟩
    have p10 := hB5.box.cell 10 rfl
    by_cases hbig : σ.T.length = 65536
    · have HF : Hid (RF = (8, [])) := by show _ = _; rw [← HRF.out, bldS_big _ _ _ _ _ _ _ _ Hrr.out hbig]
      have hbg : ((σ.T.length : Int) == 65536) = true := by simp; omega
      clear hbig
      go_wp2_with fail
      go_ret
      exact ⟨σ, hB5, List.prefix_rfl, List.prefix_rfl, Moves.of_below hbw5 _, by rw [HF.out]; rfl, fun h => by rw [HF.out] at h; cases h⟩
    have hbg : ((σ.T.length : Int) == 65536) = false := by simp; omega
    have HF : Hid (RF = kbld (bldS G.ops L m C (d - 1)) s z (if ns < C.W then t.filter (fun x => decide (¬ x ∈ z)) else []) (σ.T ++ [t])) := by
      show _ = _
      rw [← HRF.out, bldS_eq _ _ _ _ _ _ _ _ (by rw [Hsl.out]; exact hd) Hrr.out hbig, Hsl.out, Hte.out]
    have hTl := hB5.ln
    have hTlt : σ.T.length < 65536 := by omega
    have hown5 := own_keep hown4 hb5
    have f10 := hB5.box.frozen 10
    have hcn := cell_new w5 (.slice a3 gl c3) 22
    have hbn := below1 w5 (.cells #[.slice a3 gl c3] 22)
    have hsz5 := hbw5.size
    have hszb := hb.size
    clear hbig
    go_wp2_with (at_builtin; refine wpList_push rfl _ _ 25 22 rfl (.slice none 0 0) 24 Tryz.underlying25 infoInts rfl w0.heap.size σ.ar σ.T.length σ.cr _ rfl ((hB5.om.own).alloc _) ⟨w5.heap.size, 0, none⟩ 1 (.slice a3 gl c3) rfl hcn rfl (by omega) (by unfold maxLen; omega) (by simp; omega) ?_; intro a6 c6 w6 hown6 hgr6 hap6; have q10 := (hB5.boxGrown hgr6).cell 10 rfl; have qf10 := (hB5.boxGrown hgr6).frozen 10)
    obtain rfl := Htl.out
    have hra : a3 ≠ none → ¬ σ.J pb (ablk a3) := fun h0 hj => by
      have h1 := HB.out.lt hj
      have h2 := (own_ne hown5 h0).1
      omega
    obtain ⟨hB7, hM7⟩ := BMem.push hB5 (Nat.le_trans hszb hsz5) (own_mono hown5 hszb) hra hTlt hown6 hgr6 hap6
    obtain ⟨Z, hZ⟩ : ∃ Z : World, Z = w6.setCell ⟨pb, 10, none⟩ (.slice a6 (σ.T.length + 1) c6) := ⟨_, rfl⟩
    rw [← hZ] at hB7 hM7
    have hB05 : Below w0.heap.size w0 w5 := hb.trans (hbw5.mono hszb)
    have hbZ : Below w0.heap.size w0 Z := hB05.trans (hM7.below (fun x hx => by
      rcases hx with (hx | hx) | ⟨h1, h2⟩
      · rw [hx]; exact hpb
      · exact (hB5.om.lt x hx).1
      · rw [h2]; exact Nat.le_trans hszb (own_ne hown5 h1).1) hB05.size)
    have hMwZ : Moves w Z (σ.J pb) ((⟨a6, c6, σ.R ++ [(a3, c3)], σ.T ++ [t]⟩ : BSt).J pb) := Moves.own_new hbw5 hM7 fun x hx => by rw [hx.2]; exact (own_ne hown5 hx.1).1
    have hsZ := hs.moves hMwZ hsp
    have hzZ := hz.moves hMwZ hzp
    have hsJ : 0 < ns → ¬ (⟨a6, c6, σ.R ++ [(a3, c3)], σ.T ++ [t]⟩ : BSt).J pb (ablk sa) := fun h0 => hMwZ.not (hs.lt h0) (hsp h0)
    have hRl : σ.R.length = σ.T.length := hB5.om.rl
    have hszZ := hMwZ.size
    have HCh : Hid (Calls Tryz.prog 166 #[.pointer (some ⟨pb, 0, none⟩), .slice sa ns cs, .slice az nz cz, .slice a3 t.length c3, .func (.func 120) #[.pointer (some ⟨pb, 0, none⟩)] #[]] Z
        (BldPost w0 pb b P M am mn cm m a n c ay ny cy C σ RF w)) := by
      refine (exChildrenB_any (σ := BSt) (fun V τ => Below w0.heap.size w0 V ∧ BMem V w0.heap.size pb b P M am mn cm m a n c ay ny cy C τ ∧ Ints V sa ns s ∧ (0 < ns → ¬ τ.J pb (ablk sa)) ∧ (σ.R ++ [(a3, c3)]) <+: τ.R ∧ (σ.T ++ [t]) <+: τ.T) (fun τ x => τ.J pb x) (fun τ => τ.T)
        (fun s z T => bldS G.ops L m C (d - 1) s z T) pb C.W sa ns cs s az nz cz z a3 t.length c3 t Z ⟨a6, c6, σ.R ++ [(a3, c3)], σ.T ++ [t]⟩ ⟨hbZ, hB7, hsZ, hsJ, List.prefix_rfl, List.prefix_rfl⟩ ?_ (hB7.box.cell 9 rfl) ?_ (fun V τ x h hx => h.2.1.lt hx) hzZ Hcn.out.1 (by omega) (by omega) (by omega) (by omega) ?_).mono ?_
      · rintro V1 V2 τ ⟨e1, e2, e3, e4, e5, e6⟩ hM
        refine ⟨e1.trans (hM.below (fun x hx => Nat.le_trans hbZ.size hx.1) e1.size), e2.moves hM fun x hx hh => hh.2 hx, e3.moves hM fun hn hx => ?_, e4, e5, e6⟩
        have h1 := hsZ.lt hn
        omega
      · rintro V τ ⟨e1, e2, e3, e4, e5, e6⟩
        refine ⟨e3, ?_⟩
        have hlt : σ.T.length < τ.T.length := by
          obtain ⟨X, hX⟩ := e6
          rw [← hX]; simp <;> omega
        have h1 := e2.om.ints hlt
        rw [nthR_pre e6 (by simp), nthR_last, ← hRl, nthA_pre e5 (by simp), nthA_last] at h1
        exact h1
      · intro hlt V1 τ a1 c1 a2 c2 j zc hj hzc hnj hI hM h1 h2 h3 h4
        obtain ⟨d', hd'⟩ : ∃ d', d' + 1 = d := ⟨d - 1, by omega⟩
        have hzl : zc.length ≤ 64 ∧ zc.Nodup ∧ ∀ x ∈ zc, 0 ≤ x ∧ x < (m : Int) := by
          have hsub : ∀ x ∈ (t.take j).filter (fun x => decide (¬ x ∈ z)), x ∈ t ∧ ¬ x ∈ z := fun x hx => by
            rw [List.mem_filter] at hx
            exact ⟨List.mem_of_mem_take hx.1, by simpa using hx.2⟩
          have hnd : zc.Nodup := by
            rw [hzc, List.nodup_append]
            refine ⟨Hz.out.1, List.Pairwise.filter _ (List.Nodup.sublist (List.take_sublist _ _) Hcn.out.1), fun x hx y hy e => ?_⟩
            exact (hsub y hy).2 (e ▸ hx)
          have hbd : ∀ x ∈ zc, 0 ≤ x ∧ x < (m : Int) := fun x hx => by
            rw [hzc] at hx
            rcases List.mem_append.1 hx with hx | hx
            · exact Hz.out.2 x hx
            · exact Hcn.out.2 x (hsub x hx).1
          exact ⟨Nat.le_trans (used_len hnd hbd) hm6, hnd, hbd⟩
        have h5 := IH.out d' hd' V1 τ a1 (ns + 1) c1 (s ++ [nth t j]) a2 zc.length c2 zc (by omega) hzl.1 hI.1 hI.2.1 h1 h2 (fun _ => h3) (fun h0 => h4 (by
          intro e
          have := h2.pl h0
          rw [e] at this
          cases this)) hzl.2.1 hzl.2.2
        have hdd : d - 1 = d' := by omega
        refine h5.mono ?_
        rintro e V2 ⟨τ', g1, g2, g3, g4, g5, g6⟩
        rw [hdd]
        exact ⟨τ', ⟨hI.1.trans (g4.below (fun x hx => by
            rcases hx with hx | hx
            · rw [hx]; exact hpb
            · exact (hI.2.1.om.lt x hx).1) hI.1.size), g1, hI.2.2.1.moves g4 hI.2.2.2.1, fun hn => g4.not (hI.2.2.1.lt hn) (hI.2.2.2.1 hn), hI.2.2.2.2.1.trans g2, hI.2.2.2.2.2.trans g3⟩, g4, g5, g6⟩
      · rintro e V2 ⟨τ', g1, g2, g3, g4⟩
        rw [← HF.out] at g3 g4
        exact ⟨τ', g1.2.1, (List.prefix_append _ _).trans g1.2.2.2.2.1, (List.prefix_append _ _).trans g1.2.2.2.2.2, hMwZ.trans g2, g3, g4⟩
    rw [← hZ]
    clear IH HO HSo HGr HRt hown4 hown5 hown6 hgr6 hap6 hB7 hM7 hZ hMwZ hsZ hzZ HF
    go_wp2_with fail
    refine HCh.out.mono ?_
    rintro e w7 ⟨τ', g1, g2, g3, g4, rfl, g6⟩
    go_wp2_with fail
    go_ret
    exact ⟨τ', g1, g2, g3, g4, rfl, g6⟩
end

/- The walks of open, rank, weight of the package exclusion. -/
section
open Go.RowKit

def ExOpenPost (P M : Int) (am : Option Addr) (mn cm : Nat) (mod : List Int) (N : Int) (a : Option Addr) (n c : Nat) (L : List (List Int)) (W : Int) (w : World) (e : Ending) (w' : World) : Prop :=
  Below w.heap.size w w' ∧ ((codeE P M mod N L ≠ 0 ∧ e = .returned (.tuple #[.pointer none, .int .i64 (codeE P M mod N L)])) ∨
  (codeE P M mod N L = 0 ∧ ∃ (b : Nat) (w2 : World), e = .returned (.tuple #[.pointer (some ⟨w2.heap.size, 0, none⟩), .int .i64 0]) ∧ Below w.heap.size w w2 ∧ GFw w2 b (tblOf P M.toNat mod) ∧ Below w2.heap.size w2 w' ∧
    Box w' w2.heap.size [.pointer (some ⟨b, 0, none⟩), .int .i64 P, .int .i64 M, .slice am mn cm, .int .i64 N, .slice a n c, .slice none 0 0, .bool false, .int .i64 0, .int .i64 W, .slice none 0 0, .int .i64 0]))

theorem exOpen_any (P M : Int) (am : Option Addr) (mn cm : Nat) (mod : List Int) (N : Int) (a : Option Addr) (n c : Nat) (L : List (List Int)) (W : Int) (w : World) (hmod : Ints w am mn mod) (hi : Mat w a n L) :
    Calls Tryz.prog 116 #[.agg #[.int .i64 P, .int .i64 M, .slice am mn cm, .int .i64 N, .slice a n c], .int .i64 W] w (ExOpenPost P M am mn cm mod N a n c L W w) := by
  go_enter Tryz.func116, Tryz.ntmps116
  go_wp2_with fail
  obtain ⟨U, hU⟩ : ∃ U : World, U = w.alloc (.cells #[.int .i64 P, .int .i64 M, .slice am mn cm, .int .i64 N, .slice a n c] 27) := ⟨_, rfl⟩
  rw [← hU]
  have hbU : Below w.heap.size w U := by rw [hU]; exact below1 _ _
  have x0 : Box U w.heap.size [.int .i64 P, .int .i64 M, .slice am mn cm, .int .i64 N, .slice a n c] := by rw [hU]; exact Box.new _ _ _ rfl
  have HX := Lib.hid x0
  clear hU x0
  refine (codeCheck_any P M am mn cm mod N a n c L U (hmod.keep hbU) (hi.keep hbU)).mono ?_
  rintro e w1 ⟨rfl, hb1⟩
  have hbw1 := Below.next hbU hb1
  by_cases hE : codeE P M mod N L = 0
  · obtain ⟨hf, _⟩ := codeE_zero hE
    have HE := Lib.hid hE
    have Hf := Lib.hid hf
    rw [hE]
    have x1 := HX.out.keep hb1
    have c0 := x1.cell 0 rfl
    have c1 := x1.cell 1 rfl
    have c2 := x1.cell 2 rfl
    have hm1 := (hmod.keep hbU).keep hb1
    clear hE x1 hf
    go_wp2_with fail
    refine (fieldNew_any P M am mn cm mod w1 hm1).mono ?_
    rintro e w2 (⟨hB, rfl, hb2⟩ | ⟨hB, b, rfl, hG, hbl, hb2⟩)
    · rw [Hf.out] at hB; cases hB
    · clear hB
      have hg := hG.gf
      have x2 := (HX.out.keep hb1).keep hb2
      have e0 := x2.cell 0 rfl
      have e1 := x2.cell 1 rfl
      have e2 := x2.cell 2 rfl
      have e3 := x2.cell 3 rfl
      have e4 := x2.cell 4 rfl
      clear x2 c0 c1 c2
      go_wp2_with fail
      go_ret2
      exact ⟨Below.next (Below.next hbw1 hb2) (below1 _ _), .inr ⟨HE.out, b, w2, rfl, Below.next hbw1 hb2, hg, below1 _ _, Box.new w2 [.pointer (some ⟨b, 0, none⟩), .int .i64 P, .int .i64 M, .slice am mn cm, .int .i64 N, .slice a n c, .slice none 0 0, .bool false, .int .i64 0, .int .i64 W, .slice none 0 0, .int .i64 0] _ rfl⟩⟩
  · have HE := Lib.hid hE
    have hE' : (codeE P M mod N L != 0) = true := by simpa using hE
    clear hE
    go_wp2_with fail
    go_ret2
    exact ⟨hbw1, .inl ⟨HE.out, rfl⟩⟩

def rkcE (P M : Int) (mod : List Int) (N : Int) (L : List (List Int)) (mm W : Int) : Int :=
  if codeE P M mod N L = 0 then (if mm < 0 ∨ (L.length : Int) < mm ∨ W < 0 ∨ N < W then 6 else 0) else codeE P M mod N L
/-- what a claim is behind rank or coset -/
def ExClaim (P M : Int) (am : Option Addr) (mn cm : Nat) (mod : List Int) (m : Nat) (a : Option Addr) (n c : Nat) (L : List (List Int)) (ay : Option Addr) (ny cy : Nat) (C : Clm) (w w' : World) (pb : Nat) : Prop :=
  ∃ (b : Nat) (w2 : World), pb = w2.heap.size ∧ Below w.heap.size w w2 ∧ PEnv w2 b (tblOf P M.toNat mod) a n L m ay ny C ∧ Below w2.heap.size w2 w' ∧ Box w' pb (prfL b P M am mn cm m a n c ay ny cy C (.slice none 0 0) 0)
def ExRankPost (P M : Int) (am : Option Addr) (mn cm : Nat) (mod : List Int) (N : Int) (a : Option Addr) (n c : Nat) (L : List (List Int)) (mm W : Int) (w : World) (e : Ending) (w' : World) : Prop :=
  Below w.heap.size w w' ∧ ((rkcE P M mod N L mm W ≠ 0 ∧ e = .returned (.tuple #[.pointer none, .int .i64 (rkcE P M mod N L mm W)])) ∨
  (rkcE P M mod N L mm W = 0 ∧ ∃ pb, e = .returned (.tuple #[.pointer (some ⟨pb, 0, none⟩), .int .i64 0]) ∧ ExClaim P M am mn cm mod N.toNat a n c L none 0 0 ⟨mm.toNat, W.toNat, false, []⟩ w w' pb))

set_option maxRecDepth 100000 in
set_option maxHeartbeats 1600000 in
theorem exRank_any (P M : Int) (am : Option Addr) (mn cm : Nat) (mod : List Int) (N : Int) (a : Option Addr) (n c : Nat) (L : List (List Int)) (mm W : Int) (w : World) (hmod : Ints w am mn mod) (hi : Mat w a n L) :
    Calls Tryz.prog 103 #[.agg #[.int .i64 P, .int .i64 M, .slice am mn cm, .int .i64 N, .slice a n c], .int .i64 mm, .int .i64 W] w (ExRankPost P M am mn cm mod N a n c L mm W w) := by
  have Hil := Lib.hid hi.len
  go_enter Tryz.func103, Tryz.ntmps103
  go_wp2_with fail
  obtain ⟨U, hU⟩ : ∃ U : World, U = w.alloc (.cells #[.int .i64 P, .int .i64 M, .slice am mn cm, .int .i64 N, .slice a n c] 27) := ⟨_, rfl⟩
  rw [← hU]
  have hbU : Below w.heap.size w U := by rw [hU]; exact below1 _ _
  have x0 : Box U w.heap.size [.int .i64 P, .int .i64 M, .slice am mn cm, .int .i64 N, .slice a n c] := by rw [hU]; exact Box.new _ _ _ rfl
  have HX := Lib.hid x0
  clear hU x0
  refine (exOpen_any P M am mn cm mod N a n c L W U (hmod.keep hbU) (hi.keep hbU)).mono ?_
  rintro e w1 ⟨hb1, ⟨hE, rfl⟩ | ⟨hE, b, w2, rfl, hb2, hG, hb3, hB⟩⟩
  · have HE : Hid (rkcE P M mod N L mm W = codeE P M mod N L) := if_neg hE
    have Hne := Lib.hid hE
    have hE1 : (codeE P M mod N L == 0) = false := by simpa using hE
    have hE2 : (codeE P M mod N L != 0) = true := by simpa using hE
    have hbF := Below.next hbU hb1
    clear hE
    go_wp2_with fail
    go_ret2
    exact ⟨hbF, .inl ⟨by rw [HE.out]; exact Hne.out, by rw [HE.out]; rfl⟩⟩
  · have hbF := Below.next hbU hb1
    have x1 := HX.out.keep hb1
    have c3 := x1.cell 3 rfl
    have c4 := x1.cell 4 rfl
    have HE : Hid (rkcE P M mod N L mm W = if mm < 0 ∨ (n : Int) < mm ∨ W < 0 ∨ N < W then 6 else 0) := by show _ = _; rw [rkcE, if_pos hE, Hil.out]
    have Hrw := Lib.hid (codeE_rws hE)
    have HB := Lib.hid hB
    have hf8 := hB.frozen 8
    have h8 := hB.cell 8 rfl
    clear x1 hB hE
    by_cases h1 : mm < 0
    · have HE2 : Hid (rkcE P M mod N L mm W = 6) := by show _ = _; rw [HE.out, if_pos (.inl h1)]
      have d1 : decide (mm < 0) = true := by simpa using h1
      clear h1
      go_wp2_with fail
      go_ret2
      exact ⟨hbF, .inl ⟨by rw [HE2.out]; decide, by rw [HE2.out]; rfl⟩⟩
    have d1 : decide (mm < 0) = false := by simpa using h1
    by_cases h2 : (n : Int) < mm
    · have HE2 : Hid (rkcE P M mod N L mm W = 6) := by show _ = _; rw [HE.out, if_pos (.inr (.inl h2))]
      have d2 : decide ((n : Int) < mm) = true := by simpa using h2
      clear h1 h2
      go_wp2_with fail
      go_ret2
      exact ⟨hbF, .inl ⟨by rw [HE2.out]; decide, by rw [HE2.out]; rfl⟩⟩
    have d2 : decide ((n : Int) < mm) = false := by simpa using h2
    by_cases h3 : W < 0
    · have HE2 : Hid (rkcE P M mod N L mm W = 6) := by show _ = _; rw [HE.out, if_pos (.inr (.inr (.inl h3)))]
      have d3 : decide (W < 0) = true := by simpa using h3
      clear h1 h2 h3
      go_wp2_with fail
      go_ret2
      exact ⟨hbF, .inl ⟨by rw [HE2.out]; decide, by rw [HE2.out]; rfl⟩⟩
    have d3 : decide (W < 0) = false := by simpa using h3
    by_cases h4 : N < W
    · have HE2 : Hid (rkcE P M mod N L mm W = 6) := by show _ = _; rw [HE.out, if_pos (.inr (.inr (.inr h4)))]
      have d4 : decide (N < W) = true := by simpa using h4
      clear h1 h2 h3 h4
      go_wp2_with fail
      go_ret2
      exact ⟨hbF, .inl ⟨by rw [HE2.out]; decide, by rw [HE2.out]; rfl⟩⟩
    have d4 : decide (N < W) = false := by simpa using h4
    have HE2 : Hid (rkcE P M mod N L mm W = 0) := by
      show _ = _
      rw [HE.out, if_neg]
      rintro (h | h | h | h)
      · exact h1 h
      · exact h2 h
      · exact h3 h
      · exact h4 h
    obtain ⟨m, hm, hm1, hm2, hLl, hRw⟩ := Hrw.out
    have HCl : Hid (ExClaim P M am mn cm mod N.toNat a n c L none 0 0 ⟨mm.toNat, W.toNat, false, []⟩ w (w1.setCell ⟨w2.heap.size, 8, none⟩ (.int .i64 mm)) w2.heap.size) := by
      have hn256 : n ≤ 1000000 := by rw [← Hil.out]; omega
      have hPE : PEnv w2 b (tblOf P M.toNat mod) a n L N.toNat none 0 ⟨mm.toNat, W.toNat, false, []⟩ :=
        { g := hG, mat := (hi.keep hbU).keep hb2, rws := by rw [hm, Int.toNat_natCast]; exact hRw, n6 := hn256, m6 := by omega, w6 := by show W.toNat ≤ 64; omega, yl := fun h => (by cases h), y := fun h => (by cases h), ye := fun h => (by cases h) }
      refine ⟨b, w2, rfl, Below.next hbU hb2, hPE, hb3.setCell (by simp) _, ?_⟩
      have h5 := HB.out.setCell 8 (.int .i64 mm)
      rw [prfL]
      dsimp only
      rw [Int.toNat_of_nonneg (show 0 ≤ N by omega), Int.toNat_of_nonneg (show 0 ≤ mm by omega), Int.toNat_of_nonneg (show 0 ≤ W by omega)]
      exact h5
    have hbF2 := hbF.setCell (p := ⟨w2.heap.size, 8, none⟩) (Nat.le_trans hbU.size hb2.size) (.int .i64 mm)
    clear h1 h2 h3 h4 hm hm1 hm2
    go_wp2_with fail
    go_ret2
    exact ⟨hbF2, .inr ⟨HE2.out, w2.heap.size, rfl, HCl.out⟩⟩

theorem wrap64_id {n : Int} (h : -9223372036854775808 ≤ n ∧ n ≤ 9223372036854775807) : wrap64 n = n := by unfold wrap64; omega
def wtD (N d : Int) : Int := if d < 1 ∨ N + 1 < d then -1 else d - 1
set_option maxRecDepth 100000 in
theorem exWeight_any (P M : Int) (am : Option Addr) (mn cm : Nat) (N : Int) (a : Option Addr) (n c : Nat) (d : Int) (w : World) :
    Calls Tryz.prog 61 #[.agg #[.int .i64 P, .int .i64 M, .slice am mn cm, .int .i64 N, .slice a n c], .int .i64 d] w fun e w' => (∃ z : Int, e = .returned (.int .i64 z) ∧ (1 ≤ N → N ≤ 64 → z = wtD N d)) ∧ Below w.heap.size w w' := by
  have hb := below1 w (.cells #[.int .i64 P, .int .i64 M, .slice am mn cm, .int .i64 N, .slice a n c] 27)
  go_enter Tryz.func61, Tryz.ntmps61
  by_cases h1 : d < 1
  · have d1 : decide (d < 1) = true := by simpa using h1
    have Hz : Hid (1 ≤ N → N ≤ 64 → (-1 : Int) = wtD N d) := fun _ _ => by rw [wtD, if_pos (.inl h1)]
    clear h1
    go_wp2_with fail
    go_ret
    exact ⟨⟨-1, rfl, Hz.out⟩, hb⟩
  have d1 : decide (d < 1) = false := by simpa using h1
  by_cases h2 : wrap64 (N + 1) < d
  · have d2 : decide (wrap64 (N + 1) < d) = true := by simpa using h2
    have Hz : Hid (1 ≤ N → N ≤ 64 → (-1 : Int) = wtD N d) := fun h3 h4 => by
      rw [show wrap64 (N + 1) = N + 1 from wrap64_id (by omega)] at h2
      rw [wtD, if_pos (.inr h2)]
    clear h1 h2
    go_wp2_with fail
    go_ret
    exact ⟨⟨-1, rfl, Hz.out⟩, hb⟩
  have d2 : decide (wrap64 (N + 1) < d) = false := by simpa using h2
  have Hz : Hid (1 ≤ N → N ≤ 64 → wrap64 (d - 1) = wtD N d) := fun h3 h4 => by
    rw [show wrap64 (N + 1) = N + 1 from wrap64_id (by omega)] at h2
    rw [wtD, if_neg (by omega)]
    exact wrap64_id (by omega)
  clear h1 h2
  go_wp2_with fail
  go_ret
  exact ⟨⟨_, rfl, Hz.out⟩, hb⟩
end

/- The walks of proves and tree of the package exclusion. -/
section
open Go.RowKit

theorem Box.agree {w : World} {b : Nat} {cs ds : List Value} (h : Box w b cs) (e : cs = ds) : Box w b ds := e ▸ h

set_option maxRecDepth 100000 in
set_option maxHeartbeats 4000000 in
theorem exProves_any {w w0 : World} {b : Nat} {G : Tbl} {a : Option Addr} {n : Nat} {L : List (List Int)} {m : Nat} {ay : Option Addr} {ny : Nat} {C : Clm} (pb : Nat) (P M : Int) (am : Option Addr) (mn cm c cy : Nat)
    (ax : Option Addr) (nx cx : Nat) (ts : List (List Int)) (E : PEnv w0 b G a n L m ay ny C) (hts : Mat w0 ax nx ts) (hpb : w0.heap.size ≤ pb) (hb : Below w0.heap.size w0 w) (hB : Box w pb (prfL b P M am mn cm m a n c ay ny cy C (.slice none 0 0) 0)) :
    Calls Tryz.prog 67 #[.pointer (some ⟨pb, 0, none⟩), .agg #[.slice ax nx cx]] w fun e w' => e = .returned (.int .i64 (provS G.ops L m C ts)) ∧ Below w0.heap.size w0 w' := by
  have Htl := Lib.hid hts.len
  obtain ⟨PR, hPR⟩ : ∃ PR, provS G.ops L m C ts = PR := ⟨_, rfl⟩
  rw [hPR]
  have HPR := Lib.hid hPR
  clear hPR
  have hb1 : Below w.heap.size w (w.alloc (.cells #[.slice ax nx cx] 37)) := below1 _ _
  have hBa := hB.keep hb1
  have f10 := hBa.frozen 10
  have q10 := hBa.cell 10 rfl
  have hsb : pb < w.heap.size := hB.1
  go_enter Tryz.func67, Tryz.ntmps67
  go_wp2_with fail
  obtain ⟨Z, hZ⟩ : ∃ Z : World, Z = (w.setCell ⟨pb, 10, none⟩ (.slice ax nx cx)).alloc (.cells #[.slice ax nx cx] 37) := ⟨_, rfl⟩
  rw [← hZ]
  have hBZ : Box Z pb (prfL b P M am mn cm m a n c ay ny cy C (.slice ax nx cx) 0) := by
    rw [hZ]
    exact (hB.setCell 10 (.slice ax nx cx)).alloc _
  have hbZ : Below w0.heap.size w0 Z := by
    rw [hZ]
    exact Below.next (hb.setCell hpb _) (below1 _ _)
  clear hZ hBa f10 q10 hB
  refine (exCheck_any pb P M am mn cm c cy ax nx cx ts E hts hpb C.W Z 0 none 0 0 [] none 0 0 [] (by omega) (by omega) (by omega) hbZ hBZ (Ints.nil _ _) (Ints.nil _ _) (fun h => by omega) (fun h => by omega) (by simp) (fun x hx => by simp at hx)).mono ?_
  rintro e w5 ⟨k', g1, g2, g3, he, g5⟩
  have hb5 : Below w0.heap.size w0 w5 := hbZ.trans (g3.below (fun x hx => by rw [hx]; exact hpb) hbZ.size)
  rw [List.drop_zero] at g5 he
  have c10 := g2.cell 10 rfl
  have c11 := g2.cell 11 rfl
  have hP2 : PR = match folS G.ops L m C C.W [] [] ts with | some [] => 0 | _ => 13 := by rw [← HPR.out]; rfl
  cases hf : folS G.ops L m C C.W [] [] ts with
  | none =>
    rw [hf] at hP2 he
    have HP := Lib.hid hP2
    have he' : e = .returned (.int .i64 13) := he
    subst he'
    clear hf hP2 g5 he
    have hd : ((13 : Int) == 0) = false := rfl
    go_wp2_with fail
    go_quiet (fail)
    go_wp2_with fail
    go_ret
    exact ⟨by rw [HP.out]; rfl, hb5.trans (Below.mono (Drawn.below ⟨_, rfl⟩) hb5.size)⟩
  | some r =>
    rw [hf] at hP2 g5 he
    have he' : e = .returned (.int .i64 0) := he
    subst he'
    clear he
    have g6 : ts.drop k' = r := g5 rfl
    have hlen : r.length = nx - k' := by rw [← g6, List.length_drop, Htl.out]
    rw [Htl.out] at g1
    by_cases hk : k' < nx
    · have HP : Hid (PR = 13) := by
        show _ = _
        rw [hP2]
        cases r with
        | nil => simp at hlen; omega
        | cons x r => rfl
      have hd : decide ((k' : Int) < (nx : Int)) = true := by simp; omega
      clear hf hP2 g5 g6 hlen
      go_wp2_with fail
      go_quiet (fail)
      go_wp2_with fail
      go_ret
      exact ⟨by rw [HP.out]; rfl, hb5.trans (Below.mono (Drawn.below ⟨_, rfl⟩) hb5.size)⟩
    · have HP : Hid (PR = 0) := by
        show _ = _
        rw [hP2]
        cases r with
        | nil => rfl
        | cons x r => simp at hlen; omega
      have hd : decide ((k' : Int) < (nx : Int)) = false := by simp; omega
      clear hf hP2 g5 g6 hlen
      go_wp2_with fail
      go_quiet (fail)
      go_wp2_with fail
      go_ret
      exact ⟨by rw [HP.out]; rfl, hb5.trans (Below.mono (Drawn.below ⟨_, rfl⟩) hb5.size)⟩

def ExTreePost (w0 : World) (V : Int × List (List Int)) (e : Ending) (w' : World) : Prop :=
  Below w0.heap.size w0 w' ∧ ((V.1 ≠ 0 ∧ e = .returned (.tuple #[.agg #[.slice none 0 0], .int .i64 V.1])) ∨
    (V.1 = 0 ∧ ∃ ar cr R, e = .returned (.tuple #[.agg #[.slice ar V.2.length cr], .int .i64 0]) ∧ OMat w' w0.heap.size ar V.2.length cr R V.2))

set_option maxRecDepth 100000 in
set_option maxHeartbeats 4000000 in
theorem exTree_any {w w0 : World} {b : Nat} {G : Tbl} {a : Option Addr} {n : Nat} {L : List (List Int)} {m : Nat} {ay : Option Addr} {ny : Nat} {C : Clm} (pb : Nat) (P M : Int) (am : Option Addr) (mn cm c cy : Nat)
    (E : PEnv w0 b G a n L m ay ny C) (hpb : w0.heap.size ≤ pb) (hb : Below w0.heap.size w0 w) (hB : Box w pb (prfL b P M am mn cm m a n c ay ny cy C (.slice none 0 0) 0)) :
    Calls Tryz.prog 66 #[.pointer (some ⟨pb, 0, none⟩)] w (ExTreePost w0 (treeS G.ops L m C)) := by
  obtain ⟨V, hV⟩ : ∃ V, treeS G.ops L m C = V := ⟨_, rfl⟩
  rw [hV]
  have HV := Lib.hid hV
  clear hV
  have hsb : pb < w.heap.size := hB.1
  go_enter Tryz.func66, Tryz.ntmps66
  go_wp2_with fail
  obtain ⟨U, hU⟩ : ∃ U : World, U = w.alloc (.cells #[.slice none 0 0] 37) := ⟨_, rfl⟩
  rw [← hU]
  have hbU : Below w.heap.size w U := by rw [hU]; exact below1 _ _
  have hsU : U.heap.size = w.heap.size + 1 := by rw [hU]; simp
  have x0 : Box U w.heap.size [.slice none 0 0] := by rw [hU]; exact Box.new _ _ _ rfl
  have hBU := hB.keep hbU
  have hb0U : Below w0.heap.size w0 U := hb.trans (hbU.mono hb.size)
  clear hU hB
  have hM0 : BMem U w0.heap.size pb b P M am mn cm m a n c ay ny cy C ⟨none, 0, [], []⟩ := ⟨hBU, OMat.empty U _, fun h => by
    rcases h with ⟨h1, _⟩ | ⟨i, hi, _⟩
    · exact h1 rfl
    · simp at hi, by simp⟩
  refine (exBuild_any pb P M am mn cm c cy E hpb C.W U ⟨none, 0, [], []⟩ none 0 0 [] none 0 0 [] (by omega) (by omega) hb0U hM0 (Ints.nil _ _) (Ints.nil _ _) (fun h => by omega) (fun h => by omega) (by simp) (fun x hx => by simp at hx)).mono ?_
  rintro e w5 ⟨σ', g1, g2, g3, g4, rfl, g6⟩
  have hVe : bldS G.ops L m C C.W [] [] [] = V := HV.out
  rw [hVe] at g6 ⊢
  have hgn : ¬ (⟨none, 0, [], []⟩ : BSt).J pb w.heap.size := fun h => by
    rcases h with h | ⟨h1, _⟩ | ⟨i, hi, _⟩
    · omega
    · exact h1 rfl
    · simp at hi
  have hb5 : Below w0.heap.size w0 w5 := hb0U.trans (g4.below (fun x hx => by
    rcases hx with h | ⟨h1, _⟩ | ⟨i, hi, _⟩
    · rw [h]; exact hpb
    · exact absurd rfl h1
    · simp at hi) hb0U.size)
  have x5 := x0.moves g4 hgn
  have z0 := x5.cell 0 rfl
  have f0 := x5.frozen 0
  have hgn5 : ¬ OIn σ'.ar σ'.R w.heap.size := fun h => g4.not x0.1 hgn (.inr h)
  have hszw := hb.size
  obtain ⟨ve, vt⟩ := V
  dsimp only at g6 ⊢
  by_cases hve : ve = 0
  · subst hve
    have ht : σ'.T = vt := g6 rfl
    have hF : ∀ v : Value, Below w0.heap.size w0 (w5.setCell ⟨w.heap.size, 0, none⟩ v) ∧ OMat (w5.setCell ⟨w.heap.size, 0, none⟩ v) w0.heap.size σ'.ar vt.length σ'.cr σ'.R vt := fun v => by
      refine ⟨hb5.setCell hszw _, ?_⟩
      rw [← ht]
      exact g1.om.of_blocks fun x hx => Below.heap_setCell _ _ _ _ fun e => hgn5 (by have e' : x = w.heap.size := e; rw [← e']; exact hx)
    have HF := Lib.hid hF
    have p10 := g1.box.cell 10 rfl
    rw [ht] at p10
    clear g1 g2 g3 g4 g6 hF ht
    go_wp2_with fail
    have z1 : (w5.setCell ⟨w.heap.size, 0, none⟩ (.slice σ'.ar vt.length σ'.cr)).cell? ⟨w.heap.size, 0, none⟩ = some (.slice σ'.ar vt.length σ'.cr) := World.cell?_setCell_same _ _ _ z0
    exact bodyPost_ret (v := .tuple #[.agg #[.slice σ'.ar vt.length σ'.cr], .int .i64 0]) (by simp [results, Tryz.results66, go_sem, z0, z1]) rfl ⟨(HF.out _).1, .inr ⟨rfl, σ'.ar, σ'.cr, σ'.R, rfl, (HF.out _).2⟩⟩
  · have hve' : (ve != 0) = true := by simpa using hve
    have Hne := Lib.hid hve
    have HF := Lib.hid (fun v : Value => hb5.setCell (p := ⟨w.heap.size, 0, none⟩) hszw v)
    clear g1 g2 g3 g4 g6 hve
    go_wp2_with fail
    have z1 : (w5.setCell ⟨w.heap.size, 0, none⟩ (.slice none 0 0)).cell? ⟨w.heap.size, 0, none⟩ = some (.slice none 0 0) := World.cell?_setCell_same _ _ _ z0
    exact bodyPost_ret (v := .tuple #[.agg #[.slice none 0 0], .int .i64 ve]) (by simp [results, Tryz.results66, go_sem, z0, z1]) rfl ⟨HF.out _, .inl ⟨Hne.out, rfl⟩⟩
end

end Go.Proofs.YtcflcogbpnmjeaaGreat
