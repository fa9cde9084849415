/- 'each' of matrix.eliminate, by its three steps. -/
import Derived.Test.YtcflcogbpnmjeaaGreatK5
namespace Go.Proofs.YtcflcogbpnmjeaaGreat
set_option linter.unusedVariables false
set_option linter.unusedSimpArgs false
set_option linter.unusedSectionVars false

/- The walks of the closures of matrix.eliminate. -/
section
open Go.RowKit

variable {w : World} {b : Nat} {G : Tbl}

def swapA (R : List (Option Addr × Nat)) (i j : Nat) : List (Option Addr × Nat) := (R.set i (nthA R j)).set j (nthA R i)
theorem swapA_length (R : List (Option Addr × Nat)) (i j : Nat) : (swapA R i j).length = R.length := by simp [swapA]
def flipN (t k i : Nat) : Nat := if i = k then t else if i = t then k else i
theorem nthA_swap (R : List (Option Addr × Nat)) (t k i : Nat) (ht : t < R.length) (hk : k < R.length) : nthA (swapA R t k) i = nthA R (flipN t k i) := by
  unfold swapA flipN
  rw [nthA_set _ _ _ _ (by simpa using hk), nthA_set _ _ _ _ ht]
  split
  · rfl
  · split <;> rfl
theorem nthR_swap (L : List (List Int)) (t k i : Nat) (ht : t < L.length) (hk : k < L.length) : nthR (swapRow L t k) i = nthR L (flipN t k i) := by
  unfold swapRow flipN
  rw [nthR_set _ _ _ _ (by simpa using hk), nthR_set _ _ _ _ ht]
  split
  · rfl
  · split <;> rfl
theorem flipN_lt {t k i n : Nat} (ht : t < n) (hk : k < n) (hi : i < n) : flipN t k i < n := by unfold flipN; split <;> (try split) <;> assumption
theorem flipN_ne {t k i j : Nat} (h : i ≠ j) : flipN t k i ≠ flipN t k j := by
  unfold flipN
  split <;> split <;> (try split) <;> (try split) <;> omega

theorem OMat.swap {B : Nat} {a : Option Addr} {n c : Nat} {R : List (Option Addr × Nat)} {L : List (List Int)} (h : OMat w B a n c R L) {t k : Nat} (ht : t < n) (hk : k < n) :
    OMat ((w.setCell ⟨ablk a, aoff a + t, none⟩ (.slice (nthA R k).1 (nthR L k).length (nthA R k).2)).setCell ⟨ablk a, aoff a + k, none⟩ (.slice (nthA R t).1 (nthR L t).length (nthA R t).2)) B a n c (swapA R t k) (swapRow L t k) := by
  have hRt : t < R.length := by rw [h.rl]; exact ht
  have hRk : k < R.length := by rw [h.rl]; exact hk
  have hLt : t < L.length := by rw [h.ll]; exact ht
  have hLk : k < L.length := by rw [h.ll]; exact hk
  refine ⟨by rw [swapA_length]; exact h.rl, by rw [swapRow_length]; exact h.ll, ?_, fun i hi => ?_, fun i hi => ?_, fun i j hi hj hij => ?_⟩
  · have h1 := own_set (own_set h.own t ht (.slice (nthA R k).1 (nthR L k).length (nthA R k).2)) k hk (.slice (nthA R t).1 (nthR L t).length (nthA R t).2)
    rw [show (List.zipWith rowV R L).set t (.slice (nthA R k).1 (nthR L k).length (nthA R k).2) = _ from zip_set R L t (nthA R k) (nthR L k)] at h1
    rw [show (List.zipWith rowV (R.set t (nthA R k)) (L.set t (nthR L k))).set k (.slice (nthA R t).1 (nthR L t).length (nthA R t).2) = _ from zip_set _ _ k (nthA R t) (nthR L t)] at h1
    exact h1
  · rw [nthA_swap _ _ _ _ hRt hRk, nthR_swap _ _ _ _ hLt hLk]
    have hf := flipN_lt ht hk hi
    exact own_setOther (p := ⟨ablk a, aoff a + k, none⟩) (own_setOther (p := ⟨ablk a, aoff a + t, none⟩) (h.row _ hf) _ (h.apt _ hf)) _ (h.apt _ hf)
  · rw [nthA_swap _ _ _ _ hRt hRk]
    exact h.apt _ (flipN_lt ht hk hi)
  · rw [nthA_swap _ _ _ _ hRt hRk, nthA_swap _ _ _ _ hRt hRk]
    exact h.sep _ _ (flipN_lt ht hk hi) (flipN_lt ht hk hj) (flipN_ne hij)
theorem OIn.swap {a : Option Addr} {R : List (Option Addr × Nat)} {t k b : Nat} (ht : t < R.length) (hk : k < R.length) (h : OIn a (swapA R t k) b) : OIn a R b := by
  rcases h with h | ⟨i, hi, h1, rfl⟩
  · exact .inl h
  · rw [swapA_length] at hi
    rw [nthA_swap _ _ _ _ ht hk] at h1 ⊢
    exact OMat.inRow (flipN_lt ht hk hi) h1
theorem OMat.swap_moves {B : Nat} {a : Option Addr} {n c : Nat} {R : List (Option Addr × Nat)} {L : List (List Int)} (h : OMat w B a n c R L) {t k : Nat} (ht : t < n) (hk : k < n) (u v : Value) :
    Moves w ((w.setCell ⟨ablk a, aoff a + t, none⟩ u).setCell ⟨ablk a, aoff a + k, none⟩ v) (OIn a R) (OIn a (swapA R t k)) := by
  have hb0 : Below 0 w ((w.setCell ⟨ablk a, aoff a + t, none⟩ u).setCell ⟨ablk a, aoff a + k, none⟩ v) := ((Below.refl 0 w).setCell (Nat.zero_le _) u).setCell (Nat.zero_le _) v
  have hne := h.ne (by omega)
  refine ⟨hb0.os, hb0.tape, hb0.output, hb0.size, fun b hb hI => ?_, fun b hb => .inl (OIn.swap (by rw [h.rl]; exact ht) (by rw [h.rl]; exact hk) hb)⟩
  rw [Below.heap_setCell _ _ _ _ fun e => hI (.inl ⟨hne, e⟩), Below.heap_setCell _ _ _ _ fun e => hI (.inl ⟨hne, e⟩)]
theorem OMat.drew {B : Nat} {a : Option Addr} {n c : Nat} {R : List (Option Addr × Nat)} {L : List (List Int)} (h : OMat w B a n c R L) : OMat w.drew B a n c R L := h.keep (Below.refl _ _).drew
theorem Moves.drew {w w' : World} {I I' : Nat → Prop} (h : Moves w w' I I') : Moves w w'.drew I I' := ⟨h.os, h.tape, h.output, h.size, h.block, h.grow⟩

set_option maxHeartbeats 1600000 in
theorem swap_any (B : Nat) (a : Option Addr) (n c : Nat) (R : List (Option Addr × Nat)) (L : List (List Int)) (pk pt k t : Nat) (hO : OMat w B a n c R L)
    (hk : w.cell? ⟨pk, 0, none⟩ = some (.int .i64 k)) (ht : w.cell? ⟨pt, 0, none⟩ = some (.int .i64 t)) (hkn : k < n) (htn : t < n) (hkt : k ≠ t) (nk : ¬ OIn a R pk) (nt : ¬ OIn a R pt) :
    Calls Tryz.prog 214 #[.slice a n c, .pointer (some ⟨pk, 0, none⟩), .pointer (some ⟨pt, 0, none⟩)] w
      fun e w' => e = .returned (.tuple #[]) ∧ ∃ R', OMat w' B a n c R' (swapRow L t k) ∧ Moves w w' (OIn a R) (OIn a R') := by
  have hpl := hO.pl
  have ck := hO.cell hkn
  have ct := hO.cell htn
  have fk := hO.frozen hkn
  have ft := hO.frozen htn
  have hane : a ≠ none := hO.ne (by omega)
  have npk : pk ≠ ablk a := fun e => nk (.inl ⟨hane, e⟩)
  have npt : pt ≠ ablk a := fun e => nt (.inl ⟨hane, e⟩)
  have k1 : (w.setCell ⟨ablk a, aoff a + t, none⟩ (.slice (nthA R k).1 (nthR L k).length (nthA R k).2)).cell? ⟨pk, 0, none⟩ = some (.int .i64 k) := by
    rw [World.cell?_setCell_other _ _ _ _ (by simp [npk])]; exact hk
  have k2 : (w.setCell ⟨ablk a, aoff a + t, none⟩ (.slice (nthA R k).1 (nthR L k).length (nthA R k).2)).cell? ⟨pt, 0, none⟩ = some (.int .i64 t) := by
    rw [World.cell?_setCell_other _ _ _ _ (by simp [npt])]; exact ht
  have k3 : (w.setCell ⟨ablk a, aoff a + t, none⟩ (.slice (nthA R k).1 (nthR L k).length (nthA R k).2)).cell? ⟨ablk a, aoff a + k, none⟩ = some (.slice (nthA R k).1 (nthR L k).length (nthA R k).2) := by
    rw [World.cell?_setCell_other _ _ _ _ (by simp <;> omega)]; exact ck
  go_enter Tryz.func214, Tryz.ntmps214
  go_wp2_with fail
  go_region
  have hO2 := (hO.swap htn hkn).drew
  have hM2 := (hO.swap_moves htn hkn (.slice (nthA R k).1 (nthR L k).length (nthA R k).2) (.slice (nthA R t).1 (nthR L t).length (nthA R t).2)).drew
  go_wp2_with fail
  go_end0
  exact ⟨rfl, _, hO2, hM2⟩

set_option maxHeartbeats 1600000 in
theorem scale_any (w0 : World) (a : Option Addr) (n c : Nat) (R : List (Option Addr × Nat)) (L : List (List Int)) (pg ps pt : Nat) (s : Int) (t : Nat) (hO : OMat w w0.heap.size a n c R L)
    (h : GFw w0 b G) (hb : Below w0.heap.size w0 w)
    (hg : w.cell? ⟨pg, 0, none⟩ = some (.pointer (some ⟨b, 0, none⟩))) (hs : w.cell? ⟨ps, 0, none⟩ = some (.int .i64 s)) (ht : w.cell? ⟨pt, 0, none⟩ = some (.int .i64 t)) (htn : t < n) (hse : G.El s)
    (hel : G.Els (nthR L t)) (hln : (nthR L t).length ≤ 1000000) :
    Calls Tryz.prog 215 #[.slice a n c, .pointer (some ⟨pg, 0, none⟩), .pointer (some ⟨ps, 0, none⟩), .pointer (some ⟨pt, 0, none⟩)] w
      fun e w' => e = .returned (.tuple #[]) ∧ ∃ R', OMat w' w0.heap.size a n c R' (L.set t ((nthR L t).map (G.mul s))) ∧ Moves w w' (OIn a R) (OIn a R') := by
  have hpl := hO.pl
  have ct := hO.cell htn
  have ft := hO.frozen htn
  have hi := hO.ints htn
  have hG := h.keep hb
  have hS : ∀ W, Below w.heap.size w W → W.cell? ⟨pg, 0, none⟩ = some (.pointer (some ⟨b, 0, none⟩)) ∧ W.cell? ⟨ps, 0, none⟩ = some (.int .i64 s) ∧ W.cell? ⟨pt, 0, none⟩ = some (.int .i64 t) ∧
      W.cell? ⟨ablk a, aoff a + t, none⟩ = some (.slice (nthA R t).1 (nthR L t).length (nthA R t).2) ∧ W.frozen? ⟨ablk a, aoff a + t, none⟩ = false ∧ Below w.heap.size w W :=
    fun W hW => ⟨cell_keep hW hg, cell_keep hW hs, cell_keep hW ht, cell_keep hW ct, (hO.keep hW).frozen htn, hW⟩
  have HS := Lib.hid hS
  clear hS
  have hF : ∀ w4 a4 c4, w4.ownsRow w.drew.heap.size 3 1 (.slice a4 ((nthR L t).map (G.mul s)).length c4) ((nthR L t).map (G.mul s)).length (((nthR L t).map (G.mul s)).map (Value.int .i64)) → Below w.drew.heap.size w.drew w4 →
      ∃ R', OMat (w4.setCell ⟨ablk a, aoff a + t, none⟩ (.slice a4 (nthR L t).length c4)) w0.heap.size a n c R' (L.set t ((nthR L t).map (G.mul s))) ∧ Moves w (w4.setCell ⟨ablk a, aoff a + t, none⟩ (.slice a4 (nthR L t).length c4)) (OIn a R) (OIn a R') := by
    intro w4 a4 c4 hown4 hb4
    have hb5 : Below w.heap.size w w4 := Below.next (Below.refl _ _).drew hb4
    have hO4 := hO.keep hb5
    have hsz : w.drew.heap.size = w.heap.size := rfl
    rw [hsz] at hown4
    have hnew : ∀ b, b < w.heap.size → Apt a4 b := fun b hb => own_apt hown4 hb
    have h1 := hO4.setRow htn (own_mono hown4 hb.size) (hnew _ (hO.lt _ (.inl ⟨hO.ne (by omega), rfl⟩)).2) (fun j hj _ => by
      by_cases hn : (nthA R j).1 = none
      · exact .inl hn
      · exact .inr (hnew _ (hO.lt _ (OMat.inRow (by rw [hO.rl]; exact hj) hn)).2))
    have h2 := hO.setRow_moves' hb5 htn (r := a4) (rc := c4) (.slice a4 ((nthR L t).map (G.mul s)).length c4) (fun ha => .inr (own_ne hown4 ha).1)
    rw [List.length_map] at h1 h2
    exact ⟨_, h1, h2⟩
  have HF := Lib.hid hF
  clear hF
  go_enter Tryz.func215, Tryz.ntmps215
  go_wp2_with fail
  go_region_law ((first
    | (go_simp; go_at_call 186; ((with_reducible refine (gScale s _ _ _ _ (hG.keep (Below.refl _ _).drew) hse (hi.keep (Below.refl _ _).drew) hel hln).mono ?_); rintro e w4 ⟨a4, c4, rfl, hown4, hb4⟩; obtain ⟨q0, q1, q2, q3, q4, q5⟩ := HS.out w4 (Below.next (Below.refl _ _).drew hb4)))))
  all_goals (
    go_wp2_with fail
    go_end0
    exact ⟨rfl, HF.out _ _ _ hown4 hb4⟩)
end

/- The walks of the closures of matrix.eliminate: the last, and the first, which calls them. -/
section
open Go.RowKit

variable {w : World} {b : Nat} {G : Tbl}

theorem Only.moves {a av : Option Addr} {R : List (Option Addr × Nat)} {w w' : World} (h : Only av w w') (hin : av ≠ none → OIn a R (ablk av)) : Moves w w' (OIn a R) (OIn a R) :=
  ⟨h.os, h.tape, h.output, h.size, fun b hb hI => h.block b hb (fun ⟨h1, h2⟩ => hI (by rw [h2]; exact hin h1)), fun _ h => .inl h⟩

set_option maxHeartbeats 1600000 in
theorem sweep_any (w0 : World) (a : Option Addr) (n c : Nat) (R : List (Option Addr × Nat)) (L : List (List Int)) (pg pi px pt m : Nat) (i : Nat) (x : Int) (t : Nat) (hO : OMat w w0.heap.size a n c R L)
    (h : GFw w0 b G) (hb : Below w0.heap.size w0 w)
    (hg : w.cell? ⟨pg, 0, none⟩ = some (.pointer (some ⟨b, 0, none⟩))) (hi : w.cell? ⟨pi, 0, none⟩ = some (.int .i64 i)) (hx : w.cell? ⟨px, 0, none⟩ = some (.int .i64 x)) (ht : w.cell? ⟨pt, 0, none⟩ = some (.int .i64 t))
    (hin : i < n) (htn : t < n) (hit : i ≠ t) (hxe : G.El x) (ng : ¬ OIn a R pg) (ni : ¬ OIn a R pi) (nx : ¬ OIn a R px) (nt : ¬ OIn a R pt) (hei : G.Els (nthR L i)) (het : G.Els (nthR L t)) (hli : (nthR L i).length = m) (hlt : (nthR L t).length = m) :
    Calls Tryz.prog 216 #[.slice a n c, .pointer (some ⟨pg, 0, none⟩), .pointer (some ⟨pi, 0, none⟩), .pointer (some ⟨px, 0, none⟩), .pointer (some ⟨pt, 0, none⟩)] w
      fun e w' => e = .returned (.tuple #[]) ∧ OMat w' w0.heap.size a n c R (L.set i (addRow G.ops (nthR L i) (G.neg x) (nthR L t))) ∧ Moves w w' (OIn a R) (OIn a R) := by
  have hpl := hO.pl
  have ct := hO.cell htn
  have ci := hO.cell hin
  have ri := hO.row i hin
  have rt := hO.ints htn
  have hsep := hO.sep i t hin htn hit
  have hne : G.El (G.neg x) := Tbl.neg_el h x
  rw [hlt] at ct rt
  rw [hli] at ci ri
  have hap : (nthA R i).1 = none ∨ (nthA R t).1 = none ∨ ablk (nthA R t).1 ≠ ablk (nthA R i).1 := hsep
  have hadd : ∀ k, Calls Tryz.prog 190 #[.pointer (some ⟨b, 0, none⟩), .slice (nthA R i).1 m (nthA R i).2, .int .i64 (G.neg x), .slice (nthA R t).1 m (nthA R t).2] (w.drewN k)
      fun e w' => e = .returned (.tuple #[]) ∧ (w'.cell? ⟨pg, 0, none⟩ = some (.pointer (some ⟨b, 0, none⟩)) ∧ w'.cell? ⟨pi, 0, none⟩ = some (.int .i64 i) ∧ w'.cell? ⟨px, 0, none⟩ = some (.int .i64 x) ∧ w'.cell? ⟨pt, 0, none⟩ = some (.int .i64 t) ∧
        w'.cell? ⟨ablk a, aoff a + t, none⟩ = some (.slice (nthA R t).1 m (nthA R t).2) ∧ w'.cell? ⟨ablk a, aoff a + i, none⟩ = some (.slice (nthA R i).1 m (nthA R i).2)) ∧ (OMat w' w0.heap.size a n c R (L.set i (addRow G.ops (nthR L i) (G.neg x) (nthR L t))) ∧ Moves w w' (OIn a R) (OIn a R)) := by
    intro k
    have hd : Drawn w (w.drewN k) := ⟨k, rfl⟩
    refine (add_any w0 _ _ m (nthR L i) (G.neg x) _ _ (nthR L t) h (hd.below' hb) (own_keep ri hd.below) (rt.keep hd.below) hap hei het hne).mono ?_
    rintro e w' ⟨rfl, hown, honly⟩
    have hmv : Moves w w' (OIn a R) (OIn a R) := (Moves.of_below hd.below _).trans (honly.moves (fun hn => OMat.inRow (by rw [hO.rl]; exact hin) hn))
    have hne2 : ¬ ((nthA R i).1 ≠ none ∧ ablk a = ablk (nthA R i).1) := by
      rintro ⟨h1, h2⟩
      rcases hO.apt i hin with h3 | h3
      · exact h1 h3
      · exact h3 h2.symm
    refine ⟨rfl, ⟨hmv.cell hg ng, hmv.cell hi ni, hmv.cell hx nx, hmv.cell ht nt, Moves.cell (Moves.trans (Moves.of_below hd.below _) honly) ct hne2, Moves.cell (Moves.trans (Moves.of_below hd.below _) honly) ci hne2⟩, ?_, hmv⟩
    have hOr := hO.keep hd.below
    have hl : (addRow G.ops (nthR L i) (G.neg x) (nthR L t)).length = (nthR L i).length := addRow_length _ _ _ _ (by rw [hli, hlt])
    refine hOr.rowTo hin hl (by rw [hli]; exact hown) fun b hb hne => honly.block b hb fun ⟨h1, h2⟩ => ?_
    rcases hne with h3 | h3
    · exact h1 h3
    · exact h3 h2
  have Hadd := Lib.hid hadd
  have hG := h.keep hb
  have HG : Hid (GFw w.drew b G ∧ ∀ n, GFw (w.drewN n) b G) := ⟨hG.keep (Below.refl _ _).drew, fun n => hG.drewN n⟩
  clear hadd hsep hap hli hlt
  generalize L.set i (addRow G.ops (nthR L i) (G.neg x) (nthR L t)) = L' at *
  go_enter Tryz.func216, Tryz.ntmps216
  go_wp2_with fail
  go_region_held3 (fun w' => w'.cell? ⟨pg, 0, none⟩ = some (.pointer (some ⟨b, 0, none⟩)) ∧ w'.cell? ⟨pi, 0, none⟩ = some (.int .i64 i) ∧ w'.cell? ⟨px, 0, none⟩ = some (.int .i64 x) ∧ w'.cell? ⟨pt, 0, none⟩ = some (.int .i64 t) ∧
        w'.cell? ⟨ablk a, aoff a + t, none⟩ = some (.slice (nthA R t).1 m (nthA R t).2) ∧ w'.cell? ⟨ablk a, aoff a + i, none⟩ = some (.slice (nthA R i).1 m (nthA R i).2))
    (first | assumption | exact ⟨hg, hi, hx, ht, ct, ci⟩)
    (first
    | (go_at_call 146; ((with_reducible refine (gNeg x HG.out.1 hxe).mono ?_); rintro e w4 ⟨m4, rfl, rfl⟩))
    | (go_at_call 190; ((with_reducible refine (Hadd.out _).mono ?_); rintro e w5 ⟨rfl, hS5, hO5, hM5⟩)))
  go_wp2_with fail
  go_end0
  exact ⟨rfl, hO5, hM5⟩
end

/- 'each' of matrix.eliminate, by its three steps. -/
section
open Go.RowKit
variable {w : World}

set_option maxRecDepth 100000 in
/-- 'each' calls the step at the rows; there are no others -/
theorem each2_any (c0 c1 : Value) (p q : Nat) (a : Option Addr) (n c : Nat) (X : World → Prop) (h1 : w.cell? ⟨p, 0, none⟩ = some (.slice a n c))
    (hf : Calls Tryz.prog 214 #[.slice a n c, c0, c1] w fun e w' => e = .returned (.tuple #[]) ∧ w'.cell? ⟨q, 0, none⟩ = some (.slice none 0 0) ∧ X w') :
    Calls Tryz.prog 213 #[.func (.func 214) #[] #[c0, c1], .pointer (some ⟨p, 0, none⟩), .pointer (some ⟨q, 0, none⟩)] w
      fun e w' => e = .returned (.tuple #[]) ∧ X w' := by
  have Hf := Lib.hid hf
  clear hf
  go_enter Tryz.func213, Tryz.ntmps213
  go_wp2_with fail
  refine Hf.out.mono ?_
  rintro e w' ⟨rfl, hq, hX⟩
  go_wp2_with fail
  go_end0
  exact ⟨rfl, hX⟩

set_option maxRecDepth 100000 in
/-- 'each' calls the step at the rows; there are no others -/
theorem each3_any (c0 c1 c2 : Value) (p q : Nat) (a : Option Addr) (n c : Nat) (X : World → Prop) (h1 : w.cell? ⟨p, 0, none⟩ = some (.slice a n c))
    (hf : Calls Tryz.prog 215 #[.slice a n c, c0, c1, c2] w fun e w' => e = .returned (.tuple #[]) ∧ w'.cell? ⟨q, 0, none⟩ = some (.slice none 0 0) ∧ X w') :
    Calls Tryz.prog 213 #[.func (.func 215) #[] #[c0, c1, c2], .pointer (some ⟨p, 0, none⟩), .pointer (some ⟨q, 0, none⟩)] w
      fun e w' => e = .returned (.tuple #[]) ∧ X w' := by
  have Hf := Lib.hid hf
  clear hf
  go_enter Tryz.func213, Tryz.ntmps213
  go_wp2_with fail
  refine Hf.out.mono ?_
  rintro e w' ⟨rfl, hq, hX⟩
  go_wp2_with fail
  go_end0
  exact ⟨rfl, hX⟩

set_option maxRecDepth 100000 in
/-- 'each' calls the step at the rows; there are no others -/
theorem each4_any (c0 c1 c2 c3 : Value) (p q : Nat) (a : Option Addr) (n c : Nat) (X : World → Prop) (h1 : w.cell? ⟨p, 0, none⟩ = some (.slice a n c))
    (hf : Calls Tryz.prog 216 #[.slice a n c, c0, c1, c2, c3] w fun e w' => e = .returned (.tuple #[]) ∧ w'.cell? ⟨q, 0, none⟩ = some (.slice none 0 0) ∧ X w') :
    Calls Tryz.prog 213 #[.func (.func 216) #[] #[c0, c1, c2, c3], .pointer (some ⟨p, 0, none⟩), .pointer (some ⟨q, 0, none⟩)] w
      fun e w' => e = .returned (.tuple #[]) ∧ X w' := by
  have Hf := Lib.hid hf
  clear hf
  go_enter Tryz.func213, Tryz.ntmps213
  go_wp2_with fail
  refine Hf.out.mono ?_
  rintro e w' ⟨rfl, hq, hX⟩
  go_wp2_with fail
  go_end0
  exact ⟨rfl, hX⟩
end

end Go.Proofs.YtcflcogbpnmjeaaGreat
