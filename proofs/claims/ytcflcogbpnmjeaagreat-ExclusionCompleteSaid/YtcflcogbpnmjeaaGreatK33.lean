/- The walk of code.Walk: the iterator. -/
import Derived.Test.YtcflcogbpnmjeaaGreatK32
import Derived.Test.YtcflcogbpnmjeaaGreatK31
import Derived.Test.YtcflcogbpnmjeaaGreatK29
import Derived.Test.YtcflcogbpnmjeaaGreatK28
import Derived.Test.YtcflcogbpnmjeaaGreatK20
import Derived.Test.YtcflcogbpnmjeaaGreatK22
import Derived.RangeFuncSeq
import Derived.RangeFuncBox
import Derived.RangeFuncLeaves
import Derived.OwnWalkIn
import Derived.TacticsInMore
import Derived.Shelf.RegionOpen
import Derived.Test.YtcflcogbpnmjeaaGreatK21
import Derived.Test.YtcflcogbpnmjeaaGreatK8
import Derived.Test.YtcflcogbpnmjeaaGreatK19
namespace Go.Proofs.YtcflcogbpnmjeaaGreat
set_option linter.unusedVariables false
set_option linter.unusedSimpArgs false
set_option linter.unusedSectionVars false

/- The walks of CheckRank and CheckDistance of the reference's exclusion. -/
section
open Go.RowKit
end

/- The walk of build of the reference's exclusion, for rank claims. -/
section
open Go.RowKit

def BSt.I (σ : BSt) (x : Nat) : Prop := OIn σ.ar σ.R x
def RBPost (B : Nat) (σ : BSt) (V : Int × List (List Int)) (w : World) (e : Ending) (w' : World) : Prop :=
  (V.1 = 0 ∧ ∃ σ' : BSt, OMat w' B σ'.ar σ'.T.length σ'.cr σ'.R σ'.T ∧ σ'.T = V.2 ∧ σ'.T.length ≤ 65536 ∧ Moves w w' σ.I σ'.I ∧ e = .returned (.tuple #[.slice σ'.ar σ'.T.length σ'.cr, .int .i64 0])) ∨
  (V.1 ≠ 0 ∧ ∃ I', Moves w w' σ.I I' ∧ e = .returned (.tuple #[.slice none 0 0, .int .i64 V.1]))
/-- a list of sets with one set more -/
theorem OMat.more {V w5 : World} {B : Nat} {σ : BSt} (h : OMat V B σ.ar σ.T.length σ.cr σ.R σ.T)
    {a3 : Option Addr} {c3 : Nat} {t : List Int} (hr : V.ownsRow B 3 1 (.slice a3 t.length c3) t.length (t.map (Value.int .i64))) (hra : a3 ≠ none → ¬ σ.I (ablk a3)) {o : Obj}
    {a5 : Option Addr} {c5 : Nat} (hown : w5.ownsRow B 22 1 (.slice a5 (σ.T.length + 1) c5) (σ.T.length + 1) (List.zipWith rowV σ.R σ.T ++ [.slice a3 t.length c3])) (hg : (V.alloc o).grownBy w5 (Value.slice σ.ar σ.T.length σ.cr).ownBlock)
    (hap : ∀ b, b < (V.alloc o).heap.size → Apt σ.ar b → Apt a5 b) :
    OMat w5 B a5 (σ.T.length + 1) c5 (σ.R ++ [(a3, c3)]) (σ.T ++ [t]) ∧ Moves V w5 (fun x => σ.I x ∨ (a3 ≠ none ∧ x = ablk a3)) (fun x => OIn a5 (σ.R ++ [(a3, c3)]) x) := by
  have hal := below1 V o
  have hO1 : OMat (V.alloc o) B σ.ar σ.T.length σ.cr σ.R σ.T := h.keep hal
  refine ⟨OMat.push hO1 (own_keep hr hal) hra hown hg hap, ?_⟩
  have hM0 : Moves V (V.alloc o) (fun x => σ.I x ∨ (a3 ≠ none ∧ x = ablk a3)) (fun x => σ.I x ∨ (a3 ≠ none ∧ x = ablk a3)) := Moves.of_below hal _
  have hM1 : Moves (V.alloc o) w5 (fun x => σ.I x ∨ (a3 ≠ none ∧ x = ablk a3)) (fun x => σ.I x ∨ (a3 ≠ none ∧ x = ablk a3)) := Moves.grown hg fun h0 => .inl (.inl ⟨h0, rfl⟩)
  have hM2 := hM0.trans hM1
  refine ⟨hM2.os, hM2.tape, hM2.output, hM2.size, hM2.block, fun x hx => ?_⟩
  rcases OIn.push hO1 hap hx with h1 | h1 | h1
  · exact .inl (.inl h1)
  · exact .inl (.inr h1)
  · exact .inr (Nat.le_trans hal.size h1)

def Mov (U V : World) (I : Nat → Prop) : Prop := ∃ I', Moves U V I I'
theorem Mov.below {U V : World} {I : Nat → Prop} (h : Below U.heap.size U V) : Mov U V I := ⟨_, Moves.of_below h _⟩
theorem Mov.next {U V W : World} {I : Nat → Prop} (h : Mov U V I) (k : Below V.heap.size V W) : Mov U W I := by
  obtain ⟨I', h⟩ := h
  exact ⟨_, h.trans (Moves.of_below k _)⟩
theorem Mov.allocN {U V : World} {I : Nat → Prop} (h : Mov U V I) (o : Obj) : Mov U (V.alloc o) I := h.next (below1 _ _)
theorem Mov.drewN {U V : World} {I : Nat → Prop} (h : Mov U V I) : Mov U V.drew I := h.next (Below.refl _ _).drew
def RBV (B : Nat) (σ : BSt) (V : Int × List (List Int)) (er : Int) (w : World) (rv : Value) (w' : World) : Prop :=
  (er = 0 ∧ ∃ σ' : BSt, OMat w' B σ'.ar σ'.T.length σ'.cr σ'.R σ'.T ∧ σ'.T = V.2 ∧ σ'.T.length ≤ 65536 ∧ Moves w w' σ.I σ'.I ∧ rv = .slice σ'.ar σ'.T.length σ'.cr) ∨
  (er ≠ 0 ∧ ∃ I', Moves w w' σ.I I' ∧ rv = .slice none 0 0)
theorem RBPost.split {B : Nat} {σ : BSt} {V : Int × List (List Int)} {w w' : World} {e : Ending} (h : RBPost B σ V w e w') : ∃ rv, e = .returned (.tuple #[rv, .int .i64 V.1]) ∧ RBV B σ V V.1 w rv w' := by
  rcases h with ⟨h1, σ', g1, g2, g3, g4, rfl⟩ | ⟨h1, I', g4, rfl⟩
  · exact ⟨_, by rw [h1], .inl ⟨h1, σ', g1, g2, g3, g4, rfl⟩⟩
  · exact ⟨_, rfl, .inr ⟨h1, I', g4, rfl⟩⟩
theorem RBV.from {B : Nat} {σ : BSt} {V : Int × List (List Int)} {er : Int} {U w w' : World} {rv : Value} (h : RBV B σ V er w rv w') (hb : Below U.heap.size U w) : RBV B σ V er U rv w' := by
  rcases h with ⟨h1, σ', g1, g2, g3, g4, rfl⟩ | ⟨h1, I', g4, rfl⟩
  · exact .inl ⟨h1, σ', g1, g2, g3, (Moves.of_below hb _).trans g4, rfl⟩
  · exact .inr ⟨h1, I', (Moves.of_below hb _).trans g4, rfl⟩
theorem RBV.mov {B : Nat} {σ : BSt} {V : Int × List (List Int)} {er : Int} {w w' : World} {rv : Value} (h : RBV B σ V er w rv w') : Mov w w' σ.I := by
  rcases h with ⟨h1, σ', g1, g2, g3, g4, rfl⟩ | ⟨h1, I', g4, rfl⟩
  · exact ⟨_, g4⟩
  · exact ⟨_, g4⟩
end

/- The walk of build of the reference's exclusion, for rank claims. -/
section
open Go.RowKit
end

/- The walk of CheckDistance of the reference's exclusion. -/
section
open Go.RowKit
end

/- The walks of BuildRank, BuildDistance, Same and Small of the reference's exclusion. -/
section
open Go.RowKit
end

/- The reference's Small, as a number of nodes. -/
section
open Go.RowKit

theorem bn_zero (d : Nat) : bn 0 d = 1 := by cases d <;> rw [bn]
theorem bn_B_of_A {k : Nat} (hA : ∀ d, (d + 1) * bn k (d + 1) = (k + d + 1) * bn k d) : ∀ d, (k + 1) * bn (k + 1) d = (k + d + 1) * bn k d
  | 0 => by rw [bn]; cases k <;> simp [bn]
  | d + 1 => by
    have ih := bn_B_of_A hA d
    have e : bn (k + 1) (d + 1) = bn k (d + 1) + bn (k + 1) d := by rw [bn]
    rw [e, Nat.mul_add, ih, ← hA d, ← Nat.add_mul]
    congr 1
    omega
theorem bn_AB : ∀ k, (∀ d, (d + 1) * bn k (d + 1) = (k + d + 1) * bn k d) ∧ (∀ d, (k + 1) * bn (k + 1) d = (k + d + 1) * bn k d)
  | 0 => by
    have hA : ∀ d, (d + 1) * bn 0 (d + 1) = (0 + d + 1) * bn 0 d := fun d => by simp [bn_zero]
    exact ⟨hA, bn_B_of_A hA⟩
  | k + 1 => by
    obtain ⟨h1, h2⟩ := bn_AB k
    have hA : ∀ d, (d + 1) * bn (k + 1) (d + 1) = (k + 1 + d + 1) * bn (k + 1) d := fun d => by
      have e : bn (k + 1) (d + 1) = bn k (d + 1) + bn (k + 1) d := by rw [bn]
      rw [e, Nat.mul_add, h1 d, ← h2 d, ← Nat.add_mul]
      congr 1
    exact ⟨hA, bn_B_of_A hA⟩

def SmallQ (k W : Nat) (w : World) (e : Ending) (w' : World) : Prop := ∃ z, e = .returned (.bool z) ∧ (z = true → bn k W ≤ 2000) ∧ w' = w
set_option maxRecDepth 100000 in
set_option maxHeartbeats 1600000 in
theorem rSmall26_ok (k W : Nat) (hk : k ≤ 256) (hW : W ≤ 64) (w : World) : Calls Tryz.prog 58 #[.int .i64 k, .int .i64 W] w (SmallQ k W w) := by
  go_enter Tryz.func58, Tryz.ntmps58
  go_wp2_with fail
  go_loopw [5, 6] (fun vv iv wr => ∃ (i : Nat) (v : Int), i ≤ W ∧ vv = .int .i64 v ∧ iv = .int .i64 ((i : Int) + 1) ∧ Hid (v = (bn k i : Nat) ∧ bn k i ≤ 2000) ∧ wr = w) (fun _ iv _ => W + 1 - (intOf iv).toNat)
  case atStart => exact ⟨0, 1, Nat.zero_le _, rfl, rfl, ⟨by rw [bn]; rfl, by rw [bn]; omega⟩, rfl⟩
  case round =>
    obtain ⟨i, v, hi, rfl, rfl, hv, rfl⟩ := hrel
    have kw : IntKind.i64.wrap ((i : Int) + 1 + 1) = (i : Int) + 1 + 1 := IntWalk.i64_in _ (by omega)
    by_cases hlt : i < W
    · have hl : (i : Int) + 1 ≤ W := by omega
      have hn0 : (i : Int) + 1 ≠ 0 := by omega
      have hn1 : (((i : Int) + 1) == 0) = false := by simp; omega
      have hval : Hid (wrap64 ((wrap64 (v * ((k : Int) + ((i : Int) + 1)))).tdiv ((i : Int) + 1)) = (bn k (i + 1) : Nat)) := by
        show _ = _
        obtain ⟨hv1, hv2⟩ := hv.out
        have hA := (bn_AB k).1 i
        have e1 : ((k : Int) + ((i : Int) + 1)) = ((k + i + 1 : Nat) : Int) := by omega
        have hle : (k + i + 1) * bn k i ≤ 400 * 2000 := Nat.mul_le_mul (by omega) hv2
        have e2 : v * ((k + i + 1 : Nat) : Int) = (((i + 1) * bn k (i + 1) : Nat) : Int) := by rw [hv1, hA, Nat.mul_comm, Int.natCast_mul]
        have h3 : bn k (i + 1) ≤ (i + 1) * bn k (i + 1) := Nat.le_mul_of_pos_left _ (by omega)
        rw [← hA] at hle
        have h4 : bn k (i + 1) ≤ 400 * 2000 := Nat.le_trans h3 hle
        have e3 : wrap64 (((i + 1) * bn k (i + 1) : Nat) : Int) = (((i + 1) * bn k (i + 1) : Nat) : Int) := by
          generalize (i + 1) * bn k (i + 1) = p at hle ⊢
          exact wrap64_id (by omega)
        have e4 : (((i + 1) * bn k (i + 1) : Nat) : Int).tdiv ((i : Int) + 1) = (bn k (i + 1) : Nat) := by
          rw [show (i : Int) + 1 = ((i + 1 : Nat) : Int) by omega, ← Int.ofNat_tdiv, Nat.mul_div_cancel_left _ (by omega)]
        rw [e1, e2, e3, e4]
        exact wrap64_id (by omega)
      by_cases hb : 2000 < wrap64 ((wrap64 (v * ((k : Int) + ((i : Int) + 1)))).tdiv ((i : Int) + 1))
      · have hd : decide (2000 < wrap64 ((wrap64 (v * ((k : Int) + ((i : Int) + 1)))).tdiv ((i : Int) + 1))) = true := by simpa using hb
        clear hb
        go_wp2_with fail
        go_ret
        exact ⟨_, rfl, (fun h => absurd h (by decide)), rfl⟩
      · have hd : decide (2000 < wrap64 ((wrap64 (v * ((k : Int) + ((i : Int) + 1)))).tdiv ((i : Int) + 1))) = false := by simpa using hb
        have hv' : Hid (wrap64 ((wrap64 (v * ((k : Int) + ((i : Int) + 1)))).tdiv ((i : Int) + 1)) = (bn k (i + 1) : Nat) ∧ bn k (i + 1) ≤ 2000) := by
          refine ⟨hval.out, ?_⟩
          rw [hval.out] at hb
          omega
        clear hb
        go_wp2_with fail
        go_roundw
        case rel => exact ⟨i + 1, _, by omega, rfl, by go_num, hv', by simp⟩
        case measure => simp [intOf] <;> omega
    · have hl : ¬ (i : Int) + 1 ≤ W := by omega
      have hd : decide ((i : Int) + 1 ≤ W) = false := by simpa using hl
      have hV : Hid (bn k W ≤ 2000) := by show _ ≤ _; rw [show W = i by omega]; exact hv.out.2
      go_wp2_with fail
      go_ret
      exact ⟨_, rfl, fun _ => hV.out, rfl⟩
end

/- Plain: the words of a code in lexicographic order. -/
section
/-- u and a times the row r -/
def addS (O : FOps) (u : List Int) (a : Int) (r : List Int) : List Int := if a = 0 then u else List.zipWith (fun y x => if x = 0 then y else O.add y (O.mul a x)) u r
/-- u and all words of the rows -/
def wlkS (O : FOps) (q : Nat) : List (List Int) → List Int → List (List Int)
  | [], u => [u]
  | r :: L, u => (List.range q).flatMap fun (a : Nat) => wlkS O q L (addS O u a r)
/-- the words of the first a elements -/
def wlkTo (O : FOps) (q : Nat) (r : List Int) (L : List (List Int)) (u : List Int) (a : Nat) : List (List Int) := (List.range a).flatMap fun (i : Nat) => wlkS O q L (addS O u i r)
theorem wlkTo_succ (O : FOps) (q : Nat) (r : List Int) (L : List (List Int)) (u : List Int) (a : Nat) : wlkTo O q r L u (a + 1) = wlkTo O q r L u a ++ wlkS O q L (addS O u a r) := by
  unfold wlkTo
  rw [List.range_succ, List.flatMap_append, List.flatMap_singleton]
theorem wlkS_length (O : FOps) (q : Nat) : ∀ (L : List (List Int)) (u : List Int), (wlkS O q L u).length = q ^ L.length
  | [], u => by simp [wlkS]
  | r :: L, u => by
    rw [wlkS, List.length_flatMap]
    have h : (List.range q).map (fun (a : Nat) => (wlkS O q L (addS O u a r)).length) = (List.range q).map fun _ => q ^ L.length := List.map_congr_left fun a _ => wlkS_length O q L _
    rw [h, List.map_const', List.sum_replicate_nat, List.length_range, List.length_cons, Nat.pow_succ, Nat.mul_comm]
theorem wlkTo_length (O : FOps) (q : Nat) (r : List Int) (L : List (List Int)) (u : List Int) (a : Nat) : (wlkTo O q r L u a).length = a * q ^ L.length := by
  unfold wlkTo
  rw [List.length_flatMap]
  have h : (List.range a).map (fun (i : Nat) => (wlkS O q L (addS O u i r)).length) = (List.range a).map fun _ => q ^ L.length := List.map_congr_left fun i _ => wlkS_length O q L _
  rw [h, List.map_const', List.sum_replicate_nat, List.length_range]
theorem addS_length (O : FOps) (u : List Int) (a : Int) (r : List Int) (h : r.length = u.length) : (addS O u a r).length = u.length := by
  unfold addS; split <;> simp [h]
theorem nth_addS (O : FOps) (u : List Int) (a : Int) (r : List Int) (j : Nat) (h : r.length = u.length) (hj : j < u.length) (h0 : a ≠ 0) :
    nth (addS O u a r) j = if nth r j = 0 then nth u j else O.add (nth u j) (O.mul a (nth r j)) := by
  unfold addS
  rw [if_neg h0, nth_getElem (show j < _ by simp [h]; omega), nth_getElem hj, nth_getElem (show j < r.length by omega)]
  simp
theorem addS_el {O : FOps} {El : Int → Prop} (hO : FCl O El) {u r : List Int} {a : Int} (hu : ∀ x ∈ u, El x) (hr : ∀ x ∈ r, El x) (ha : El a) (hl : r.length = u.length) : ∀ x ∈ addS O u a r, El x := by
  intro x hx
  by_cases h0 : a = 0
  · unfold addS at hx; rw [if_pos h0] at hx; exact hu x hx
  · obtain ⟨j, hj, rfl⟩ := List.mem_iff_getElem.1 hx
    rw [addS_length O u a r hl] at hj
    have h1 := nth_addS O u a r j hl hj h0
    rw [nth_getElem (show j < (addS O u a r).length by rw [addS_length O u a r hl]; exact hj)] at h1
    rw [h1]
    split
    · exact hu _ (nth_mem hj)
    · exact hO.add _ _ (hu _ (nth_mem hj)) (hO.mul _ _ ha (hr _ (nth_mem (by omega))))
end

/- The walk of code.Walk: the inner function at a leaf. -/
section
open Go.RowKit Go.Shelf

/-- a word that has been handed out -/
structure WX where
  a : Option Addr
  c : Nat
  l : List Int

structure WEnv (V : World) (b : Nat) (G : Tbl) (Bc Bat By Bg Bf l : Nat) (ag : Option Addr) (k cg : Nat) (L : List (List Int)) : Prop where
  gen : V.cell? ⟨Bc, 4, none⟩ = some (.slice ag k cg)
  mat : Mat V ag k L
  yl : V.cell? ⟨By, 0, none⟩ = some (.func (.yield l) #[] #[])
  gp : V.cell? ⟨Bg, 0, none⟩ = some (.pointer (some ⟨b, 0, none⟩))
  gf : GFw V b G
  fr : V.cell? ⟨Bf, 0, none⟩ = some (.func (.func 109) #[] #[.pointer (some ⟨Bc, 0, none⟩), .pointer (some ⟨Bat, 0, none⟩), .pointer (some ⟨By, 0, none⟩), .pointer (some ⟨Bg, 0, none⟩), .pointer (some ⟨Bf, 0, none⟩)])
  lt : Bat < V.heap.size

/-- the count, in a box of the iterator's -/
def AtQ (V : World) (B i : Nat) : Prop := V.cell? ⟨B, 0, none⟩ = some (.int .i64 i) ∧ V.frozen? ⟨B, 0, none⟩ = false
theorem AtQ.of_block {V V' : World} {B i : Nat} (h : AtQ V B i) (hb : V'.heap[B]? = V.heap[B]?) : AtQ V' B i :=
  ⟨(World.cell?_of_block (w := V) (a := ⟨B, 0, none⟩) hb).trans h.1, (World.frozen?_of_block (w := V) (a := ⟨B, 0, none⟩) hb).trans h.2⟩
theorem AtQ.keep {V V' : World} {B i : Nat} (h : AtQ V B i) (hb : Below V.heap.size V V') : AtQ V' B i := h.of_block (hb.block _ (World.block_lt_of_cell? _ _ h.1))

attribute [local go_sem] Oper.semAt_some

/-- the call of yield takes the word -/
def YOk (l n : Nat) (J : List WX → World → Prop) (M : Nat → Prop) (m : Nat) (pre : List WX) (x : WX) (V : World) : Prop :=
  YieldAt Fence.wide m Tryz.prog l #[.int .i64 (pre.length : Nat), .slice x.a n x.c] V fun e V' => e = .returned (.bool true) ∧ J (pre ++ [x]) V' ∧ Moves V V' M M

theorem Moves.wide {w w' : World} {M I : Nat → Prop} (h : Moves w w' M M) (hMI : ∀ x, M x → I x) : Moves w w' I I :=
  ⟨h.os, h.tape, h.output, h.size, fun b hb hI => h.block b hb fun hm => hI (hMI _ hm), fun _ h => .inl h⟩
theorem Moves.setAt (w : World) {I : Nat → Prop} {B : Nat} (hB : I B) (v : Value) : Moves w (w.setCell ⟨B, 0, none⟩ v) I I := by
  have hb0 : Below 0 w (w.setCell ⟨B, 0, none⟩ v) := (Below.refl 0 w).setCell (Nat.zero_le _) v
  exact ⟨hb0.os, hb0.tape, hb0.output, hb0.size, fun b hb hI => Below.heap_setCell _ _ _ _ fun e => hI (e ▸ hB), fun b hb => .inl hb⟩

set_option maxRecDepth 100000 in
set_option maxHeartbeats 4000000 in
theorem fromLeaf_any {W0 : World} {b : Nat} {G : Tbl} {Bc Bat By Bg Bf l : Nat} {ag : Option Addr} {k cg n : Nat} {L : List (List Int)} {I : Nat → Prop}
    (J : List WX → World → Prop) (M : Nat → Prop) (hMI : ∀ x, M x → I x) (hIB : I Bat) (hMB : ¬ M Bat) (hIl : ∀ x, I x → x < W0.heap.size)
    (HE : ∀ V, Moves W0 V I I → WEnv V b G Bc Bat By Bg Bf l ag k cg L)
    (hJa : ∀ pre V V', J pre V → Below V.heap.size V V' → J pre V')
    (hJb : ∀ pre V v, (∀ x ∈ pre, ablk x.a ≠ Bat) → J pre V → J pre (V.setCell ⟨Bat, 0, none⟩ v))
    (N : Nat)
    (hY : ∀ m pre x V, Moves W0 V I I → J pre V → pre.length < N → Ints V x.a n x.l → (∀ j, I j → j ≠ ablk x.a) → YOk l n J M m pre x V)
    (hN : N ≤ 1000000) (hn : n ≤ 1000000) (hn1 : 1 ≤ n)
    (au : Option Addr) (cu : Nat) (u : List Int) (pre : List WX) (W : World) (hW : Moves W0 W I I) (hJ : J pre W) (hp : ∀ x ∈ pre, ablk x.a ≠ Bat)
    (hat0 : AtQ W Bat pre.length) (hu : Ints W au n u) (hau : ∀ j, I j → j ≠ ablk au) (hlt : pre.length < N) :
    Calls Tryz.prog 109 #[.int .i64 k, .slice au n cu, .pointer (some ⟨Bc, 0, none⟩), .pointer (some ⟨Bat, 0, none⟩), .pointer (some ⟨By, 0, none⟩), .pointer (some ⟨Bg, 0, none⟩), .pointer (some ⟨Bf, 0, none⟩)] W
      fun e V => e = .returned (.bool true) ∧ ∃ xs : List WX, xs.map WX.l = [u] ∧ J (pre ++ xs) V ∧ (∀ x ∈ pre ++ xs, ablk x.a ≠ Bat) ∧ AtQ V Bat (pre ++ xs).length ∧ Moves W V I I := by
  obtain rfl : u.length = n := hu.len
  have E := HE W hW
  obtain ⟨cgen, hmat, cyl, cgp, hgf, cfr, hltB⟩ := E
  have hat := hat0.1
  have hfz := hat0.2
  clear hmat cgp hgf cfr
  have HHE := Lib.hid HE
  have HJa := Lib.hid hJa
  have HJb := Lib.hid hJb
  have HY := Lib.hid hY
  have Hau := Lib.hid hau
  have Hp := Lib.hid hp
  clear HE hJa hJb hY hau hp
  refine (callsIn_wide (n := 8)).1 ?_
  refine callsIn_of_wp Tryz.func109 rfl trivial ?_ rfl
  simp only [Tryz.ntmps109, List.size_toArray, List.length_cons, List.length_nil, Nat.reduceAdd, Nat.reduceSub, Array.replicate_succ, Array.replicate_zero, List.push_toArray, List.append_toArray, List.nil_append, List.cons_append]
  gi_wp2
  obtain ⟨W1, hW1e⟩ : ∃ W1, W1 = W.setCell ⟨Bat, 0, none⟩ (Value.int .i64 ((pre.length : Int) + 1)) := ⟨_, rfl⟩
  rw [← hW1e]
  have hm1 : Moves W W1 I I := by rw [hW1e]; exact Moves.setAt _ hIB _
  have hM1 := hW.trans hm1
  have cyl1 := (HHE.out W1 hM1).yl
  have cat1 : W1.cell? ⟨Bat, 0, none⟩ = some (.int .i64 ((pre.length : Int) + 1)) := by rw [hW1e]; exact World.cell?_setCell_same' _ _ _ (by rw [hat]; rfl)
  have fat1 : W1.frozen? ⟨Bat, 0, none⟩ = false := by rw [hW1e, World.frozen?_setCell]; exact hfz
  have hu1 : Ints W1 au u.length u := hu.moves hm1 (fun _ h => Hau.out _ h rfl)
  have hJ1 : J pre W1 := by rw [hW1e]; exact HJb.out _ _ _ Hp.out hJ
  have hudr : Ints W1.drew au u.length u := hu1.keep (Below.refl _ _).drew
  have HS : Hid (∀ V a4 c4, V.ownsRow W1.drew.heap.size 3 1 (.slice a4 u.length c4) u.length (u.map (Value.int .i64)) → Below W1.drew.heap.size W1.drew V →
      V.cell? ⟨By, 0, none⟩ = some (.func (.yield l) #[] #[]) ∧ V.cell? ⟨Bat, 0, none⟩ = some (.int .i64 ((pre.length : Int) + 1)) ∧ V.frozen? ⟨Bat, 0, none⟩ = false ∧ ablk a4 ≠ Bat ∧ Moves W V I I ∧ YOk l u.length J M 7 pre ⟨a4, c4, u⟩ V) := by
    intro V a4 c4 ho hb
    have hbV : Below W1.heap.size W1 V := (Below.refl _ W1).drew.trans hb
    have hMV : Moves W1 V I I := Moves.of_below hbV I
    obtain ⟨ia, _⟩ := Ints.own ho
    have hne := own_ne ho (fun e => by have := ia.pl (by omega); rw [e] at this; cases this)
    have hBl : Bat < W1.heap.size := (HHE.out W1 hM1).lt
    have hsz : W1.drew.heap.size = W1.heap.size := rfl
    refine ⟨(HHE.out V (hM1.trans hMV)).yl, (hbV.cell (p := ⟨Bat, 0, none⟩) hBl).trans cat1, (hbV.frozen (p := ⟨Bat, 0, none⟩) hBl).trans fat1, by show ablk a4 ≠ _; omega, hm1.trans hMV, ?_⟩
    refine HY.out 7 pre ⟨a4, c4, u⟩ V (hM1.trans hMV) (HJa.out _ _ _ hJ1 hbV) hlt ia fun j hj => ?_
    have h1 := hIl j hj
    have h2 := hM1.size
    show j ≠ ablk a4
    omega
  clear hW1e hJ1 hM1 hu1 hm1 hat
  have hwr : IntKind.i64.wrap ((pre.length : Nat) : Int) = (pre.length : Nat) := IntWalk.i64_in _ (by omega)
  have hmx : Tryz.prog.follows .mixedOrders = true := by kernel_rfl
  gi_region_with_o (first
    | ((try refine ⟨trivial, ?_⟩); gi_at_call 110; refine (callsIn_wide.2 (clone1_any au u.length cu u hudr hn)).mono ?_; rintro e w4 ⟨a4, c4, rfl, ho4, hb4⟩; obtain ⟨cyl4, cat4, fat4, hne4, hm4, fn, tmps, assign, body, hy, hR⟩ := HS.out _ _ _ ho4 hb4)
    | (refine hR.mono ?_; rintro e V ⟨rfl, hJ5, hm5⟩))
  all_goals gi_wp2
  all_goals go_ret
  all_goals exact ⟨rfl, [⟨a4, c4, u⟩], rfl, hJ5, fun x hx => by
      rcases List.mem_append.1 hx with hx | hx
      · exact Hp.out x hx
      · rw [List.mem_singleton.1 hx]; exact hne4, by
      have h1 : AtQ V Bat (pre.length + 1) := AtQ.of_block ⟨cat4, fat4⟩ (hm5.block _ (World.block_lt_of_cell? _ _ cat4) hMB)
      rw [List.length_append]; exact h1, hm4.trans (hm5.wide hMI)⟩
end

/- The walk of code.Walk: the inner function. -/
section
open Go.RowKit

set_option maxHeartbeats 400000 in
theorem gOrder {w : World} {b : Nat} {G : Tbl} (h : GFw w b G) :
    Calls Tryz.prog 107 #[.pointer (some ⟨b, 0, none⟩)] w fun e w' => e = .returned (.int .i64 (G.q : Nat)) ∧ w = w' := by
  have hc := h.cq
  go_enter Tryz.func107, Tryz.ntmps107
  go_wp2
  go_ret
  exact ⟨rfl, rfl⟩

theorem nth_drop_cons (L : List (List Int)) {r : Nat} (h : r < L.length) : L.drop r = nthR L r :: L.drop (r + 1) := by
  rw [nthR_getElem h]; exact List.drop_eq_getElem_cons h

/-- what the inner function does at the row r with d rows to come -/
def FromOk (J : List WX → World → Prop) (I : Nat → Prop) (W0 : World) (G : Tbl) (Bc Bat By Bg Bf n N : Nat) (R : List (List Int)) (r : Int) (d : Nat) : Prop :=
  ∀ (au : Option Addr) (cu : Nat) (u : List Int) (pre : List WX) (W : World), Moves W0 W I I → J pre W → (∀ x ∈ pre, ablk x.a ≠ Bat) →
    AtQ W Bat pre.length → Ints W au n u → (∀ j, I j → j ≠ ablk au) → (∀ x ∈ u, G.El x) → pre.length + G.q ^ d ≤ N →
    Calls Tryz.prog 109 #[.int .i64 r, .slice au n cu, .pointer (some ⟨Bc, 0, none⟩), .pointer (some ⟨Bat, 0, none⟩), .pointer (some ⟨By, 0, none⟩), .pointer (some ⟨Bg, 0, none⟩), .pointer (some ⟨Bf, 0, none⟩)] W
      fun e V => e = .returned (.bool true) ∧ ∃ xs : List WX, xs.map WX.l = wlkS G.ops G.q R u ∧ J (pre ++ xs) V ∧ (∀ x ∈ pre ++ xs, ablk x.a ≠ Bat) ∧ AtQ V Bat (pre ++ xs).length ∧ Moves W V I I

set_option maxRecDepth 100000 in
set_option maxHeartbeats 8000000 in
theorem fromNode_any {W0 : World} {b : Nat} {G : Tbl} {Bc Bat By Bg Bf l : Nat} {ag : Option Addr} {k cg n : Nat} {L : List (List Int)} {I : Nat → Prop}
    (J : List WX → World → Prop) (hIB : I Bat) (hIl : ∀ x, I x → x < W0.heap.size)
    (HE : ∀ V, Moves W0 V I I → WEnv V b G Bc Bat By Bg Bf l ag k cg L)
    (hJa : ∀ pre V V', J pre V → Below V.heap.size V V' → J pre V')
    (N : Nat) (hn : n ≤ 1000000) (hn1 : 1 ≤ n) (hL : Rws G.El n L) (hk6 : k ≤ 1000000) (hops : FCl G.ops G.El) (d r : Nat) (hrd : r + (d + 1) = k)
    (hI : FromOk J I W0 G Bc Bat By Bg Bf n N (L.drop (r + 1)) ((r : Int) + 1) d) : FromOk J I W0 G Bc Bat By Bg Bf n N (L.drop r) r (d + 1) := by
  intro au cu u pre W hW hJ hp hat hu hau hue hcnt
  obtain rfl : u.length = n := hu.len
  have hrk : r < k := by omega
  have E := HE W hW
  have hLl : L.length = k := E.mat.len
  have hq2 : 2 ≤ G.q := E.gf.q2
  have hq256 : G.q ≤ 256 := E.gf.q256
  have Hdrop : Hid (L.drop r = nthR L r :: L.drop (r + 1)) := nth_drop_cons L (by omega)
  have Hcnt := Lib.hid hcnt
  have HI := Lib.hid hI
  have HJa := Lib.hid hJa
  have HHE := Lib.hid HE
  have HIl := Lib.hid hIl
  have Hau := Lib.hid hau
  have Hue := Lib.hid hue
  have HL := Lib.hid hL
  have Hp := Lib.hid hp
  have HLl := Lib.hid hLl
  have Hhat := Lib.hid hat
  obtain ⟨cgen, hmat, cyl, cgp, hgf, cfr, hltB⟩ := E
  have hne : (decide ((r : Int) = (k : Int))) = false := by simp; omega
  clear hmat cyl cfr hltB hcnt hI hJa HE hIl hau hue hL hp hat hLl
  go_enter Tryz.func109, Tryz.ntmps109
  go_wp2_with (go_at_call 107; refine (gOrder hgf).mono ?_; rintro e w' ⟨rfl, rfl⟩)
  go_loopw [29] (fun iv wr => ∃ (t : Nat) (xs : List WX), t ≤ G.q ∧ iv = .int .i64 t ∧ xs.map WX.l = wlkTo G.ops G.q (nthR L r) (L.drop (r + 1)) u t ∧ J (pre ++ xs) wr ∧ Hid (∀ x ∈ pre ++ xs, ablk x.a ≠ Bat) ∧
      Hid (AtQ wr Bat (pre ++ xs).length) ∧ Moves W wr I I) (fun iv _ => G.q - (intOf iv).toNat)
  case atStart => exact ⟨0, [], Nat.zero_le _, rfl, by simp [wlkTo], by rw [List.append_nil]; exact hJ, by rw [List.append_nil]; exact Hp.out, by rw [List.append_nil]; exact Hhat.out, Moves.refl _ _⟩
  case round =>
    obtain ⟨t, xs, ht, rfl, hxs, hJx, hpx, hatx, hmx⟩ := hrel
    by_cases hlt : t < G.q
    · generalize wr = X1 at *
      have hMX := hW.trans hmx
      have hux : Ints X1 au u.length u := hu.moves hmx (fun _ h => Hau.out _ h rfl)
      have EX := HHE.out X1 hMX
      obtain ⟨ar, mr, cr, hrow, hrI⟩ := EX.mat.cell r (by omega)
      have Hxs := Lib.hid hxs
      clear hxs
      have hrl : (nthR L r).length = u.length := (HL.out _ (nthR_mem (by rw [HLl.out]; exact hrk))).1
      obtain rfl : mr = u.length := by rw [← hrl]; exact hrI.len.symm
      have HrI := Lib.hid hrI
      have hplG := EX.mat.pl
      go_wp2_with (go_at_call 110; refine (clone1_any au u.length cu u hux hn).mono ?_; rintro e w4 ⟨a4, c4, rfl, ho4, hb4⟩; have E4 := HHE.out w4 (hMX.trans (Moves.of_below hb4 I)); have g4 := E4.gen; have r4 := (hb4.cell (p := ⟨ablk ag, aoff ag + r, none⟩) (World.block_lt_of_cell? _ _ hrow)).trans hrow)
      have hNl := addS_length G.ops u t (nthR L r) hrl
      have hrE : ∀ x ∈ nthR L r, G.El x := (HL.out _ (nthR_mem (by rw [HLl.out]; exact hrk))).2
      have hte : G.El (t : Int) := ⟨by omega, by omega⟩
      have hNe := addS_el hops Hue.out hrE hte hrl
      have hNth : ∀ j, j < u.length → nth (addS G.ops u t (nthR L r)) j = if (t : Int) ≠ 0 ∧ nth (nthR L r) j ≠ 0 then G.add (nth u j) (G.mul t (nth (nthR L r) j)) else nth u j := by
        intro j hj
        by_cases h0 : (t : Int) = 0
        · rw [if_neg (fun h => h.1 h0)]; unfold addS; rw [if_pos h0]
        · rw [nth_addS G.ops u t _ j hrl hj h0]
          by_cases h1 : nth (nthR L r) j = 0
          · rw [if_pos h1, if_neg (fun h => h.2 h1)]
          · rw [if_neg h1, if_pos ⟨h0, h1⟩]; rfl
      have HNl := Lib.hid hNl
      have HNe := Lib.hid hNe
      have HNth := Lib.hid hNth
      have HrE := Lib.hid hrE
      have Hrl := Lib.hid hrl
      have Hsuc : Hid (wlkTo G.ops G.q (nthR L r) (L.drop (r + 1)) u (t + 1) = wlkTo G.ops G.q (nthR L r) (L.drop (r + 1)) u t ++ wlkS G.ops G.q (L.drop (r + 1)) (addS G.ops u t (nthR L r))) := wlkTo_succ _ _ _ _ _ _
      have hlX : Hid (X1.heap.size ≥ W0.heap.size) := hMX.size
      have Hr : Hid (Ints X1 ar u.length (nthR L r)) := hrI
      clear hNl hNe hNth hrE hrl hux EX E4 g4 r4 hrI HrI hplG
      generalize addS G.ops u t (nthR L r) = Nw at *
      generalize hRo : nthR L r = Ro at *
      have HRo := Lib.hid hRo
      clear hRo
      go_loopw [40] (fun iv wr => ∃ kk : Nat, kk ≤ u.length ∧ iv = .int .i64 kk ∧ wr.ownsRow X1.heap.size 3 1 (.slice a4 u.length c4) u.length ((mixTo Nw u kk).map (Value.int .i64)) ∧ Below X1.heap.size X1 wr) (fun iv _ => u.length - (intOf iv).toNat)
      case atStart => exact ⟨0, Nat.zero_le _, rfl, by rw [mixTo_zero]; exact ho4, hb4⟩
      case round =>
        obtain ⟨kk, hkk, rfl, hown, hbr⟩ := hrel
        have Er := HHE.out wr (hMX.trans (Moves.of_below hbr I))
        by_cases hlk : kk < u.length
        · have hir := Hr.out.keep hbr
          have hpr := hir.pl
          have cir := hir.cell kk hlk
          have hkN : Nw.length = u.length := HNl.out
          have hval := HNth.out kk hlk
          have hmix := nth_mixTo Nw u kk kk hkN (by omega)
          rw [if_neg (by omega)] at hmix
          by_cases hz : (t : Int) ≠ 0 ∧ nth Ro kk ≠ 0
          · rw [if_pos hz] at hval
            have hset := mixTo_set Nw u kk hkN hlk
            rw [hval] at hset
            have Hset := Lib.hid hset
            obtain ⟨hiv, hmv⟩ := Ints.own hown
            have hpv := hiv.pl
            have cv1 := hiv.cell kk hlk
            have fv1 := (hmv (by omega)).2 kk hlk
            rw [hmix] at cv1
            have elu : G.El (nth u kk) := Hue.out _ (nth_mem hlk)
            have elr : G.El (nth Ro kk) := HrE.out _ (nth_mem (by rw [Hrl.out]; exact hlk))
            have cgr := Er.gp
            have hGr := Er.gf
            have elm : ∀ x y, G.El (G.mul x y) := fun x y => Tbl.mul_el hGr x y
            have HG : Hid (GFw wr.drew b G ∧ ∀ n, GFw (wr.drewN n) b G) := ⟨hGr.keep (Below.refl _ _).drew, fun n => hGr.drewN n⟩
            have hz1 : ((t : Int) != 0) = true := by simpa using hz.1
            have hz2 : (nth Ro kk != 0) = true := by simpa using hz.2
            have Hiv := Lib.hid hiv
            clear hval hmix hset hkN hz Er hGr hir hiv hmv
            go_wp2_with fail
            go_region_law ((first
              | (go_simp; go_at_call 112; ((with_reducible refine (gMul t (nth Ro kk) HG.out.1 hte elr).mono ?_); rintro e w4 ⟨m4, rfl, rfl⟩))
              | (go_simp; go_at_call 112; ((with_reducible refine (gMul t (nth Ro kk) (HG.out.2 _) hte elr).mono ?_); rintro e w4 ⟨m4, rfl, rfl⟩))
              | (go_simp; go_at_call 111; ((with_reducible refine (gAdd (nth u kk) (G.mul t (nth Ro kk)) (HG.out.2 _) elu (elm _ _)).mono ?_); rintro e w4 ⟨m5, rfl, rfl⟩))))
            all_goals (
              go_wp2_with fail
              go_roundw
              case rel =>
                have hdr : Drawn wr (wr.drewN (1 + m4 + m5)) := ⟨_, rfl⟩
                have h1 := own_set (w := wr.drewN (1 + m4 + m5)) hown kk hlk (.int .i64 (G.add (nth u kk) (G.mul t (nth Ro kk))))
                rw [← List.map_set, Hset.out] at h1
                have hlo := (own_ne hown (fun e => by have := hpv (by omega); rw [e] at this; cases this)).1
                exact ⟨kk + 1, by omega, by go_num, h1, (hbr.trans (hdr.below.mono hbr.size)).trans ((Below.refl _ _).setCell (p := ⟨ablk a4, aoff a4 + kk, none⟩) hlo _)⟩
              case measure => simp [intOf] <;> omega)
          · rw [if_neg hz] at hval
            have hsame := mixTo_same Nw u kk hkN hlk hval
            have Hsame := Lib.hid hsame
            by_cases h0 : (t : Int) = 0
            · have hz1 : ((t : Int) != 0) = false := by simpa using h0
              clear hval hmix hsame hkN hz h0 Er
              go_wp2_with fail
              go_roundw
              case rel => exact ⟨kk + 1, by omega, by go_num, by rw [Hsame.out]; exact hown, hbr⟩
              case measure => simp [intOf] <;> omega
            · have hz1 : ((t : Int) != 0) = true := by simpa using h0
              have hz2 : (nth Ro kk != 0) = false := by
                have : nth Ro kk = 0 := by
                  by_cases h1 : nth Ro kk = 0
                  · exact h1
                  · exact absurd ⟨h0, h1⟩ hz
                simpa using this
              clear hval hmix hsame hkN hz h0 Er
              go_wp2_with fail
              go_roundw
              case rel => exact ⟨kk + 1, by omega, by go_num, by rw [Hsame.out]; exact hown, hbr⟩
              case measure => simp [intOf] <;> omega
        · obtain rfl : kk = u.length := by omega
          rw [mixTo_all Nw u _ HNl.out rfl] at hown
          have hMr : Moves X1 wr I I := Moves.of_below hbr I
          have hfr := Er.fr
          have hJr := HJa.out _ _ _ hJx hbr
          have hatr : AtQ wr Bat (pre ++ xs).length := AtQ.keep hatx.out hbr
          obtain ⟨hiv, _⟩ := Ints.own hown
          have hblk : ∀ j, I j → j ≠ ablk a4 := fun j hj => by
            have h1 := HIl.out j hj
            have h2 := (own_ne hown (fun e => by have := hiv.pl (by omega); rw [e] at this; cases this)).1
            have h3 : X1.heap.size ≥ W0.heap.size := hlX
            omega
          have hxl : xs.length = t * G.q ^ d := by
            have h1 := congrArg List.length Hxs.out
            rw [List.length_map, wlkTo_length, List.length_drop, HLl.out, show k - (r + 1) = d by omega] at h1
            exact h1
          have hcnt2 : (pre ++ xs).length + G.q ^ d ≤ N := by
            have h1 := Hcnt.out
            have h2 : (t + 1) * G.q ^ d ≤ G.q * G.q ^ d := Nat.mul_le_mul_right _ (by omega)
            rw [Nat.pow_succ, Nat.mul_comm] at h1
            rw [Nat.add_mul, Nat.one_mul] at h2
            rw [List.length_append, hxl]
            omega
          have Hc := Lib.hid (HI.out a4 c4 Nw (pre ++ xs) wr (hMX.trans hMr) hJr hpx.out hatr hiv hblk HNe.out hcnt2)
          clear hiv hblk hxl hcnt2 hatr hJr Er
          go_wp2_with (go_at_call 109; refine Hc.out.mono ?_; rintro e V ⟨rfl, xs2, hx2, hJ2, hp2, hat2, hm2⟩)
          have Hx2 := Lib.hid hx2
          have Hp2 := Lib.hid hp2
          have Hat2 := Lib.hid hat2
          clear hx2 hp2 hat2
          go_wp2_with fail
          go_roundw
          case rel => exact ⟨t + 1, xs ++ xs2, by omega, by go_num, by rw [List.map_append, Hxs.out, Hx2.out, ← Hsuc.out, HRo.out], by rw [← List.append_assoc]; exact hJ2, by rw [← List.append_assoc]; exact Hp2.out, by rw [← List.append_assoc]; exact Hat2.out, hmx.trans (hMr.trans hm2)⟩
          case measure => simp [intOf] <;> omega
    · obtain rfl : t = G.q := by omega
      go_wp2_with fail
      go_ret
      refine ⟨rfl, xs, ?_, hJx, hpx.out, hatx.out, hmx⟩
      rw [hxs, Hdrop.out]; rfl

/-- the inner function, at any row -/
theorem from_any {W0 : World} {b : Nat} {G : Tbl} {Bc Bat By Bg Bf l : Nat} {ag : Option Addr} {k cg n : Nat} {L : List (List Int)} {I : Nat → Prop}
    (J : List WX → World → Prop) (M : Nat → Prop) (hMI : ∀ x, M x → I x) (hIB : I Bat) (hMB : ¬ M Bat) (hIl : ∀ x, I x → x < W0.heap.size)
    (HE : ∀ V, Moves W0 V I I → WEnv V b G Bc Bat By Bg Bf l ag k cg L)
    (hJa : ∀ pre V V', J pre V → Below V.heap.size V V' → J pre V')
    (hJb : ∀ pre V v, (∀ x ∈ pre, ablk x.a ≠ Bat) → J pre V → J pre (V.setCell ⟨Bat, 0, none⟩ v))
    (N : Nat)
    (hY : ∀ m pre x V, Moves W0 V I I → J pre V → pre.length < N → Ints V x.a n x.l → (∀ j, I j → j ≠ ablk x.a) → YOk l n J M m pre x V)
    (hN : N ≤ 1000000) (hn : n ≤ 1000000) (hn1 : 1 ≤ n) (hL : Rws G.El n L) (hk6 : k ≤ 1000000) (hops : FCl G.ops G.El) : ∀ (d r : Nat), r + d = k →
      FromOk J I W0 G Bc Bat By Bg Bf n N (L.drop r) r d
  | 0, r, hr => by
    obtain rfl : r = k := hr
    intro au cu u pre W hW hJ hp hat hu hau hue hcnt
    refine (fromLeaf_any J M hMI hIB hMB hIl HE hJa hJb N hY hN hn hn1 au cu u pre W hW hJ hp hat hu hau (by rw [Nat.pow_zero] at hcnt; omega)).mono ?_
    rintro e V ⟨he, xs, h1, h2⟩
    refine ⟨he, xs, ?_, h2⟩
    rw [h1, List.drop_of_length_le (by rw [(HE W hW).mat.len]; exact Nat.le_refl _)]
    rfl
  | d + 1, r, hr => fromNode_any J hIB hIl HE hJa N hn hn1 hL hk6 hops d r hr (from_any J M hMI hIB hMB hIl HE hJa hJb N hY hN hn hn1 hL hk6 hops d (r + 1) (by omega))
end

/- The walk of matrix.Vec, at valid arguments. -/
section
open Go.RowKit
end

/- The walks of space.view's word, reduce, has; zero; code.list. -/
section
open Go.RowKit
end

/- The walks of code.list, word, space.Has, code.Has, at words of the code. -/
section
open Go.RowKit
end

/- The walks of the references: Combine of layer 09, List and Encode of layer 12. -/
section
open Go.RowKit

/-- the error of a list of n elements -/
def lstE (q : Int) (l : List Int) (n : Nat) : Int := if l.length = n then elsE q l else 4

set_option maxHeartbeats 1600000 in
theorem rList12_any (P M : Int) (am : Option Addr) (mn cm : Nat) (a : Option Addr) (n c : Nat) (l : List Int) (k : Nat) (w : World) (hi : Ints w a n l) :
    Calls Tryz.prog 22 #[.agg #[.int .i64 P, .int .i64 M, .slice am mn cm], .slice a n c, .int .i64 k] w fun e w' => e = .returned (.int .i64 (lstE (orderS P M) l k)) ∧ Below w.heap.size w w' := by
  have hl := hi.len
  go_enter Tryz.func22, Tryz.ntmps22
  go_upto_region 1 with fail
  obtain ⟨W, hW⟩ : ∃ W : World, W = w.alloc (.cells #[.int .i64 P, .int .i64 M, .slice am mn cm] 24) := ⟨_, rfl⟩
  rw [← hW]
  have hbW : Below w.heap.size w W := by rw [hW]; exact below1 _ _
  have x0 : Box W w.heap.size [.int .i64 P, .int .i64 M, .slice am mn cm] := by rw [hW]; exact Box.new _ _ _ rfl
  have c0 := x0.cell 0 rfl
  have c1 := x0.cell 1 rfl
  have c2 := x0.cell 2 rfl
  clear hW x0
  by_cases h1 : n = k
  · have HL : Hid (lstE (orderS P M) l k = elsE (orderS P M) l) := by show _ = _; rw [lstE, if_pos (by omega)]
    have Hc := Lib.hid (rEntries_any P M am mn cm a n c l W (hi.keep hbW))
    have h1' : ((n : Int) != k) = false := by rw [show (n : Int) = k by omega]; simp
    clear h1 hl
    generalize elsE (orderS P M) l = er at *
    go_wp2_with fail
    refine Hc.out.mono ?_
    rintro e w1 ⟨rfl, hb1⟩
    have hF := Below.next hbW hb1
    go_wp2_with fail
    go_ret
    exact ⟨ret_int HL.out.symm, hF⟩
  · have HL : Hid (lstE (orderS P M) l k = 4) := by show _ = _; rw [lstE, if_neg (by omega)]
    have h1' : ((n : Int) != k) = true := by simp only [bne_iff_ne, ne_eq]; omega
    clear h1 hl
    go_wp2_with fail
    go_ret
    exact ⟨ret_int HL.out.symm, hbW⟩
end

/- The walks of code.list at any list, code.Encode, codewrightref25.Weight. -/
section
open Go.RowKit

theorem any_els (q : Int) (l : List Int) : l.any (fun x => !(decide (0 ≤ x) && decide (x < q))) = !(elsQ q l) := by
  unfold elsQ
  induction l with
  | nil => rfl
  | cons x l ih =>
    rw [List.any_cons, List.all_cons, ih]
    unfold isQ
    cases (decide (0 ≤ x) && decide (x < q)) <;> simp

set_option maxRecDepth 100000 in
set_option maxHeartbeats 1600000 in
theorem rWeight25_any (a : Option Addr) (n c : Nat) (l : List Int) (w : World) (h : Ints w a n l) :
    Calls Tryz.prog 19 #[.slice a n c] w fun e w' => e = .returned (.int .i64 (wtL l)) ∧ w' = w := by
  have Hl := Lib.hid h.len
  have hpl := h.pl
  have hmax := h.max
  unfold maxLen at hmax
  have hle : ∀ k, k ≤ n → (wtL (l.take k) : Int) ≤ k := fun k hk => by
    have h1 : wtL (l.take k) ≤ (l.take k).length := List.countP_le_length
    rw [List.length_take] at h1
    omega
  have Hle := Lib.hid hle
  have HT : Hid (wtL (l.take n) = wtL l) := by show _ = _; rw [List.take_of_length_le (by rw [Hl.out]; exact Nat.le_refl _)]
  clear hle
  go_enter Tryz.func19, Tryz.ntmps19
  go_wp2_with fail
  go_loopw [3, 4] (fun cv iv wr => ∃ k : Nat, k ≤ n ∧ iv = .int .i64 k ∧ cv = .int .i64 (wtL (l.take k)) ∧ wr = w) (fun _ iv _ => n - (intOf iv).toNat)
  case atStart => exact ⟨0, Nat.zero_le _, rfl, by simp [wtL], rfl⟩
  case round =>
    obtain ⟨k, hk, rfl, rfl, rfl⟩ := hrel
    by_cases hlt : k < n
    · have ck := h.cell k hlt
      have hkl : k < l.length := by rw [Hl.out]; exact hlt
      have hst : wtL (l.take (k + 1)) = wtL (l.take k) + (if nth l k ≠ 0 then 1 else 0) := by
        unfold wtL
        rw [List.take_succ_eq_append_getElem hkl, List.countP_append, List.countP_singleton, nth_getElem hkl]
        simp
      have hb := Hle.out k hk
      obtain ⟨t, ht⟩ : ∃ t, wtL (l.take k) = t := ⟨_, rfl⟩
      obtain ⟨y, hy⟩ : ∃ y, nth l k = y := ⟨_, rfl⟩
      rw [ht] at hst hb ⊢
      rw [hy] at hst ck
      clear ht hy hkl
      by_cases h0 : y = 0
      · have hd : (y != 0) = false := by simpa using h0
        have Hst : Hid (wtL (l.take (k + 1)) = t) := by show _ = _; rw [hst, if_neg (by simpa using h0)]; rfl
        clear h0 hst
        go_wp2_with fail
        go_roundw
        case rel => exact ⟨k + 1, by omega, by go_num, by rw [Hst.out], by simp⟩
        case measure => simp [intOf] <;> omega
      · have hd : (y != 0) = true := by simpa using h0
        have Hst : Hid (wtL (l.take (k + 1)) = t + 1) := by show _ = _; rw [hst, if_pos h0]
        clear h0 hst
        go_wp2_with fail
        go_roundw
        case rel => exact ⟨k + 1, by omega, by go_num, by rw [Hst.out]; go_num, by simp⟩
        case measure => simp [intOf] <;> omega
    · obtain rfl : k = n := by omega
      rw [HT.out]
      go_wp2_with fail
      go_ret
      exact ⟨rfl, rfl⟩
end

/- The walk of code.Walk: the iterator. -/
section
open Go.RowKit

set_option maxRecDepth 100000 in
set_option maxHeartbeats 8000000 in
theorem walk1_any (P M : Int) (am : Option Addr) (mn cm : Nat) (mod : List Int) (n : Nat) (a : Option Addr) (k c : Nat) (L : List (List Int)) (W : World) (Bc l : Nat) (hE : codeE P M mod n L = 0)
    (x0 : Box W Bc [.int .i64 P, .int .i64 M, .slice am mn cm, .int .i64 n, .slice a k c]) (hmod : Ints W am mn mod) (hi : Mat W a k L)
    (J : List WX → World → Prop) (MM : Nat → Prop) (hML : ∀ x, MM x → x < W.heap.size)
    (hmat : ∀ V, (∀ x, x < W.heap.size → ¬ MM x → V.heap[x]? = W.heap[x]?) → Mat V a k L ∧ V.cell? ⟨Bc, 4, none⟩ = some (.slice a k c))
    (hJa : ∀ pre V V', J pre V → Below V.heap.size V V' → J pre V')
    (hJb : ∀ B pre V v, W.heap.size ≤ B → (∀ x ∈ pre, ablk x.a ≠ B) → J pre V → J pre (V.setCell ⟨B, 0, none⟩ v))
    (hY : ∀ m pre x V, J pre V → pre.length < (tblOf P M.toNat mod).q ^ k → Ints V x.a n x.l → (∀ j, MM j → j ≠ ablk x.a) → YOk l n J MM m pre x V)
    (hN : (tblOf P M.toNat mod).q ^ k ≤ 1000000) (h0 : J [] W) :
    Calls Tryz.prog 108 #[.func (.yield l) #[] #[], .pointer (some ⟨Bc, 0, none⟩)] W fun e V => e = .returned (.tuple #[]) ∧
      ∃ xs : List WX, xs.map WX.l = wlkS (tblOf P M.toNat mod).ops (tblOf P M.toNat mod).q L (List.replicate n 0) ∧ J xs V ∧ Moves W V MM MM := by
  obtain ⟨N', em, hm1, hm64, F, hR⟩ := codeE_fld hE
  obtain rfl : n = N' := by omega
  have hk256 : k ≤ 256 := by rw [← hi.len]; exact (codeE_rws hE).choose_spec.2.2.2.1
  have hfB := (codeE_zero hE).1
  have hLk : L.length = k := hi.len
  have HCk : Hid (∀ V, Below W.heap.size W V → Calls Tryz.prog 76 #[.agg #[.int .i64 P, .int .i64 M, .slice am mn cm, .int .i64 n, .slice a k c]] V fun e w' => e = .returned (.int .i64 0) ∧ Below V.heap.size V w') := fun V hV => by
    have h := codeCheck_any P M am mn cm mod n a k c L V (hmod.keep hV) (hi.keep hV)
    rw [hE] at h
    exact h
  have HNw : Hid (∀ V, Below W.heap.size W V → Calls Tryz.prog 105 #[.agg #[.int .i64 P, .int .i64 M, .slice am mn cm]] V fun e w' => ∃ b, e = .returned (.tuple #[.pointer (some ⟨b, 0, none⟩), .int .i64 0]) ∧ GFs V.heap.size w' b (tblOf P M.toNat mod) ∧ V.heap.size ≤ b ∧ Below V.heap.size V w') := fun V hV => by
    refine (fieldNew_any P M am mn cm mod V (hmod.keep hV)).mono ?_
    rintro e w' (⟨h1, _⟩ | ⟨_, h2⟩)
    · rw [hfB] at h1; cases h1
    · exact h2
  obtain ⟨G, hG⟩ : ∃ G, tblOf P M.toNat mod = G := ⟨_, rfl⟩
  rw [hG] at HNw F hR hY hN ⊢
  have HX := Lib.hid x0
  have HJa := Lib.hid hJa
  have HJb := Lib.hid hJb
  have HY := Lib.hid hY
  have Hmat := Lib.hid hmat
  have HML := Lib.hid hML
  have H0 := Lib.hid h0
  have HR := Lib.hid hR
  have HN := Lib.hid hN
  have HLk := Lib.hid hLk
  clear hG hfB hE em hmod hi hJa hJb hY hmat hML h0 hR hN hLk
  clear x0
  go_enter Tryz.func108, Tryz.ntmps108
  go_upto_region 1 with fail
  obtain ⟨W1, hW1⟩ : ∃ W1 : World, W1 = W.alloc (.cells #[.func (.yield l) #[] #[]] 128) := ⟨_, rfl⟩
  rw [← hW1]
  have hb1 : Below W.heap.size W W1 := by rw [hW1]; exact below1 _ _
  have y1 : Box W1 W.heap.size [.func (.yield l) #[] #[]] := by rw [hW1]; exact Box.new _ _ _ rfl
  have Y1 := Lib.hid y1
  have x1 := HX.out.keep hb1
  have c0 := x1.cell 0 rfl
  have c1 := x1.cell 1 rfl
  have c2 := x1.cell 2 rfl
  have c3 := x1.cell 3 rfl
  have c4 := x1.cell 4 rfl
  clear hW1 y1 x1
  go_wp2_with (go_at_call 76; refine (HCk.out _ hb1).mono ?_; rintro e w2 ⟨rfl, hb2⟩; have x2 := (HX.out.keep hb1).keep hb2; have d0 := x2.cell 0 rfl; have d1 := x2.cell 1 rfl; have d2 := x2.cell 2 rfl; have d3 := x2.cell 3 rfl; have d4 := x2.cell 4 rfl; clear x2)
  refine (HNw.out w2 (Below.next hb1 hb2)).mono ?_
  rintro e w3 ⟨b, rfl, hG3, hbb, hb3⟩
  have HG3 := Lib.hid hG3
  have Hbb := Lib.hid hbb
  clear hG3 hbb d0 d1 d2 d3 d4 c0 c1 c2 c3 c4
  go_upto_region 5 with fail
  obtain ⟨W4, hW4⟩ : ∃ W4 : World, W4 = (((w3.alloc (.cells #[.pointer (some ⟨b, 0, none⟩)] 109)).alloc (.cells #[.int .i64 0] 3)).alloc (.cells #[.nilFunc] 128)) := ⟨_, rfl⟩
  rw [← hW4]
  have hb4 : Below w3.heap.size w3 W4 := by rw [hW4]; exact below3 _ _ _ _
  have hs4 : W4.heap.size = w3.heap.size + 3 := by rw [hW4]; simp
  have g4 : Box W4 w3.heap.size [.pointer (some ⟨b, 0, none⟩)] := by rw [hW4]; exact ((Box.new _ _ _ rfl).alloc _).alloc _
  have a4 : Box W4 (w3.heap.size + 1) [.int .i64 0] := by rw [hW4]; exact (Box.new _ _ _ (by simp)).alloc _
  have f4 : Box W4 (w3.heap.size + 1 + 1) [.nilFunc] := by rw [hW4]; exact Box.new _ _ _ (by simp)
  clear hW4
  have fc := f4.cell 0 rfl
  have ff := f4.frozen 0
  have G4 := Lib.hid g4
  have A4 := Lib.hid a4
  have F4 := Lib.hid f4
  clear g4 a4 f4
  have hst : ∀ (fn : Fn) (x y : Array Value), (store (⟨w3.heap.size + 1 + 1, 0, none⟩ : Addr) (.func fn x y)).run Tryz.prog W4 = .ok () (W4.setCell ⟨w3.heap.size + 1 + 1, 0, none⟩ (.func fn x y)) := fun fn x y => by
    rw [run_store _ _ _ _ _ rfl, fc]; simp [ff]
  go_upto_region 6 with fail
  have F5e : ∃ FV : Value, FV = .func (.func 109) #[] #[.pointer (some ⟨Bc, 0, none⟩), .pointer (some ⟨w3.heap.size + 1, 0, none⟩), .pointer (some ⟨W.heap.size, 0, none⟩), .pointer (some ⟨w3.heap.size, 0, none⟩), .pointer (some ⟨w3.heap.size + 1 + 1, 0, none⟩)] := ⟨_, rfl⟩
  obtain ⟨W5, hW5⟩ : ∃ W5 : World, W5 = W4.setCell ⟨w3.heap.size + 1 + 1, 0, none⟩ (.func (.func 109) #[] #[.pointer (some ⟨Bc, 0, none⟩), .pointer (some ⟨w3.heap.size + 1, 0, none⟩), .pointer (some ⟨W.heap.size, 0, none⟩), .pointer (some ⟨w3.heap.size, 0, none⟩), .pointer (some ⟨w3.heap.size + 1 + 1, 0, none⟩)]) := ⟨_, rfl⟩
  rw [← hW5]
  clear F5e
  have hb45 : Below (w3.heap.size + 2) W4 W5 := by rw [hW5]; exact (Below.refl _ _).setCell (p := ⟨w3.heap.size + 1 + 1, 0, none⟩) (Nat.le_refl _) _
  have fc5 : W5.cell? ⟨w3.heap.size + 1 + 1, 0, none⟩ = some (.func (.func 109) #[] #[.pointer (some ⟨Bc, 0, none⟩), .pointer (some ⟨w3.heap.size + 1, 0, none⟩), .pointer (some ⟨W.heap.size, 0, none⟩), .pointer (some ⟨w3.heap.size, 0, none⟩), .pointer (some ⟨w3.heap.size + 1 + 1, 0, none⟩)]) := by
    rw [hW5]; exact World.cell?_setCell_same' _ _ _ (by rw [fc]; rfl)
  have hs5 : W5.heap.size = w3.heap.size + 3 := by rw [hW5, ← hs4]; simp
  clear hW5 hst fc ff
  have hb12 := Below.next hb1 hb2
  have hb13 := Below.next hb12 hb3
  have hb35 : Below w3.heap.size w3 W5 := hb4.trans (hb45.mono (by omega))
  have hbW5 : Below W.heap.size W W5 := Below.next hb13 hb35
  have cN := (HX.out.keep hbW5).cell 3 rfl
  have gc5 : W5.cell? ⟨w3.heap.size, 0, none⟩ = some (.pointer (some ⟨b, 0, none⟩)) := (hb45.cell (p := ⟨w3.heap.size, 0, none⟩) (by show w3.heap.size < _; omega)).trans (G4.out.cell 0 rfl)
  have ac5 : AtQ W5 (w3.heap.size + 1) 0 := AtQ.of_block (V := W4) ⟨A4.out.cell 0 rfl, A4.out.frozen 0⟩ (hb45.block _ (by omega))
  have yc5 : W5.cell? ⟨W.heap.size, 0, none⟩ = some (.func (.yield l) #[] #[]) := ((Y1.out.keep hb2).keep hb3 |>.keep hb35).cell 0 rfl
  have hsz1 : W.heap.size < W1.heap.size := Y1.out.1
  have hsz2 := hb2.size
  have hsz3 := hb3.size
  have Hc : Hid (∀ V a1 c1, V.ownsRow W5.heap.size 3 1 (.slice a1 n c1) n ((List.replicate n (0 : Int)).map (Value.int .i64)) → Below W5.heap.size W5 V →
      Calls Tryz.prog 109 #[.int .i64 0, .slice a1 n c1, .pointer (some ⟨Bc, 0, none⟩), .pointer (some ⟨w3.heap.size + 1, 0, none⟩), .pointer (some ⟨W.heap.size, 0, none⟩), .pointer (some ⟨w3.heap.size, 0, none⟩), .pointer (some ⟨w3.heap.size + 1 + 1, 0, none⟩)] V
        fun e V' => e = .returned (.bool true) ∧ ∃ xs : List WX, xs.map WX.l = wlkS G.ops G.q L (List.replicate n 0) ∧ J xs V' ∧ Moves W V' MM MM) := by
    intro V a1 c1 hown hbV
    have hWV : Below W.heap.size W V := Below.next hbW5 hbV
    have h35V : Below w3.heap.size w3 V := hb35.trans (hbV.mono (by omega))
    have hMo : ∀ V', Moves V V' (fun x => MM x ∨ x = w3.heap.size + 1) (fun x => MM x ∨ x = w3.heap.size + 1) → ∀ x, x < W.heap.size → ¬ MM x → V'.heap[x]? = W.heap[x]? := fun V' hm x hx hn =>
      (hm.block x (by have := hWV.size; omega) (fun h => h.elim hn (by omega))).trans (hWV.block x hx)
    obtain ⟨hia, _⟩ := Ints.own hown
    have hres := from_any (W0 := V) (b := b) (G := G) (Bc := Bc) (Bat := w3.heap.size + 1) (By := W.heap.size) (Bg := w3.heap.size) (Bf := w3.heap.size + 1 + 1) (l := l) (ag := a) (k := k) (cg := c) (n := n) (L := L)
      (I := fun x => MM x ∨ x = w3.heap.size + 1) J MM (fun x h => .inl h) (.inr rfl) (fun h => by have := HML.out _ h; omega)
      (fun x h => by have := hWV.size; have := h35V.size; have := hbV.size; exact h.elim (fun h => by have := HML.out _ h; omega) (fun h => by omega))
      (fun V' hm => by
        obtain ⟨hma, hgc⟩ := Hmat.out V' (hMo V' hm)
        have hnI : ∀ x, W.heap.size ≤ x → x ≠ w3.heap.size + 1 → ¬ (MM x ∨ x = w3.heap.size + 1) := fun x h1 h2 h3 => h3.elim (fun h => by have := HML.out _ h; omega) h2
        refine ⟨hgc, hma, ?_, ?_, ?_, ?_, ?_⟩
        · exact hm.cell ((hbV.cell (p := ⟨W.heap.size, 0, none⟩) (World.block_lt_of_cell? _ _ yc5)).trans yc5) (hnI _ (Nat.le_refl _) (by show W.heap.size ≠ _; omega))
        · exact hm.cell ((hbV.cell (p := ⟨w3.heap.size, 0, none⟩) (World.block_lt_of_cell? _ _ gc5)).trans gc5) (hnI _ (by show W.heap.size ≤ w3.heap.size; omega) (by show w3.heap.size ≠ _; omega))
        · refine HG3.out V' fun x h1 h2 => (hm.block x (by have := h35V.size; omega) (hnI x (by omega) (by omega))).trans (h35V.block x h2)
        · exact hm.cell ((hbV.cell (p := ⟨w3.heap.size + 1 + 1, 0, none⟩) (World.block_lt_of_cell? _ _ fc5)).trans fc5) (hnI _ (by show W.heap.size ≤ w3.heap.size + 1 + 1; omega) (by show w3.heap.size + 1 + 1 ≠ _; omega))
        · have := hm.size; have := h35V.size; have := hbV.size; omega)
      HJa.out (fun pre V' v hp hj => HJb.out _ pre V' v (by omega) hp hj) (G.q ^ k)
      (fun m pre x V' _ hj hlt hix hI => HY.out m pre x V' hj hlt hix fun j hj' => hI j (.inl hj'))
      HN.out (by omega) hm1 HR.out (by omega) F.cl k 0 (by omega)
      a1 c1 (List.replicate n 0) [] V (Moves.refl _ _) (HJa.out _ _ _ H0.out hWV) (fun x hx => by simp at hx) (ac5.keep hbV) hia
      (fun j hj => by
        have h2 := (own_ne hown (fun e => by have := hia.pl (by omega); rw [e] at this; cases this)).1
        rcases hj with h | h
        · have := HML.out _ h; have := hbW5.size; omega
        · omega)
      (fun x hx => by rw [(List.mem_replicate.1 hx).2]; exact F.zero) (by simp)
    refine hres.mono ?_
    rintro e V' ⟨he, xs, h1, h2, _, _, h5⟩
    refine ⟨he, xs, by rw [h1, List.drop_zero], by simpa using h2, ?_⟩
    have hm0 : Moves W V' (fun x => MM x ∨ x = w3.heap.size + 1) (fun x => MM x ∨ x = w3.heap.size + 1) := (Moves.of_below hWV _).trans h5
    exact ⟨hm0.os, hm0.tape, hm0.output, hm0.size, fun x hx hn => hm0.block x hx fun h => h.elim hn (by omega), fun x h => .inl h⟩
  have hmk := run_mk (P := Tryz.prog) 22 3 (.int .i64 0) 8 Tryz.underlying22 infoInt rfl n (by omega) (by omega)
  have hoD : (W5.alloc (.cells (Array.replicate n (Value.int .i64 0)) 3)).drew.ownsRow W5.heap.size 3 1 (.slice (some ⟨W5.heap.size, 0, none⟩) n n) n (List.replicate n (Value.int .i64 0)) := own_mkArr W5.drew 3 (.int .i64 0) n rfl (Nat.le_refl _) (by unfold maxLen; omega)
  rw [← List.map_replicate (f := Value.int .i64)] at hoD
  have HC := Lib.hid (Hc.out _ _ _ hoD ((Below.refl _ _).alloc (Nat.le_refl _) _).drew)
  have fc6 := (((Below.refl W5.heap.size W5).alloc (Nat.le_refl _) (.cells (Array.replicate n (Value.int .i64 0)) 3)).cell (p := ⟨w3.heap.size + 1 + 1, 0, none⟩) (World.block_lt_of_cell? _ _ fc5)).trans fc5
  clear hoD gc5 yc5 ac5 hs5 hs4
  go_region_law ((first
    | (go_simp; go_at_call 109; ((with_reducible refine HC.out.mono ?_); rintro e V ⟨rfl, xs, hx, hJx, hmx⟩))))
  all_goals go_wp2_with fail
  all_goals go_end0
  all_goals exact ⟨rfl, xs, hx, hJx, hmx⟩
end

end Go.Proofs.YtcflcogbpnmjeaaGreat
