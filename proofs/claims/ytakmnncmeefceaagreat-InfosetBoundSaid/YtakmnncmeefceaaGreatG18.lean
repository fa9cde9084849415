/- A condition on the world that need not hold behind the region's last operation: loads are taken first under it. -/
import Derived.Test.YtakmnncmeefceaaGreatG13
import Derived.Test.YtakmnncmeefceaaGreatG8
import Derived.Test.YtakmnncmeefceaaGreatG9
import Derived.StillTail
import Derived.OrdersHeld
import Derived.Deep.RegionHeld
import Derived.Test.YtakmnncmeefceaaGreatG1
namespace Go.Proofs.YtakmnncmeefceaaGreat
set_option linter.unusedVariables false
set_option linter.unusedSimpArgs false
set_option linter.unusedSectionVars false

/- The walks of the references: Inv of layer 4, scale of layer 9. -/
section
open Go.RowKit

structure RFld (w : World) (P : Int) (m : Nat) (am : Option Addr) (mn : Nat) (mod : List Int) : Prop where
  rf : RF P m
  mods : Mods w P m am mn mod
theorem RFld.keep {w w' : World} {P : Int} {m : Nat} {am : Option Addr} {mn : Nat} {mod : List Int} (h : RFld w P m am mn mod) (hb : Below w.heap.size w w') : RFld w' P m am mn mod := ⟨h.rf, h.mods.keep hb⟩
theorem RF.isQ {P : Int} {m : Nat} (h : RF P m) {x : Int} (hx : ElP P m x) : isQ (orderS P m) x = true := by
  unfold Proofs.YtakmnncmeefceaaGreat.isQ; rw [h.order]; simp [hx.1, hx.2]
theorem RF.el {P : Int} {m : Nat} (h : RF P m) {x : Int} (hx : Proofs.YtakmnncmeefceaaGreat.isQ (orderS P m) x = true) : ElP P m x := by
  unfold Proofs.YtakmnncmeefceaaGreat.isQ at hx; rw [h.order] at hx; simp at hx; exact hx
theorem mulR_el {P : Int} {m : Nat} (h : RF P m) (mod : List Int) (x y : Int) : ElP P m (mulR P m mod x y) := by
  have hP : 0 < P := by have := h.p2; omega
  have := valu_bd hP (mulL P m mod (digs x P m) (digs y P m)) (mulL_dig hP m mod _ _)
  rwa [mulL_len P mod _ _ h.m1] at this

/-- the first y from y0 on with f y = 1, or 0 -/
def invTo (f : Int → Int) : Nat → Int → Int
  | 0, _ => 0
  | n + 1, y => if f y = 1 then y else invTo f n (y + 1)
def invR (P : Int) (m : Nat) (mod : List Int) (x : Int) : Int := invTo (mulR P m mod x) ((orderS P m).toNat - 1) 1
def rops (P : Int) (m : Nat) (mod : List Int) : FOps := ⟨fsum P m, mulR P m mod, fneg P m, invR P m mod⟩
theorem invTo_bd (f : Int → Int) : ∀ (n : Nat) (y : Int), 0 ≤ y → 0 ≤ invTo f n y ∧ (invTo f n y < y + n ∨ invTo f n y = 0)
  | 0, y, h => by simp [invTo]
  | n + 1, y, h => by
    unfold invTo
    split
    · omega
    · have := invTo_bd f n (y + 1) (by omega)
      omega
theorem invR_el {P : Int} {m : Nat} (h : RF P m) (mod : List Int) (x : Int) : ElP P m (invR P m mod x) := by
  have h1 := invTo_bd (mulR P m mod x) ((orderS P m).toNat - 1) 1 (by omega)
  have h2 := h.order
  have h3 := one_lt_pow h.res
  unfold invR ElP
  omega
theorem rcl {P : Int} {m : Nat} (h : RF P m) (mod : List Int) : FCl (rops P m mod) (ElP P m) :=
  ⟨fun x y _ _ => fsum_el h.res x y, fun x y _ _ => mulR_el h mod x y, fun x _ => fneg_el h.res x, fun x _ _ => invR_el h mod x⟩

set_option maxRecDepth 100000 in
set_option maxHeartbeats 1600000 in
theorem rInv_any (P : Int) (m : Nat) (am : Option Addr) (mn cm : Nat) (mod : List Int) (x : Int) (w : World) (hf : RFld w P m am mn mod) (hx : ElP P m x) :
    Calls Tryz.prog 189 #[.agg #[.int .i64 P, .int .i64 m, .slice am mn cm], .int .i64 x] w fun e w' => e = .returned (.int .i64 (invR P m mod x)) ∧ Below w.heap.size w w' := by
  have hrf := hf.rf
  have Hq := Lib.hid (hrf.isQ hx)
  have hord := hrf.order
  have h256 := hrf.pw
  obtain ⟨q, hq⟩ : ∃ q : Nat, P ^ m = q := ⟨(P ^ m).toNat, by have := one_lt_pow hrf.res; omega⟩
  have hq2 : 2 ≤ q := by have := one_lt_pow hrf.res; omega
  have hord2 : orderS P m = q := by rw [hord, hq]
  have Hord := Lib.hid hord2
  have HI : Hid (invR P m mod x = invTo (mulR P m mod x) (q - 1) 1) := by show _ = _; rw [invR, hord2]; simp
  have Hel : Hid (∀ k : Nat, k < q → isQ (orderS P m) k = true) := fun k hk => hrf.isQ ⟨by omega, by rw [hq]; omega⟩
  have hq256 : q ≤ 256 := by omega
  clear hord hq hord2 h256
  go_enter Tryz.func189, Tryz.ntmps189
  go_wp2_with fail
  obtain ⟨W, hW⟩ : ∃ W : World, W = w.alloc (.cells #[.int .i64 P, .int .i64 m, .slice am mn cm] 24) := ⟨_, rfl⟩
  rw [← hW]
  have hbW : Below w.heap.size w W := by rw [hW]; exact below1 _ _
  have x0 : Box W w.heap.size [.int .i64 P, .int .i64 m, .slice am mn cm] := by rw [hW]; exact Box.new _ _ _ rfl
  have HX := Lib.hid x0
  clear hW x0
  have hfW := hf.keep hbW
  go_loopw [5] (fun yv wr => ∃ y : Nat, 1 ≤ y ∧ y ≤ q ∧ yv = .int .i64 y ∧ Hid (invR P m mod x = invTo (mulR P m mod x) (q - y) y) ∧ Below W.heap.size W wr) (fun yv _ => q - (intOf yv).toNat)
  case atStart => exact ⟨1, by omega, by omega, rfl, by show _ = _; rw [HI.out]; rfl, Below.refl _ _⟩
  case round =>
    obtain ⟨y, hy1, hyq, rfl, hinv, hbr⟩ := hrel
    have x1 := HX.out.keep hbr
    have d0 := x1.cell 0 rfl
    have d1 := x1.cell 1 rfl
    have d2 := x1.cell 2 rfl
    clear x1
    go_wp2_with fail
    refine (rOrder_any P m am mn cm wr).mono ?_
    rintro e w1 ⟨rfl, hb1⟩
    rw [Hord.out]
    have hbr1 := Below.next hbr hb1
    have x1 := HX.out.keep hbr1
    have d0 := x1.cell 0 rfl
    have d1 := x1.cell 1 rfl
    have d2 := x1.cell 2 rfl
    clear x1
    by_cases hlt : y < q
    · have hlt' : (y : Int) < q := by omega
      have hst : invTo (mulR P m mod x) (q - y) y = if mulR P m mod x y = 1 then (y : Int) else invTo (mulR P m mod x) (q - (y + 1)) (y + 1) := by
        rw [show q - y = (q - (y + 1)) + 1 by omega, invTo]
      have Hst := Lib.hid hst
      clear hst
      go_wp2_with fail
      refine (rMul_any P m am mn cm mod x y w1 hrf ((hfW.keep hbr1).mods) Hq.out (Hel.out y hlt)).mono ?_
      rintro e w2 ⟨rfl, hb2⟩
      have hbr2 := Below.next hbr1 hb2
      by_cases h1 : mulR P m mod x y = 1
      · have Hf : Hid (invR P m mod x = y) := by show _ = _; rw [hinv.out, Hst.out, if_pos h1]
        rw [h1]
        clear h1
        go_wp2_with fail
        go_ret
        exact ⟨ret_int Hf.out.symm, Below.next hbW hbr2⟩
      · have Hf : Hid (invR P m mod x = invTo (mulR P m mod x) (q - (y + 1)) ((y + 1 : Nat) : Int)) := by show _ = _; rw [hinv.out, Hst.out, if_neg h1]; rfl
        have h1' : (mulR P m mod x y == 1) = false := by simpa using h1
        clear h1
        go_wp2_with fail
        go_roundw
        case rel => exact ⟨y + 1, by omega, by omega, by go_num, Hf.out, hbr2⟩
        case measure => simp [intOf] <;> omega
    · obtain rfl : y = q := by omega
      have Hf : Hid (invR P m mod x = 0) := by show _ = _; rw [hinv.out, Nat.sub_self]; rfl
      go_wp2_with fail
      go_ret
      exact ⟨ret_int Hf.out.symm, Below.next hbW hbr1⟩

set_option maxRecDepth 100000 in
set_option maxHeartbeats 1600000 in
theorem rScale_any (P : Int) (m : Nat) (am : Option Addr) (mn cm : Nat) (mod : List Int) (s : Int) (a : Option Addr) (n c : Nat) (l : List Int) (w : World) (hf : RFld w P m am mn mod) (hs : ElP P m s) (hi : Ints w a n l) (hl : ∀ x ∈ l, ElP P m x) (hn : n ≤ 1000000) :
    Calls Tryz.prog 188 #[.agg #[.int .i64 P, .int .i64 m, .slice am mn cm], .int .i64 s, .slice a n c] w (NewInts w (l.map (mulR P m mod s))) := by
  have hrf := hf.rf
  have Hs := Lib.hid (hrf.isQ hs)
  have Hlen := Lib.hid hi.len
  have hpl := hi.pl
  have Hl : Hid (∀ k, k < n → isQ (orderS P m) (nth l k) = true) := fun k hk => hrf.isQ (hl _ (nth_mem (by rw [hi.len]; exact hk)))
  clear hl
  go_enter Tryz.func188, Tryz.ntmps188
  go_wp2_with (at_make; refine wpList_mk rfl _ _ 22 3 rfl (.int .i64 0) 8 Tryz.underlying22 infoInt rfl n rfl rfl (by omega) (by unfold maxLen; omega) ?_; intro a1 w1 hown hbel hge hlt)
  obtain ⟨W, hW⟩ : ∃ W : World, W = w.alloc (.cells #[.int .i64 P, .int .i64 m, .slice am mn cm] 24) := ⟨_, rfl⟩
  rw [← hW] at hown hbel hge
  have hbW : Below w.heap.size w W := by rw [hW]; exact below1 _ _
  have x0 : Box W w.heap.size [.int .i64 P, .int .i64 m, .slice am mn cm] := by rw [hW]; exact Box.new _ _ _ rfl
  have hfW := hf.keep hbW
  have hiW := hi.keep hbW
  have hS : ∀ k, k < n → ∀ V, Below W.heap.size W V → V.cell? ⟨w.heap.size, 0, none⟩ = some (.int .i64 P) ∧ V.cell? ⟨w.heap.size, 1, none⟩ = some (.int .i64 m) ∧ V.cell? ⟨w.heap.size, 2, none⟩ = some (.slice am mn cm) ∧
      V.cell? ⟨ablk a, aoff a + k, none⟩ = some (.int .i64 (nth l k)) ∧ Below W.heap.size W V := by
    intro k hk V hV
    have x1 := x0.keep hV
    exact ⟨x1.cell 0 rfl, x1.cell 1 rfl, x1.cell 2 rfl, (hiW.keep hV).cell k hk, hV⟩
  have HS := Lib.hid hS
  clear hW x0 hS
  go_loopw [8] (fun iv wr => ∃ k : Nat, k ≤ n ∧ iv = .int .i64 k ∧
      wr.ownsRow W.heap.size 3 1 (.slice a1 n n) n ((fillTo ((l.take k).map (mulR P m mod s)) k n).map (Value.int .i64)) ∧ Below W.heap.size W wr)
    (fun i _ => n - (intOf i).toNat)
  case atStart => exact ⟨0, Nat.zero_le _, rfl, by simpa [fillTo] using hown, hbel⟩
  case round =>
    obtain ⟨k, hk, rfl, hown, hbel⟩ := hrel
    obtain ⟨hints, hmine⟩ := Ints.own hown
    have hpl1 := hints.pl
    by_cases hlt : k < n
    · have HSk : Hid (∀ V, Below W.heap.size W V → V.cell? ⟨w.heap.size, 0, none⟩ = some (.int .i64 P) ∧ V.cell? ⟨w.heap.size, 1, none⟩ = some (.int .i64 m) ∧ V.cell? ⟨w.heap.size, 2, none⟩ = some (.slice am mn cm) ∧
          V.cell? ⟨ablk a, aoff a + k, none⟩ = some (.int .i64 (nth l k)) ∧ Below W.heap.size W V) := HS.out k hlt
      have hB := (hmine (by omega)).1
      have HB := Lib.hid hB
      have Hbel := Lib.hid hbel
      have HK : Hid (∀ V, Below wr.drew.heap.size wr.drew V → (∃ v, V.cell? ⟨ablk a1, aoff a1 + k, none⟩ = some v) ∧ V.frozen? ⟨ablk a1, aoff a1 + k, none⟩ = false ∧ Below wr.heap.size wr V) := fun V hV => by
        have hV' : Below wr.heap.size wr V := Below.next (Below.refl _ _).drew hV
        have ho := own_keep hown hV'
        exact ⟨⟨_, (Ints.own ho).1.cell k hlt⟩, ((Ints.own ho).2 (by omega)).2 k hlt, hV'⟩
      have hmd := (hfW.keep hbel).mods
      have Hmd : Hid (Mods wr.drew P m am mn mod) := hmd.keep (Below.refl _ _).drew
      clear hB hbel hmd
      go_wp2_with fail
      go_region_held3 (fun V => V.cell? ⟨w.heap.size, 0, none⟩ = some (.int .i64 P) ∧ V.cell? ⟨w.heap.size, 1, none⟩ = some (.int .i64 m) ∧ V.cell? ⟨w.heap.size, 2, none⟩ = some (.slice am mn cm) ∧
          V.cell? ⟨ablk a, aoff a + k, none⟩ = some (.int .i64 (nth l k)) ∧ Below W.heap.size W V)
        ((refine HSk.out _ ?_; first | exact Hbel.out.drew | exact Below.next Hbel.out hb9 | exact (Below.next Hbel.out hb9).setCell HB.out _))
        (first
          | (go_at_call 151; ((with_reducible refine (rMul_any P m am mn cm mod s (nth l k) _ hrf Hmd.out Hs.out (Hl.out k hlt)).mono ?_); rintro e w4 ⟨rfl, hb4⟩; obtain ⟨⟨v9, k9⟩, f9, hb9⟩ := HK.out w4 hb4)))
      clear k9 f9
      go_wp2_with fail
      go_roundw
      case rel =>
        refine ⟨k + 1, by omega, by go_num, ?_, (Below.next Hbel.out hb9).setCell HB.out _⟩
        have h := own_set (own_keep hown hb9) k hlt (.int .i64 (mulR P m mod s (nth l k)))
        rw [← List.map_set, fillTo_set _ _ _ _ (by simp [Hlen.out]; omega) hlt] at h
        rw [List.take_succ_eq_append_getElem (by rw [Hlen.out]; omega), List.map_append]
        rw [nth_getElem (by rw [Hlen.out]; omega)] at h ⊢
        exact h
      case measure => simp [intOf] <;> omega
    · obtain rfl : k = n := by omega
      have hfin : fillTo ((l.take k).map (mulR P m mod s)) k k = l.map (mulR P m mod s) := by
        rw [fillTo_all, List.take_of_length_le (by rw [Hlen.out]; exact Nat.le_refl _)]
      rw [hfin] at hown
      have Hl2 : Hid ((l.map (mulR P m mod s)).length = k) := by show _ = _; simp [Hlen.out]
      clear hfin
      go_wp2_with fail
      go_ret
      exact ⟨a1, k, by rw [Hl2.out]; rfl, by rw [Hl2.out]; exact own_mono hown hbW.size, Below.next hbW hbel⟩
end

/- The reference's product is the program's. -/
section
section
variable {P : Int} {M : Nat} {low : Nat → Int}

/-- the value of the first n coefficients -/
def evL (M : Nat) (low : Nat → Int) (n : Nat) (c : List Int) : Nat → Int := fun i => sm n (fun k => nth c k * shN M low k (eV 0) i)

theorem sm_set {n k : Nat} {c : List Int} {z : Int} (f : Nat → Int) (hk : k < n) (hl : k < c.length) : sm n (fun j => nth (c.set k z) j * f j) = sm n (fun j => nth c j * f j) + (z - nth c k) * f k := by
  have h1 : sm n (fun j => nth (c.set k z) j * f j) = sm n (fun j => nth c j * f j + (if j = k then (z - nth c k) * f k else 0)) := sm_congr fun j _ => by
    rw [nth_set _ _ _ _ hl]
    by_cases e : j = k
    · subst e; rw [if_pos rfl, if_pos rfl, Int.sub_mul]; omega
    · rw [if_neg e, if_neg e]; omega
  rw [h1, sm_add]
  congr 1
  rw [sm_single hk fun i _ hne => if_neg hne, if_pos rfl]
theorem sm_set_out {n k : Nat} {c : List Int} {z : Int} (f : Nat → Int) (hk : n ≤ k) (hl : k < c.length) : sm n (fun j => nth (c.set k z) j * f j) = sm n (fun j => nth c j * f j) := sm_congr fun j hj => by
  rw [nth_set _ _ _ _ hl, if_neg (by omega)]

/-- the sum with a congruent coefficient -/
theorem evL_step {n k : Nat} {c : List Int} {d : Int} (hk : k < n) (hl : k < c.length) :
    Cg P (evL M low n (c.set k ((nth c k + d) % P))) (fun i => evL M low n c i + d * shN M low k (eV 0) i) := fun i => by
  simp only [evL]
  rw [sm_set (fun j => shN M low j (eV 0) i) hk hl]
  obtain ⟨e, he⟩ := cg_mod P (nth c k + d)
  refine ⟨e * shN M low k (eV 0) i, ?_⟩
  have h1 : (nth c k + d) % P - nth c k = d + P * e := by omega
  rw [h1, Int.add_mul, Int.mul_assoc]
  omega

theorem cvJ_ev {a b : List Int} {i n : Nat} {c : List Int} (hl : c.length = n) : ∀ j, i + j ≤ n →
    Cg P (evL M low n (cvJ P a b i c j)) (fun s => evL M low n c s + sm j (fun j => nth a i * nth b j * shN M low (i + j) (eV 0) s))
  | 0, _ => Cg.of_eq (by funext s; simp [cvJ, sm])
  | j + 1, hj => by
    have ih := cvJ_ev (a := a) (b := b) (i := i) hl j (by omega)
    rw [cvJ]
    refine (evL_step (by omega) (by rw [cvJ_len]; omega)).trans ((Cg.add ih (Cg.refl P _)).trans (Cg.of_eq ?_))
    funext s
    simp only [sm]
    omega
theorem cvI_ev {a b : List Int} {n : Nat} (hn : 2 * M - 1 ≤ n) (hM : 1 ≤ M) : ∀ i, i ≤ M →
    Cg P (evL M low n (cvI P a b M n i)) (fun s => sm i (fun i => sm M (fun j => nth a i * nth b j * shN M low (i + j) (eV 0) s)))
  | 0, _ => Cg.of_eq (by
    funext s
    simp only [evL, cvI, sm]
    rw [sm_congr (g := fun _ => 0) fun k _ => by
      have : nth (List.replicate n 0) k = 0 := by simp only [nth, List.getD_eq_getElem?_getD, List.getElem?_replicate]; split <;> rfl
      rw [this, Int.zero_mul], sm_zero])
  | i + 1, hi => by
    have ih := cvI_ev (a := a) (b := b) hn hM i (by omega)
    rw [cvI]
    refine (cvJ_ev (cvI_len P a b M n i) M (by omega)).trans ((Cg.add ih (Cg.refl P _)).trans (Cg.of_eq ?_))
    funext s
    simp only [sm]

theorem shN_M (hM : 1 ≤ M) : shN M low M (eV 0) = fun i => if i < M then - low i else 0 := by
  obtain ⟨m, rfl⟩ : ∃ m, M = m + 1 := ⟨M - 1, by omega⟩
  rw [shN, shN_e m (by omega)]
  funext i
  simp only [shV, eV]
  by_cases h : i < m + 1
  · rw [if_pos h, if_pos h, Nat.add_sub_cancel]
    by_cases h0 : i = 0
    · rw [if_pos h0, if_pos rfl]; omega
    · rw [if_neg h0, if_neg (by omega), if_pos rfl]; omega
  · rw [if_neg h, if_neg h]
theorem lowSum (hM : 1 ≤ M) (t : Nat) : (fun s => sm M (fun j => low j * shN M low (t + j) (eV 0) s)) = fun s => - shN M low (t + M) (eV 0) s := by
  have h1 : (fun s => sm M (fun j => low j * shN M low (t + j) (eV 0) s)) = shN M low t (fun s => sm M (fun j => low j * shN M low j (eV 0) s)) := by
    rw [shN_sm]
    funext s
    refine sm_congr fun j _ => ?_
    rw [shN_smul, shN_comp]
  have h2 : (fun s => sm M (fun j => low j * shN M low j (eV 0) s)) = fun s => (-1) * shN M low M (eV 0) s := by
    funext s
    rw [congrFun (shN_M (low := low) hM) s]
    have h3 : sm M (fun j => low j * shN M low j (eV 0) s) = sm M (fun j => low j * eV j s) := sm_congr fun j hj => by rw [shN_e j hj]
    rw [h3]
    by_cases hs : s < M
    · rw [sm_single hs fun i _ hne => by simp only [eV]; rw [if_neg (by omega)]; omega]
      rw [if_pos hs]
      simp [eV]
    · rw [if_neg hs, sm_congr (g := fun _ => 0) fun j hj => by simp only [eV]; rw [if_neg (by omega)]; omega, sm_zero]; rfl
  rw [h1, h2, shN_smul]
  funext s
  rw [← shN_comp]
  omega

theorem rdJ_top {mod : List Int} {i : Nat} {c : List Int} (hi : M ≤ i) (hl : i < c.length) : ∀ j, j ≤ M → nth (rdJ P M mod i c j) i = nth c i
  | 0, _ => rfl
  | j + 1, hj => by
    rw [rdJ, nth_set _ _ _ _ (by rw [rdJ_len]; omega), if_neg (by omega)]
    exact rdJ_top hi hl j (by omega)
theorem rdJ_ev {mod : List Int} {i : Nat} {c : List Int} (hi : M ≤ i) (hl : i < c.length) : ∀ j, j ≤ M →
    Cg P (evL M low i (rdJ P M mod i c j)) (fun s => evL M low i c s + (- nth c i) * sm j (fun j => nth mod j * shN M low (i - M + j) (eV 0) s))
  | 0, _ => Cg.of_eq (by funext s; simp [rdJ, sm])
  | j + 1, hj => by
    have ih := rdJ_ev (mod := mod) hi hl j (by omega)
    rw [rdJ, rdJ_top hi hl j (by omega)]
    refine (evL_step (by omega) (by rw [rdJ_len]; omega)).trans ?_
    refine (Cg.add ih (Cg.refl P _)).trans ?_
    intro s
    simp only [sm]
    generalize sm j (fun j => nth mod j * shN M low (i - M + j) (eV 0) s) = X
    generalize shN M low (i - M + j) (eV 0) s = Y
    refine ⟨nth mod j * Y, ?_⟩
    simp only [Int.mul_add, Int.sub_mul, Int.neg_mul, Int.mul_assoc]
    omega
theorem rdT_ev {mod : List Int} (hM : 1 ≤ M) (hlow : ∀ j, low j = nth mod j) {c : List Int} (hl : c.length = 2 * M - 1) : ∀ k, k ≤ M - 1 →
    Cg P (evL M low (2 * M - 1 - k) (rdT P M mod c k)) (evL M low (2 * M - 1) c)
  | 0, _ => Cg.refl P _
  | k + 1, hk => by
    have ih := rdT_ev hM hlow hl k (by omega)
    rw [rdT]
    refine Cg.trans ?_ ih
    obtain ⟨i, hi⟩ : ∃ i, 2 * M - 2 - k = i := ⟨_, rfl⟩
    rw [hi, show 2 * M - 1 - (k + 1) = i by omega, show 2 * M - 1 - k = i + 1 by omega]
    refine (rdJ_ev (low := low) (by omega) (by rw [rdT_len]; omega) M (Nat.le_refl _)).trans (Cg.of_eq ?_)
    funext s
    have h1 : sm M (fun j => low j * shN M low (i - M + j) (eV 0) s) = - shN M low (i - M + M) (eV 0) s := congrFun (lowSum (low := low) hM (i - M)) s
    rw [sm_congr (g := fun j => low j * shN M low (i - M + j) (eV 0) s) fun j _ => by rw [hlow], h1, show i - M + M = i by omega]
    simp only [evL, sm]
    rw [Int.neg_mul, Int.mul_neg]
    omega

theorem evL_take (c : List Int) (hl : M ≤ c.length) : evL M low M c = nth (c.take M) := by
  funext s
  simp only [evL]
  rw [sm_congr (g := fun j => nth c j * eV j s) fun j hj => by rw [shN_e j hj]]
  by_cases hs : s < M
  · rw [sm_single hs fun i _ hne => by simp only [eV]; rw [if_neg (by omega)]; omega, nth_take hs]
    simp [eV]
  · rw [nth_out (by rw [List.length_take]; omega), sm_congr (g := fun _ => 0) fun j hj => by simp only [eV]; rw [if_neg (by omega)]; omega, sm_zero]
end

theorem mulR_eq {P : Int} {m : Nat} (hf : RF P m) (mod : List Int) (x y : Int) : mulR P m mod x y = mulS P m mod x y := by
  have hres := hf.res
  have hP := hres.pos
  have hm1 := hf.m1
  refine (mulR_el hf mod x y).ext hres (mulS_el hres x y) (Cg.trans ?_ (dV_mulS hP m mod x y).symm)
  have hd : dV P m (mulR P m mod x y) = nth (mulL P m mod (digs x P m) (digs y P m)) := by
    unfold dV mulR
    have := digs_valu (P := P) (mulL P m mod (digs x P m) (digs y P m)) (mulL_dig hP m mod _ _)
    rw [mulL_len P mod _ _ hm1] at this
    rw [this]
  rw [hd]
  have hc := cvI_ev (P := P) (M := m) (low := nth (lowF m mod)) (a := digs x P m) (b := digs y P m) (n := 2 * m - 1) (Nat.le_refl _) hm1 m (Nat.le_refl _)
  have hx : Cg P (evL m (nth (lowF m mod)) (2 * m - 1) (cvI P (digs x P m) (digs y P m) m (2 * m - 1) m)) (mulV m (nth (lowF m mod)) (dV P m x) (dV P m y)) := by
    rw [mulV_expand (dV_sh P m y)]
    exact hc
  refine Cg.trans ?_ hx
  unfold mulL
  by_cases h1 : 1 < m
  · have hlow : ∀ j, nth (lowF m mod) j = nth mod j := fun j => by rw [lowF, if_pos h1]
    have hr := rdT_ev (P := P) hm1 hlow (cvI_len P (digs x P m) (digs y P m) m (2 * m - 1) m) (m - 1) (Nat.le_refl _)
    rw [show 2 * m - 1 - (m - 1) = m by omega, evL_take _ (by rw [rdT_len, cvI_len]; omega)] at hr
    exact hr
  · obtain rfl : m = 1 := by omega
    rw [← evL_take (M := 1) (low := nth (lowF 1 mod)) _ (by rw [rdT_len, cvI_len]; omega)]
    exact Cg.refl P _
end

/- The walks of the reference of layer 9: AddTo, Copy. -/
section
open Go.RowKit

theorem OMat.nul (w : World) (B : Nat) : OMat w B none 0 0 [] [] :=
  ⟨rfl, rfl, own_none, fun i hi => by omega, fun i hi => by omega, fun i j hi => by omega⟩

set_option maxRecDepth 100000 in
set_option maxHeartbeats 3200000 in
theorem rAddTo_any (P : Int) (m : Nat) (am : Option Addr) (mn cm : Nat) (mod : List Int) (av : Option Addr) (n cv : Nat) (v : List Int) (s : Int) (au : Option Addr) (cu : Nat) (u : List Int) (w : World) (hf : RFld w P m am mn mod) (hs : ElP P m s)
    (hi : Ints w av n v) (hu : Ints w au n u) (hve : ∀ x ∈ v, ElP P m x) (hue : ∀ x ∈ u, ElP P m x) (hn : n ≤ 1000000) :
    Calls Tryz.prog 113 #[.agg #[.int .i64 P, .int .i64 m, .slice am mn cm], .slice av n cv, .int .i64 s, .slice au n cu] w (NewInts w (addRow (rops P m mod) v s u)) := by
  have hrf := hf.rf
  have Hs := Lib.hid (hrf.isQ hs)
  have Hvl := Lib.hid hi.len
  have Hul := Lib.hid hu.len
  have hplv := hi.pl
  have hplu := hu.pl
  have Hev : Hid (∀ k, k < n → isQ (orderS P m) (nth v k) = true) := fun k hk => hrf.isQ (hve _ (nth_mem (by rw [hi.len]; exact hk)))
  have Heu : Hid (∀ k, k < n → isQ (orderS P m) (nth u k) = true) := fun k hk => hrf.isQ (hue _ (nth_mem (by rw [hu.len]; exact hk)))
  have HNl : Hid ((addRow (rops P m mod) v s u).length = n) := by show _ = _; rw [addRow_length _ _ _ _ (by rw [hi.len, hu.len]), hi.len]
  have HNn : Hid (∀ k, k < n → nth (addRow (rops P m mod) v s u) k = if nth u k = 0 then nth v k else fsum P m (nth v k) (mulR P m mod s (nth u k))) := fun k hk => nth_addRow (rops P m mod) v s u k (by rw [hi.len, hu.len]) (by rw [hi.len]; exact hk)
  obtain ⟨NN, hNN⟩ : ∃ NN, addRow (rops P m mod) v s u = NN := ⟨_, rfl⟩
  rw [hNN] at HNl HNn
  rw [hNN]
  clear hve hue hNN
  go_enter Tryz.func113, Tryz.ntmps113
  go_wp2_with (at_make; refine wpList_mk rfl _ _ 22 3 rfl (.int .i64 0) 8 Tryz.underlying22 infoInt rfl n rfl rfl (by omega) (by unfold maxLen; omega) ?_; intro a1 w1 hown hbel hge hlt)
  obtain ⟨W, hW⟩ : ∃ W : World, W = w.alloc (.cells #[.int .i64 P, .int .i64 m, .slice am mn cm] 24) := ⟨_, rfl⟩
  rw [← hW] at hown hbel hge
  have hbW : Below w.heap.size w W := by rw [hW]; exact below1 _ _
  have x0 : Box W w.heap.size [.int .i64 P, .int .i64 m, .slice am mn cm] := by rw [hW]; exact Box.new _ _ _ rfl
  have hfW := hf.keep hbW
  have hiW := hi.keep hbW
  have huW := hu.keep hbW
  have hS : ∀ k, k < n → ∀ V, Below W.heap.size W V → V.cell? ⟨w.heap.size, 0, none⟩ = some (.int .i64 P) ∧ V.cell? ⟨w.heap.size, 1, none⟩ = some (.int .i64 m) ∧ V.cell? ⟨w.heap.size, 2, none⟩ = some (.slice am mn cm) ∧
      V.cell? ⟨ablk av, aoff av + k, none⟩ = some (.int .i64 (nth v k)) ∧ V.cell? ⟨ablk au, aoff au + k, none⟩ = some (.int .i64 (nth u k)) ∧ Below W.heap.size W V := by
    intro k hk V hV
    have x1 := x0.keep hV
    exact ⟨x1.cell 0 rfl, x1.cell 1 rfl, x1.cell 2 rfl, (hiW.keep hV).cell k hk, (huW.keep hV).cell k hk, hV⟩
  have HS := Lib.hid hS
  clear hW x0 hS
  go_loopw [10] (fun iv wr => ∃ k : Nat, k ≤ n ∧ iv = .int .i64 k ∧
      wr.ownsRow W.heap.size 3 1 (.slice a1 n n) n ((fillTo (NN.take k) k n).map (Value.int .i64)) ∧ Below W.heap.size W wr)
    (fun i _ => n - (intOf i).toNat)
  case atStart => exact ⟨0, Nat.zero_le _, rfl, by simpa [fillTo] using hown, hbel⟩
  case round =>
    obtain ⟨k, hk, rfl, hown, hbel⟩ := hrel
    obtain ⟨hints, hmine⟩ := Ints.own hown
    have hpl1 := hints.pl
    by_cases hlt : k < n
    · have hB := (hmine (by omega)).1
      have cc := hints.cell k hlt
      have cf := (hmine (by omega)).2 k hlt
      obtain ⟨d0, d1, d2, d3, d4, _⟩ := HS.out k hlt wr hbel
      have hset : ∀ (V : World) (z : Int), z = nth NN k → V.ownsRow W.heap.size 3 1 (.slice a1 n n) n ((fillTo (NN.take k) k n).map (Value.int .i64)) → (V.setCell ⟨ablk a1, aoff a1 + k, none⟩ (.int .i64 z)).ownsRow W.heap.size 3 1 (.slice a1 n n) n ((fillTo (NN.take (k + 1)) (k + 1) n).map (Value.int .i64)) := by
        rintro V z rfl hV
        have h := own_set hV k hlt (.int .i64 (nth NN k))
        rw [← List.map_set, fillTo_set _ _ _ _ (by simp [HNl.out]; omega) hlt] at h
        rw [List.take_succ_eq_append_getElem (by rw [HNl.out]; omega)]
        rw [nth_getElem (by rw [HNl.out]; omega)] at h ⊢
        exact h
      have Hset := Lib.hid hset
      have HB := Lib.hid hB
      have hNk := HNn.out k hlt
      -- the first store makes the entry that of v
      have hown' := own_set hown k hlt (.int .i64 (nth v k))
      by_cases hz : nth u k = 0
      · rw [if_pos hz] at hNk
        have hz' : (nth u k != 0) = false := by simpa using hz
        have HNk := Lib.hid hNk
        have dd : (wr.setCell ⟨ablk a1, aoff a1 + k, none⟩ (.int .i64 (nth v k))).cell? ⟨ablk au, aoff au + k, none⟩ = some (.int .i64 (nth u k)) := (HS.out k hlt _ (hbel.setCell hB _)).2.2.2.2.1
        clear hset hz hNk hown'
        go_wp2_with fail
        go_roundw
        case rel => exact ⟨k + 1, by omega, by go_num, Hset.out _ _ HNk.out.symm hown, hbel.setCell HB.out _⟩
        case measure => simp [intOf] <;> omega
      · rw [if_neg hz] at hNk
        have hz' : (nth u k != 0) = true := by simpa using hz
        have HNk := Lib.hid hNk
        obtain ⟨U, hU⟩ : ∃ U : World, U = wr.setCell ⟨ablk a1, aoff a1 + k, none⟩ (.int .i64 (nth v k)) := ⟨_, rfl⟩
        have hbU : Below W.heap.size W U := by rw [hU]; exact hbel.setCell hB _
        have dd : (wr.setCell ⟨ablk a1, aoff a1 + k, none⟩ (.int .i64 (nth v k))).cell? ⟨ablk au, aoff au + k, none⟩ = some (.int .i64 (nth u k)) := (HS.out k hlt _ (hbel.setCell hB _)).2.2.2.2.1
        rw [← hU] at hown'
        have hmdU := (hfW.keep hbU).mods
        have Hmd : Hid (∀ V, Below U.heap.size U V → Mods V P m am mn mod) := fun V hV => hmdU.keep hV
        have HK : Hid (∀ V, Below U.heap.size U V → (∃ y, V.cell? ⟨ablk a1, aoff a1 + k, none⟩ = some y) ∧ V.frozen? ⟨ablk a1, aoff a1 + k, none⟩ = false ∧ V.ownsRow W.heap.size 3 1 (.slice a1 n n) n (((fillTo (NN.take k) k n).map (Value.int .i64)).set k (.int .i64 (nth v k)))) := fun V hV => by
          have ho := own_keep hown' hV
          have h5 := ownsRow_cell ho k hlt
          exact ⟨⟨_, by rw [h5.1, List.getElem?_eq_getElem (by rw [h5.2.2.2.1]; exact hlt)]⟩, h5.2.1, ho⟩
        have HbU := Lib.hid hbU
        have HelM : Hid (isQ (orderS P m) (mulR P m mod s (nth u k)) = true) := hrf.isQ (mulR_el hrf mod _ _)
        have HSk : Hid (∀ V, Below W.heap.size W V → V.cell? ⟨w.heap.size, 0, none⟩ = some (.int .i64 P) ∧ V.cell? ⟨w.heap.size, 1, none⟩ = some (.int .i64 m) ∧ V.cell? ⟨w.heap.size, 2, none⟩ = some (.slice am mn cm) ∧
          V.cell? ⟨ablk av, aoff av + k, none⟩ = some (.int .i64 (nth v k)) ∧ V.cell? ⟨ablk au, aoff au + k, none⟩ = some (.int .i64 (nth u k)) ∧ Below W.heap.size W V) := HS.out k hlt
        have hset2 : ∀ V : World, V.ownsRow W.heap.size 3 1 (.slice a1 n n) n (((fillTo (NN.take k) k n).map (Value.int .i64)).set k (.int .i64 (nth v k))) →
            (V.setCell ⟨ablk a1, aoff a1 + k, none⟩ (.int .i64 (fsum P m (nth v k) (mulR P m mod s (nth u k))))).ownsRow W.heap.size 3 1 (.slice a1 n n) n ((fillTo (NN.take (k + 1)) (k + 1) n).map (Value.int .i64)) := by
          intro V hV
          rw [← HNk.out]
          have h := own_set hV k hlt (.int .i64 (nth NN k))
          rw [List.set_set, ← List.map_set, fillTo_set _ _ _ _ (by simp [HNl.out]; omega) hlt] at h
          rw [List.take_succ_eq_append_getElem (by rw [HNl.out]; omega)]
          rw [nth_getElem (by rw [HNl.out]; omega)] at h ⊢
          exact h
        have Hset2 := Lib.hid hset2
        clear hset hz hNk hown' hmdU hbU hset2
        go_wp2_with fail
        rw [← hU]
        clear hU d0 d1 d2 d3 d4 cc cf dd hbel hints hmine hown hB
        go_region_held3 (fun V => V.cell? ⟨w.heap.size, 0, none⟩ = some (.int .i64 P) ∧ V.cell? ⟨w.heap.size, 1, none⟩ = some (.int .i64 m) ∧ V.cell? ⟨w.heap.size, 2, none⟩ = some (.slice am mn cm) ∧
            V.cell? ⟨ablk av, aoff av + k, none⟩ = some (.int .i64 (nth v k)) ∧ V.cell? ⟨ablk au, aoff au + k, none⟩ = some (.int .i64 (nth u k)) ∧ Below W.heap.size W V)
          ((refine HSk.out _ ?_; first | exact HbU.out.drew | exact Below.next HbU.out hb7 | exact Below.next HbU.out hb9 | exact (Below.next HbU.out hb9).setCell HB.out _))
          (first
            | (go_at_call 151; ((with_reducible refine (rMul_any P m am mn cm mod s (nth u k) _ hrf (Hmd.out _ (Below.refl _ _).drew) Hs.out (Heu.out k hlt)).mono ?_); rintro e w4 ⟨rfl, hb4⟩; have hb7 : Below U.heap.size U w4 := Below.next (Below.refl _ _).drew hb4))
            | (go_at_call 150; ((with_reducible refine (rAdd_any P m am mn cm (nth v k) (mulR P m mod s (nth u k)) _ hrf (Hev.out k hlt) HelM.out).mono ?_); rintro e w5 ⟨rfl, hb5⟩; have hb9 : Below U.heap.size U w5 := Below.next hb7 hb5; obtain ⟨⟨v9, k9⟩, f9, o9⟩ := HK.out w5 hb9)))
        clear k9 f9
        go_wp2_with fail
        go_roundw
        case rel => exact ⟨k + 1, by omega, by go_num, Hset2.out _ o9, (Below.next HbU.out hb9).setCell HB.out _⟩
        case measure => simp [intOf] <;> omega
    · obtain rfl : k = n := by omega
      have hfin : fillTo (NN.take k) k k = NN := by rw [fillTo_all, List.take_of_length_le (by rw [HNl.out]; exact Nat.le_refl _)]
      rw [hfin] at hown
      clear hfin
      go_wp2_with fail
      go_ret
      exact ⟨a1, k, by rw [HNl.out]; rfl, by rw [HNl.out]; exact own_mono hown hbW.size, Below.next hbW hbel⟩

set_option maxRecDepth 100000 in
set_option maxHeartbeats 3200000 in
theorem rCopy_any (a : Option Addr) (n c : Nat) (L : List (List Int)) (w : World) (hi : Mat w a n L) (hn : n ≤ 1000000) (hL : ∀ l ∈ L, l.length ≤ 1000000) :
    Calls Tryz.prog 187 #[.slice a n c] w (NewMat w L) := by
  have hpl := hi.pl
  have Hlen := Lib.hid hi.len
  have HL := Lib.hid hL
  clear hL
  go_enter Tryz.func187, Tryz.ntmps187
  go_wp2_with fail
  go_loopw [3, 4] (fun sv iv wr => ∃ (k : Nat) (a1 : Option Addr) (c1 : Nat), k ≤ n ∧ iv = .int .i64 k ∧ sv = .slice a1 k c1 ∧ (∃ R, OMat wr w.heap.size a1 k c1 R (L.take k)) ∧ Below w.heap.size w wr) (fun _ iv _ => n - (intOf iv).toNat)
  case atStart => exact ⟨0, none, 0, Nat.zero_le _, rfl, rfl, ⟨[], by simpa using OMat.nul w w.heap.size⟩, Below.refl _ _⟩
  case round =>
    obtain ⟨k, a1, c1, hk, rfl, rfl, ⟨R, hO⟩, hbr⟩ := hrel
    by_cases hlt : k < n
    · obtain ⟨ra, rn, rc, hcell, hrow⟩ := (hi.keep hbr).cell k hlt
      have hkL : k < L.length := by rw [Hlen.out]; exact hlt
      have hrl : rn ≤ 1000000 := by rw [← hrow.len, nthR_getElem hkL]; exact HL.out _ (List.getElem_mem hkL)
      have hO1 := own_emp wr 3
      have hbe := below1 wr (.cells #[] 3)
      obtain ⟨l, hl⟩ : ∃ l, nthR L k = l := ⟨_, rfl⟩
      rw [hl] at hrow
      have Htk : Hid (L.take (k + 1) = L.take k ++ [l]) := by show _ = _; rw [List.take_succ_eq_append_getElem hkL, ← hl, nthR_getElem hkL]
      have hrowe := hrow.keep hbe
      have hcell2 := cell_box hcell (.cells #[] 3)
      have hpr := hrow.pl
      have Hrl := Lib.hid hrow.len
      have hsz := hbr.size
      clear hl
      go_wp2_with (at_builtin; first
        | (refine wpList_appAll (by rfl) (.tmp 12) (.tmp 16) 22 3 (by rfl) (.int .i64 0) 8 Tryz.underlying22 infoInt (by rfl) wr.heap.size _ 0 0 [] (by rfl) hO1 ra rn rc (l.map (Value.int .i64)) (by rfl) hpr (by simp [Hrl.out]) (Ints.news hrowe) (ints_oneCell _ _) (by omega) (by unfold maxLen; omega) (Below.size hbe) ?_; intro a3 c3 w3 hown3 hgr3 hap3; have hb3 : Below wr.heap.size wr w3 := Below.app (B := wr.heap.size) (e := 3) (xs := []) hbe hO1 hgr3 (Nat.le_refl _) (Below.size hbe); rw [Nat.zero_add] at hown3 ⊢; rw [List.nil_append] at hown3)
        | (refine wpList_push rfl _ _ 25 22 rfl (.slice none 0 0) 24 Tryz.underlying25 infoInts rfl w.heap.size a1 k c1 _ rfl ((hO.keep (Below.next hb3 (below1 _ _))).own) ⟨w3.heap.size, 0, none⟩ 1 (.slice a3 rn c3) rfl (cell_new w3 _ _) rfl (by omega) (by unfold maxLen; omega) (by have h1 := Below.size hb3; simp; omega) ?_; intro a5 c5 w5 hown5 hgr5 hap5)
        | fail)
      go_roundw
      case rel =>
        have hb4 : Below wr.heap.size wr (w3.alloc (.cells #[.slice a3 rn c3] 22)) := Below.next hb3 (below1 _ _)
        have hO4 := hO.keep hb4
        have hown4 : (w3.alloc (.cells #[.slice a3 rn c3] 22)).ownsRow w.heap.size 3 1 (.slice a3 l.length c3) l.length (l.map (Value.int .i64)) := by
          rw [Hrl.out]; exact own_mono (own_keep hown3 (below1 _ _)) hsz
        have hra : a3 ≠ none → ¬ OIn a1 R (ablk a3) := fun h0 hI => by
          have h1 := (own_ne hown3 h0).1
          have h2 := (hO.lt _ hI).2
          omega
        have hP := OMat.push hO4 hown4 hra (by rw [Hrl.out]; exact hown5) hgr5 hap5
        have hb5 : Below w.heap.size w w5 := Below.app (Below.next hbr hb4) hO4.own hgr5 (Nat.le_refl _) (Nat.le_trans hsz hb4.size)
        exact ⟨k + 1, a5, c5, by omega, by go_num, rfl, ⟨_, by rw [Htk.out]; exact hP⟩, hb5⟩
      case measure => simp [intOf] <;> omega
    · obtain rfl : k = n := by omega
      rw [List.take_of_length_le (by rw [Hlen.out]; exact Nat.le_refl _)] at hO
      go_wp2_with fail
      go_ret
      exact ⟨a1, c1, R, by rw [Hlen.out]; rfl, by rw [Hlen.out]; exact hO, hbr⟩
end

/- A condition on the world that need not hold behind the region's last operation: loads are taken first under it. -/
section
section
variable {P : Program} {ops : Array Oper} {Q : Exit → Act → World → Prop} {md : Region.Mode} {S : World → Prop} {n : Nat}

/-- whatever order comes: S holds behind each operation ahead of number n -/
def wpAnyK (P : Program) (md : Region.Mode) (ops : Array Oper) (Q : Exit → Act → World → Prop) (S : World → Prop) (n : Nat) : Nat → Array Bool → Act → World → Prop
  | 0, listed, a, w => Region.ready md ops listed = [] ∧ Q .normal a w
  | fuel + 1, listed, a, w =>
    (Region.ready md ops listed = [] → Q .normal a w) ∧
    ∀ i ∈ Region.ready md ops listed, wpOp P ops Q i (fun a' w' => (i < n → S w') ∧ wpAnyK P md ops Q S n fuel (listed.setIfInBounds i true) a' w') a w

theorem wpAny_of_K : ∀ (fuel : Nat) (listed : Array Bool) (a : Act) (w : World), wpAnyK P md ops Q S n fuel listed a w → wpAny P md ops Q fuel listed a w
  | 0, _, _, _, h => h
  | fuel + 1, _, _, _, h => ⟨h.1, fun i hi => wpOp_mono (fun a' w' h' => wpAny_of_K fuel _ a' w' h'.2) (h.2 i hi)⟩

theorem wpAnyK_first {i : Nat} {oi : Oper} {v : Value} (hi : ops[i]? = some oi) (hsel : ∀ (j : Nat) (o : Oper) cs b, ops[j]? = some o → o.op ≠ .select cs b)
    (hQ : ∀ c a w, Q (.panic c) (a.put oi.dst v) w → Q (.panic c) a w) (hs : Region.sinkB md ops n = true) (hc : Region.chainB md ops n = true) (hn : n < ops.size) (hin : i < n) :
    ∀ (fuel : Nat) (listed : Array Bool) (a : Act) (w : World), HeadInv md ops n listed →
      (∀ j oj, ops[j]? = some oj → j ≠ i → listed.getD j true = false → (∀ e ∈ oj.after, Region.binds md e = true → e.on ≠ i) → oi.apart ops oj = true) →
      i ∈ Region.ready md ops listed → YieldsIf P ops S oi v a → S w →
      wpAnyK P md ops Q S n fuel (listed.setIfInBounds i true) (a.put oi.dst v) w → wpAnyK P md ops Q S n (fuel + 1) listed a w := by
  intro fuel
  induction fuel with
  | zero =>
    intro listed a w inv _ hr hy hS H
    refine ⟨fun h => (by rw [h] at hr; cases hr), fun j hj => ?_⟩
    by_cases hji : j = i
    · subst hji; exact hy.wpOp hi hS ⟨fun _ => hS, H⟩
    · have := ready_mono hj hji
      rw [H.1] at this
      cases this
  | succ fuel ih =>
    intro listed a w inv hfree hr hy hS H
    have hun := (mem_ready.1 hr).1
    refine ⟨fun h => (by rw [h] at hr; cases hr), fun j hj => ?_⟩
    by_cases hji : j = i
    · subst hji; exact hy.wpOp hi hS ⟨fun _ => hS, H⟩
    · have hjn : j < n := by
        rcases Nat.lt_or_ge j n with h | h
        · exact h
        · exact absurd hj (tail_waits hs hc hn inv _ i rfl hin hun j h)
      have h1 := H.2 j (ready_mono hj hji)
      obtain ⟨hjun, oj, hoj, hall⟩ := mem_ready.1 hj
      have hnot : ∀ e ∈ oj.after, Region.binds md e = true → e.on ≠ i := fun e he hb heq => by
        have h1 := hall e he hb
        rw [heq, getD_both hun] at h1
        cases h1
      have h2 := wpOp_putIf hoj (hfree j oj hoj hji hjun hnot) (fun cs b => hsel i oi cs b hi) (fun cs b => hsel j oj cs b hoj) hQ hy h1
      have hfree' : ∀ k ok, ops[k]? = some ok → k ≠ i → (listed.setIfInBounds j true).getD k true = false →
          (∀ e ∈ ok.after, Region.binds md e = true → e.on ≠ i) → oi.apart ops ok = true := fun k ok hk hki hku hno => by
        refine hfree k ok hk hki ?_ hno
        by_cases hjk : j = k
        · subst hjk; exact hjun
        · rw [getD_set_ne true hjk] at hku; exact hku
      refine wpOp_mono (fun a' w' h3 => ?_) h2
      have hSw := h3.2.1 hjn
      refine ⟨fun _ => hSw, ih (listed.setIfInBounds j true) a' w' (inv.set hj hjn) hfree' (ready_mono hr (Ne.symm hji)) h3.1 hSw ?_⟩
      rw [Array.setIfInBounds_comm _ _ hji]
      exact h3.2.2

/-- take number i first -/
theorem wpAnyK_take {i : Nat} {oi : Oper} {v : Value} {fuel : Nat} {listed : Array Bool} {a : Act} {w : World} (hi : ops[i]? = some oi)
    (hs : (Region.noSelect ops && (Region.sinkB md ops n && (Region.chainB md ops n && (decide (n < ops.size) && decide (i < n))))) = true) (hf : Region.free md ops listed i = true) (hr : (Region.ready md ops listed).contains i = true)
    (hQ : ∀ c a w, Q (.panic c) (a.put oi.dst v) w → Q (.panic c) a w) (hy : YieldsIf P ops S oi v a) (hI : HeadInv md ops n listed ∧ S w)
    (h : HeadInv md ops n (listed.setIfInBounds i true) ∧ S w → wpAnyK P md ops Q S n fuel (listed.setIfInBounds i true) (a.put oi.dst v) w) : wpAnyK P md ops Q S n (fuel + 1) listed a w := by
  simp only [Bool.and_eq_true, decide_eq_true_eq] at hs
  have hr' : i ∈ Region.ready md ops listed := by simpa using hr
  exact wpAnyK_first hi (Region.noSelect_spec hs.1) hQ hs.2.1 hs.2.2.1 hs.2.2.2.1 hs.2.2.2.2 fuel listed a w hI.1 (Region.free_spec hi hf) hr' hy hI.2 (h ⟨hI.1.set hr' hs.2.2.2.2, hI.2⟩)

/-- one operation alone may come up -/
theorem wpAnyK_one {i : Nat} {fuel : Nat} {listed : Array Bool} {a : Act} {w : World} (hr : Region.ready md ops listed = [i]) (hin : i < n) (hI : HeadInv md ops n listed)
    (h : wpOp P ops Q i (fun a' w' => S w' ∧ (HeadInv md ops n (listed.setIfInBounds i true) ∧ S w' → wpAnyK P md ops Q S n fuel (listed.setIfInBounds i true) a' w')) a w) : wpAnyK P md ops Q S n (fuel + 1) listed a w :=
  ⟨fun h0 => (by rw [hr] at h0; cases h0), fun j hj => by
    rw [hr, List.mem_singleton] at hj; subst hj
    exact wpOp_mono (fun a' w' h' => ⟨fun _ => h'.1, h'.2 ⟨hI.set (by rw [hr]; simp) hin, h'.1⟩⟩) h⟩
/-- the last one: nothing is asked behind it -/
theorem wpAnyK_last {i : Nat} {fuel : Nat} {listed : Array Bool} {a : Act} {w : World} (hr : Region.ready md ops listed = [i]) (hin : n ≤ i) (hd : Region.ready md ops (listed.setIfInBounds i true) = [])
    (h : wpOp P ops Q i (fun a' w' => Q .normal a' w') a w) : wpAnyK P md ops Q S n (fuel + 1) listed a w :=
  ⟨fun h0 => (by rw [hr] at h0; cases h0), fun j hj => by
    rw [hr, List.mem_singleton] at hj; subst hj
    refine wpOp_mono (fun a' w' h' => ⟨fun h1 => by omega, ?_⟩) h
    cases fuel with
    | zero => exact ⟨hd, h'⟩
    | succ f => exact ⟨fun _ => h', by rw [hd]; simp⟩⟩
/-- one operation alone may come up: it is handed over, and the way back -/
theorem wpAnyK_op {i : Nat} {o : Oper} {fuel : Nat} {listed : Array Bool} {a : Act} {w : World} (hr : Region.ready md ops listed = [i]) (hin : i < n) (hI : HeadInv md ops n listed) (ho : ops[i]? = some o)
    (h : ∀ K' : Act → World → Prop, Shut (∀ a w, S w → (HeadInv md ops n (listed.setIfInBounds i true) ∧ S w → wpAnyK P md ops Q S n fuel (listed.setIfInBounds i true) a w) → K' a w) → if Region.wanted o (yielded ops a.tmps) = true then Oper.wp P o a w K' Q else K' (a.put o.dst undef) w) :
    wpAnyK P md ops Q S n (fuel + 1) listed a w :=
  wpAnyK_one hr hin hI (wpOp_step ho fun K' hK => h K' fun a w hS hW => hK a w ⟨hS, hW⟩)
theorem wpAnyK_end {i : Nat} {o : Oper} {fuel : Nat} {listed : Array Bool} {a : Act} {w : World} (hr : Region.ready md ops listed = [i]) (hin : n ≤ i) (hd : Region.ready md ops (listed.setIfInBounds i true) = []) (ho : ops[i]? = some o)
    (h : ∀ K' : Act → World → Prop, Shut (∀ a w, Q .normal a w → K' a w) → if Region.wanted o (yielded ops a.tmps) = true then Oper.wp P o a w K' Q else K' (a.put o.dst undef) w) :
    wpAnyK P md ops Q S n (fuel + 1) listed a w :=
  wpAnyK_last hr hin hd (wpOp_step ho fun K' hK => h K' fun a w hq => hK a w hq)
theorem headInv0 : HeadInv md ops n (Array.replicate ops.size false) :=
  ⟨by simp, fun j oj _ hl => (by rw [getD_replicate_false] at hl; cases hl), fun t _ ht => by
    have := getD_replicate_false ops.size t
    exact getD_in (by simpa using ht) this⟩
theorem wp_region_K {id : Nat} {a : Act} {w : World} (S : World → Prop) (n : Nat) (hm : P.follows .mixedOrders = true) (hS : S w.drew)
    (h : HeadInv .any ops n (Array.replicate ops.size false) ∧ S w.drew → wpAnyK P .any ops Q S n ops.size (Array.replicate ops.size false) a w.drew) : (Code.region id ops true).wp P Q a w :=
  wp_region_any hm (wpAny_of_K _ _ _ _ (h ⟨headInv0, hS⟩))
end
end

end Go.Proofs.YtakmnncmeefceaaGreat
