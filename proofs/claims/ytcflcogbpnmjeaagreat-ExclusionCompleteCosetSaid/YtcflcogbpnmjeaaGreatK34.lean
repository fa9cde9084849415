/- The walks of codewrightref12.Size, Count. -/
import Derived.Test.YtcflcogbpnmjeaaGreatK11
import Derived.Test.YtcflcogbpnmjeaaGreatK33
import Derived.RangeFuncNested
import Derived.Test.YtcflcogbpnmjeaaGreatK29
import Derived.Test.YtcflcogbpnmjeaaGreatK31
namespace Go.Proofs.YtcflcogbpnmjeaaGreat
set_option linter.unusedVariables false
set_option linter.unusedSimpArgs false
set_option linter.unusedSectionVars false

/- The walks of number.Exp, codewrightref03.Exp at a field's order. -/
section
open Go.RowKit

def expV (q : Int) (k : Nat) : Int := if q ^ k ≤ 65536 then q ^ k else 0
def expE (q : Int) (k : Nat) : Int := if q ^ k ≤ 65536 then 0 else 8
theorem expV_in {q : Int} {k : Nat} (h : q ^ k ≤ 65536) : expV q k = q ^ k ∧ expE q k = 0 := by simp [expV, expE, h]
theorem expV_out {q : Int} {k : Nat} (h : ¬ q ^ k ≤ 65536) : expV q k = 0 ∧ expE q k = 8 := by simp [expV, expE, h]
theorem ret_two {a b c d : Int} {k k' : IntKind} (h : a = b) (h' : c = d) : Ending.returned (.tuple #[.int k a, .int k' c]) = .returned (.tuple #[.int k b, .int k' d]) := by rw [h, h']

set_option maxHeartbeats 1600000 in
theorem exp_any (q : Int) (n : Nat) (w : World) (h2 : 2 ≤ q) (h256 : q ≤ 256) (hn : n ≤ 1000000) :
    Calls Tryz.prog 106 #[.int .i64 q, .int .i64 n, .int .i64 65536] w fun e w' => e = .returned (.tuple #[.int .i64 (expV q n), .int .i64 (expE q n)]) ∧ w = w' := by
  go_enter Tryz.func106, Tryz.ntmps106
  go_wp2_with fail
  go_loop [1, 8] (fun nv qv => ∃ k : Nat, k ≤ n ∧ nv = .int .i64 ((n : Int) - k) ∧ qv = .int .i64 (q ^ k) ∧ q ^ k ≤ 65536 ∧ 1 ≤ q ^ k) (fun i _ => (intOf i).toNat)
  case atStart => exact ⟨0, Nat.zero_le _, by simp, by simp, by simp, by simp⟩
  case round =>
    obtain ⟨k, hk, rfl, rfl, hb, hb1⟩ := hrel
    have hP0 : q ≠ 0 := by omega
    by_cases hlt : k < n
    · have e1 : q ^ (k + 1) = q ^ k * q := Int.pow_succ _ _
      have hd0 : (0 : Int) ≤ 65536 / q := Int.ediv_nonneg (by omega) (by omega)
      have hd1 : 65536 / q ≤ 65536 := Int.ediv_le_self _ (by omega)
      by_cases h5 : 65536 / q < q ^ k
      · have hbig : ¬ q ^ n ≤ 65536 := by
          intro h
          have h6 := pow_mono (show 1 ≤ q by omega) (show k + 1 ≤ n by omega)
          have h7 : 65536 < q ^ k * q := Int.lt_mul_of_ediv_lt (by omega) h5
          omega
        have Hb := Lib.hid (expV_out hbig)
        clear e1 hbig
        generalize q ^ k = z at *
        go_wp2_with fail
        go_ret2
        exact ⟨ret_two Hb.out.1.symm Hb.out.2.symm, rfl⟩
      · have h6 : q ^ k * q ≤ 65536 := by
          have := Int.mul_le_of_le_ediv (show (0 : Int) < q by omega) (show q ^ k ≤ 65536 / q by omega)
          exact this
        have h7 : 1 * 1 ≤ q ^ k * q := Int.mul_le_mul hb1 (by omega) (by omega) (by omega)
        have E1 := Lib.hid e1
        clear e1
        generalize hz : q ^ k = z at *
        have Hz := Lib.hid hz
        clear hz
        go_wp2_with fail
        go_round
        case rel => exact ⟨k + 1, by omega, by go_num, by rw [E1.out], by rw [E1.out]; exact h6, by rw [E1.out]; omega⟩
        case measure => simp [intOf] <;> omega
    · obtain rfl : k = n := by omega
      have Hb := Lib.hid (expV_in hb)
      generalize q ^ k = z at *
      go_wp2_with fail
      go_ret2
      exact ⟨ret_two Hb.out.1.symm Hb.out.2.symm, rfl⟩

set_option maxHeartbeats 1600000 in
theorem rExp_any (q : Int) (n : Nat) (w : World) (h2 : 2 ≤ q) (h256 : q ≤ 256) (hn : n ≤ 1000000) :
    Calls Tryz.prog 104 #[.int .i64 q, .int .i64 n, .int .i64 65536] w fun e w' => e = .returned (.tuple #[.int .i64 (expV q n), .int .i64 (expE q n)]) ∧ w = w' := by
  go_enter Tryz.func104, Tryz.ntmps104
  go_wp2_with fail
  go_loop [8, 9] (fun qv nv => ∃ k : Nat, k ≤ n ∧ nv = .int .i64 k ∧ qv = .int .i64 (q ^ k) ∧ q ^ k ≤ 65536 ∧ 1 ≤ q ^ k) (fun _ i => n - (intOf i).toNat)
  case atStart => exact ⟨0, Nat.zero_le _, rfl, by simp, by simp, by simp⟩
  case round =>
    obtain ⟨k, hk, rfl, rfl, hb, hb1⟩ := hrel
    have hP0 : q ≠ 0 := by omega
    by_cases hlt : k < n
    · have e1 : q ^ (k + 1) = q ^ k * q := Int.pow_succ _ _
      have hd0 : (0 : Int) ≤ 65536 / q := Int.ediv_nonneg (by omega) (by omega)
      have hd1 : 65536 / q ≤ 65536 := Int.ediv_le_self _ (by omega)
      by_cases h5 : 65536 / q < q ^ k
      · have hbig : ¬ q ^ n ≤ 65536 := by
          intro h
          have h6 := pow_mono (show 1 ≤ q by omega) (show k + 1 ≤ n by omega)
          have h7 : 65536 < q ^ k * q := Int.lt_mul_of_ediv_lt (by omega) h5
          omega
        have Hb := Lib.hid (expV_out hbig)
        clear e1 hbig
        generalize q ^ k = z at *
        go_wp2_with fail
        go_ret2
        exact ⟨ret_two Hb.out.1.symm Hb.out.2.symm, rfl⟩
      · have h6 : q ^ k * q ≤ 65536 := by
          have := Int.mul_le_of_le_ediv (show (0 : Int) < q by omega) (show q ^ k ≤ 65536 / q by omega)
          exact this
        have h7 : 1 * 1 ≤ q ^ k * q := Int.mul_le_mul hb1 (by omega) (by omega) (by omega)
        have E1 := Lib.hid e1
        clear e1
        generalize hz : q ^ k = z at *
        have Hz := Lib.hid hz
        clear hz
        go_wp2_with fail
        go_round
        case rel => exact ⟨k + 1, by omega, by go_num, by rw [E1.out], by rw [E1.out]; exact h6, by rw [E1.out]; omega⟩
        case measure => simp [intOf] <;> omega
    · obtain rfl : k = n := by omega
      have Hb := Lib.hid (expV_in hb)
      generalize q ^ k = z at *
      go_wp2_with fail
      go_ret2
      exact ⟨ret_two Hb.out.1.symm Hb.out.2.symm, rfl⟩
end

/- The walk of code.Size. -/
section
open Go.RowKit

set_option maxRecDepth 100000 in
set_option maxHeartbeats 4000000 in
theorem size_any (P M : Int) (am : Option Addr) (mn cm : Nat) (mod : List Int) (n : Nat) (a : Option Addr) (k c : Nat) (L : List (List Int)) (w : World) (hE : codeE P M mod n L = 0) (hmod : Ints w am mn mod) (hi : Mat w a k L) :
    Calls Tryz.prog 59 #[.agg #[.int .i64 P, .int .i64 M, .slice am mn cm, .int .i64 n, .slice a k c]] w fun e w' =>
      e = .returned (.tuple #[.int .i64 (expV (tblOf P M.toNat mod).q k), .int .i64 (expE (tblOf P M.toNat mod).q k)]) ∧ Below w.heap.size w w' := by
  have hk256 : k ≤ 256 := by rw [← hi.len]; exact (codeE_rws hE).choose_spec.2.2.2.1
  have hfB := (codeE_zero hE).1
  have HCk : Hid (∀ V, Below w.heap.size w V → Calls Tryz.prog 76 #[.agg #[.int .i64 P, .int .i64 M, .slice am mn cm, .int .i64 n, .slice a k c]] V fun e w' => e = .returned (.int .i64 0) ∧ Below V.heap.size V w') := fun V hV => by
    have h := codeCheck_any P M am mn cm mod n a k c L V (hmod.keep hV) (hi.keep hV)
    rw [hE] at h
    exact h
  have HNw : Hid (∀ V, Below w.heap.size w V → Calls Tryz.prog 105 #[.agg #[.int .i64 P, .int .i64 M, .slice am mn cm]] V fun e w' => ∃ b, e = .returned (.tuple #[.pointer (some ⟨b, 0, none⟩), .int .i64 0]) ∧ GFw w' b (tblOf P M.toNat mod) ∧ Below V.heap.size V w') := fun V hV => by
    refine (fieldNew_any P M am mn cm mod V (hmod.keep hV)).mono ?_
    rintro e w' (⟨h1, _⟩ | ⟨_, b, h2, h3, _, h4⟩)
    · rw [hfB] at h1; cases h1
    · exact ⟨b, h2, h3.gf, h4⟩
  obtain ⟨G, hG⟩ : ∃ G, tblOf P M.toNat mod = G := ⟨_, rfl⟩
  rw [hG] at HNw ⊢
  clear hG hfB hE hmod hi
  go_enter Tryz.func59, Tryz.ntmps59
  go_upto_region 1 with fail
  obtain ⟨W, hW⟩ : ∃ W : World, W = w.alloc (.cells #[.int .i64 P, .int .i64 M, .slice am mn cm, .int .i64 n, .slice a k c] 27) := ⟨_, rfl⟩
  rw [← hW]
  have hbW : Below w.heap.size w W := by rw [hW]; exact below1 _ _
  have x0 : Box W w.heap.size [.int .i64 P, .int .i64 M, .slice am mn cm, .int .i64 n, .slice a k c] := by rw [hW]; exact Box.new _ _ _ rfl
  have HX := Lib.hid x0
  have c0 := x0.cell 0 rfl
  have c1 := x0.cell 1 rfl
  have c2 := x0.cell 2 rfl
  clear hW x0
  go_wp2_with (go_at_call 105; refine (HNw.out _ hbW).mono ?_; rintro e w2 ⟨b, rfl, hG2, hb2⟩; have x2 := HX.out.keep hb2; have d0 := x2.cell 0 rfl; have d1 := x2.cell 1 rfl; have d2 := x2.cell 2 rfl; have d3 := x2.cell 3 rfl; have d4 := x2.cell 4 rfl; clear x2)
  refine (HCk.out _ (Below.next hbW hb2)).mono ?_
  rintro e w3 ⟨rfl, hb3⟩
  have hG3 := hG2.keep hb3
  have hq2 : (2 : Int) ≤ G.q := by have := hG3.q2; omega
  have hq256 : (G.q : Int) ≤ 256 := by have := hG3.q256; omega
  have e4 := ((HX.out.keep hb2).keep hb3).cell 4 rfl
  have hGd : ∀ m, GFw (w3.drewN m) b G := fun m => hG3.drewN m
  clear d0 d1 d2 d3 d4 c0 c1 c2
  go_wp2_with fail
  have HS : Hid (∀ V, Below w3.heap.size w3 V → V.cell? ⟨w.heap.size, 4, none⟩ = some (.slice a k c) ∧ GFw V b G ∧ Below w3.heap.size w3 V) := fun V hV =>
    ⟨(((HX.out.keep hb2).keep hb3).keep hV).cell 4 rfl, hG3.keep hV, hV⟩
  clear e4 hGd
  go_region_held3 (fun V => V.cell? ⟨w.heap.size, 4, none⟩ = some (.slice a k c) ∧ GFw V b G ∧ Below w3.heap.size w3 V)
    ((refine HS.out _ ?_; first | exact (Below.refl _ _).drew | (go_split_ands; assumption) | (go_split_ands; exact Below.next (by assumption) (by assumption))))
    (first
      | (go_at_call 107; ((with_reducible refine (gOrder (b := b) (G := G) (by go_split_ands; assumption)).mono ?_); rintro e w4 ⟨rfl, rfl⟩))
      | (go_at_call 106; ((with_reducible refine (exp_any (G.q : Int) k _ hq2 hq256 (by omega)).mono ?_); rintro e w5 ⟨rfl, rfl⟩)))
  all_goals go_wp2_with fail
  all_goals go_ret2
  all_goals exact ⟨rfl, Below.next (Below.next (Below.next hbW hb2) hb3) (by go_split_ands; assumption)⟩
end

/- A range over code.Walk. -/
section
open Go.RowKit Go.Shelf

theorem Moves.putAt (w : World) {I : Nat → Prop} {B : Nat} (hB : I B) (o : Obj) : Moves w (w.putObj B o) I I := by
  have hg := grownBy_putObj' w B o
  exact ⟨hg.os, hg.tape, hg.output, hg.size, fun b hb hI => hg.block b hb (fun e => by cases e; exact hI hB), fun b hb => .inl hb⟩
theorem Ints.put {w : World} {a : Option Addr} {n : Nat} {l : List Int} (h : Ints w a n l) (B : Nat) (o : Obj) (hB : 0 < n → ablk a ≠ B) : Ints (w.putObj B o) a n l :=
  h.of_block fun hn => World.putObj_heap_other (fun e => hB hn e)

set_option maxHeartbeats 1000000 in
theorem wp_range_walk {g : Operand} {ps : Array Tmp} {assign body : Code} {Q : Exit → Act → World → Prop} {a : Act} {w : World} {m n N : Nat} {lb : Array Value} {R : List (List Int)}
    (hg : a.eval g = .func (.func 108) #[] lb) (eg : ∀ args w, (callFunc 108 args).run Tryz.prog w = .ok (.enter 108 args) w) (hps : ps.size = 2) (hm : 1 ≤ m) (hn1 : 1 ≤ n)
    (MB : Nat → Prop) (hMB : ∀ x, MB x → x < w.heap.size)
    (hseq : ∀ (l : Nat) (J : List WX → World → Prop) (MM : Nat → Prop) (W : World), Below w.heap.size w W → W.heap.size = w.heap.size + 2 → (∀ x, MM x → MB x ∨ x = w.heap.size + 1) →
      (∀ pre V V', J pre V → Below V.heap.size V V' → J pre V') → (∀ B pre V v, W.heap.size ≤ B → (∀ x ∈ pre, ablk x.a ≠ B) → J pre V → J pre (V.setCell ⟨B, 0, none⟩ v)) →
      (∀ m pre x V, J pre V → pre.length < N → Ints V x.a n x.l → (∀ j, MM j → j ≠ ablk x.a) → YOk l n J MM m pre x V) → J [] W →
      Calls Tryz.prog 108 (#[.func (.yield l) #[] #[]] ++ lb) W fun e V => e = .returned (.tuple #[]) ∧ ∃ xs : List WX, xs.map WX.l = R ∧ J xs V ∧ Moves W V MM MM)
    (I : List WX → World → Prop) (hIa : ∀ pre V V', I pre V → Below V.heap.size V V' → I pre V')
    (hIb : ∀ B pre V v, w.heap.size ≤ B → (∀ x ∈ pre, ablk x.a ≠ B) → I pre V → I pre (V.setCell ⟨B, 0, none⟩ v))
    (hIp : ∀ B pre V o, w.heap.size ≤ B → (∀ x ∈ pre, ablk x.a ≠ B) → I pre V → I pre (V.putObj B o)) (h0 : I [] w)
    (a₁ : List WX → WX → Act)
    (hassign : ∀ (l m : Nat) (pre : List WX) (x : WX) (W : World) (K : Act → World → Prop), K (a₁ pre x) W →
      assign.wpIn (Fence.wide.inRound l) m Tryz.prog (Exit.then K (fun _ _ _ => False)) { tmps := (ps.zip #[.int .i64 (pre.length : Nat), .slice x.a n x.c]).foldl (fun t (p, v) => t.setIfInBounds p v) a.tmps, defers := [] } W)
    (hbody : ∀ (l m : Nat) (pre : List WX) (x : WX) (W : World), I pre W → pre.length < N → Ints W x.a n x.l → (∀ j, MB j → j ≠ ablk x.a) →
      body.wpIn (Fence.wide.inRound l) m Tryz.prog (fun e _ W' => e = .normal ∧ I (pre ++ [x]) W' ∧ Moves W W' MB MB) (a₁ pre x) W)
    (hdone : ∀ (xs : List WX) (W : World), xs.map WX.l = R → I xs W → Moves w W (fun x => MB x ∨ w.heap.size ≤ x) (fun x => MB x ∨ w.heap.size ≤ x) → W.heap[w.heap.size]? = some (.deferred (some [])) → Q .normal { a with defers := { target := .collected w.heap.size, args := #[] } :: a.defers } W) :
    (Code.rangeFunc g ps assign body).wpIn Fence.wide m Tryz.prog Q a w := by
  refine wpIn_rangeFunc ?_
  intro fn hfn
  obtain ⟨rec, hrec⟩ : ∃ rec : LoopState → Option Code → Loop, rec = fun st pe => { state := st, pending := pe, fn, tmps := a.tmps, params := ps, assign, body, defers := w.heap.size } := ⟨_, rfl⟩
  obtain ⟨W1, hW1⟩ : ∃ W1, (w.alloc (.deferred (some []))).alloc (.loop (rec .ready none)) = W1 := ⟨_, rfl⟩
  have hL1 : W1.heap[w.heap.size + 1]? = some (.loop (rec .ready none)) := by
    rw [← hW1]; have := World.alloc_heap_new (w.alloc (.deferred (some []))) (.loop (rec .ready none)); rwa [World.size_alloc] at this
  have hK1 : W1.heap[w.heap.size]? = some (.deferred (some [])) := by
    rw [← hW1]; exact (Below.heap_alloc _ _ _ (by simp)).trans (World.alloc_heap_new w _)
  have hb1 : Below w.heap.size w W1 := by rw [← hW1]; exact below2 _ _ _
  have hs1 : W1.heap.size = w.heap.size + 2 := by rw [← hW1]; simp
  refine ⟨w.heap.size + 1, [{ target := .collected w.heap.size, args := #[] }], W1, { target := .fn (.func 108) lb, args := #[.func (.yield (w.heap.size + 1)) #[] #[]] }, W1, 108,
    #[.func (.yield (w.heap.size + 1)) #[] #[]] ++ lb, W1, ?_, ?_, ?_, ?_, fun _ => hm, ?_⟩
  · rw [← hW1, hrec]; exact run_enterLoop_outer _ _ _ _ _
  · simp only [resolve, hg]
    simp [go_sem]
  · intro f' hf'; trivial
  · simp [invoke, go_sem, eg]
  · refine callsIn_wide.2 ((hseq (w.heap.size + 1)
      (fun pre W => I pre W ∧ W.heap[w.heap.size + 1]? = some (.loop (rec .ready none)) ∧ W.heap[w.heap.size]? = some (.deferred (some [])) ∧ ∀ x ∈ pre, ablk x.a ≠ w.heap.size + 1)
      (fun x => MB x ∨ x = w.heap.size + 1) W1 hb1 hs1 (fun x h => h) ?_ ?_ ?_ ⟨hIa _ _ _ h0 hb1, hL1, hK1, fun x hx => by simp at hx⟩).mono ?_)
    · rintro pre V V' ⟨h1, h2, h3, h4⟩ hb
      exact ⟨hIa _ _ _ h1 hb, (hb.block _ (Array.getElem?_eq_some_iff.1 h2).1).trans h2, (hb.block _ (Array.getElem?_eq_some_iff.1 h3).1).trans h3, h4⟩
    · rintro B pre V v hB hx ⟨h1, h2, h3, h4⟩
      exact ⟨hIb B _ _ _ (by omega) hx h1, (Below.heap_setCell _ _ _ _ (by show w.heap.size + 1 ≠ B; omega)).trans h2, (Below.heap_setCell _ _ _ _ (by show w.heap.size ≠ B; omega)).trans h3, h4⟩
    · rintro k pre x V ⟨hi, hl, hd, hpx⟩ hlen hix hxM
      have hlt : w.heap.size + 1 < V.heap.size := (Array.getElem?_eq_some_iff.1 hl).1
      have hxl : ablk x.a ≠ w.heap.size + 1 := fun e => hxM _ (.inr rfl) e.symm
      have hy := run_yield (P := Tryz.prog) (args := #[.int .i64 (pre.length : Nat), .slice x.a n x.c]) hl (by rw [hrec]; exact hps.symm ▸ rfl)
      rw [hrec] at hy
      refine ⟨fn, _, assign, body, hy, roundIn_of_wpIn hfn (hassign _ _ pre x V _ ⟨_, run_beginRound hl (by rw [hrec]), ?_⟩)⟩
      have hl2 : (V.putObj (w.heap.size + 1) (.loop { rec .ready none with state := .busy })).heap[w.heap.size + 1]? = some (.loop { rec .ready none with state := .busy }) := World.putObj_heap_same hlt
      have hd2 : (V.putObj (w.heap.size + 1) (.loop { rec .ready none with state := .busy })).heap[w.heap.size]? = some (.deferred (some [])) := (World.putObj_heap_other (by omega)).trans hd
      have hm2 : Moves V (V.putObj (w.heap.size + 1) (.loop { rec .ready none with state := .busy })) (fun x => MB x ∨ x = w.heap.size + 1) (fun x => MB x ∨ x = w.heap.size + 1) := Moves.putAt _ (.inr rfl) _
      refine wpIn_mono (hbody _ _ pre x _ (hIp _ _ _ _ (by omega) hpx hi) hlen (hix.put _ _ (fun _ => hxl)) (fun j hj => hxM j (.inl hj))) ?_
      rintro e a3 W3 ⟨rfl, hi3, hm3⟩
      have hnl : ¬ MB (w.heap.size + 1) := fun h => by have := hMB _ h; omega
      have hnd : ¬ MB w.heap.size := fun h => by have := hMB _ h; omega
      have hl3 := (hm3.block _ (Array.getElem?_eq_some_iff.1 hl2).1 hnl).trans hl2
      have hd3 := (hm3.block _ (Array.getElem?_eq_some_iff.1 hd2).1 hnd).trans hd2
      have hr := run_endRound (P := Tryz.prog) none hl3
      rw [hrec] at hr
      refine ⟨_, _, hr, rfl, ⟨hIp _ _ _ _ (by omega) ?_ hi3, ?_, ?_, ?_⟩, ?_⟩
      · intro y hy
        rcases List.mem_append.1 hy with hy | hy
        · exact hpx y hy
        · rw [List.mem_singleton.1 hy]; exact hxl
      · rw [hrec]; exact World.putObj_heap_same (Array.getElem?_eq_some_iff.1 hl3).1
      · exact (World.putObj_heap_other (by omega)).trans hd3
      · intro y hy
        rcases List.mem_append.1 hy with hy | hy
        · exact hpx y hy
        · rw [List.mem_singleton.1 hy]; exact hxl
      · exact (hm2.trans (hm3.wide (fun x h => .inl h))).trans (Moves.putAt _ (.inr rfl) _)
    · rintro e W2 ⟨rfl, xs, hx, ⟨hi, hl, hd, hpx⟩, hmv⟩
      refine ⟨none, _, by have := run_endLoop (P := Tryz.prog) hl (by rw [hrec]; simp); rw [hrec] at this; exact this, hdone xs _ hx (hIp _ _ _ _ (by omega) hpx hi) ?_ ((World.putObj_heap_other (by omega)).trans hd)⟩
      have hw : Moves w W2 (fun x => MB x ∨ w.heap.size ≤ x) (fun x => MB x ∨ w.heap.size ≤ x) := (Moves.of_below hb1 _).trans (hmv.wide (fun x h => h.elim .inl (fun e => .inr (by omega))))
      exact hw.trans (Moves.putAt _ (.inr (by omega)) _)
end

/- The walk of code.Words. -/
section
open Go.RowKit Go.Shelf

theorem infoRows : (Tryz.prog.info? 22).map (fun i => (i.zero, i.size, i.bytes)) = some (some (.slice none 0 0), 1, 24) := by kernel_rfl

theorem run_mk0 (n : Nat) (b2 : n ≤ 1000000) (w : World) :
    (Instr.makeSlice 25 (.int .i64 0) (.int .i64 n)).run Tryz.prog w = .ok (.slice (some ⟨w.heap.size, 0, none⟩) 0 n) (w.alloc (.cells (List.replicate n (Value.slice none 0 0)).toArray 22)) := by
  obtain ⟨i, hi, hz0, hz1, hz2⟩ := info_parts infoRows
  have h := run_make (P := Tryz.prog) w 25 22 i (.slice none 0 0) Tryz.underlying25 hi hz0 .i64 .i64 0 n (by omega) (by omega) (by rw [hz2]; omega) (by omega)
  rw [hz1, Nat.mul_one, show (Value.slice none 0 0).cells = #[Value.slice none 0 0] from rfl, Int.toNat_natCast] at h
  have e : madeCells #[Value.slice none 0 0] n = (List.replicate n (Value.slice none 0 0)).toArray := by rw [← toList_madeCells_one]
  rw [h, e]
  rfl

/-- between two rounds -/
def WrI (B Bo Br n NN : Nat) (pre : List WX) (V : World) : Prop :=
  (Box V Bo [.slice (some ⟨Br, 0, none⟩) pre.length NN] ∧ V.ownsRow B 22 1 (.slice (some ⟨Br, 0, none⟩) pre.length NN) pre.length (pre.map fun x => .slice x.a n x.c)) ∧
    ∀ x ∈ pre, Ints V x.a n x.l ∧ ablk x.a ≠ Bo ∧ ablk x.a ≠ Br

theorem WrI.of_blocks {B Bo Br n NN : Nat} {pre : List WX} {V V' : World} (h : WrI B Bo Br n NN pre V) (ho : V'.heap[Bo]? = V.heap[Bo]?) (hr : V'.heap[Br]? = V.heap[Br]?) (hx : ∀ x ∈ pre, V'.heap[ablk x.a]? = V.heap[ablk x.a]?) (hs : V.heap.size ≤ V'.heap.size) : WrI B Bo Br n NN pre V' :=
  ⟨⟨⟨Nat.lt_of_lt_of_le h.1.1.1 hs, fun i v hv => (World.cell?_of_block (w := V) (a := ⟨Bo, i, none⟩) ho).trans (h.1.1.2.1 i v hv), fun i => (World.frozen?_of_block (w := V) (a := ⟨Bo, i, none⟩) ho).trans (h.1.1.2.2 i)⟩,
    own_block h.1.2 hr⟩, fun x hxp => ⟨(h.2 x hxp).1.of_block fun _ => hx x hxp, (h.2 x hxp).2⟩⟩
theorem WrI.rowlt {B Bo Br n NN : Nat} {pre : List WX} {V : World} (h : WrI B Bo Br n NN pre V) : B ≤ Br ∧ Br < V.heap.size := own_ne h.1.2 (by simp)

theorem Box.set0 {w : World} {b : Nat} {v : Value} (h : Box w b [v]) (u : Value) : Box (w.setCell ⟨b, 0, none⟩ u) b [u] :=
  ⟨by have := ((Below.refl 0 w).setCell (p := ⟨b, 0, none⟩) (Nat.zero_le _) u).size; exact Nat.lt_of_lt_of_le h.1 this, fun i x hx => by
    cases i with
    | zero => simp at hx; subst hx; exact World.cell?_setCell_same' _ _ _ (by rw [h.2.1 0 v rfl]; rfl)
    | succ i => simp at hx, fun i => by rw [World.frozen?_setCell]; exact h.2.2 i⟩
theorem Box.of_block {w w' : World} {b : Nat} {cs : List Value} (h : Box w b cs) (hb : w'.heap[b]? = w.heap[b]?) (hs : w.heap.size ≤ w'.heap.size) : Box w' b cs :=
  ⟨Nat.lt_of_lt_of_le h.1 hs, fun i v hv => (World.cell?_of_block (w := w) (a := ⟨b, i, none⟩) hb).trans (h.2.1 i v hv), fun i => (World.frozen?_of_block (w := w) (a := ⟨b, i, none⟩) hb).trans (h.2.2 i)⟩
theorem Moves.grownB {w w' : World} {I : Nat → Prop} {B : Nat} (hg : w.grownBy w' (some B)) (hB : I B) : Moves w w' I I :=
  ⟨hg.os, hg.tape, hg.output, hg.size, fun b hb hI => hg.block b hb (fun e => by cases e; exact hI hB), fun b hb => .inl hb⟩
/-- a round's step -/
theorem WrI.step {B Br n NN : Nat} {pre : List WX} {x : WX} {W W1 : World} {o : Obj} (h : WrI B (Br + 1) Br n NN pre W) (hix : Ints W x.a n x.l) (hn : 1 ≤ n) (hx1 : ablk x.a ≠ Br + 1) (hx2 : ablk x.a ≠ Br)
    (hg : (W.alloc o).grownBy W1 (some Br)) (hown : W1.ownsRow B 22 1 (.slice (some ⟨Br, 0, none⟩) (pre.length + 1) NN) (pre.length + 1) (pre.map (fun x => .slice x.a n x.c) ++ [.slice x.a n x.c])) :
    WrI B (Br + 1) Br n NN (pre ++ [x]) (W1.setCell ⟨Br + 1, 0, none⟩ (.slice (some ⟨Br, 0, none⟩) (pre.length + 1) NN)) ∧
      Moves W (W1.setCell ⟨Br + 1, 0, none⟩ (.slice (some ⟨Br, 0, none⟩) (pre.length + 1) NN)) (fun y => y = Br + 1 ∨ y = Br) (fun y => y = Br + 1 ∨ y = Br) := by
  have hblk : ∀ y, y < W.heap.size → y ≠ Br → W1.heap[y]? = W.heap[y]? := fun y hy h2 => (hg.block y (by simp; omega) (fun e => by cases e; exact h2 rfl)).trans (Below.heap_alloc _ _ _ hy)
  have hsz : W.heap.size ≤ W1.heap.size := by have := hg.size; simp at this; omega
  have hbx : Box W1 (Br + 1) [.slice (some ⟨Br, 0, none⟩) pre.length NN] := h.1.1.of_block (hblk _ h.1.1.1 (by omega)) hsz
  refine ⟨⟨⟨by rw [List.length_append]; exact hbx.set0 _, ?_⟩, ?_⟩, ((Moves.of_below (below1 W o) _).trans (Moves.grownB hg (.inr rfl))).trans (Moves.setAt _ (.inl rfl) _)⟩
  · have h2 := own_block hown (w' := W1.setCell ⟨Br + 1, 0, none⟩ (.slice (some ⟨Br, 0, none⟩) (pre.length + 1) NN)) (Below.heap_setCell _ _ _ _ (by show Br ≠ Br + 1; omega))
    rw [List.length_append, List.map_append]
    exact h2
  · intro y hy
    have hy' : Ints W y.a n y.l ∧ ablk y.a ≠ Br + 1 ∧ ablk y.a ≠ Br := by
      rcases List.mem_append.1 hy with hy | hy
      · exact h.2 y hy
      · rw [List.mem_singleton.1 hy]; exact ⟨hix, hx1, hx2⟩
    refine ⟨hy'.1.of_block fun h0 => ?_, hy'.2⟩
    exact (Below.heap_setCell _ _ _ _ (by show ablk y.a ≠ Br + 1; exact hy'.2.1)).trans (hblk _ (hy'.1.lt h0) hy'.2.2)

attribute [local go_sem] Oper.semAt_some

set_option maxHeartbeats 1000000 in
theorem walk_any (P M : Int) (am : Option Addr) (mn cm : Nat) (N : Int) (a : Option Addr) (k c : Nat) (w : World) :
    Calls Tryz.prog 60 #[.agg #[.int .i64 P, .int .i64 M, .slice am mn cm, .int .i64 N, .slice a k c]] w fun e w' =>
      e = .returned (.func (.func 108) #[] #[.pointer (some ⟨w.heap.size, 0, none⟩)]) ∧ w' = w.alloc (.cells #[.int .i64 P, .int .i64 M, .slice am mn cm, .int .i64 N, .slice a k c] 27) := by
  have hmf : ∀ (fn : Fn) (first cap : Array Value) (w : World), (Instr.makeFunc fn first cap).run Tryz.prog w = .ok (.func fn first cap) w := fun _ _ _ _ => rfl
  go_enter Tryz.func60, Tryz.ntmps60
  go_wp2
  go_ret
  exact ⟨rfl, rfl⟩

set_option maxRecDepth 100000 in
set_option maxHeartbeats 8000000 in
theorem words_any (P M : Int) (am : Option Addr) (mn cm : Nat) (mod : List Int) (n : Nat) (a : Option Addr) (k c : Nat) (L : List (List Int)) (w : World) (NN : Nat) (hE : codeE P M mod n L = 0) (hmod : Ints w am mn mod) (hi : Mat w a k L)
    (hNN : (tblOf P M.toNat mod).q ^ k = NN) (hN6 : NN ≤ 65536) :
    Calls Tryz.prog 18 #[.agg #[.int .i64 P, .int .i64 M, .slice am mn cm, .int .i64 n, .slice a k c]] w fun e w' =>
      ∃ ao co, e = .returned (.tuple #[.slice ao NN co, .int .i64 0]) ∧ Mat w' ao NN (wlkS (tblOf P M.toNat mod).ops (tblOf P M.toNat mod).q L (List.replicate n 0)) ∧ Below w.heap.size w w' := by
  obtain ⟨N', em, hm1, hm64, F, hR⟩ := codeE_fld hE
  obtain rfl : n = N' := by omega
  have HSz : Hid (∀ V, Below w.heap.size w V → Calls Tryz.prog 59 #[.agg #[.int .i64 P, .int .i64 M, .slice am mn cm, .int .i64 n, .slice a k c]] V fun e w' => e = .returned (.tuple #[.int .i64 (NN : Nat), .int .i64 0]) ∧ Below V.heap.size V w') := fun V hV => by
    refine (size_any P M am mn cm mod n a k c L V hE (hmod.keep hV) (hi.keep hV)).mono ?_
    rintro e w' ⟨rfl, h2⟩
    have h3 : ((tblOf P M.toNat mod).q : Int) ^ k = (NN : Nat) := by rw [← hNN]; simp
    have h4 := expV_in (q := (tblOf P M.toNat mod).q) (k := k) (by rw [h3]; omega)
    rw [h4.1, h4.2, h3]
    exact ⟨rfl, h2⟩
  have HWk : Hid (∀ (W : World) (Bc l : Nat), Below w.heap.size w W → Box W Bc [.int .i64 P, .int .i64 M, .slice am mn cm, .int .i64 n, .slice a k c] → ∀ (J : List WX → World → Prop) (MM : Nat → Prop), (∀ x, MM x → x < W.heap.size) →
      (∀ V, (∀ x, x < W.heap.size → ¬ MM x → V.heap[x]? = W.heap[x]?) → Mat V a k L ∧ V.cell? ⟨Bc, 4, none⟩ = some (.slice a k c)) →
      (∀ pre V V', J pre V → Below V.heap.size V V' → J pre V') → (∀ B pre V v, W.heap.size ≤ B → (∀ x ∈ pre, ablk x.a ≠ B) → J pre V → J pre (V.setCell ⟨B, 0, none⟩ v)) →
      (∀ m pre x V, J pre V → pre.length < NN → Ints V x.a n x.l → (∀ j, MM j → j ≠ ablk x.a) → YOk l n J MM m pre x V) → J [] W →
      Calls Tryz.prog 108 #[.func (.yield l) #[] #[], .pointer (some ⟨Bc, 0, none⟩)] W fun e V => e = .returned (.tuple #[]) ∧
        ∃ xs : List WX, xs.map WX.l = wlkS (tblOf P M.toNat mod).ops (tblOf P M.toNat mod).q L (List.replicate n 0) ∧ J xs V ∧ Moves W V MM MM) := by
    intro W Bc l hb hx J MM h1 h2 h3 h4 h5 h6
    refine walk1_any P M am mn cm mod n a k c L W Bc l hE hx (hmod.keep hb) (hi.keep hb) J MM h1 h2 h3 h4 ?_ (by rw [hNN]; omega) h6
    intro m pre x V hj hl; rw [hNN] at hl; exact h5 m pre x V hj hl
  have Hmat : Hid (∀ V, (∀ x, x < w.heap.size → V.heap[x]? = w.heap[x]?) → Mat V a k L) := fun V hV => ⟨hi.len, hi.pl, hi.max, fun i hik => by
    obtain ⟨b, m, c', h1, h2⟩ := hi.cell i hik
    exact ⟨b, m, c', (World.cell?_of_block (w := w) (hV _ (World.block_lt_of_cell? _ _ h1))).trans h1, h2.of_block fun h0 => hV _ (h2.lt h0)⟩⟩
  have Hlen : Hid ((wlkS (tblOf P M.toNat mod).ops (tblOf P M.toNat mod).q L (List.replicate n 0)).length = NN) := by
    show _ = _
    rw [wlkS_length, hi.len, hNN]
  generalize wlkS (tblOf P M.toNat mod).ops (tblOf P M.toNat mod).q L (List.replicate n 0) = R at *
  clear hNN hR F em hE hmod hi
  refine (callsIn_wide (n := 8)).1 ?_
  refine callsIn_of_wp_marks Tryz.func18 rfl trivial ?_ rfl
  simp only [Tryz.ntmps18, List.size_toArray, List.length_cons, List.length_nil, Nat.reduceAdd, Nat.reduceSub, Array.replicate_succ, Array.replicate_zero, List.push_toArray, List.append_toArray, List.nil_append, List.cons_append]
  refine wpIn_wide.2 ?_
  go_upto_region 1 with fail
  obtain ⟨W1, hW1⟩ : ∃ W1 : World, W1 = w.alloc (.cells #[.int .i64 P, .int .i64 M, .slice am mn cm, .int .i64 n, .slice a k c] 27) := ⟨_, rfl⟩
  rw [← hW1]
  have hb1 : Below w.heap.size w W1 := by rw [hW1]; exact below1 _ _
  have x1 : Box W1 w.heap.size [.int .i64 P, .int .i64 M, .slice am mn cm, .int .i64 n, .slice a k c] := by rw [hW1]; exact Box.new _ _ _ rfl
  have X1 := Lib.hid x1
  have c0 := x1.cell 0 rfl
  have c1 := x1.cell 1 rfl
  have c2 := x1.cell 2 rfl
  have c3 := x1.cell 3 rfl
  have c4 := x1.cell 4 rfl
  clear hW1 x1
  go_upto_region 4 with (go_at_call 59; refine (HSz.out _ hb1).mono ?_; rintro e w2 ⟨rfl, hb2⟩; clear c0 c1 c2 c3 c4)
  have hmk := fun V => run_mk0 NN (by omega) V
  go_upto_region 5 with fail
  obtain ⟨Br, hBr⟩ : ∃ Br, Br = w2.heap.size := ⟨_, rfl⟩
  rw [← hBr]
  obtain ⟨W3, hW3⟩ : ∃ W3 : World, W3 = ((w2.alloc (.cells (Array.replicate NN (Value.slice none 0 0)) 22)).alloc (.cells #[.slice (some ⟨Br, 0, none⟩) 0 NN] 25)) := ⟨_, rfl⟩
  rw [← hW3]
  have hb3 : Below w2.heap.size w2 W3 := by rw [hW3]; exact below2 _ _ _
  have hs3 : W3.heap.size = Br + 2 := by rw [hW3, hBr]; simp
  have hwB : w.heap.size < Br := by have h1 := X1.out.1; have h2 := hb2.size; omega
  have hwi : WrI w.heap.size (Br + 1) Br n NN [] W3 := by
    refine ⟨⟨?_, ?_⟩, fun x hx => by simp at hx⟩
    · rw [hW3]; exact Box.new _ _ _ (by rw [hBr]; simp)
    · refine ⟨rfl, .inr ⟨Br, NN, Array.replicate NN (Value.slice none 0 0), rfl, by omega, ?_, by simp, by unfold maxLen; omega, by simp, by simp⟩⟩
      rw [hW3, hBr]
      exact (Below.heap_alloc _ _ _ (by simp)).trans (World.alloc_heap_new w2 _)
  have Hwi := Lib.hid hwi
  have HBr := Lib.hid hBr
  have hb13 := Below.next (Below.next hb1 hb2) hb3
  have x3 := (X1.out.keep hb2).keep hb3
  have c0 := x3.cell 0 rfl
  have c1 := x3.cell 1 rfl
  have c2 := x3.cell 2 rfl
  have c3 := x3.cell 3 rfl
  have c4 := x3.cell 4 rfl
  have Hs3 := Lib.hid hs3
  clear hW3 hwi hBr x3 hmk
  go_wp2_with (go_at_call 60; refine (walk_any P M am mn cm n a k c W3).mono ?_; rintro e w4 ⟨rfl, hw4⟩; have Hw4 := Lib.hid hw4; clear hw4 hs3)
  have hw4 := Hw4.out
  have hs3 := Hs3.out
  have hb4 : Below W3.heap.size W3 w4 := by rw [hw4]; exact below1 _ _
  have hs4 : w4.heap.size = W3.heap.size + 1 := by rw [hw4]; simp
  have x4 : Box w4 W3.heap.size [.int .i64 P, .int .i64 M, .slice am mn cm, .int .i64 n, .slice a k c] := by rw [hw4]; exact Box.new _ _ _ rfl
  clear hw4 c0 c1 c2 c3 c4
  have hi4 : WrI w.heap.size (Br + 1) Br n NN [] w4 := WrI.of_blocks Hwi.out (hb4.block _ (by omega)) (hb4.block _ (by omega)) (fun x hx => by simp at hx) hb4.size
  have Hs4 := Lib.hid hs4
  obtain ⟨i0, hi, hz0, hz1, hz2⟩ := info_parts infoRows
  have hMB4 : ∀ x, (x = Br + 1 ∨ x = Br) → x < w4.heap.size := fun x hx => by omega
  clear hs3 hs4
  refine (wpIn_wide (n := 8)).1 ?_
  refine wp_range_walk (n := n) (N := NN) (lb := #[.pointer (some ⟨W3.heap.size, 0, none⟩)]) (R := R) rfl (enters_of Tryz.func108 (by kernel_rfl) rfl) rfl (by omega) hm1
    (fun x => x = Br + 1 ∨ x = Br) hMB4 ?hseq (WrI w.heap.size (Br + 1) Br n NN) ?hIa ?hIb ?hIp hi4
    (fun pre x => { tmps := #[.agg #[.int .i64 P, .int .i64 M, .slice am mn cm, .int .i64 n, .slice a k c], .pointer (some ⟨w.heap.size, 0, none⟩), .slice none 0 0, .int .i64 0, .int .i64 NN, .int .i64 0, .pointer (some ⟨Br + 1, 0, none⟩), undef, .slice x.a n x.c,
      .tuple #[.int .i64 NN, .int .i64 0], .agg #[.int .i64 P, .int .i64 M, .slice am mn cm, .int .i64 n, .slice a k c], .tuple #[.int .i64 NN, .int .i64 0], .int .i64 NN, .int .i64 0, .int .i64 0, .bool false, undef, .int .i64 NN, .slice (some ⟨Br, 0, none⟩) 0 NN,
      .agg #[.int .i64 P, .int .i64 M, .slice am mn cm, .int .i64 n, .slice a k c], .func (.func 108) #[] #[.pointer (some ⟨W3.heap.size, 0, none⟩)], .int .i64 (pre.length : Nat), .slice x.a n x.c, undef, undef, undef, undef, undef], defers := [] })
    ?assign ?body ?done
  case hseq =>
    intro l J MM W hb hs hMM hJa hJb hY h0
    have hs3 := Hs3.out
    have hs4 := Hs4.out
    have hbw : Below w.heap.size w W := Below.next (Below.next hb13 hb4) hb
    refine HWk.out W W3.heap.size l hbw (x4.keep hb) J MM (fun x hx => by have := hMM x hx; omega) (fun V hV => ?_) hJa hJb hY h0
    have hwV : ∀ x, x < w.heap.size → V.heap[x]? = w.heap[x]? := fun x hx => (hV x (by have := hbw.size; omega) (fun h => by have := hMM x h; have := hb4.size; omega)).trans (hbw.block x hx)
    refine ⟨Hmat.out V hwV, ?_⟩
    · refine (World.cell?_of_block (w := W) (a := ⟨W3.heap.size, 4, none⟩) (hV _ ?_ ?_)).trans ((x4.keep hb).cell 4 rfl)
      · have := (x4.keep hb).1; exact this
      · intro h
        have h2 : (W3.heap.size = Br + 1 ∨ W3.heap.size = Br) ∨ W3.heap.size = w4.heap.size + 1 := hMM _ h
        omega
  case hIa =>
    intro pre V V' h hb
    exact h.of_blocks (hb.block _ h.1.1.1) (hb.block _ h.rowlt.2) (fun x hx => hb.block _ ((h.2 x hx).1.lt hm1)) hb.size
  case hIb =>
    intro B pre V v hB hx h
    have hs3 := Hs3.out
    have hs4 := Hs4.out
    refine h.of_blocks (Below.heap_setCell _ _ _ _ ?_) (Below.heap_setCell _ _ _ _ ?_) (fun x hxp => Below.heap_setCell _ _ _ _ (hx x hxp)) (((Below.refl 0 V).setCell (p := ⟨B, 0, none⟩) (Nat.zero_le _) v).size)
    · show Br + 1 ≠ B; omega
    · show Br ≠ B; omega
  case hIp =>
    intro B pre V o hB hx h
    have hs3 := Hs3.out
    have hs4 := Hs4.out
    refine h.of_blocks (World.putObj_heap_other ?_) (World.putObj_heap_other ?_) (fun x hxp => World.putObj_heap_other (hx x hxp)) (grownBy_putObj' V B o).size
    · omega
    · omega
  case assign =>
    intro l m pre x W K hK
    gi_wp2
    exact hK
  case body =>
    rintro l m pre x W h hlt hix hxM
    have hcv := h.1.1.cell 0 rfl
    have hrow := h.1.2
    obtain ⟨v, hv⟩ : ∃ v, v = Value.slice (some ⟨Br, 0, none⟩) pre.length NN := ⟨_, rfl⟩
    rw [← hv] at hcv
    have Hv := Lib.hid hv
    have Hh := Lib.hid h
    clear hv h
    gi_wp2_with (gi_at_builtin; refine wpListIn_append_fits _ rfl _ _ 25 rfl w.heap.size 22 i0 1 Tryz.underlying25 hi hz1 Br pre.length NN (pre.map fun x => .slice x.a n x.c) Hv.out (hrow.alloc _) ⟨W.heap.size, 0, none⟩ 1 1 [.slice x.a n x.c] rfl rfl (cell_one_new _ _ _) (by simp [Value.oneCell']) (by omega) ?_; intro w1 hown1 hgrow1; have hbo : Box w1 (Br + 1) [.slice (some ⟨Br, 0, none⟩) pre.length NN] := (Hh.out.1.1.alloc _).of_block (hgrow1.block _ (Hh.out.1.1.alloc _).1 (fun e => by injection e with e; omega)) hgrow1.size; have hc1 := hbo.cell 0 rfl; have hf1 := hbo.frozen 0)
    have hst := WrI.step Hh.out hix hm1 (fun e => hxM _ (.inl rfl) e.symm) (fun e => hxM _ (.inr rfl) e.symm) hgrow1 hown1
    exact ⟨hst.1, hst.2⟩
  case done =>
    intro xs V hx hI hm hK
    have hcv := hI.1.1.cell 0 rfl
    have HI := Lib.hid hI
    have Hm := Lib.hid hm
    have Hx := Lib.hid hx
    clear hI hm hx
    go_wp2_with fail
    refine ⟨by simp, .inl ⟨_, _, rfl, run_takeDeferred hK, ?_⟩⟩
    have hxl : xs.length = NN := by rw [← Hlen.out, ← Hx.out, List.length_map]
    have hIV : WrI w.heap.size (Br + 1) Br n NN xs (V.putObj w4.heap.size (.deferred none)) := by
      have hs3 := Hs3.out
      have hs4 := Hs4.out
      have hlo : ∀ x ∈ xs, ablk x.a ≠ w4.heap.size := fun x hx e => by
        obtain ⟨_, ix⟩ := (HI.out.2 x hx).1.cell 0 hm1 |> fun h => And.intro h (Array.getElem?_eq_some_iff.1 hK).1
        have h1 := (HI.out.2 x hx).1.cell 0 hm1
        rw [e] at h1
        simp [World.cell?, hK] at h1
      exact HI.out.of_blocks (World.putObj_heap_other (by omega)) (World.putObj_heap_other (by omega)) (fun x hx => World.putObj_heap_other (hlo x hx)) (grownBy_putObj' V _ _).size
    have hbw4 : Below w.heap.size w w4 := Below.next hb13 hb4
    have hbV : Below w.heap.size w4 V := Hm.out.below (fun b hb => by have := hbw4.size; omega) hbw4.size
    refine ⟨_, results_tmp2 rfl _ _ _, some ⟨Br, 0, none⟩, NN, ?_, ?_, ?_⟩
    · simp [hxl]
    · refine ⟨Hlen.out, fun _ => rfl, by unfold maxLen; omega, fun i hi => ?_⟩
      obtain ⟨y, hy⟩ : ∃ y, xs[i]? = some y := ⟨xs[i], List.getElem?_eq_getElem (by omega)⟩
      have hrow := hIV.1.2
      have hc := hrow.cellAt i (by omega)
      rw [List.getElem?_map, hy] at hc
      refine ⟨y.a, n, y.c, ?_, ?_⟩
      · have e : aoff (some ⟨Br, 0, none⟩ : Option Addr) + i = i := by simp [aoff]
        rw [e]; exact hc
      · have h2 := (hIV.2 y (List.mem_of_getElem? hy)).1
        have e : nthR R i = y.l := by
          rw [← Hx.out, nthR_getElem (by rw [List.length_map]; omega), List.getElem_map]
          rw [List.getElem?_eq_getElem (by omega)] at hy
          injection hy with hy
          rw [hy]
        rw [e]; exact h2
    · exact (hbw4.trans hbV).trans (belowK_b (w := w4) hbw4.size V w4.heap.size _ _ (Nat.le_refl _) hK rfl rfl)
end

/- Plain: the words in their order are the combinations of all messages. -/
section
/-- the messages in lexicographic order -/
def msgs (q : Nat) : Nat → List (List Int)
  | 0 => [[]]
  | k + 1 => (List.range q).flatMap fun (a : Nat) => (msgs q k).map fun s => (a : Int) :: s
def addAll (O : FOps) : List Int → List Int → List (List Int) → List Int
  | u, a :: s, r :: R => addAll O (addS O u a r) s R
  | u, _, _ => u
theorem wlk_msgs (O : FOps) (q : Nat) : ∀ (R : List (List Int)) (u : List Int), wlkS O q R u = (msgs q R.length).map fun s => addAll O u s R
  | [], u => by simp [wlkS, msgs, addAll]
  | r :: R, u => by
    rw [wlkS, List.length_cons, msgs, List.map_flatMap]
    congr 1
    funext a
    rw [wlk_msgs O q R, List.map_map]
    rfl
theorem mem_msgs {q : Nat} : ∀ {k : Nat} {s : List Int}, s ∈ msgs q k ↔ s.length = k ∧ ∀ x ∈ s, 0 ≤ x ∧ x < (q : Int)
  | 0, s => by
    rw [msgs, List.mem_singleton]
    constructor
    · rintro rfl; simp
    · rintro ⟨h, _⟩; exact List.eq_nil_of_length_eq_zero h
  | k + 1, s => by
    rw [msgs, List.mem_flatMap]
    constructor
    · rintro ⟨a, ha, h⟩
      obtain ⟨t, ht, rfl⟩ := List.mem_map.1 h
      obtain ⟨h1, h2⟩ := mem_msgs.1 ht
      refine ⟨by simp [h1], fun x hx => ?_⟩
      rcases List.mem_cons.1 hx with rfl | hx
      · have := List.mem_range.1 ha; omega
      · exact h2 x hx
    · rintro ⟨h, h2⟩
      match s, h, h2 with
      | x :: t, h, h2 =>
        have hx := h2 x (by simp)
        refine ⟨x.toNat, List.mem_range.2 (by omega), List.mem_map.2 ⟨t, mem_msgs.2 ⟨by simpa using h, fun y hy => h2 y (by simp [hy])⟩, ?_⟩⟩
        rw [Int.toNat_of_nonneg hx.1]
theorem msgs_nodup (q : Nat) : ∀ k, (msgs q k).Nodup
  | 0 => by simp [msgs]
  | k + 1 => by
    rw [msgs]
    unfold List.Nodup
    rw [List.pairwise_flatMap]
    refine ⟨fun a _ => ?_, ?_⟩
    · rw [List.pairwise_map]
      exact List.Pairwise.imp (fun {s t} h e => h (by injection e)) (msgs_nodup q k)
    · refine List.Pairwise.imp (fun {a b} hab x ha y hb e => ?_) (List.nodup_range (n := q))
      obtain ⟨s, _, rfl⟩ := List.mem_map.1 ha
      obtain ⟨t, _, rfl⟩ := List.mem_map.1 hb
      injection e with h1 _
      omega
theorem msgs_head {q : Nat} (hq : 1 ≤ q) : ∀ k, ∃ l, msgs q k = List.replicate k 0 :: l
  | 0 => ⟨[], by simp [msgs]⟩
  | k + 1 => by
    obtain ⟨l, hl⟩ := msgs_head hq k
    obtain ⟨q', rfl⟩ : ∃ q', q = q' + 1 := ⟨q - 1, by omega⟩
    rw [msgs, List.range_succ_eq_map, List.flatMap_cons, hl]
    exact ⟨_, rfl⟩

variable {O : FOps} {m : Nat}
theorem addAll_cmb {v : List Int} {L : List (List Int)} (h : v.length = L.length) : ∀ (d j : Nat), j + d = L.length → addAll O (cmbTo O m v L j) (v.drop j) (L.drop j) = cmbTo O m v L L.length
  | 0, j, hj => by
    obtain rfl : j = L.length := by omega
    rw [List.drop_of_length_le (Nat.le_refl _), List.drop_of_length_le (by omega)]
    rfl
  | d + 1, j, hj => by
    rw [List.drop_eq_getElem_cons (show j < v.length by omega), List.drop_eq_getElem_cons (show j < L.length by omega), addAll]
    rw [← addAll_cmb h d (j + 1) (by omega)]
    congr 1
    rw [cmbTo, nth_getElem (show j < v.length by omega), nthR_getElem (show j < L.length by omega)]
    rfl
/-- the words in their order -/
theorem wlk_cmb {q : Nat} {L : List (List Int)} : wlkS O q L (List.replicate m 0) = (msgs q L.length).map fun v => cmbTo O m v L L.length := by
  rw [wlk_msgs]
  refine List.map_congr_left fun v hv => ?_
  have h := addAll_cmb (O := O) (m := m) (v := v) (L := L) (mem_msgs.1 hv).1 L.length 0 (by omega)
  rw [List.drop_zero, List.drop_zero] at h
  exact h
/-- at all places but the first: the words of the messages other than 0 -/
theorem wlk_all {q : Nat} (hq : 1 ≤ q) {L : List (List Int)} {p : List Int → Prop} :
    (∀ i, i < (wlkS O q L (List.replicate m 0)).length → i = 0 ∨ p (nthR (wlkS O q L (List.replicate m 0)) i)) ↔ ∀ v : List Int, v.length = L.length → (∀ x ∈ v, 0 ≤ x ∧ x < (q : Int)) → wtL v = 0 ∨ p (cmbTo O m v L L.length) := by
  rw [wlk_cmb]
  obtain ⟨l, hl⟩ := msgs_head hq L.length
  have hnd := msgs_nodup q L.length
  constructor
  · intro h v h1 h2
    by_cases hz : wtL v = 0
    · exact .inl hz
    · refine .inr ?_
      obtain ⟨i, hi, e⟩ := List.mem_iff_getElem.1 (mem_msgs.2 ⟨h1, h2⟩)
      have h3 := h i (by simpa using hi)
      rw [nthR_getElem (by simpa using hi), List.getElem_map, e] at h3
      refine h3.resolve_left fun e0 => hz ?_
      subst e0
      simp only [hl, List.getElem_cons_zero] at e
      rw [← e]
      exact wtL_zero.2 fun k hk => by rw [nth_getElem hk]; simp
  · intro h i hi
    by_cases h0 : i = 0
    · exact .inl h0
    · refine .inr ?_
      have hi' : i < (msgs q L.length).length := by simpa using hi
      rw [nthR_getElem hi, List.getElem_map]
      have hm := mem_msgs.1 (List.getElem_mem hi')
      refine (h _ hm.1 hm.2).resolve_left fun hz => h0 ?_
      have e : (msgs q L.length)[i] = List.replicate L.length 0 := by
        refine List.ext_getElem (by rw [hm.1]; simp) fun k hk1 hk2 => ?_
        have := wtL_zero.1 hz k hk1
        rw [nth_getElem hk1] at this
        rw [this]; simp
      have e0 : (msgs q L.length)[0]'(by omega) = List.replicate L.length 0 := by simp only [hl, List.getElem_cons_zero]
      refine Classical.byContradiction fun hne => ?_
      exact List.pairwise_iff_getElem.1 hnd 0 i (by omega) hi' (by omega) (e0.trans e.symm)
end

/- The walks of codewrightref12.Size, Count. -/
section
open Go.RowKit

/-- how many words, as Size says it: the number, the error -/
def szV (P M : Int) (mod : List Int) (N : Int) (L : List (List Int)) : Int := if codeE P M mod N L = 0 then expV (tblOf P M.toNat mod).q L.length else 0
def szE (P M : Int) (mod : List Int) (N : Int) (L : List (List Int)) : Int := if codeE P M mod N L = 0 then expE (tblOf P M.toNat mod).q L.length else codeE P M mod N L

theorem q_order {P M : Int} {mod : List Int} {N : Int} {L : List (List Int)} (hE : codeE P M mod N L = 0) : orderS P M = ((tblOf P M.toNat mod).q : Nat) ∧ (2 : Int) ≤ (tblOf P M.toNat mod).q ∧ ((tblOf P M.toNat mod).q : Int) ≤ 256 := by
  obtain ⟨m, hm, _, hq, _⟩ := eq_ops (codeE_zero hE).1
  subst hm
  rw [Int.toNat_natCast]
  rw [hq]
  have h0 : orderS P m ≠ 0 := by
    intro h0
    have h1 := (codeE_zero hE).1
    unfold fieldB shapeB at h1
    simp [h0] at h1
  obtain ⟨h1, h2, h3, h4, h5, h6⟩ := orderS_ne h0
  refine ⟨rfl, ?_, by omega⟩
  rw [h6]
  have := pow_mono (show 1 ≤ P by omega) (show 1 ≤ (m : Int).toNat by omega)
  have e : P ^ 1 = P := by rw [Int.pow_succ, Int.pow_zero, Int.one_mul]
  omega

set_option maxRecDepth 100000 in
set_option maxHeartbeats 4000000 in
theorem rSize12_any (P M : Int) (am : Option Addr) (mn cm : Nat) (mod : List Int) (N : Int) (a : Option Addr) (k c : Nat) (L : List (List Int)) (w : World) (hmod : Ints w am mn mod) (hi : Mat w a k L) :
    Calls Tryz.prog 57 #[.agg #[.int .i64 P, .int .i64 M, .slice am mn cm, .int .i64 N, .slice a k c]] w fun e w' =>
      e = .returned (.tuple #[.int .i64 (szV P M mod N L), .int .i64 (szE P M mod N L)]) ∧ Below w.heap.size w w' := by
  have HCk : Hid (∀ V, Below w.heap.size w V → Calls Tryz.prog 47 #[.agg #[.int .i64 P, .int .i64 M, .slice am mn cm, .int .i64 N, .slice a k c]] V fun e w' => e = .returned (.int .i64 (codeE P M mod N L)) ∧ Below V.heap.size V w') := fun V hV => by
    have h := rCodeCheck_any P M am mn cm mod N a k c L V (hmod.keep hV) (hi.keep hV) fun h => hinv_all h
    rw [rcodeE_eq] at h
    exact h
  have hkl : L.length = k := hi.len
  go_enter Tryz.func57, Tryz.ntmps57
  go_upto_region 1 with fail
  obtain ⟨W, hW⟩ : ∃ W : World, W = w.alloc (.cells #[.int .i64 P, .int .i64 M, .slice am mn cm, .int .i64 N, .slice a k c] 27) := ⟨_, rfl⟩
  rw [← hW]
  have hbW : Below w.heap.size w W := by rw [hW]; exact below1 _ _
  have x0 : Box W w.heap.size [.int .i64 P, .int .i64 M, .slice am mn cm, .int .i64 N, .slice a k c] := by rw [hW]; exact Box.new _ _ _ rfl
  have HX := Lib.hid x0
  have c0 := x0.cell 0 rfl
  have c1 := x0.cell 1 rfl
  have c2 := x0.cell 2 rfl
  have c3 := x0.cell 3 rfl
  have c4 := x0.cell 4 rfl
  clear hW x0
  by_cases hE : codeE P M mod N L = 0
  · have hk256 : k ≤ 256 := by rw [← hkl]; exact (codeE_rws hE).choose_spec.2.2.2.1
    obtain ⟨ho, hq2, hq256⟩ := q_order hE
    have HV : Hid (szV P M mod N L = expV (tblOf P M.toNat mod).q k ∧ szE P M mod N L = expE (tblOf P M.toNat mod).q k) := by
      show _ ∧ _
      unfold szV szE
      rw [if_pos hE, if_pos hE, hkl]; exact ⟨rfl, rfl⟩
    rw [hE] at HCk
    have HOr : Hid (∀ V, Calls Tryz.prog 53 #[.agg #[.int .i64 P, .int .i64 M, .slice am mn cm]] V fun e w' => e = .returned (.int .i64 ((tblOf P M.toNat mod).q : Nat)) ∧ Below V.heap.size V w') := fun V => by
      have h := rOrder_any P M am mn cm V
      rw [ho] at h
      exact h
    generalize (tblOf P M.toNat mod).q = q at *
    clear ho hE hkl
    go_wp2_with (go_at_call 47; refine (HCk.out _ hbW).mono ?_; rintro e w3 ⟨rfl, hb3⟩; clear c0 c1 c2 c3 c4)
    have HS : Hid (∀ V, Below w3.heap.size w3 V → V.cell? ⟨w.heap.size, 0, none⟩ = some (.int .i64 P) ∧ V.cell? ⟨w.heap.size, 1, none⟩ = some (.int .i64 M) ∧ V.cell? ⟨w.heap.size, 2, none⟩ = some (.slice am mn cm) ∧ V.cell? ⟨w.heap.size, 4, none⟩ = some (.slice a k c) ∧ Below w3.heap.size w3 V) := fun V hV => by
      have x3 := (HX.out.keep hb3).keep hV
      exact ⟨x3.cell 0 rfl, x3.cell 1 rfl, x3.cell 2 rfl, x3.cell 4 rfl, hV⟩
    go_region_held3 (fun V => V.cell? ⟨w.heap.size, 0, none⟩ = some (.int .i64 P) ∧ V.cell? ⟨w.heap.size, 1, none⟩ = some (.int .i64 M) ∧ V.cell? ⟨w.heap.size, 2, none⟩ = some (.slice am mn cm) ∧ V.cell? ⟨w.heap.size, 4, none⟩ = some (.slice a k c) ∧ Below w3.heap.size w3 V)
      ((refine HS.out _ ?_; first | exact (Below.refl _ _).drew | (go_split_ands; assumption) | (go_split_ands; exact Below.next (by assumption) (by assumption))))
      (first
        | (go_at_call 53; ((with_reducible refine (HOr.out _).mono ?_); rintro e w4 ⟨rfl, hb4⟩))
        | (go_at_call 104; ((with_reducible refine (rExp_any (q : Int) k _ hq2 hq256 (by omega)).mono ?_); rintro e w5 ⟨rfl, rfl⟩)))
    all_goals go_wp2_with fail
    all_goals go_ret2
    all_goals exact ⟨ret_two HV.out.1.symm HV.out.2.symm, Below.next (Below.next hbW hb3) (by go_split_ands; assumption)⟩
  · have HV : Hid (szV P M mod N L = 0 ∧ szE P M mod N L = codeE P M mod N L) := by
      show _ ∧ _
      unfold szV szE
      rw [if_neg hE, if_neg hE]; exact ⟨rfl, rfl⟩
    generalize codeE P M mod N L = z at *
    have hz : (z != 0) = true := by simpa using hE
    clear hE
    go_wp2_with (go_at_call 47; refine (HCk.out _ hbW).mono ?_; rintro e w3 ⟨rfl, hb3⟩; clear c0 c1 c2 c3 c4)
    go_ret2
    exact ⟨ret_two HV.out.1.symm HV.out.2.symm, Below.next hbW hb3⟩

def cntS (P M : Int) (mod : List Int) (N : Int) (L : List (List Int)) : Int := if szE P M mod N L = 0 ∧ szV P M mod N L ≤ 600 then szV P M mod N L else 0

set_option maxRecDepth 100000 in
set_option maxHeartbeats 2000000 in
theorem rCount12_any (P M : Int) (am : Option Addr) (mn cm : Nat) (mod : List Int) (N : Int) (a : Option Addr) (k c : Nat) (L : List (List Int)) (w : World) (hmod : Ints w am mn mod) (hi : Mat w a k L) :
    Calls Tryz.prog 16 #[.agg #[.int .i64 P, .int .i64 M, .slice am mn cm, .int .i64 N, .slice a k c], .int .i64 600] w fun e w' =>
      e = .returned (.int .i64 (cntS P M mod N L)) ∧ Below w.heap.size w w' := by
  have HSz : Hid (∀ V, Below w.heap.size w V → Calls Tryz.prog 57 #[.agg #[.int .i64 P, .int .i64 M, .slice am mn cm, .int .i64 N, .slice a k c]] V fun e w' => e = .returned (.tuple #[.int .i64 (szV P M mod N L), .int .i64 (szE P M mod N L)]) ∧ Below V.heap.size V w') := fun V hV =>
    rSize12_any P M am mn cm mod N a k c L V (hmod.keep hV) (hi.keep hV)
  have HC : Hid (cntS P M mod N L = if szE P M mod N L = 0 ∧ szV P M mod N L ≤ 600 then szV P M mod N L else 0) := rfl
  generalize cntS P M mod N L = z at *
  generalize szV P M mod N L = v at *
  generalize szE P M mod N L = f at *
  go_enter Tryz.func16, Tryz.ntmps16
  go_upto_region 1 with fail
  obtain ⟨W, hW⟩ : ∃ W : World, W = w.alloc (.cells #[.int .i64 P, .int .i64 M, .slice am mn cm, .int .i64 N, .slice a k c] 27) := ⟨_, rfl⟩
  rw [← hW]
  have hbW : Below w.heap.size w W := by rw [hW]; exact below1 _ _
  have x0 : Box W w.heap.size [.int .i64 P, .int .i64 M, .slice am mn cm, .int .i64 N, .slice a k c] := by rw [hW]; exact Box.new _ _ _ rfl
  have c0 := x0.cell 0 rfl
  have c1 := x0.cell 1 rfl
  have c2 := x0.cell 2 rfl
  have c3 := x0.cell 3 rfl
  have c4 := x0.cell 4 rfl
  clear hW x0
  by_cases hf : f = 0
  · subst hf
    by_cases hv : v ≤ 600
    · have Hz : Hid (z = v) := by show _ = _; rw [HC.out, if_pos ⟨rfl, hv⟩]
      have hv' : decide (v > 600) = false := by simpa using hv
      clear hv
      go_wp2_with (go_at_call 57; refine (HSz.out _ hbW).mono ?_; rintro e w3 ⟨rfl, hb3⟩; clear c0 c1 c2 c3 c4)
      go_ret
      exact ⟨ret_int Hz.out.symm, Below.next hbW hb3⟩
    · have Hz : Hid (z = 0) := by show _ = _; rw [HC.out, if_neg fun h => hv h.2]
      have hv' : decide (v > 600) = true := by simpa using hv
      clear hv
      go_wp2_with (go_at_call 57; refine (HSz.out _ hbW).mono ?_; rintro e w3 ⟨rfl, hb3⟩; clear c0 c1 c2 c3 c4)
      go_ret
      exact ⟨ret_int Hz.out.symm, Below.next hbW hb3⟩
  · have Hz : Hid (z = 0) := by show _ = _; rw [HC.out, if_neg fun h => hf h.1]
    have hf' : (f != 0) = true := by simpa using hf
    clear hf
    go_wp2_with (go_at_call 57; refine (HSz.out _ hbW).mono ?_; rintro e w3 ⟨rfl, hb3⟩; clear c0 c1 c2 c3 c4)
    go_ret
    exact ⟨ret_int Hz.out.symm, Below.next hbW hb3⟩

/-- what it means that there are words to count -/
theorem cntS_ne {P M : Int} {mod : List Int} {N : Int} {L : List (List Int)} (h : cntS P M mod N L ≠ 0) : codeE P M mod N L = 0 ∧ (tblOf P M.toNat mod).q ^ L.length ≤ 600 ∧ cntS P M mod N L = (((tblOf P M.toNat mod).q ^ L.length : Nat) : Int) := by
  unfold cntS at h ⊢
  split at h
  · rename_i h1
    obtain ⟨h2, h3⟩ := h1
    have hE : codeE P M mod N L = 0 := by
      unfold szE at h2
      split at h2
      · assumption
      · exact h2
    unfold szE at h2
    rw [if_pos hE] at h2
    unfold expE at h2
    have hle : ((tblOf P M.toNat mod).q : Int) ^ L.length ≤ 65536 := by
      split at h2
      · assumption
      · omega
    have e : ((tblOf P M.toNat mod).q : Int) ^ L.length = (((tblOf P M.toNat mod).q ^ L.length : Nat) : Int) := by simp
    have hs : szV P M mod N L = (((tblOf P M.toNat mod).q ^ L.length : Nat) : Int) := by
      unfold szV
      rw [if_pos hE, (expV_in hle).1, e]
    rw [hs] at h3
    refine ⟨hE, by omega, ?_⟩
    rw [if_pos ⟨by unfold szE; rw [if_pos hE]; exact (expV_in hle).2, by rw [hs]; omega⟩, hs]
  · exact absurd rfl h
end

end Go.Proofs.YtcflcogbpnmjeaaGreat
