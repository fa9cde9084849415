/- The walks of code.list, word, space.Has, code.Has, at words of the code. -/
import Derived.Test.YtakmnncmeefceaaGreatF1
import Derived.Test.YtakmnncmeefceaaGreatA9
namespace Go.Proofs.YtakmnncmeefceaaGreat
set_option linter.unusedVariables false
set_option linter.unusedSimpArgs false
set_option linter.unusedSectionVars false

/- Words of a code: reduced by canonical rows they vanish; combinations of rows (plain law). -/
section
section
variable {O : FOps} {El : Int → Prop} {m : Nat} {R : List (List Int)} {P : List Int}
theorem piv_inv (hR : Rws El m R) (hP : Piv R P m) (hlen : R.length = P.length) : BS.Inv El m ⟨R, P⟩ where
  ok := ⟨hR, hlen.symm, fun i hi => hP.lt i (by rw [← hlen]; exact hi)⟩
  one := fun i hi => by
    show nth (nthR R i) (nth P i).toNat = 1
    rw [hP.one i i (by rw [← hlen]; exact hi) hi, if_pos rfl]
  zero := fun j i hj hi => by
    have hi' : i < R.length := hi
    show nth (nthR R i) (nth P j).toNat = 0
    rw [hP.one j i (by omega) hi', if_neg (by omega)]
theorem red_rs (F : Fld O El) (hI : BS.Inv El m ⟨R, P⟩) {v : List Int} (hv : Vc El m v) (hs : RS O El m R (fun x => nth v x)) : ∀ k, k ≤ R.length → RS O El m R (fun x => nth (redTo O R P v k) x)
  | 0, _ => hs
  | k + 1, hk => by
    have hu : Vc El m (redTo O R P v k) := Vc.redTo F hI.ok hv k (show k ≤ R.length by omega)
    have hp : (nth P k).toNat < m := hI.ok.pl (show k < R.length by omega)
    have hr : Vc El m (nthR R k) := hI.ok.row (show k < R.length by omega)
    refine ((red_rs F hI hv hs k (by omega)).comb F (.row F (i := k) (by omega)) (hu.at hp)).congr fun x hx => ?_
    rw [redTo, nth_redStep F hu hr hp hx, F.mul_comm _ _ (hu.at hp) (hr.at hx)]
/-- a word of the row space, reduced by the canonical rows, is 0 -/
theorem red_zero (F : Fld O El) (hR : Rws El m R) (hP : Piv R P m) (hlen : R.length = P.length) {v : List Int} (hv : Vc El m v) (hs : RS O El m R (fun x => nth v x)) : ∀ x, x < m → nth (redTo O R P v R.length) x = 0 := by
  have hI := piv_inv hR hP hlen
  obtain ⟨e, he, h⟩ := red_rs F hI hv hs R.length (Nat.le_refl _)
  intro x hx
  have h1 : nth (redTo O R P v R.length) x = e (colS R x) := h x hx
  rw [h1]
  refine hP.all F hR hx e he fun y hy => ?_
  obtain ⟨j, hj, rfl⟩ := (mem_grL P _ _).1 hy
  rw [← h _ (by have := hP.lt j hj; omega)]
  exact hI.place F hv R.length (Nat.le_refl _) j (by omega)

/-- the sum of the first k rows, each times its entry -/
def cmbTo (O : FOps) (m : Nat) (x : List Int) (L : List (List Int)) : Nat → List Int
  | 0 => List.replicate m 0
  | k + 1 => if nth x k = 0 then cmbTo O m x L k else addRow O (cmbTo O m x L k) (nth x k) (nthR L k)
theorem RS.add (F : Fld O El) {L : List (List Int)} {f g : Nat → Int} (hL : Rws El m L) (hf : RS O El m L f) (hg : RS O El m L g) {s : Int} (hs : El s) : RS O El m L (fun x => O.add (f x) (O.mul (g x) s)) := by
  refine (hf.comb F hg (F.cl.neg s hs)).congr fun x hx => ?_
  obtain ⟨e, he, h⟩ := hg
  have hgx : El (g x) := by rw [h x hx]; exact he.el _ (colS_vc hL F.zero x)
  rw [F.mul_neg hgx hs, F.neg_neg (F.cl.mul _ _ hgx hs)]
theorem cmb_rs (F : Fld O El) {L : List (List Int)} (hL : Rws El m L) {x : List Int} (hx : ∀ k, k < L.length → El (nth x k)) : ∀ k, k ≤ L.length → Vc El m (cmbTo O m x L k) ∧ RS O El m L (fun i => nth (cmbTo O m x L k) i)
  | 0, _ => by
    have h0 : ∀ i, nth (List.replicate m (0 : Int)) i = 0 := fun i => by
      unfold nth
      simp only [List.getD_eq_getElem?_getD, List.getElem?_replicate]
      split <;> rfl
    exact ⟨⟨by simp [cmbTo], fun y hy => by rw [List.eq_of_mem_replicate hy]; exact F.zero⟩, RS.nul F fun i _ => h0 i⟩
  | k + 1, hk => by
    obtain ⟨h1, h2⟩ := cmb_rs F hL hx k (by omega)
    have hr := hL.row (i := k) (by omega)
    have hs := hx k (by omega)
    rw [cmbTo]
    split
    · exact ⟨h1, h2⟩
    · have hl : (nthR L k).length = (cmbTo O m x L k).length := by rw [hr.1, h1.1]
      refine ⟨⟨by rw [addRow_length _ _ _ _ hl]; exact h1.1, addRow_el F.cl h1.2 hr.2 hs⟩, (RS.add F hL h2 (.row F (i := k) (by omega)) hs).congr fun i hi => ?_⟩
      have hri : El (nth (nthR L k) i) := Vc.at hr hi
      rw [nth_addRow O _ _ _ i hl (by rw [h1.1]; exact hi)]
      split
      · rename_i e0
        rw [e0, F.zmul hs, F.add_zero _ (h1.at hi)]
      · rw [F.mul_comm _ _ hs hri]
/-- the entries of a word of the row space by an order are a word of the picked rows -/
theorem RS.pick {L : List (List Int)} {w Q : List Int} (hQ : Q.length = m) (hI : InN m Q) (h : RS O El m L (fun x => nth w x)) : RS O El m (L.map (pickL Q)) (fun x => nth (pickL Q w) x) := by
  obtain ⟨e, he, h⟩ := h
  refine ⟨e, by rw [List.length_map]; exact he, fun x hx => ?_⟩
  have hq := hI x (by omega)
  have hcol : colS (L.map (pickL Q)) x = colS L (nth Q x).toNat := by
    unfold colS
    rw [List.map_map]
    exact List.map_congr_left fun r _ => nth_pickL Q r (by omega)
  show nth (pickL Q w) x = _
  rw [nth_pickL Q w (by omega), hcol]
  exact h _ (by omega)
theorem pick_vc {w Q : List Int} (hQ : Q.length = m) (hI : InN m Q) (hw : Vc El m w) : Vc El m (pickL Q w) := by
  refine ⟨by simp [pickL, hQ], fun y hy => ?_⟩
  obtain ⟨q, hq, rfl⟩ := List.mem_map.1 hy
  obtain ⟨j, hj, rfl⟩ := List.mem_iff_getElem.1 hq
  have := hI j hj
  rw [nth_getElem hj] at this
  exact hw.at (by omega)
end

/-- the entries by an order of a word of a code vanish behind the reduction by the reordered code -/
theorem reo_has {P M : Int} {mod : List Int} {m : Nat} {L : List (List Int)} {Q x : List Int} (hE : codeE P M mod m L = 0) (hO : ordB m Q = true) (hx : ∀ k, k < L.length → (tblOf P M.toNat mod).El (nth x k)) :
    Vc (tblOf P M.toNat mod).El m (pickL Q (cmbTo (tblOf P M.toNat mod).ops m x L L.length)) ∧
    ∀ i, i < m → nth (redTo (tblOf P M.toNat mod).ops (reoL (tblOf P M.toNat mod).ops m Q L) (elimTo (tblOf P M.toNat mod).ops (reoL (tblOf P M.toNat mod).ops m Q L) m).2 (pickL Q (cmbTo (tblOf P M.toNat mod).ops m x L L.length)) (reoL (tblOf P M.toNat mod).ops m Q L).length) i = 0 := by
  obtain ⟨N', e, hm1, hm64, F, hR⟩ := codeE_fld hE
  obtain rfl : m = N' := by omega
  obtain ⟨hI, hl⟩ := ordB_in hO
  have hR2 := reo_rws F hR hI hl
  obtain ⟨hv, hs⟩ := cmb_rs F hR hx L.length (Nat.le_refl _)
  have hpv := pick_vc hl hI hv
  have hps := (canO_rsub F hR2).2.rs (hs.pick hl hI)
  have hD : Rws (tblOf P M.toNat mod).El m (reoL (tblOf P M.toNat mod).ops m Q L) := canO_rws F hR2
  have hidem : canO (tblOf P M.toNat mod).ops m (reoL (tblOf P M.toNat mod).ops m Q L) = reoL (tblOf P M.toNat mod).ops m Q L := canO_idem F hR2
  have hpiv := (canO_piv F hD).1
  have hlen := canO_len F hD
  rw [hidem] at hpiv hlen
  exact ⟨hpv, red_zero F hD hpiv hlen hpv hps⟩
end

/- The walks of space.view's word, reduce, has; zero; code.list. -/
section
open Go.RowKit

theorem elB {G : Tbl} {x : Int} (h : G.El x) : (decide (0 ≤ x) && decide (x < G.q)) = true := by
  unfold Tbl.El at h
  simp
  exact h

set_option maxHeartbeats 1000000 in
theorem listNo_any {w : World} {b : Nat} {G : Tbl} (q : Nat) (x : Int) (hc : w.cell? ⟨q, 0, none⟩ = some (.pointer (some ⟨b, 0, none⟩))) (h : GFw w b G) (hx : G.El x) :
    Calls Tryz.prog 140 #[.int .i64 x, .pointer (some ⟨q, 0, none⟩)] w fun e w' => e = .returned (.bool false) ∧ w = w' := by
  have hB := elB hx
  go_enter Tryz.func140, Tryz.ntmps140
  go_wp2_with fail
  refine (gIs x h).mono ?_
  rintro e w' ⟨rfl, rfl⟩
  rw [hB]
  go_wp2_with fail
  go_ret
  exact ⟨rfl, rfl⟩
set_option maxHeartbeats 1000000 in
theorem wordNo_any {w : World} {b : Nat} {G : Tbl} (q : Nat) (x : Int) (hc : w.cell? ⟨q, 0, none⟩ = some (.pointer (some ⟨b, 0, none⟩))) (h : GFw w b G) (hx : G.El x) :
    Calls Tryz.prog 154 #[.int .i64 x, .pointer (some ⟨q, 0, none⟩)] w fun e w' => e = .returned (.bool false) ∧ w = w' := by
  have hB := elB hx
  go_enter Tryz.func154, Tryz.ntmps154
  go_wp2_with fail
  refine (gIs x h).mono ?_
  rintro e w' ⟨rfl, rfl⟩
  rw [hB]
  go_wp2_with fail
  go_ret
  exact ⟨rfl, rfl⟩
theorem zeroNo_any (x : Int) (w : World) (hx : x = 0) : Calls Tryz.prog 193 #[.int .i64 x] w fun e w' => e = .returned (.bool false) ∧ w = w' := by
  subst hx
  go_enter Tryz.func193, Tryz.ntmps193
  go_wp2
  go_ret
  exact ⟨rfl, rfl⟩

set_option maxRecDepth 100000 in
set_option maxHeartbeats 1600000 in
theorem indexL_any (q : Nat) (a : Option Addr) (n c : Nat) (l : List Int) (w : World) (hi : Ints w a n l) (hf : ∀ k, k < n → Calls Tryz.prog 140 #[.int .i64 (nth l k), .pointer (some ⟨q, 0, none⟩)] w fun e w' => e = .returned (.bool false) ∧ w = w') :
    Calls Tryz.prog 159 #[.slice a n c, .func (.func 140) #[] #[.pointer (some ⟨q, 0, none⟩)]] w fun e w' => e = .returned (.int .i64 (-1)) ∧ w = w' := by
  have hpl := hi.pl
  have hmax := hi.max
  have HF := Lib.hid hf
  unfold maxLen at hmax
  clear hf
  go_enter Tryz.func159, Tryz.ntmps159
  go_wp2_with fail
  go_loop [8] (fun iv => ∃ k : Nat, k ≤ n ∧ iv = .int .i64 k) (fun iv => n - (intOf iv).toNat)
  case atStart => exact ⟨0, Nat.zero_le _, rfl⟩
  case round =>
    obtain ⟨k, hk, rfl⟩ := hrel
    by_cases hlt : k < n
    · have ck := hi.cell k hlt
      have Hk := Lib.hid (HF.out k hlt)
      go_wp2_with fail
      refine Hk.out.mono ?_
      rintro e w' ⟨rfl, rfl⟩
      go_wp2_with fail
      go_round
      case rel => exact ⟨k + 1, by omega, by go_num⟩
      case measure => simp [intOf] <;> omega
    · obtain rfl : k = n := by omega
      go_wp2_with fail
      go_ret
      exact ⟨rfl, rfl⟩
theorem containsL_any (q : Nat) (a : Option Addr) (n c : Nat) (l : List Int) (w : World) (hi : Ints w a n l) (hf : ∀ k, k < n → Calls Tryz.prog 140 #[.int .i64 (nth l k), .pointer (some ⟨q, 0, none⟩)] w fun e w' => e = .returned (.bool false) ∧ w = w') :
    Calls Tryz.prog 139 #[.slice a n c, .func (.func 140) #[] #[.pointer (some ⟨q, 0, none⟩)]] w fun e w' => e = .returned (.bool false) ∧ w = w' := by
  have Hc := Lib.hid (indexL_any q a n c l w hi hf)
  clear hf
  go_enter Tryz.func139, Tryz.ntmps139
  go_wp2_with fail
  refine Hc.out.mono ?_
  rintro e w' ⟨rfl, rfl⟩
  go_wp2_with fail
  go_ret
  exact ⟨rfl, rfl⟩

set_option maxRecDepth 100000 in
set_option maxHeartbeats 1600000 in
theorem indexV_any (q : Nat) (a : Option Addr) (n c : Nat) (l : List Int) (w : World) (hi : Ints w a n l) (hf : ∀ k, k < n → Calls Tryz.prog 154 #[.int .i64 (nth l k), .pointer (some ⟨q, 0, none⟩)] w fun e w' => e = .returned (.bool false) ∧ w = w') :
    Calls Tryz.prog 159 #[.slice a n c, .func (.func 154) #[] #[.pointer (some ⟨q, 0, none⟩)]] w fun e w' => e = .returned (.int .i64 (-1)) ∧ w = w' := by
  have hpl := hi.pl
  have hmax := hi.max
  have HF := Lib.hid hf
  unfold maxLen at hmax
  clear hf
  go_enter Tryz.func159, Tryz.ntmps159
  go_wp2_with fail
  go_loop [8] (fun iv => ∃ k : Nat, k ≤ n ∧ iv = .int .i64 k) (fun iv => n - (intOf iv).toNat)
  case atStart => exact ⟨0, Nat.zero_le _, rfl⟩
  case round =>
    obtain ⟨k, hk, rfl⟩ := hrel
    by_cases hlt : k < n
    · have ck := hi.cell k hlt
      have Hk := Lib.hid (HF.out k hlt)
      go_wp2_with fail
      refine Hk.out.mono ?_
      rintro e w' ⟨rfl, rfl⟩
      go_wp2_with fail
      go_round
      case rel => exact ⟨k + 1, by omega, by go_num⟩
      case measure => simp [intOf] <;> omega
    · obtain rfl : k = n := by omega
      go_wp2_with fail
      go_ret
      exact ⟨rfl, rfl⟩
theorem containsV_any (q : Nat) (a : Option Addr) (n c : Nat) (l : List Int) (w : World) (hi : Ints w a n l) (hf : ∀ k, k < n → Calls Tryz.prog 154 #[.int .i64 (nth l k), .pointer (some ⟨q, 0, none⟩)] w fun e w' => e = .returned (.bool false) ∧ w = w') :
    Calls Tryz.prog 139 #[.slice a n c, .func (.func 154) #[] #[.pointer (some ⟨q, 0, none⟩)]] w fun e w' => e = .returned (.bool false) ∧ w = w' := by
  have Hc := Lib.hid (indexV_any q a n c l w hi hf)
  clear hf
  go_enter Tryz.func139, Tryz.ntmps139
  go_wp2_with fail
  refine Hc.out.mono ?_
  rintro e w' ⟨rfl, rfl⟩
  go_wp2_with fail
  go_ret
  exact ⟨rfl, rfl⟩

set_option maxRecDepth 100000 in
set_option maxHeartbeats 1600000 in
theorem indexZ_any (a : Option Addr) (n c : Nat) (l : List Int) (w : World) (hi : Ints w a n l) (hf : ∀ k, k < n → Calls Tryz.prog 193 #[.int .i64 (nth l k)] w fun e w' => e = .returned (.bool false) ∧ w = w') :
    Calls Tryz.prog 159 #[.slice a n c, .func (.func 193) #[] #[]] w fun e w' => e = .returned (.int .i64 (-1)) ∧ w = w' := by
  have hpl := hi.pl
  have hmax := hi.max
  have HF := Lib.hid hf
  unfold maxLen at hmax
  clear hf
  go_enter Tryz.func159, Tryz.ntmps159
  go_wp2_with fail
  go_loop [8] (fun iv => ∃ k : Nat, k ≤ n ∧ iv = .int .i64 k) (fun iv => n - (intOf iv).toNat)
  case atStart => exact ⟨0, Nat.zero_le _, rfl⟩
  case round =>
    obtain ⟨k, hk, rfl⟩ := hrel
    by_cases hlt : k < n
    · have ck := hi.cell k hlt
      have Hk := Lib.hid (HF.out k hlt)
      go_wp2_with fail
      refine Hk.out.mono ?_
      rintro e w' ⟨rfl, rfl⟩
      go_wp2_with fail
      go_round
      case rel => exact ⟨k + 1, by omega, by go_num⟩
      case measure => simp [intOf] <;> omega
    · obtain rfl : k = n := by omega
      go_wp2_with fail
      go_ret
      exact ⟨rfl, rfl⟩
theorem containsZ_any (a : Option Addr) (n c : Nat) (l : List Int) (w : World) (hi : Ints w a n l) (hf : ∀ k, k < n → Calls Tryz.prog 193 #[.int .i64 (nth l k)] w fun e w' => e = .returned (.bool false) ∧ w = w') :
    Calls Tryz.prog 139 #[.slice a n c, .func (.func 193) #[] #[]] w fun e w' => e = .returned (.bool false) ∧ w = w' := by
  have Hc := Lib.hid (indexZ_any a n c l w hi hf)
  clear hf
  go_enter Tryz.func139, Tryz.ntmps139
  go_wp2_with fail
  refine Hc.out.mono ?_
  rintro e w' ⟨rfl, rfl⟩
  go_wp2_with fail
  go_ret
  exact ⟨rfl, rfl⟩

theorem zeroAll_any (a : Option Addr) (n c : Nat) (l : List Int) (w : World) (hi : Ints w a n l) (h0 : ∀ k, k < n → nth l k = 0) :
    Calls Tryz.prog 156 #[.slice a n c] w fun e w' => e = .returned (.bool true) ∧ w = w' := by
  have Hc := Lib.hid (containsZ_any a n c l w hi fun k hk => zeroNo_any (nth l k) w (h0 k hk))
  clear h0
  go_enter Tryz.func156, Tryz.ntmps156
  go_wp2_with fail
  refine Hc.out.mono ?_
  rintro e w' ⟨rfl, rfl⟩
  go_wp2_with fail
  go_ret
  exact ⟨rfl, rfl⟩

set_option maxHeartbeats 1600000 in
theorem viewWord_any {w : World} {b : Nat} {G : Tbl} (m : Nat) (a : Option Addr) (n c : Nat) (ap : Option Addr) (np cp : Nat) (ax : Option Addr) (cx : Nat) (x : List Int) (h : GFw w b G) (hx : Ints w ax m x) (hxe : Vc G.El m x) :
    Calls Tryz.prog 115 #[.agg #[.pointer (some ⟨b, 0, none⟩), .int .i64 m, .slice a n c, .slice ap np cp], .slice ax m cx] w fun e w' => e = .returned (.int .i64 0) ∧ Below w.heap.size w w' := by
  go_enter Tryz.func115, Tryz.ntmps115
  go_wp2_with fail
  obtain ⟨W, hW⟩ : ∃ W : World, W = w.alloc (.cells #[.pointer (some ⟨b, 0, none⟩), .int .i64 m, .slice a n c, .slice ap np cp] 126) := ⟨_, rfl⟩
  rw [← hW]
  have hbW : Below w.heap.size w W := by rw [hW]; exact below1 _ _
  have x0 : Box W w.heap.size [.pointer (some ⟨b, 0, none⟩), .int .i64 m, .slice a n c, .slice ap np cp] := by rw [hW]; exact Box.new _ _ _ rfl
  have c0 := x0.cell 0 rfl
  have c1 := x0.cell 1 rfl
  have hmm : ((m : Int) != m) = false := by simp
  have Hc := Lib.hid (containsV_any w.heap.size ax m cx x W (hx.keep hbW) fun k hk =>
    wordNo_any w.heap.size (nth x k) c0 (h.keep hbW) (hxe.at hk))
  clear hW x0
  go_wp2_with fail
  refine Hc.out.mono ?_
  rintro e w' ⟨rfl, rfl⟩
  go_wp2_with fail
  go_ret
  exact ⟨rfl, hbW⟩

set_option maxRecDepth 100000 in
set_option maxHeartbeats 4000000 in
theorem reduce_any {w : World} {b : Nat} {G : Tbl} (m : Nat) (a : Option Addr) (n c : Nat) (R : List (List Int)) (ap : Option Addr) (cp : Nat) (Pv : List Int) (ax : Option Addr) (cx : Nat) (x : List Int)
    (h : GFw w b G) (hi : Mat w a n R) (hp : Ints w ap n Pv) (hx : Ints w ax m x) (hOk : BS.Ok G.El m ⟨R, Pv⟩) (hxe : Vc G.El m x) (hn : n ≤ 1000000) (hm : m ≤ 1000000) :
    Calls Tryz.prog 155 #[.agg #[.pointer (some ⟨b, 0, none⟩), .int .i64 m, .slice a n c, .slice ap n cp], .slice ax m cx] w
      fun e w' => ∃ a1 c1 v2, e = .returned (.tuple #[.slice a1 m c1, v2]) ∧ Ints w' a1 m (redTo G.ops R Pv x n) ∧ Below w.heap.size w w' := by
  have hcl := Tbl.cl h
  have hrl : R.length = n := hi.len
  have hred := redTo_el hcl hOk.rws (Q := Pv) hOk.plc hxe
  have Hred := Lib.hid hred
  have HOk := Lib.hid hOk
  have Hrl := Lib.hid hrl
  have Hxl := Lib.hid hxe.1
  have hplp := hp.pl
  have hplr := hi.pl
  clear hred hOk hrl hcl
  go_enter Tryz.func155, Tryz.ntmps155
  go_wp2_with fail
  obtain ⟨W, hW⟩ : ∃ W : World, W = w.alloc (.cells #[.pointer (some ⟨b, 0, none⟩), .int .i64 m, .slice a n c, .slice ap n cp] 126) := ⟨_, rfl⟩
  rw [← hW]
  have hbW : Below w.heap.size w W := by rw [hW]; exact below1 _ _
  have x0 : Box W w.heap.size [.pointer (some ⟨b, 0, none⟩), .int .i64 m, .slice a n c, .slice ap n cp] := by rw [hW]; exact Box.new _ _ _ rfl
  have HX := Lib.hid x0
  have HbW := Lib.hid hbW
  clear hW x0
  refine (clone1_any ax m cx x (hx.keep hbW) hm).mono ?_
  rintro e w1 ⟨a1, c1, rfl, hown1, hb1⟩
  rw [Hxl.out] at hown1 ⊢
  have ha1 : a1 ≠ none → ablk a1 < w1.heap.size := fun h0 => (own_ne hown1 h0).2
  have ha1W : a1 ≠ none → W.heap.size ≤ ablk a1 := fun h0 => (own_ne hown1 h0).1
  have x1 := HX.out.keep hb1
  have q2 := x1.cell 2 rfl
  have q3 := x1.cell 3 rfl
  have hs1 := hb1.size
  clear x1
  go_wp2_with fail
  go_loopw [5, 16] (fun tv iv wr => ∃ (k : Nat) (at' : Option Addr) (ct : Nat) (xs : List Value), k ≤ n ∧ iv = .int .i64 k ∧ tv = .slice at' k ct ∧ wr.ownsRow W.heap.size 3 1 (.slice a1 m c1) m ((redTo G.ops R Pv x k).map (Value.int .i64)) ∧
      wr.ownsRow w1.heap.size 3 1 (.slice at' k ct) k xs ∧ Below W.heap.size W wr ∧ w1.heap.size ≤ wr.heap.size) (fun _ iv _ => n - (intOf iv).toNat)
  case atStart => exact ⟨0, none, 0, [], Nat.zero_le _, rfl, rfl, hown1, own_none, hb1, Nat.le_refl _⟩
  case round =>
    clear q2 q3 hown1
    obtain ⟨k, at', ct, xs, hkn, rfl, rfl, hown, hopt, hbr, hsr⟩ := hrel
    have xr := HX.out.keep hbr
    have hbwr := Below.next HbW.out hbr
    by_cases hlt : k < n
    · have hkr : k < R.length := by rw [Hrl.out]; exact hlt
      have hrow := HOk.out.rws.row hkr
      have hplc : 0 ≤ nth Pv k ∧ nth Pv k < m := HOk.out.plc k hkr
      obtain ⟨ra, rn, rc, er, ir⟩ := hi.cell k hlt
      have hrn : rn = m := by rw [← ir.len]; exact hrow.1
      rw [hrn] at er ir
      have ep := (hp.keep hbwr).cell k hlt
      obtain ⟨pn, hpn⟩ : ∃ pn : Nat, nth Pv k = pn := ⟨(nth Pv k).toNat, by omega⟩
      rw [hpn] at ep hplc
      have hpnn : pn < m := by omega
      have hrd := Hred.out k (by omega)
      have hrd1 := Hred.out (k + 1) (by omega)
      have hstep : redTo G.ops R Pv x (k + 1) = redStep G.ops (redTo G.ops R Pv x k) pn (nthR R k) := by rw [redTo, hpn]
      have Hstep := Lib.hid hstep
      have Hrow := Lib.hid hrow
      clear hstep hpn hrn
      obtain ⟨u, hu⟩ : ∃ u, redTo G.ops R Pv x k = u := ⟨_, rfl⟩
      rw [hu] at hown hrd
      have Hu := Lib.hid hu
      obtain ⟨iu, mu⟩ := Ints.own hown
      have eu := iu.cell pn hpnn
      have hpu := iu.pl
      have Hrd := Lib.hid hrd
      clear hu hrow hrd hrd1
      have hne1 : a1 ≠ none := fun e => by
        have := hpu (by omega)
        rw [e] at this; cases this
      have ha1' := ha1 hne1
      have hapt : Apt at' (ablk a1) := by
        by_cases h0 : at' = none
        · exact .inl h0
        · have := (own_ne hopt h0).1
          exact .inr (by omega)
      have hcn := cell_new wr (.int .i64 (nth u pn)) 3
      have hbn := below1 wr (.cells #[.int .i64 (nth u pn)] 3)
      have hbnx := Below.trans hbr (hbn.mono (by omega))
      have HN5 : Hid (∀ (a5 : Option Addr) (c5 : Nat) (w5 : World), (wr.alloc (.cells #[.int .i64 (nth u pn)] 3)).grownBy w5 (Value.slice at' k ct).ownBlock → Below W.heap.size W w5 ∧ w5.ownsRow W.heap.size 3 1 (.slice a1 m c1) m (u.map (Value.int .i64)) ∧ w1.heap.size ≤ w5.heap.size) := fun a5 c5 w5 hgr5 =>
        ⟨Below.app hbnx (hopt.alloc _) hgr5 (by omega) (by simp; omega), own_grownApt (hown.alloc _) hgr5 hapt, by have := hgr5.size; simp at this; omega⟩
      clear hbnx mu
      by_cases hz : nth u pn = 0
      · have hz' : (nth u pn != 0) = false := by simpa using hz
        have Hn : Hid (redTo G.ops R Pv x (k + 1) = u) := by show _ = _; rw [Hstep.out, Hu.out, redStep, Int.toNat_natCast, if_pos hz]
        clear hz
        go_wp2_with (at_builtin; refine wpList_push rfl _ _ 22 3 rfl (.int .i64 0) 8 Tryz.underlying22 infoInt rfl w1.heap.size at' k ct xs rfl (hopt.alloc _) ⟨wr.heap.size, 0, none⟩ 1 (.int .i64 (nth u pn)) rfl hcn rfl (by omega) (by unfold maxLen; omega) (by simp; omega) ?_; intro a5 c5 w5 hown5 hgr5 hap5)
        go_roundw
        case rel =>
          obtain ⟨h1, h2, h3⟩ := HN5.out a5 c5 w5 hgr5
          exact ⟨k + 1, a5, c5, _, by omega, by go_num, rfl, by rw [Hn.out]; exact h2, hown5, h1, h3⟩
        case measure => simp [intOf] <;> omega
      · have hz' : (nth u pn != 0) = true := by simpa using hz
        have Hn : Hid (redTo G.ops R Pv x (k + 1) = subRow G.ops u (nth u pn) (nthR R k)) := by show _ = _; rw [Hstep.out, Hu.out, redStep, Int.toNat_natCast, if_neg hz]
        have hxe2 : G.El (nth u pn) := Hrd.out.2 _ (nth_mem (by rw [Hrd.out.1]; exact hpnn))
        have hSl : (subRow G.ops u (nth u pn) (nthR R k)).length = u.length := subRow_length _ _ _ _ (by rw [Hrow.out.1, Hrd.out.1])
        have hSn := fun i hi => nth_subRow G.ops u (nth u pn) (nthR R k) i (by rw [Hrow.out.1, Hrd.out.1]) hi
        have HSl := Lib.hid hSl
        have HSn := Lib.hid hSn
        clear hz hSl hSn
        have hplr2 := ir.pl
        go_upto_region 8 with (at_builtin; refine wpList_push rfl _ _ 22 3 rfl (.int .i64 0) 8 Tryz.underlying22 infoInt rfl w1.heap.size at' k ct xs rfl (hopt.alloc _) ⟨wr.heap.size, 0, none⟩ 1 (.int .i64 (nth u pn)) rfl hcn rfl (by omega) (by unfold maxLen; omega) (by simp; omega) ?_; intro a5 c5 w5 hown5 hgr5 hap5)
        obtain ⟨hbU, hownU, hsU⟩ := HN5.out a5 c5 w5 hgr5
        have hna5 : a5 ≠ none → ¬ (a1 ≠ none ∧ ablk a5 = ablk a1) := fun h0 h1 => by
          have := (own_ne hown5 h0).1
          omega
        clear HN5 hgr5 hap5 hcn hbn eu iu ep xr hown hopt hapt
        generalize w5 = U at *
        have hbwU := Below.next HbW.out hbU
        have xU := HX.out.keep hbU
        have q1 := xU.cell 1 rfl
        have q2 := xU.cell 2 rfl
        have erU := cell_keep hbwU er
        clear xU
        go_wp2_with fail
        clear q1 q2 erU
        generalize nth u pn = y at *
        generalize subRow G.ops u y (nthR R k) = S at *
        go_loopw [38] (fun iv wx => ∃ j : Nat, j ≤ m ∧ iv = .int .i64 j ∧ wx.ownsRow W.heap.size 3 1 (.slice a1 m c1) m ((mixTo S u j).map (Value.int .i64)) ∧ Only a1 U wx) (fun iv _ => m - (intOf iv).toNat)
        case atStart => exact ⟨0, Nat.zero_le _, rfl, by rw [mixTo_zero]; exact hownU, Only.refl _ _⟩
        case round =>
          clear hownU
          obtain ⟨j, hj, rfl, hown2, honly2⟩ := hrel
          have hbx0 : Below W.heap.size U wr := honly2.below ha1W hbU.size
          have hbx := Below.trans hbU hbx0
          have hbwx := Below.next HbW.out hbx
          by_cases hjn : j < m
          · have cj := (ir.keep hbwx).cell j hjn
            have f0 := (HX.out.keep hbx).cell 0 rfl
            obtain ⟨im, mm⟩ := Ints.own hown2
            have cm := im.cell j hjn
            have fm := (mm (by omega)).2 j hjn
            have hju : j < u.length := by rw [Hrd.out.1]; exact hjn
            have hmix := nth_mixTo S u j j HSl.out (by omega)
            rw [if_neg (by omega)] at hmix
            rw [hmix] at cm
            have hset := mixTo_set S u j HSl.out hju
            rw [HSn.out j hju] at hset
            have Hset := Lib.hid hset
            have ely : G.El (nth (nthR R k) j) := Hrow.out.2 _ (nth_mem (by rw [Hrow.out.1]; exact hjn))
            have elv : G.El (nth u j) := Hrd.out.2 _ (nth_mem hju)
            have hGr : GFw wr b G := h.keep hbwx
            have elm : ∀ x y, G.El (G.mul x y) := fun x y => Tbl.mul_el h x y
            have HG : Hid (GFw wr.drew b G ∧ ∀ n, GFw (wr.drewN n) b G) := ⟨hGr.keep (Below.refl _ _).drew, fun n => hGr.drewN n⟩
            clear hset hmix
            go_wp2_with fail
            go_region_law ((first
              | (go_simp; go_at_call 158; ((with_reducible refine (gMul y (nth (nthR R k) j) HG.out.1 hxe2 ely).mono ?_); rintro e w4 ⟨m4, rfl, rfl⟩))
              | (go_simp; go_at_call 158; ((with_reducible refine (gMul y (nth (nthR R k) j) (HG.out.2 _) hxe2 ely).mono ?_); rintro e w4 ⟨m4, rfl, rfl⟩))
              | (go_simp; go_at_call 157; ((with_reducible refine (gSub (nth u j) (G.mul y (nth (nthR R k) j)) (HG.out.2 _) elv (elm _ _)).mono ?_); rintro e w4 ⟨m5, rfl, rfl⟩))))
            all_goals (
              go_wp2_with fail
              go_roundw
              case rel =>
                have hdr : Drawn wr (wr.drewN (1 + m4 + m5)) := ⟨_, rfl⟩
                refine ⟨j + 1, by omega, by go_num, ?_, honly2.trans ((Only.drawn hdr).trans (Only.set _ j _ hne1))⟩
                have h1 := own_set (w := wr.drewN (1 + m4 + m5)) hown2 j hjn (.int .i64 (G.sub (nth u j) (G.mul y (nth (nthR R k) j))))
                rw [← List.map_set, show G.sub (nth u j) (G.mul y (nth (nthR R k) j)) = G.ops.add (nth u j) (G.ops.neg (G.ops.mul y (nth (nthR R k) j))) from rfl, Hset.out] at h1
                exact h1
              case measure => simp [intOf] <;> omega)
          · obtain rfl : j = m := by omega
            rw [mixTo_all S u j (by rw [HSl.out, Hrd.out.1]) Hrd.out.1] at hown2
            have hown6 := Moves.own honly2 hown5 hna5
            have hsx := honly2.size
            go_wp2_with fail
            go_roundw
            case rel => exact ⟨k + 1, a5, c5, _, by omega, by go_num, rfl, by rw [Hn.out]; exact hown2, hown6, hbx, by omega⟩
            case measure => simp [intOf] <;> omega
    · obtain rfl : k = n := by omega
      have hF := (Ints.own hown).1
      have HF := Lib.hid hF
      clear hF hown hopt xr
      go_wp2_with fail
      go_ret2
      exact ⟨a1, c1, _, rfl, HF.out, hbwr⟩

set_option maxRecDepth 100000 in
set_option maxHeartbeats 4000000 in
theorem viewHas_any {w : World} {b : Nat} {G : Tbl} (m : Nat) (a : Option Addr) (n c : Nat) (R : List (List Int)) (ap : Option Addr) (cp : Nat) (Pv : List Int) (ax : Option Addr) (cx : Nat) (x : List Int)
    (h : GFw w b G) (hi : Mat w a n R) (hp : Ints w ap n Pv) (hx : Ints w ax m x) (hOk : BS.Ok G.El m ⟨R, Pv⟩) (hxe : Vc G.El m x) (hn : n ≤ 1000000) (hm : m ≤ 1000000) (h0 : ∀ i, i < m → nth (redTo G.ops R Pv x n) i = 0) :
    Calls Tryz.prog 116 #[.agg #[.pointer (some ⟨b, 0, none⟩), .int .i64 m, .slice a n c, .slice ap n cp], .slice ax m cx] w
      fun e w' => e = .returned (.bool true) ∧ Below w.heap.size w w' := by
  have H0 := Lib.hid h0
  clear h0
  go_enter Tryz.func116, Tryz.ntmps116
  go_wp2_with fail
  obtain ⟨W, hW⟩ : ∃ W : World, W = w.alloc (.cells #[.pointer (some ⟨b, 0, none⟩), .int .i64 m, .slice a n c, .slice ap n cp] 126) := ⟨_, rfl⟩
  rw [← hW]
  have hbW : Below w.heap.size w W := by rw [hW]; exact below1 _ _
  clear hW
  refine (reduce_any m a n c R ap cp Pv ax cx x (h.keep hbW) (hi.keep hbW) (hp.keep hbW) (hx.keep hbW) hOk hxe hn hm).mono ?_
  rintro e w1 ⟨a1, c1, v2, rfl, hI1, hb1⟩
  have Hz := Lib.hid (zeroAll_any a1 m c1 _ w1 hI1 H0.out)
  have hF := Below.next hbW hb1
  clear hI1 hOk hxe
  go_wp2_with fail
  refine Hz.out.mono ?_
  rintro e w2 ⟨rfl, rfl⟩
  go_wp2_with fail
  go_ret
  exact ⟨rfl, hF⟩
end

/- The walks of code.list, word, space.Has, code.Has, at words of the code. -/
section
open Go.RowKit

set_option maxRecDepth 100000 in
set_option maxHeartbeats 4000000 in
theorem codeList_any (P M : Int) (am : Option Addr) (mn cm : Nat) (mod : List Int) (ax : Option Addr) (n cx : Nat) (x : List Int) (w : World) (hmod : Ints w am mn mod) (hx : Ints w ax n x) (hB : fieldB P M mod = true) (hxe : Vc (tblOf P M.toNat mod).El n x) :
    Calls Tryz.prog 98 #[.agg #[.int .i64 P, .int .i64 M, .slice am mn cm], .slice ax n cx, .int .i64 n] w fun e w' => e = .returned (.int .i64 0) ∧ Below w.heap.size w w' := by
  go_enter Tryz.func98, Tryz.ntmps98
  go_upto_region 1 with fail
  obtain ⟨W, hW⟩ : ∃ W : World, W = w.alloc (.cells #[.int .i64 P, .int .i64 M, .slice am mn cm] 24) := ⟨_, rfl⟩
  rw [← hW]
  have hbW : Below w.heap.size w W := by rw [hW]; exact below1 _ _
  have x0 : Box W w.heap.size [.int .i64 P, .int .i64 M, .slice am mn cm] := by rw [hW]; exact Box.new _ _ _ rfl
  have c0 := x0.cell 0 rfl
  have c1 := x0.cell 1 rfl
  have c2 := x0.cell 2 rfl
  have hnn : ((n : Int) != n) = false := by simp
  clear hW x0
  go_wp2_with fail
  refine (fieldNew_any P M am mn cm mod W (hmod.keep hbW)).mono ?_
  rintro e w4 (⟨hB2, _, _⟩ | ⟨_, b, rfl, hG, hbl, hb4⟩)
  · rw [hB] at hB2; cases hB2
  have hbw4 := Below.next hbW hb4
  have hb5 := below1 w4 (.cells #[.pointer (some ⟨b, 0, none⟩)] 89)
  have hc5 := cell_new w4 (.pointer (some ⟨b, 0, none⟩)) 89
  have Hc := Lib.hid (containsL_any w4.heap.size ax n cx x _ (hx.keep (Below.next hbw4 hb5)) fun k hk => listNo_any w4.heap.size (nth x k) hc5 (hG.gf.keep hb5) (hxe.at hk))
  have hF := Below.next hbw4 hb5
  have HF := Lib.hid hF
  clear c0 c1 c2 hG hbl hB hxe hF
  go_wp2_with fail
  refine Hc.out.mono ?_
  rintro e w6 ⟨rfl, rfl⟩
  go_wp2_with fail
  go_ret
  exact ⟨rfl, HF.out⟩

set_option maxRecDepth 100000 in
set_option maxHeartbeats 4000000 in
theorem codeWord_any (P M : Int) (am : Option Addr) (mn cm : Nat) (mod : List Int) (m : Nat) (a : Option Addr) (n c : Nat) (L : List (List Int)) (ax : Option Addr) (cx : Nat) (x : List Int) (w : World) (hmod : Ints w am mn mod) (hi : Mat w a n L) (hx : Ints w ax m x)
    (hE : codeE P M mod m L = 0) (hxe : Vc (tblOf P M.toNat mod).El m x) :
    Calls Tryz.prog 68 #[.agg #[.int .i64 P, .int .i64 M, .slice am mn cm, .int .i64 m, .slice a n c], .slice ax m cx] w fun e w' => e = .returned (.int .i64 0) ∧ Below w.heap.size w w' := by
  go_enter Tryz.func68, Tryz.ntmps68
  go_wp2_with fail
  obtain ⟨W, hW⟩ : ∃ W : World, W = w.alloc (.cells #[.int .i64 P, .int .i64 M, .slice am mn cm, .int .i64 m, .slice a n c] 27) := ⟨_, rfl⟩
  rw [← hW]
  have hbW : Below w.heap.size w W := by rw [hW]; exact below1 _ _
  have x0 : Box W w.heap.size [.int .i64 P, .int .i64 M, .slice am mn cm, .int .i64 m, .slice a n c] := by rw [hW]; exact Box.new _ _ _ rfl
  clear hW
  refine (codeCheck_any P M am mn cm mod m a n c L W (hmod.keep hbW) (hi.keep hbW)).mono ?_
  rintro e w1 ⟨rfl, hb1⟩
  have hbw1 := Below.next hbW hb1
  have x1 := x0.keep hb1
  have c0 := x1.cell 0 rfl
  have c1 := x1.cell 1 rfl
  have c2 := x1.cell 2 rfl
  have c3 := x1.cell 3 rfl
  have HL := Lib.hid (codeList_any P M am mn cm mod ax m cx x w1 (hmod.keep hbw1) (hx.keep hbw1) (codeE_zero hE).1 hxe)
  rw [hE]
  clear hE hxe x0 x1
  go_wp2_with fail
  refine HL.out.mono ?_
  rintro e w2 ⟨rfl, hb2⟩
  have hF := Below.next hbw1 hb2
  go_wp2_with fail
  go_ret
  exact ⟨rfl, hF⟩

set_option maxRecDepth 100000 in
set_option maxHeartbeats 4000000 in
theorem spaceHas_any (P M : Int) (am : Option Addr) (mn cm : Nat) (mod : List Int) (m : Nat) (a : Option Addr) (n c : Nat) (L : List (List Int)) (ax : Option Addr) (cx : Nat) (x : List Int) (w : World) (hmod : Ints w am mn mod) (hi : Mat w a n L) (hx : Ints w ax m x)
    (hE : codeE P M mod m L = 0) (hxe : Vc (tblOf P M.toNat mod).El m x) (h0 : ∀ i, i < m → nth (redTo (tblOf P M.toNat mod).ops L (pivS (tblOf P M.toNat mod) L m) x L.length) i = 0) :
    Calls Tryz.prog 69 #[.agg #[.int .i64 P, .int .i64 M, .slice am mn cm], .agg #[.int .i64 m, .slice a n c], .slice ax m cx] w fun e w' => e = .returned (.tuple #[.bool true, .int .i64 0]) ∧ Below w.heap.size w w' := by
  have hil := hi.len
  obtain ⟨m', em, hm1, hm64, F, hR⟩ := codeE_fld hE
  obtain rfl : m = m' := by omega
  have hn : n ≤ 256 := by rw [← hil]; exact (codeE_rws hE).choose_spec.2.2.2.1
  obtain ⟨h5, h6⟩ := spaceE_zero (codeE_zero hE).2.2.2
  rw [Int.toNat_natCast] at h6
  have hcan : canO (tblOf P M.toNat mod).ops m L = L := h6
  have hpiv := (canO_piv F hR).1
  have hlen := canO_len F hR
  rw [hcan] at hpiv hlen
  have hOk : BS.Ok (tblOf P M.toNat mod).El m ⟨L, pivS (tblOf P M.toNat mod) L m⟩ := (piv_inv hR hpiv hlen).ok
  have hpl : (pivS (tblOf P M.toNat mod) L m).length = n := by rw [← hil]; exact hlen.symm
  rw [hil] at h0
  have H0 := Lib.hid h0
  have HOk := Lib.hid hOk
  have Hsp := Lib.hid (codeE_zero hE).2.2.2
  have Hxe := Lib.hid hxe
  clear h0 hOk h5 h6 hcan hpiv hlen em F hR hE hil hxe
  go_enter Tryz.func69, Tryz.ntmps69
  go_wp2_with fail
  obtain ⟨W, hW⟩ : ∃ W : World, W = (w.alloc (.cells #[.int .i64 P, .int .i64 M, .slice am mn cm] 24)).alloc (.cells #[.int .i64 m, .slice a n c] 62) := ⟨_, rfl⟩
  rw [← hW]
  have hbW : Below w.heap.size w W := by rw [hW]; exact below2 _ _ _
  clear hW
  refine (spaceOpen_any P M am mn cm mod m a n c L W (hmod.keep hbW) (hi.keep hbW)).mono ?_
  rintro e w1 ⟨hb1, ⟨he, _⟩ | ⟨_, m', b, hm', ap, cp, rfl, hG, hbl, hP⟩⟩
  · exact absurd Hsp.out he
  obtain rfl : m = m' := by omega
  have hbw1 := Below.next hbW hb1
  have hp1 := hP.ints
  rw [hpl] at hp1 ⊢
  obtain ⟨Pv, hPv⟩ : ∃ Pv, pivS (tblOf P M.toNat mod) L m = Pv := ⟨_, rfl⟩
  obtain ⟨G, hGG⟩ : ∃ G, tblOf P M.toNat mod = G := ⟨_, rfl⟩
  rw [hGG] at hPv hG H0 HOk Hxe
  rw [hPv] at H0 HOk
  have hp2 : Ints w1 ap n Pv := by rw [hGG, hPv] at hp1; exact hp1
  have hb2 := below1 w1 (.cells #[.pointer (some ⟨b, 0, none⟩), .int .i64 m, .slice a n c, .slice ap n cp] 126)
  have hbw2 := Below.next hbw1 hb2
  have HWd := Lib.hid (viewWord_any m a n c ap n cp ax cx x (hG.gf.keep hb2) (hx.keep hbw2) Hxe.out)
  have HHs : Hid (∀ V, Below w1.heap.size w1 V → Calls Tryz.prog 116 #[.agg #[.pointer (some ⟨b, 0, none⟩), .int .i64 m, .slice a n c, .slice ap n cp], .slice ax m cx] V fun e w' => e = .returned (.bool true) ∧ Below V.heap.size V w') := fun V hV =>
    viewHas_any m a n c L ap cp Pv ax cx x (hG.gf.keep hV) (hi.keep (Below.next hbw1 hV)) (hp2.keep hV) (hx.keep (Below.next hbw1 hV)) HOk.out Hxe.out (by omega) (by omega) H0.out
  have k0 := Box.new w1 [.pointer (some ⟨b, 0, none⟩), .int .i64 m, .slice a n c, .slice ap n cp] 126 rfl
  have HX := Lib.hid k0
  clear hpl hPv hGG hG hbl hP hp1 hp2 hm' k0
  go_wp2_with fail
  refine HWd.out.mono ?_
  rintro e w3 ⟨rfl, hb3⟩
  have x3 := HX.out.keep hb3
  have k0 := x3.cell 0 rfl
  have k1 := x3.cell 1 rfl
  have k2 := x3.cell 2 rfl
  have k3 := x3.cell 3 rfl
  have Hh := Lib.hid (HHs.out w3 (Below.next hb2 hb3))
  have hbw3 := Below.next hbw2 hb3
  clear HWd HHs x3
  go_wp2_with fail
  refine Hh.out.mono ?_
  rintro e w4 ⟨rfl, hb4⟩
  have hF := Below.next hbw3 hb4
  go_wp2_with fail
  go_ret2
  exact ⟨rfl, hF⟩

set_option maxRecDepth 100000 in
set_option maxHeartbeats 4000000 in
theorem codeHas_any (P M : Int) (am : Option Addr) (mn cm : Nat) (mod : List Int) (m : Nat) (a : Option Addr) (n c : Nat) (L : List (List Int)) (ax : Option Addr) (cx : Nat) (x : List Int) (w : World) (hmod : Ints w am mn mod) (hi : Mat w a n L) (hx : Ints w ax m x)
    (hE : codeE P M mod m L = 0) (hxe : Vc (tblOf P M.toNat mod).El m x) (h0 : ∀ i, i < m → nth (redTo (tblOf P M.toNat mod).ops L (pivS (tblOf P M.toNat mod) L m) x L.length) i = 0) :
    Calls Tryz.prog 22 #[.agg #[.int .i64 P, .int .i64 M, .slice am mn cm, .int .i64 m, .slice a n c], .slice ax m cx] w fun e w' => e = .returned (.tuple #[.bool true, .int .i64 0]) ∧ Below w.heap.size w w' := by
  have HSp : Hid (∀ V, Below w.heap.size w V → Calls Tryz.prog 69 #[.agg #[.int .i64 P, .int .i64 M, .slice am mn cm], .agg #[.int .i64 m, .slice a n c], .slice ax m cx] V fun e w' => e = .returned (.tuple #[.bool true, .int .i64 0]) ∧ Below V.heap.size V w') := fun V hV =>
    spaceHas_any P M am mn cm mod m a n c L ax cx x V (hmod.keep hV) (hi.keep hV) (hx.keep hV) hE hxe h0
  have HWd : Hid (∀ V, Below w.heap.size w V → Calls Tryz.prog 68 #[.agg #[.int .i64 P, .int .i64 M, .slice am mn cm, .int .i64 m, .slice a n c], .slice ax m cx] V fun e w' => e = .returned (.int .i64 0) ∧ Below V.heap.size V w') := fun V hV =>
    codeWord_any P M am mn cm mod m a n c L ax cx x V (hmod.keep hV) (hi.keep hV) (hx.keep hV) hE hxe
  clear hmod hi hx hE hxe h0
  go_enter Tryz.func22, Tryz.ntmps22
  go_wp2_with fail
  obtain ⟨W, hW⟩ : ∃ W : World, W = w.alloc (.cells #[.int .i64 P, .int .i64 M, .slice am mn cm, .int .i64 m, .slice a n c] 27) := ⟨_, rfl⟩
  rw [← hW]
  have hbW : Below w.heap.size w W := by rw [hW]; exact below1 _ _
  have x0 : Box W w.heap.size [.int .i64 P, .int .i64 M, .slice am mn cm, .int .i64 m, .slice a n c] := by rw [hW]; exact Box.new _ _ _ rfl
  have HX := Lib.hid x0
  have HbW := Lib.hid hbW
  clear hW x0
  refine (HWd.out W hbW).mono ?_
  rintro e w1 ⟨rfl, hb1⟩
  have hbw1 := Below.next HbW.out hb1
  have hS : ∀ V, Below w1.heap.size w1 V → V.cell? ⟨w.heap.size, 0, none⟩ = some (.int .i64 P) ∧ V.cell? ⟨w.heap.size, 1, none⟩ = some (.int .i64 M) ∧ V.cell? ⟨w.heap.size, 2, none⟩ = some (.slice am mn cm) ∧ V.cell? ⟨w.heap.size, 3, none⟩ = some (.int .i64 m) ∧ V.cell? ⟨w.heap.size, 4, none⟩ = some (.slice a n c) ∧ Below w1.heap.size w1 V := fun V hV => by
    have x1 := HX.out.keep (Below.next hb1 hV)
    exact ⟨x1.cell 0 rfl, x1.cell 1 rfl, x1.cell 2 rfl, x1.cell 3 rfl, x1.cell 4 rfl, hV⟩
  have HS := Lib.hid hS
  have Hbw1 := Lib.hid hbw1
  clear hS HWd hbW hb1 hbw1
  go_wp2_with fail
  go_region_held3 (fun V => V.cell? ⟨w.heap.size, 0, none⟩ = some (.int .i64 P) ∧ V.cell? ⟨w.heap.size, 1, none⟩ = some (.int .i64 M) ∧ V.cell? ⟨w.heap.size, 2, none⟩ = some (.slice am mn cm) ∧ V.cell? ⟨w.heap.size, 3, none⟩ = some (.int .i64 m) ∧ V.cell? ⟨w.heap.size, 4, none⟩ = some (.slice a n c) ∧ Below w1.heap.size w1 V)
    ((refine HS.out _ ?_; first | exact (Below.refl _ _).drew | (go_split_ands; exact Below.next (by assumption) (by assumption))))
    (first
      | (go_at_call 70; ((with_reducible refine (gen_any P M am mn cm m a n c _).mono ?_); rintro e w6 ⟨rfl, hb6⟩))
      | (go_at_call 69; ((with_reducible refine (HSp.out _ (Below.next Hbw1.out (by go_split_ands; assumption))).mono ?_); rintro e w8 ⟨rfl, hb8⟩)))
  all_goals (
    go_wp2_with fail
    go_ret2
    exact ⟨rfl, Below.next Hbw1.out (by go_split_ands; assumption)⟩)
end

end Go.Proofs.YtakmnncmeefceaaGreat
