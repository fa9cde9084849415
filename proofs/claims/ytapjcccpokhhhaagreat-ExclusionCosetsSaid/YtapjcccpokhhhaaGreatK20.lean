/- The library's contract of slices.Sort laid over this program. -/
import Derived.Test.YtapjcccpokhhhaaGreatK19
import Derived.Test.YtapjcccpokhhhaaGreatK10
import Derived.Test.YtapjcccpokhhhaaGreatK5
import Derived.Test.YtapjcccpokhhhaaGreatK7
import Derived.Test.YtapjcccpokhhhaaGreatK9
import Derived.Shelf.Sort.Plain
import Derived.Test.YtapjcccpokhhhaaGreatProg
namespace Go.Proofs.YtapjcccpokhhhaaGreat
set_option linter.unusedVariables false
set_option linter.unusedSimpArgs false
set_option linter.unusedSectionVars false

/- Plain: exclusion trees, as the program and the document's answer build and follow them. -/
section
/-- the greedy set, at most `most` positions -/
def grM (O : FOps) (L : List (List Int)) (Q : List Int) (most : Nat) : List Int := (grS O L Q).take most
/-- the positions of z first, in ascending order, then the ones in neither -/
def outS (m : Nat) (s z : List Int) : List Int := sortL z ++ frTo false (s ++ z) m
/-- a claim -/
structure Clm where
  M : Nat
  W : Nat
  cos : Bool
  y : List Int
/-- an ascending set of positions, none of them in s -/
def setOk (m : Nat) (s t : List Int) : Bool := okSet m t && t.all fun x => decide (¬ x ∈ s)
/-- the state of light -/
structure LS where
  rows : List (List Int)
  sum : List Int
  top : Nat
def clrS (O : FOps) (v : List Int) (i : Nat) (r : List Int) : List Int :=
  if nth v i = 0 then v else List.zipWith (fun a y => if y = 0 then a else O.add a (O.neg (O.mul (nth v i) y))) v r
def clrTo (O : FOps) (t i : Nat) (L : List (List Int)) : Nat → List (List Int)
  | 0 => L
  | l + 1 => if t < l then (clrTo O t i L l).set l (clrS O (nthR (clrTo O t i L l) l) i (nthR (clrTo O t i L l) t)) else clrTo O t i L l
def lgtPiv (O : FOps) (L : List (List Int)) (t k i : Nat) : List (List Int) :=
  clrTo O t i ((swapRow L t k).set t ((nthR (swapRow L t k) t).map (O.mul (O.inv (nth (nthR (swapRow L t k) t) i))))) L.length
def lgtStep (O : FOps) (st : LS) (i : Nat) : LS :=
  if findRow st.rows i st.top = st.rows.length then st
  else ⟨lgtPiv O st.rows st.top (findRow st.rows i st.top) i, clrS O st.sum i (nthR (lgtPiv O st.rows st.top (findRow st.rows i st.top) i) st.top), st.top + 1⟩
def lgtTo (O : FOps) (L : List (List Int)) (y t : List Int) : Nat → LS
  | 0 => ⟨L, y, 0⟩
  | k + 1 => lgtStep O (lgtTo O L y t k) (nth t k).toNat
/-- how many of the first k entries are not 0, outside s -/
def cntTo (s v : List Int) : Nat → Nat
  | 0 => 0
  | k + 1 => if nth v k ≠ 0 ∧ ¬ (k : Int) ∈ s then cntTo s v k + 1 else cntTo s v k
def lightS (O : FOps) (L : List (List Int)) (y s t : List Int) : Nat := cntTo s (lgtTo O L y t t.length).sum (lgtTo O L y t t.length).sum.length
/-- whether a node is right -/
def rightS (O : FOps) (L : List (List Int)) (m : Nat) (C : Clm) (s t : List Int) : Bool :=
  setOk m s t && (decide ((grS O L t).length = t.length) &&
    if C.cos = true then decide ((grS O L (frTo false s m)).length = t.length) && decide (C.W < s.length + lightS O L C.y s t) else decide (t.length = C.M))
def kidsS (C : Clm) (s z t : List Int) : List Int := if s.length < C.W then t.filter fun x => decide (¬ x ∈ z) else []
/-- following the children -/
def kfol (F : List Int → List Int → List (List Int) → Option (List (List Int))) (s : List Int) : List Int → List Int → List (List Int) → Option (List (List Int))
  | _, [], ts => some ts
  | z, k :: ks, ts => match F (s ++ [k]) z ts with
    | none => none
    | some ts' => kfol F s (z ++ [k]) ks ts'
def folS (O : FOps) (L : List (List Int)) (m : Nat) (C : Clm) : Nat → List Int → List Int → List (List Int) → Option (List (List Int))
  | 0, s, _, ts => match ts with
    | [] => none
    | t :: ts => if rightS O L m C s t = true then some ts else none
  | d + 1, s, z, ts => match ts with
    | [] => none
    | t :: ts => if rightS O L m C s t = true then kfol (folS O L m C d) s z (kidsS C s z t) ts else none
def provS (O : FOps) (L : List (List Int)) (m : Nat) (C : Clm) (T : List (List Int)) : Int :=
  match folS O L m C C.W [] [] T with
  | some [] => 0
  | _ => 13
/-- the canonical set -/
def csetS (O : FOps) (L : List (List Int)) (m : Nat) (C : Clm) (s z : List Int) : List Int := sortL (grM O L (outS m s z) (if C.cos = true then m else C.M))
def kbld (F : List Int → List Int → List (List Int) → Int × List (List Int)) (s : List Int) : List Int → List Int → List (List Int) → Int × List (List Int)
  | _, [], T => (0, T)
  | z, k :: ks, T => if (F (s ++ [k]) z T).1 = 0 then kbld F s (z ++ [k]) ks (F (s ++ [k]) z T).2 else ((F (s ++ [k]) z T).1, [])
def bldS (O : FOps) (L : List (List Int)) (m : Nat) (C : Clm) : Nat → List Int → List Int → List (List Int) → Int × List (List Int)
  | 0, s, z, T => if rightS O L m C s (csetS O L m C s z) = true then if T.length = 65536 then (8, []) else (0, T ++ [csetS O L m C s z]) else (11, [])
  | d + 1, s, z, T => if rightS O L m C s (csetS O L m C s z) = true then if T.length = 65536 then (8, []) else kbld (bldS O L m C d) s z (kidsS C s z (csetS O L m C s z)) (T ++ [csetS O L m C s z]) else (11, [])
def treeS (O : FOps) (L : List (List Int)) (m : Nat) (C : Clm) : Int × List (List Int) := bldS O L m C C.W [] [] []

/-! ### laws of the greedy set with a bound -/
theorem grTo_pfx (O : FOps) (L : List (List Int)) (Q : List Int) {k : Nat} : ∀ j, k ≤ j → (grTo O L Q k).2 <+: (grTo O L Q j).2
  | 0, h => by obtain rfl : k = 0 := by omega
               exact List.prefix_rfl
  | j + 1, h => by
    by_cases e : k = j + 1
    · subst e; exact List.prefix_rfl
    · refine (grTo_pfx O L Q j (by omega)).trans ?_
      rw [grTo]
      split
      · exact List.prefix_append _ _
      · exact List.prefix_rfl
theorem grM_stop {O : FOps} {L : List (List Int)} {Q : List Int} {k most : Nat} (hk : k ≤ Q.length) (h : (grTo O L Q k).2.length = most) : grM O L Q most = (grTo O L Q k).2 := by
  obtain ⟨l, hl⟩ := grTo_pfx O L Q Q.length hk
  rw [grM, grS, ← hl, ← h, List.take_left]
theorem grM_all {O : FOps} {L : List (List Int)} {Q : List Int} {most : Nat} (h : (grTo O L Q Q.length).2.length ≤ most) : grM O L Q most = (grTo O L Q Q.length).2 := by
  rw [grM, grS, List.take_of_length_le h]
theorem grTo_le (O : FOps) (L : List (List Int)) (Q : List Int) : ∀ k, (grTo O L Q k).2.length ≤ k
  | 0 => Nat.le_refl _
  | k + 1 => by
    have ih := grTo_le O L Q k
    rw [grTo]
    split
    · simp; omega
    · dsimp only; omega
theorem grS_le (O : FOps) (L : List (List Int)) (Q : List Int) : (grS O L Q).length ≤ Q.length := grTo_le O L Q _
theorem grM_full {O : FOps} {L : List (List Int)} {Q : List Int} {most : Nat} (h : Q.length ≤ most) : grM O L Q most = grS O L Q :=
  List.take_of_length_le (Nat.le_trans (grS_le O L Q) h)
theorem grM_sub {O : FOps} {L : List (List Int)} {Q : List Int} {most : Nat} : ∀ x ∈ grM O L Q most, x ∈ Q := fun x hx =>
  grTo_sub O L Q Q.length (Nat.le_refl _) x (List.mem_of_mem_take hx)
theorem rg_take {O : FOps} {El : Int → Prop} {m : Nat} {L : List (List Int)} (F : Fld O El) (hL : Rws El m L) (Q : List Int) (most : Nat) : ∀ k, rgTo (rkQ O L) Q most k = (grTo O L Q k).2.take most
  | 0 => by simp [rgTo, grTo]
  | k + 1 => by
    have ih := rg_take F hL Q most k
    have hT := gr_takes F hL Q k
    rw [rgTo, ih, grTo]
    by_cases h : (grTo O L Q k).2.length < most
    · rw [List.take_of_length_le (by omega)]
      by_cases ht : (grTo O L Q k).1.takes O (colS L (nth Q k).toNat) = true
      · rw [if_pos ⟨h, hT.1 ht⟩, if_pos ht, List.take_of_length_le (by simp; omega)]
      · rw [if_neg fun hh => ht (hT.2 hh.2), if_neg ht, List.take_of_length_le (by dsimp only; omega)]
    · rw [if_neg fun hh => by
        have h2 := hh.1
        rw [List.length_take] at h2
        omega]
      split
      · rw [List.take_append_of_le_length (by omega)]
      · rfl
theorem rg_grM {O : FOps} {El : Int → Prop} {m : Nat} {L : List (List Int)} (F : Fld O El) (hL : Rws El m L) (Q : List Int) (most : Nat) : rgTo (rkQ O L) Q most Q.length = grM O L Q most := rg_take F hL Q most _

/-! ### shapes -/
theorem outS_len (m : Nat) (s z : List Int) : (outS m s z).length ≤ z.length + m := by
  unfold outS
  have := frTo_len false (s ++ z) m
  rw [List.length_append, sortL_len]; omega
theorem mem_outS {m : Nat} {s z : List Int} {x : Int} (h : x ∈ outS m s z) : x ∈ z ∨ (0 ≤ x ∧ x < m ∧ ¬ x ∈ s ∧ ¬ x ∈ z) := by
  unfold outS at h
  rcases List.mem_append.1 h with h | h
  · exact .inl ((sortL_perm z).mem_iff.1 h)
  · obtain ⟨j, hj, rfl, hd⟩ := (mem_frTo m).1 h
    have : ¬ (j : Int) ∈ s ++ z := by simpa using hd
    rw [List.mem_append] at this
    exact .inr ⟨by omega, by omega, fun h => this (.inl h), fun h => this (.inr h)⟩
theorem setOk_ok {m : Nat} {s t : List Int} (h : setOk m s t = true) : okSet m t = true ∧ ∀ x ∈ t, ¬ x ∈ s := by
  unfold setOk at h
  rw [Bool.and_eq_true, List.all_eq_true] at h
  exact ⟨h.1, fun x hx => by simpa using h.2 x hx⟩
theorem right_ok {O : FOps} {L : List (List Int)} {m : Nat} {C : Clm} {s t : List Int} (h : rightS O L m C s t = true) : okSet m t = true ∧ ∀ x ∈ t, ¬ x ∈ s := by
  unfold rightS at h
  rw [Bool.and_eq_true] at h
  exact setOk_ok h.1
theorem kids_mem {C : Clm} {s z t : List Int} {x : Int} (h : x ∈ kidsS C s z t) : x ∈ t ∧ ¬ x ∈ z ∧ s.length < C.W := by
  unfold kidsS at h
  split at h
  · rename_i hl
    rw [List.mem_filter] at h
    exact ⟨h.1, by simpa using h.2, hl⟩
  · simp at h
end

/- What a call leaves as it was. -/
section
open Go.RowKit

theorem Moves.then_new {w V V' : World} {I I' : Nat → Prop} (h : Moves w V I I') (g : Below w.heap.size V V') : Moves w V' I I' :=
  ⟨g.os.trans h.os, g.tape.trans h.tape, g.output.trans h.output, Nat.le_trans h.size g.size, fun b hb hi => (g.block b hb).trans (h.block b hb hi), h.grow⟩
theorem Moves.grown {w w' : World} {K : Nat → Prop} {a : Option Addr} {n c : Nat} (hg : w.grownBy w' (Value.slice a n c).ownBlock) (hK : a ≠ none → K (ablk a)) : Moves w w' K K :=
  ⟨hg.os, hg.tape, hg.output, hg.size, fun b hb hi => hg.block b hb fun e => by
    cases a with
    | none => cases e
    | some ad =>
      have h1 : b = ad.block := by simpa [Value.ownBlock] using e
      exact hi (h1 ▸ hK (by simp)), fun b hb => .inl hb⟩
theorem Ints.moves {w w' : World} {I I' : Nat → Prop} {a : Option Addr} {n : Nat} {l : List Int} (h : Ints w a n l) (hM : Moves w w' I I') (hI : 0 < n → ¬ I (ablk a)) : Ints w' a n l :=
  h.of_block fun hn => hM.block _ (h.lt hn) (hI hn)
theorem Box.moves {w w' : World} {I I' : Nat → Prop} {b : Nat} {cs : List Value} (h : Box w b cs) (hM : Moves w w' I I') (hI : ¬ I b) : Box w' b cs := by
  have hb := hM.block b h.1 hI
  refine ⟨Nat.lt_of_lt_of_le h.1 hM.size, fun i v hv => (World.cell?_of_block (w := w) (a := ⟨b, i, none⟩) hb).trans (h.2.1 i v hv), fun i => ?_⟩
  rw [← h.2.2 i]
  unfold World.frozen?
  simp only [hb]
theorem Moves.put (w : World) (b i : Nat) (v : Value) : Moves w (w.setCell ⟨b, i, none⟩ v) (fun x => x = b) (fun x => x = b) := by
  have hb0 : Below 0 w (w.setCell ⟨b, i, none⟩ v) := (Below.refl 0 w).setCell (Nat.zero_le _) v
  exact ⟨hb0.os, hb0.tape, hb0.output, hb0.size, fun x hx hI => Below.heap_setCell _ _ _ _ fun e => hI e, fun x hx => .inl hx⟩
end

/- The walk of add of the package exclusion. -/
section
open Go.RowKit

theorem addNzE_any (x : Int) (w : World) : Calls Tryz.prog 211 #[.int .i64 x] w fun e w' => e = .returned (.bool (x != 0)) ∧ w = w' := by
  go_enter Tryz.func211, Tryz.ntmps211
  go_wp2
  go_ret
  exact ⟨rfl, rfl⟩

set_option maxHeartbeats 1600000 in
theorem indexNzE_any (a : Option Addr) (n c : Nat) (l : List Int) (w : World) (hi : Ints w a n l) :
    Calls Tryz.prog 158 #[.slice a n c, .func (.func 211) #[] #[]] w fun e w' => e = .returned (.int .i64 (fnzV l)) ∧ w = w' := by
  have Hlen := Lib.hid hi.len
  have hpl := hi.pl
  have hmax := hi.max
  unfold maxLen at hmax
  go_enter Tryz.func158, Tryz.ntmps158
  go_wp2_with fail
  go_loop [8] (fun iv => ∃ k : Nat, k ≤ n ∧ iv = .int .i64 k ∧ Hid (∀ j, j < k → nth l j = 0)) (fun iv => n - (intOf iv).toNat)
  case atStart => exact ⟨0, Nat.zero_le _, rfl, fun j hj => by omega⟩
  case round =>
    obtain ⟨k, hk, rfl, hall⟩ := hrel
    by_cases hlt : k < n
    · have ck := hi.cell k hlt
      by_cases hz : nth l k = 0
      · have hz' : (nth l k != 0) = false := by simpa using hz
        have Hz := Lib.hid hz
        clear hz
        go_wp2_with fail
        refine (addNzE_any _ _).mono ?_
        rintro e w' ⟨rfl, rfl⟩
        go_wp2_with fail
        go_round
        case rel => exact ⟨k + 1, by omega, by go_num, fun j hj => by
          rcases Nat.lt_or_ge j k with h | h
          · exact hall.out j h
          · rw [show j = k by omega]; exact Hz.out⟩
        case measure => simp [intOf] <;> omega
      · have hz' : (nth l k != 0) = true := by simpa using hz
        have Hf : Hid (fnzV l = k) := by
          show _ = _
          have := fnz_at l k (by rw [Hlen.out]; exact hlt) hall.out hz
          rw [fnzV, this, if_pos (by rw [Hlen.out]; exact hlt)]
        clear hz
        go_wp2_with fail
        refine (addNzE_any _ _).mono ?_
        rintro e w' ⟨rfl, rfl⟩
        go_wp2_with fail
        go_ret
        exact ⟨ret_int Hf.out.symm, rfl⟩
    · obtain rfl : k = n := by omega
      have Hf : Hid (fnzV l = -1) := by
        show _ = _
        have := fnz_none l (by rw [Hlen.out]; exact hall.out)
        rw [fnzV, this, if_neg (by omega)]
      go_wp2_with fail
      go_ret
      exact ⟨ret_int Hf.out.symm, rfl⟩

set_option maxRecDepth 100000 in
set_option maxHeartbeats 4000000 in
theorem baddE_any {w w0 : World} {b : Nat} {G : Tbl} (bb : Nat) (ar : Option Addr) (cr : Nat) (R : List (Option Addr × Nat)) (ap : Option Addr) (cp : Nat) (s : BS) (av : Option Addr) (cv n : Nat) (v : List Int)
    (h : GFw w0 b G) (hb : Below w0.heap.size w0 w) (hB : Bas w w0.heap.size bb b ar cr R ap cp s) (hs : s.Ok G.El n) (hv : w.ownsRow w0.heap.size 3 1 (.slice av n cv) n (v.map (Value.int .i64)))
    (hav : av ≠ none → ¬ BIn bb ar R ap (ablk av)) (hve : G.Els v) (hn : n ≤ 1000000) (hk : s.rows.length ≤ 1000000) :
    Calls Tryz.prog 185 #[.pointer (some ⟨bb, 0, none⟩), .slice av n cv] w (BaddPost w0 bb b ar R ap av G.ops s v w) := by
  have hvl : v.length = n := by simpa using own_len hv
  have hpv := (Ints.own hv).1.pl
  have hcl := Tbl.cl h
  have hred := redTo_el hcl hs.rws hs.plc ⟨hvl, hve⟩
  have Hred := Lib.hid hred
  have Hvl := Lib.hid hvl
  have Hs := Lib.hid hs
  have Hve := Lib.hid hve
  have c1 := hB.c1
  have hplr := hB.om.pl
  clear hred hvl hs hve
  go_enter Tryz.func185, Tryz.ntmps185
  go_wp2_with fail
  obtain ⟨kk, hkk⟩ : ∃ kk, s.rows.length = kk := ⟨_, rfl⟩
  have Hkk := Lib.hid hkk
  rw [hkk] at hk hplr c1
  rw [hkk]
  clear hkk
  go_loopw [18] (fun iv wr => ∃ k : Nat, k ≤ kk ∧ iv = .int .i64 k ∧ wr.ownsRow w0.heap.size 3 1 (.slice av n cv) n ((redTo G.ops s.rows s.place v k).map (Value.int .i64)) ∧ Only av w wr) (fun iv _ => kk - (intOf iv).toNat)
  case atStart => exact ⟨0, Nat.zero_le _, rfl, hv, Only.refl _ _⟩
  case round =>
    obtain ⟨k, hkk2, rfl, hown, honly⟩ := hrel
    have hBr := hB.only honly hav
    by_cases hlt : k < kk
    · have hkr : k < s.rows.length := by rw [Hkk.out]; exact hlt
      have e0 := hBr.c0
      have e2 := hBr.c2
      have er := hBr.om.cell hkr
      have ir := hBr.om.ints hkr
      have hrow := Hs.out.rws.row hkr
      have hplc := Hs.out.plc k hkr
      rw [hrow.1] at er ir
      obtain ⟨ip, mp⟩ := Ints.own hBr.pl
      have ep := ip.cell k hkr
      have hpp := ip.pl
      rw [Hkk.out] at e2 hpp
      obtain ⟨pn, hpn⟩ : ∃ pn : Nat, nth s.place k = pn := ⟨(nth s.place k).toNat, by omega⟩
      rw [hpn] at ep hplc
      have hpnn : pn < n := by omega
      have hrd := Hred.out k (by omega)
      have hrd1 := Hred.out (k + 1) (by omega)
      have hstep : redTo G.ops s.rows s.place v (k + 1) = redStep G.ops (redTo G.ops s.rows s.place v k) pn (nthR s.rows k) := by rw [redTo, hpn]
      have Hstep := Lib.hid hstep
      have Hrow := Lib.hid hrow
      have Hpn := Lib.hid hpn
      clear hstep hpn
      obtain ⟨u, hu⟩ : ∃ u, redTo G.ops s.rows s.place v k = u := ⟨_, rfl⟩
      rw [hu] at hown hrd
      have Hu := Lib.hid hu
      obtain ⟨iu, mu⟩ := Ints.own hown
      have eu := iu.cell pn hpnn
      have hpu := iu.pl
      have Hrd := Lib.hid hrd
      clear hu hrow hrd hrd1
      by_cases hz : nth u pn = 0
      · have hz' : (nth u pn != 0) = false := by simpa using hz
        have Hn : Hid (redTo G.ops s.rows s.place v (k + 1) = u) := by show _ = _; rw [Hstep.out, Hu.out, redStep, Int.toNat_natCast, if_pos hz]
        clear hz
        go_wp2_with fail
        go_roundw
        case rel => exact ⟨k + 1, by omega, by go_num, by rw [Hn.out]; exact hown, honly⟩
        case measure => simp [intOf] <;> omega
      · have hz' : (nth u pn != 0) = true := by simpa using hz
        have Hn : Hid (redTo G.ops s.rows s.place v (k + 1) = subRow G.ops u (nth u pn) (nthR s.rows k)) := by show _ = _; rw [Hstep.out, Hu.out, redStep, Int.toNat_natCast, if_neg hz]
        have hxe : G.El (nth u pn) := Hrd.out.2 _ (nth_mem (by rw [Hrd.out.1]; exact hpnn))
        have hSl : (subRow G.ops u (nth u pn) (nthR s.rows k)).length = u.length := subRow_length _ _ _ _ (by rw [Hrow.out.1, Hrd.out.1])
        have hSn := fun i hi => nth_subRow G.ops u (nth u pn) (nthR s.rows k) i (by rw [Hrow.out.1, Hrd.out.1]) hi
        have HSl := Lib.hid hSl
        have HSn := Lib.hid hSn
        clear hz hSl hSn
        have hplr2 := ir.pl
        go_wp2_with fail
        generalize nth u pn = x at *
        generalize subRow G.ops u x (nthR s.rows k) = S at *
        go_loopw [37] (fun iv wx => ∃ j : Nat, j ≤ n ∧ iv = .int .i64 j ∧ wx.ownsRow w0.heap.size 3 1 (.slice av n cv) n ((mixTo S u j).map (Value.int .i64)) ∧ Only av w wx) (fun iv _ => n - (intOf iv).toNat)
        case atStart => exact ⟨0, Nat.zero_le _, rfl, by rw [mixTo_zero]; exact hown, honly⟩
        case round =>
          obtain ⟨j, hj, rfl, hown2, honly2⟩ := hrel
          have hBx := hB.only honly2 hav
          have ix := hBx.om.ints hkr
          rw [Hrow.out.1] at ix
          by_cases hjn : j < n
          · have cj := ix.cell j hjn
            have f0 := hBx.c0
            obtain ⟨im, mm⟩ := Ints.own hown2
            have cm := im.cell j hjn
            have fm := (mm (by omega)).2 j hjn
            have hju : j < u.length := by rw [Hrd.out.1]; exact hjn
            have hmix := nth_mixTo S u j j HSl.out (by omega)
            rw [if_neg (by omega)] at hmix
            rw [hmix] at cm
            have hset := mixTo_set S u j HSl.out hju
            rw [HSn.out j hju] at hset
            have Hset := Lib.hid hset
            have ely : G.El (nth (nthR s.rows k) j) := Hrow.out.2 _ (nth_mem (by rw [Hrow.out.1]; exact hjn))
            have elv : G.El (nth u j) := Hrd.out.2 _ (nth_mem hju)
            have elm : ∀ x y, G.El (G.mul x y) := fun x y => Tbl.mul_el h x y
            have hbx : Below w0.heap.size w0 wr := Below.trans hb (honly2.below (fun ha => (own_ne hv ha).1) hb.size)
            have hGr : GFw wr b G := h.keep hbx
            have HG : Hid (GFw wr.drew b G ∧ ∀ n, GFw (wr.drewN n) b G) := ⟨hGr.keep (Below.refl _ _).drew, fun n => hGr.drewN n⟩
            clear hset hmix
            go_wp2_with fail
            go_region_law ((first
              | (go_simp; go_at_call 151; ((with_reducible refine (gMul x (nth (nthR s.rows k) j) HG.out.1 hxe ely).mono ?_); rintro e w4 ⟨m4, rfl, rfl⟩))
              | (go_simp; go_at_call 151; ((with_reducible refine (gMul x (nth (nthR s.rows k) j) (HG.out.2 _) hxe ely).mono ?_); rintro e w4 ⟨m4, rfl, rfl⟩))
              | (go_simp; go_at_call 181; ((with_reducible refine (gSub (nth u j) (G.mul x (nth (nthR s.rows k) j)) (HG.out.2 _) elv (elm _ _)).mono ?_); rintro e w4 ⟨m5, rfl, rfl⟩))))
            all_goals (
              go_wp2_with fail
              go_roundw
              case rel =>
                have hdr : Drawn wr (wr.drewN (1 + m4 + m5)) := ⟨_, rfl⟩
                refine ⟨j + 1, by omega, by go_num, ?_, honly2.trans ((Only.drawn hdr).trans (Only.set _ j _ (by intro e; have := hpv (by omega); rw [e] at this; cases this)))⟩
                have h1 := own_set (w := wr.drewN (1 + m4 + m5)) hown2 j hjn (.int .i64 (G.sub (nth u j) (G.mul x (nth (nthR s.rows k) j))))
                rw [← List.map_set, show G.sub (nth u j) (G.mul x (nth (nthR s.rows k) j)) = G.ops.add (nth u j) (G.ops.neg (G.ops.mul x (nth (nthR s.rows k) j))) from rfl, Hset.out] at h1
                exact h1
              case measure => simp [intOf] <;> omega)
          · obtain rfl : j = n := by omega
            rw [mixTo_all S u j (by rw [HSl.out, Hrd.out.1]) Hrd.out.1] at hown2
            go_wp2_with fail
            go_roundw
            case rel => exact ⟨k + 1, by omega, by go_num, by rw [Hn.out]; exact hown2, honly2⟩
            case measure => simp [intOf] <;> omega
    · obtain rfl : k = kk := by omega
      have hrd := Hred.out k (by rw [Hkk.out]; exact Nat.le_refl _)
      have hurd : redTo G.ops s.rows s.place v k = s.red G.ops v := by rw [BS.red, Hkk.out]
      rw [hurd] at hown hrd
      obtain ⟨iu, mu⟩ := Ints.own hown
      have Hrd := Lib.hid hrd
      clear hurd hrd
      go_wp2_with fail
      refine (indexNzE_any _ _ _ _ _ iu).mono ?_
      rintro e w' ⟨rfl, rfl⟩
      by_cases hf : fnz (s.red G.ops v) < (s.red G.ops v).length
      · have hfv : fnzV (s.red G.ops v) = fnz (s.red G.ops v) := by rw [fnzV, if_pos hf]
        have hfn := fnz_ne _ hf
        have Ht : Hid (s.takes G.ops v = true) := by show _ = _; simpa [BS.takes] using hf
        have HN : Hid (s.next G.ops v = ⟨s.rows ++ [(s.red G.ops v).map (G.mul (G.inv (nth (s.red G.ops v) (fnz (s.red G.ops v)))))], s.place ++ [(fnz (s.red G.ops v) : Int)]⟩) := by
          show _ = _; rw [BS.next, if_pos Ht.out]; rfl
        rw [hfv]
        obtain ⟨u, hu⟩ : ∃ u, s.red G.ops v = u := ⟨_, rfl⟩
        rw [hu] at hown Hrd hf hfn iu HN
        rw [hu]
        clear hu hfv
        obtain ⟨f, hff⟩ : ∃ f, fnz u = f := ⟨_, rfl⟩
        rw [hff] at hf hfn HN
        rw [hff]
        have hfn' : f < n := by rw [← Hrd.out.1]; exact hf
        have e0 := hBr.c0
        have eu := iu.cell f hfn'
        have hpu := iu.pl
        have elf : G.El (nth u f) := Hrd.out.2 _ (nth_mem hf)
        have hbx : Below w0.heap.size w0 wr := Below.trans hb (honly.below (fun ha => (own_ne hv ha).1) hb.size)
        have hGr : GFw wr b G := h.keep hbx
        have HG : Hid (GFw wr.drew b G ∧ ∀ n, GFw (wr.drewN n) b G) := ⟨hGr.keep (Below.refl _ _).drew, fun n => hGr.drewN n⟩
        have Hfn := Lib.hid hfn
        have Hf := Lib.hid hf
        clear hff hfn hf
        go_upto_region 15 with fail
        go_cut [11] (fun dv wx => dv = .int .i64 (G.inv (nth u f)) ∧ Drawn wr wx)
        case first =>
          go_region_held3 (fun w' => w'.cell? ⟨bb, 0, none⟩ = some (.pointer (some ⟨b, 0, none⟩)) ∧ w'.cell? ⟨ablk av, aoff av + f, none⟩ = some (.int .i64 (nth u f)))
            (exact ⟨e0, eu⟩)
            (first
            | (go_at_call 167; ((with_reducible refine (gInv _ HG.out.1 elf Hfn.out).mono ?_); rintro e w4 ⟨m4, rfl, rfl⟩)))
          all_goals (
            go_step; go_step
            go_meet
            exact ⟨rfl, ⟨_, rfl⟩⟩)
        obtain ⟨rfl, hdr⟩ := hcut
        generalize wc = V at *
        have hBV : Bas V w0.heap.size bb b ar cr R ap cp s := hBr.keep hdr.below
        have hownV := own_keep hown hdr.below
        have hbV : Below w0.heap.size w0 V := hdr.below' hbx
        have honV : Only av w V := honly.trans (Only.drawn hdr)
        clear hBr hown hbx hGr HG e0 eu iu mu hdr honly
        obtain ⟨iu, mu⟩ := Ints.own hownV
        have HGV : Hid (GFw V.drew b G ∧ ∀ n, GFw (V.drewN n) b G) := ⟨(h.keep hbV).keep (Below.refl _ _).drew, fun n => (h.keep hbV).drewN n⟩
        have hiel : G.El (G.inv (nth u f)) := Tbl.inv_el h _
        have e0 := hBV.c0
        have e1 := hBV.c1
        have f1 := hBV.fr 1
        have hS : ∀ W, Below V.heap.size V W → W.cell? ⟨bb, 0, none⟩ = some (.pointer (some ⟨b, 0, none⟩)) ∧ W.cell? ⟨bb, 1, none⟩ = some (.slice ar s.rows.length cr) ∧ W.frozen? ⟨bb, 1, none⟩ = false ∧ Below V.heap.size V W := by
          intro W hW
          have hBW := hBV.keep hW
          exact ⟨hBW.c0, hBW.c1, hBW.fr 1, hW⟩
        have HS := Lib.hid hS
        have haptb : Apt ar bb := by
          by_cases ha : ar = none
          · exact .inl ha
          · exact .inr fun e => hBV.d1 (.inl ⟨ha, e.symm⟩)
        have hR : ∀ W, Below V.heap.size V W → W.ownsRow w0.heap.size 22 1 (.slice ar k cr) k (List.zipWith rowV R s.rows) := fun W hW => by
          have := (hBV.om.keep hW).own
          rwa [Hkk.out] at this
        have HR := Lib.hid hR
        obtain ⟨N, hN⟩ : ∃ N, u.map (G.mul (G.inv (nth u f))) = N := ⟨_, rfl⟩
        have hsc : Calls Tryz.prog 169 #[.pointer (some ⟨b, 0, none⟩), .int .i64 (G.inv (nth u f)), .slice av n cv] V.drew (NewInts V.drew N) := by
          rw [← hN]; exact gScale (G.inv (nth u f)) _ _ _ u HGV.out.1 hiel (iu.keep (Below.refl _ _).drew) Hrd.out.2 hn
        have Hsc := Lib.hid hsc
        have HNe := Lib.hid hN
        rw [hN] at HN
        clear hN hsc
        clear hS hR
        go_upto_region 16 with fail
        go_cut [] (fun wx => ∃ ar' cr' R', wx.cell? ⟨bb, 1, none⟩ = some (.slice ar' (k + 1) cr') ∧ OMat wx w0.heap.size ar' (k + 1) cr' R' (s.rows ++ [N]) ∧
          Moves V wx (fun x => x = bb ∨ OIn ar R x) (fun x => x = bb ∨ OIn ar' R' x) ∧ ¬ OIn ar' R' bb ∧
          (∀ i v, i ≠ 1 → V.cell? ⟨bb, i, none⟩ = some v → wx.cell? ⟨bb, i, none⟩ = some v) ∧ ∀ i, wx.frozen? ⟨bb, i, none⟩ = false)
        case first =>
          rw [Hkk.out] at e1 HS
          go_region_law ((first
            | (go_simp; go_at_call 169; ((with_reducible refine Hsc.out.mono ?_); rintro e w4 ⟨a4, c4, rfl, hown4, hb4⟩; obtain ⟨q0, q1, q2, q5⟩ := HS.out w4 (Below.next (Below.refl _ _).drew hb4); have q6 : bb < w4.heap.size := World.block_lt_of_cell? w4 _ q0))
            | (refine step_appAll (by rfl) (.tmp 83) (.tmp 91) 25 22 (by rfl) (.slice none 0 0) 24 Tryz.underlying25 infoInts (by rfl) w0.heap.size ar k cr (List.zipWith rowV R s.rows) (by rfl) (HR.out _ (Below.next q5 (below1 _ _))) (some ⟨w4.heap.size, 0, none⟩) 1 1 [.slice a4 N.length c4] (by rfl) (fun _ => rfl) rfl (by intro j hj; obtain rfl : j = 0 := (by omega); exact cell_new' _ _ _ rfl) (by intro y hy; simp at hy; subst hy; rfl) (by omega) (by unfold maxLen; omega) (by have e1 := hbV.size; have e2 := Below.size q5; simp; omega) ?_; intro a5 c5 w5 hown5 hgr5 hap5; have p1 := cell_grownApt hgr5 (cell_box q1 _) haptb; have p2 : w5.frozen? ⟨bb, 1, none⟩ = false := (World.frozen?_of_block (hgr5.block bb (World.block_lt_of_cell? _ _ (cell_box q1 _)) (fun e => haptb.own k cr e.symm))).trans (frozen_box (World.block_lt_of_cell? _ _ q1) q2 _))))
          all_goals (
            go_wp2_with fail
            go_meet
            exact hBV.push16 Hkk.out hbV.size (Below.next (Below.refl _ _).drew hb4) hown4 hown5 hgr5 hap5 ⟨_, p1⟩)
        obtain ⟨ar', cr', R', y1, hOX, hMX, hdX, hcX, hfX⟩ := hcut
        generalize wc = X at *
        have y0 := hcX 0 _ (by omega) e0
        have y2 := hcX 2 _ (by omega) hBV.c2
        have yf := hfX 2
        have hnI : ap ≠ none → ¬ (ablk ap = bb ∨ OIn ar R (ablk ap)) := fun h0 hI => by
          rcases hI with h1 | h1
          · rcases hBV.d2 with h2 | h2
            · exact h0 h2
            · exact h2 h1
          · exact hBV.d3 h0 h1
        have hpX := hMX.own hBV.pl hnI
        have hd3 : ap ≠ none → ¬ OIn ar' R' (ablk ap) := fun h0 hI => hMX.not (own_ne hBV.pl h0).2 (hnI h0) (.inr hI)
        rw [Hkk.out] at y2 hpX
        have hbX : Below w0.heap.size w0 X := hbV.trans (hMX.below (fun x hx => (hBV.lt x (by rcases hx with h1 | h1; exact .inl h1; exact .inr (.inl h1))).1) hbV.size)
        have hz : bb < X.heap.size := World.block_lt_of_cell? X _ y0
        have HfX := Lib.hid hfX
        have Hd3 := Lib.hid hd3
        have HdX := Lib.hid hdX
        have hd2 := hBV.d2
        have hbB := hBV.bB
        have hcn := cell_new X (.int .i64 f) 3
        clear hcX hfX hd3 hdX e0 e1 f1
        go_wp2_with (at_builtin; refine wpList_push rfl _ _ 22 3 rfl (.int .i64 0) 8 Tryz.underlying22 infoInt rfl w0.heap.size ap k cp _ rfl (hpX.alloc _) ⟨X.heap.size, 0, none⟩ 1 (.int .i64 f) rfl hcn rfl (by omega) (by unfold maxLen; omega) (by have e1 := hbX.size; simp; omega) ?_; intro a6 c6 w6 hown6 hgr6 hap6; have p1 := cell_grownApt hgr6 (cell_box y2 _) hd2; have p2 : w6.frozen? ⟨bb, 2, none⟩ = false := (World.frozen?_of_block (hgr6.block bb (World.block_lt_of_cell? _ _ (cell_box y2 _)) (fun e => hd2.own k cp e.symm))).trans (frozen_box hz yf _))
        have hP := Bas.push17 (w6 := w6) hbB y0 y1 ⟨_, y2⟩ HfX.out hOX hpX HdX.out hd2 Hd3.out hown6 hgr6 hap6
        have HP := Lib.hid hP
        clear hP
        go_ret
        refine ⟨ar', cr', R', a6, c6, ret_bool Ht.out.symm, by rw [HN.out]; exact HP.out.1, ?_⟩
        refine Moves.trans (w' := V) (I' := fun x => BIn bb ar R ap x ∨ (av ≠ none ∧ x = ablk av)) ?_ (Moves.trans (w' := X) (I' := BIn bb ar' R' ap) ?_ HP.out.2)
        · exact ⟨honV.os, honV.tape, honV.output, honV.size, fun x hx hI => honV.block x hx fun h2 => hI (.inr h2), fun x hx => .inl hx⟩
        · refine ⟨hMX.os, hMX.tape, hMX.output, hMX.size, fun x hx hI => hMX.block x hx fun h2 => hI (.inl (by rcases h2 with h3 | h3; exact .inl h3; exact .inr (.inl h3))), fun x hx => ?_⟩
          rcases hx with h1 | h1 | h1
          · exact .inl (.inl (.inl h1))
          · rcases hMX.grow x (.inr h1) with h2 | h2
            · exact .inl (.inl (by rcases h2 with h3 | h3; exact .inl h3; exact .inr (.inl h3)))
            · exact .inr h2
          · exact .inl (.inl (.inr (.inr h1)))
      · have hfv : fnzV (s.red G.ops v) = -1 := by rw [fnzV, if_neg hf]
        rw [hfv]
        have Ht : Hid (s.takes G.ops v = false) := by show _ = _; simp [BS.takes]; omega
        have HN : Hid (s.next G.ops v = s) := by show _ = _; rw [BS.next, if_neg (by rw [Ht.out]; simp)]
        clear hf hfv
        go_wp2_with fail
        go_ret
        refine ⟨ar, cr, R, ap, cp, ret_bool Ht.out.symm, by rw [HN.out]; exact hBr, ?_⟩
        exact ⟨honly.os, honly.tape, honly.output, honly.size, fun x hx hI => honly.block x hx fun h2 => hI (.inr h2), fun x hx => .inl (.inl hx)⟩
end

/- The walks of column and greedy of the package exclusion. -/
section
open Go.RowKit

theorem exColumn_any (pb : Nat) (a : Option Addr) (n c : Nat) (L : List (List Int)) (i : Nat) (w : World) (p5 : w.cell? ⟨pb, 5, none⟩ = some (.slice a n c)) (hi : Mat w a n L) (hL : ∀ r ∈ L, i < r.length) (hn : n ≤ 1000000) :
    Calls Tryz.prog 186 #[.pointer (some ⟨pb, 0, none⟩), .int .i64 i] w (NewInts w (colS L i)) := by
  have Hlen := Lib.hid hi.len
  have hpl := hi.pl
  have HL := Lib.hid hL
  clear hL
  go_enter Tryz.func186, Tryz.ntmps186
  go_wp2_with (at_make; refine wpList_mk rfl _ _ 22 3 rfl (.int .i64 0) 8 Tryz.underlying22 infoInt rfl n rfl rfl (by omega) (by unfold maxLen; omega) ?_; intro a1 w1 hown hbel hge hlt; have c5 : w1.cell? ⟨pb, 5, none⟩ = some (.slice a n c) := cell_keep hbel p5)
  have hbw : Below w.heap.size w w1 := hbel
  have hown1 : w1.ownsRow w.heap.size 3 1 (.slice a1 n n) n (List.replicate n (.int .i64 0)) := hown
  clear hown hbel
  go_loopw [21] (fun iv wr => ∃ k : Nat, k ≤ n ∧ iv = .int .i64 k ∧
      wr.ownsRow w.heap.size 3 1 (.slice a1 n n) n ((fillTo ((colS L i).take k) k n).map (Value.int .i64)) ∧ Below w.heap.size w wr)
    (fun i _ => n - (intOf i).toNat)
  case atStart => exact ⟨0, Nat.zero_le _, rfl, by simpa [fillTo] using hown1, hbw⟩
  case round =>
    obtain ⟨k, hk, rfl, hown, hbel⟩ := hrel
    obtain ⟨hints, hmine⟩ := Ints.own hown
    have hpl1 := hints.pl
    by_cases hlt : k < n
    · obtain ⟨ra, rn, rc, hcell, hrow⟩ := (hi.keep hbel).cell k hlt
      have hkL : k < L.length := by rw [Hlen.out]; exact hlt
      have hri : i < rn := by rw [← hrow.len, nthR_getElem hkL]; exact HL.out _ (List.getElem_mem hkL)
      have ci := hrow.cell i hri
      have hpr := hrow.pl
      have hf := (hmine (by omega)).2 k hlt
      have hc2 := hints.cell k hlt
      have hB := (hmine (by omega)).1
      have Hv := Lib.hid (nth_colS L i k hkL)
      go_wp2_with fail
      go_roundw
      case rel =>
        refine ⟨k + 1, by omega, by go_num, ?_, hbel.setCell hB _⟩
        have h := own_set hown k hlt (.int .i64 (nth (nthR L k) i))
        rw [← List.map_set, fillTo_set _ _ _ _ (by rw [List.length_take, colS_length]; omega) hlt] at h
        rw [List.take_succ_eq_append_getElem (by rw [colS_length]; omega), ← nth_getElem, Hv.out]
        exact h
      case measure => simp [intOf] <;> omega
    · obtain rfl : k = n := by omega
      have hl : (colS L i).length = k := by rw [colS_length]; exact Hlen.out
      rw [fillTo_all, List.take_of_length_le (by omega)] at hown
      have Hl := Lib.hid hl
      clear hl
      go_wp2_with fail
      go_ret
      exact ⟨a1, k, by rw [Hl.out]; rfl, by rw [Hl.out]; exact hown, hbel⟩

set_option maxRecDepth 100000 in
set_option maxHeartbeats 4000000 in
theorem exGreedy_any {w : World} {b : Nat} {G : Tbl} (pb : Nat) (a : Option Addr) (n c : Nat) (L : List (List Int)) (m : Nat) (ao : Option Addr) (no co : Nat) (Q : List Int) (most : Nat)
    (p0 : w.cell? ⟨pb, 0, none⟩ = some (.pointer (some ⟨b, 0, none⟩))) (p5 : w.cell? ⟨pb, 5, none⟩ = some (.slice a n c))
    (h : GFw w b G) (hi : Mat w a n L) (hR : Rws G.El m L) (hq : Ints w ao no Q) (hQ : ∀ k, k < no → 0 ≤ nth Q k ∧ nth Q k < m) (hn : n ≤ 1000000) (hno : no ≤ 1000000) :
    Calls Tryz.prog 154 #[.pointer (some ⟨pb, 0, none⟩), .slice ao no co, .int .i64 most] w (NewInts w (grM G.ops L Q most)) := by
  have Hlen := Lib.hid hi.len
  have HR := Lib.hid hR
  have HQ := Lib.hid hQ
  have Hql := Lib.hid hq.len
  have hplq := hq.pl
  have hcl := Lib.hid (Tbl.cl h)
  have HP := Lib.hid (fun (V : World) (hV : Below w.heap.size w V) => cell_keep hV p5)
  clear hR hQ
  go_enter Tryz.func154, Tryz.ntmps154
  go_wp2_with fail
  obtain ⟨V, hV⟩ : ∃ V : World, V = w.alloc (.cells #[.pointer (some ⟨b, 0, none⟩), .slice none 0 0, .slice none 0 0] 210) := ⟨_, rfl⟩
  rw [← hV]
  have hbV : Below w.heap.size w V := by rw [hV]; exact below1 _ _
  have hB0 : Bas V w.heap.size w.heap.size b none 0 [] none 0 ⟨[], []⟩ := Bas.start (Nat.le_refl _) (by rw [hV]; exact Box.new _ _ _ rfl)
  clear hV p0 p5
  go_loopw [8, 19] (fun qv iv wr => ∃ (k : Nat) (aq : Option Addr) (cq : Nat) (out : List Int) (s : BS) (ar : Option Addr) (cr : Nat) (R : List (Option Addr × Nat)) (ap : Option Addr) (cp : Nat), k ≤ no ∧ iv = .int .i64 k ∧ qv = .slice aq out.length cq ∧
      Hid (grTo G.ops L Q k = (s, out)) ∧ Bas wr w.heap.size w.heap.size b ar cr R ap cp s ∧ wr.ownsRow w.heap.size 3 1 (.slice aq out.length cq) out.length (out.map (Value.int .i64)) ∧ Hid (aq ≠ none → ¬ BIn w.heap.size ar R ap (ablk aq)) ∧
      Below w.heap.size w wr ∧ Hid (s.Ok G.El n) ∧ s.rows.length ≤ k ∧ out.length ≤ k ∧ Hid (out.length ≤ most))
    (fun _ iv _ => no - (intOf iv).toNat)
  case atStart => exact ⟨0, none, 0, [], ⟨[], []⟩, none, 0, [], none, 0, Nat.zero_le _, rfl, rfl, rfl, hB0, own_none, fun h0 => absurd rfl h0, hbV, ⟨fun r hr => by simp at hr, rfl, fun i hi => by simp at hi⟩, Nat.zero_le _, Nat.zero_le _, Nat.zero_le _⟩
  case round =>
    obtain ⟨k, aq, cq, out, s, ar, cr, R, ap, cp, hk, rfl, rfl, hst, hBr, hop, hdq, hbr, hok, hsk, hok2, hom⟩ := hrel
    generalize wr = U at *
    by_cases hlt : k < no
    · have cq1 := (hq.keep hbr).cell k hlt
      have hQk := HQ.out k hlt
      obtain ⟨i, hik⟩ : ∃ i : Nat, nth Q k = i := ⟨(nth Q k).toNat, by omega⟩
      rw [hik] at cq1 hQk
      by_cases hmo : out.length = most
      · have Ho : Hid (grM G.ops L Q most = out) := by
          show _ = _
          have h1 := grM_stop (O := G.ops) (L := L) (Q := Q) (k := k) (most := most) (by rw [Hql.out]; exact hk) (by rw [hst.out]; exact hmo)
          rw [h1, hst.out]
        have hd : ((out.length : Int) == (most : Int)) = true := by simp; omega
        clear hmo
        go_wp2_with fail
        go_ret
        exact ⟨aq, cq, by rw [Ho.out]; rfl, by rw [Ho.out]; exact hop, hbr⟩
      have hd : ((out.length : Int) == (most : Int)) = false := by simp; omega
      have Hom : Hid (out.length + 1 ≤ most) := by have := hom.out; show _ ≤ _; omega
      have him : i < m := by omega
      have p5 := HP.out U hbr
      have hcol := colS_el HR.out him
      rw [Hlen.out] at hcol
      have hstep : grTo G.ops L Q (k + 1) = (s.next G.ops (colS L i), if s.takes G.ops (colS L i) = true then out ++ [(i : Int)] else out) := by rw [grTo, hst.out, hik, Int.toNat_natCast]
      have Hstep := Lib.hid hstep
      have Hcol := Lib.hid hcol
      clear hstep hcol hik hmo
      go_wp2_with fail
      refine (exColumn_any pb a n c L i U p5 (hi.keep hbr) (fun r hr => by rw [(HR.out r hr).1]; exact him) hn).mono ?_
      rintro e w3 ⟨a3, c3, rfl, hown3, hb3⟩
      rw [Hcol.out.1] at hown3
      rw [Hcol.out.1]
      have hB3 := hBr.keep hb3
      have hbw3 := Below.next hbr hb3
      have hn3 : a3 ≠ none → ¬ BIn w.heap.size ar R ap (ablk a3) := fun h0 hI => by
        have h1 := (own_ne hown3 h0).1
        have h2 := (hBr.lt _ hI).2
        omega
      clear p5
      go_wp2_with fail
      refine (baddE_any w.heap.size ar cr R ap cp s a3 c3 n (colS L i) h hbw3 hB3 hok.out (own_mono hown3 hbr.size) hn3 Hcol.out.2 hn (by omega)).mono ?_
      rintro e w4 ⟨ar', cr', R', ap', cp', rfl, hB4, hM4⟩
      have hbw4 : Below w.heap.size w w4 := hbw3.trans (hM4.below (fun x hx => by
        rcases hx with h1 | ⟨h1, h2⟩
        · exact (hB3.lt x h1).1
        · rw [h2]; exact Nat.le_trans hbr.size (own_ne hown3 h1).1) hbw3.size)
      have hop3 := own_keep hop hb3
      have hnI : aq ≠ none → ¬ (BIn w.heap.size ar R ap (ablk aq) ∨ (a3 ≠ none ∧ ablk aq = ablk a3)) := fun h0 hI => by
        rcases hI with h1 | ⟨h1, h2⟩
        · exact hdq.out h0 h1
        · have e1 := (own_ne hop h0).2
          have e2 := (own_ne hown3 h1).1
          omega
      have hop4 := hM4.own hop3 hnI
      have hdq4 : aq ≠ none → ¬ BIn w.heap.size ar' R' ap' (ablk aq) := fun h0 => hM4.not (own_ne hop3 h0).2 (hnI h0)
      have hok4 : (s.next G.ops (colS L i)).Ok G.El n := BS.Ok.next hcl.out hok.out Hcol.out
      have hlen4 := BS.next_len G.ops s (colS L i)
      have Hok4 := Lib.hid hok4
      have Hdq4 := Lib.hid hdq4
      clear hnI hdq4 hok4
      by_cases ht : s.takes G.ops (colS L i) = true
      · rw [ht]
        have Hst : Hid (grTo G.ops L Q (k + 1) = (s.next G.ops (colS L i), out ++ [(i : Int)])) := by show _ = _; rw [Hstep.out, if_pos ht]
        clear ht
        generalize s.next G.ops (colS L i) = s' at *
        have hcn := cell_new w4 (.int .i64 i) 3
        have hbn := below1 w4 (.cells #[.int .i64 i] 3)
        have hsz4 := hbw4.size
        go_wp2_with (at_builtin; refine wpList_push rfl _ _ 22 3 rfl (.int .i64 0) 8 Tryz.underlying22 infoInt rfl w.heap.size aq out.length cq _ rfl (hop4.alloc _) ⟨w4.heap.size, 0, none⟩ 1 (.int .i64 i) rfl hcn rfl (by omega) (by unfold maxLen; omega) (by simp; omega) ?_; intro a5 c5 w5 hown5 hgr5 hap5)
        go_roundw
        case rel =>
          have hBn := hB4.keep hbn
          have haq : ∀ x, BIn w.heap.size ar' R' ap' x → Apt aq x := fun x hx => by
            by_cases h0 : aq = none
            · exact .inl h0
            · exact .inr fun e => Hdq4.out h0 (e ▸ hx)
          have hB5 : Bas w5 w.heap.size w.heap.size b ar' cr' R' ap' cp' s' := hBn.of_blocks fun x hx => hgr5.block x (hBn.lt x hx).2 fun e => (haq x hx).own _ _ e.symm
          have hb5 : Below w.heap.size w w5 := Below.app (Below.trans hbw4 (hbn.mono hsz4)) (hop4.alloc _) hgr5 (Nat.le_refl _) (Nat.le_trans hsz4 hbn.size)
          refine ⟨k + 1, a5, c5, out ++ [(i : Int)], s', ar', cr', R', ap', cp', by omega, by go_num, by simp, Hst.out, hB5, ?_, ?_, hb5, Hok4.out, by omega, by simp; omega, ?_⟩
          · simpa using hown5
          · show a5 ≠ none → _
            intro h0 hI
            rcases hap5 _ (hBn.lt _ hI).2 (haq _ hI) with h1 | h1
            · exact h0 h1
            · exact h1 rfl
          · show _ ≤ _
            rw [List.length_append]; exact Hom.out
        case measure => simp [intOf] <;> omega
      · have ht' : s.takes G.ops (colS L i) = false := by simpa using ht
        rw [ht']
        have Hst : Hid (grTo G.ops L Q (k + 1) = (s.next G.ops (colS L i), out)) := by show _ = _; rw [Hstep.out, if_neg ht]
        clear ht ht'
        generalize s.next G.ops (colS L i) = s' at *
        go_wp2_with fail
        go_roundw
        case rel => exact ⟨k + 1, aq, cq, out, s', ar', cr', R', ap', cp', by omega, by go_num, rfl, Hst.out, hB4, hop4, Hdq4.out, hbw4, Hok4.out, by omega, by omega, hom.out⟩
        case measure => simp [intOf] <;> omega
    · obtain rfl : k = no := by omega
      have Ho : Hid (grM G.ops L Q most = out) := by
        show _ = _
        have h1 := grM_all (O := G.ops) (L := L) (Q := Q) (most := most) (by rw [Hql.out, hst.out]; exact hom.out)
        rw [h1, Hql.out, hst.out]
      go_wp2_with fail
      go_ret
      exact ⟨aq, cq, by rw [Ho.out]; rfl, by rw [Ho.out]; exact hop, hbr⟩
end

/- The library's contract of slices.Sort laid over this program. -/
section
open Go.Shelf

def layS_ren : Go.Shelf.Ren := ⟨fun | 189 => 111 | 125 => 162 | 257 => 161 | 128 => 200 | 129 => 201 | 294 => 191 | 295 => 192 | 296 => 193 | 297 => 194 | 298 => 195 | 299 => 196 | 216 => 197 | 300 => 198 | 301 => 199 | 328 => 213 | 329 => 214 | 330 => 215 | 331 => 216 | 332 => 217 | 215 => 218 | 343 => 221 | n => n, fun | 28 => 22 | 3 => 3 | 46 => 190 | 0 => 0 | 51 => 72 | 53 => 225 | 4 => 4 | 183 => 217 | 182 => 216 | 131 => 221 | 5 => 5 | 9 => 9 | 218 => 230 | 222 => 234 | 228 => 236 | 229 => 237 | n => n, fun n => n⟩
theorem layS : Go.Proofs.Lays.n189 Tryz.prog layS_ren := {
  mixed := by kernel_rfl
  f125 := Tryz.func162.trans (congrArg some (by kernel_rfl))
  f128 := Tryz.func200.trans (congrArg some (by kernel_rfl))
  f129 := Tryz.func201.trans (congrArg some (by kernel_rfl))
  f189 := Tryz.func111.trans (congrArg some (by kernel_rfl))
  f215 := Tryz.func218.trans (congrArg some (by kernel_rfl))
  f216 := Tryz.func197.trans (congrArg some (by kernel_rfl))
  f257 := Tryz.func161.trans (congrArg some (by kernel_rfl))
  f294 := Tryz.func191.trans (congrArg some (by kernel_rfl))
  f295 := Tryz.func192.trans (congrArg some (by kernel_rfl))
  f296 := Tryz.func193.trans (congrArg some (by kernel_rfl))
  f297 := Tryz.func194.trans (congrArg some (by kernel_rfl))
  f298 := Tryz.func195.trans (congrArg some (by kernel_rfl))
  f299 := Tryz.func196.trans (congrArg some (by kernel_rfl))
  f300 := Tryz.func198.trans (congrArg some (by kernel_rfl))
  f301 := Tryz.func199.trans (congrArg some (by kernel_rfl))
  f328 := Tryz.func213.trans (congrArg some (by kernel_rfl))
  f329 := Tryz.func214.trans (congrArg some (by kernel_rfl))
  f330 := Tryz.func215.trans (congrArg some (by kernel_rfl))
  f331 := Tryz.func216.trans (congrArg some (by kernel_rfl))
  f332 := Tryz.func217.trans (congrArg some (by kernel_rfl))
  f343 := Tryz.func221.trans (congrArg some (by kernel_rfl))
  t0 := Tryz.underlying0
  a0 := Tryz.isAgg0
  z0 := Tryz.sizeOf0
  v0 := Tryz.zeroValue0
  t3 := Tryz.underlying3
  a3 := Tryz.isAgg3
  z3 := Tryz.sizeOf3
  v3 := Tryz.zeroValue3
  t4 := Tryz.underlying4
  a4 := Tryz.isAgg4
  z4 := Tryz.sizeOf4
  v4 := Tryz.zeroValue4
  t5 := Tryz.underlying5
  a5 := Tryz.isAgg5
  z5 := Tryz.sizeOf5
  v5 := Tryz.zeroValue5
  t9 := Tryz.underlying9
  a9 := Tryz.isAgg9
  z9 := Tryz.sizeOf9
  v9 := Tryz.zeroValue9
  t28 := Tryz.underlying22
  a28 := Tryz.isAgg22
  z28 := Tryz.sizeOf22
  v28 := Tryz.zeroValue22
  t46 := Tryz.underlying190
  a46 := Tryz.isAgg190
  z46 := Tryz.sizeOf190
  v46 := Tryz.zeroValue190
  t51 := Tryz.underlying72
  a51 := Tryz.isAgg72
  z51 := Tryz.sizeOf72
  v51 := Tryz.zeroValue72
  t53 := Tryz.underlying225
  a53 := Tryz.isAgg225
  z53 := Tryz.sizeOf225
  v53 := Tryz.zeroValue225
  t131 := Tryz.underlying221
  a131 := Tryz.isAgg221
  z131 := Tryz.sizeOf221
  v131 := Tryz.zeroValue221
  t182 := Tryz.underlying216
  a182 := Tryz.isAgg216
  z182 := Tryz.sizeOf216
  v182 := Tryz.zeroValue216
  t183 := Tryz.underlying217
  a183 := Tryz.isAgg217
  z183 := Tryz.sizeOf217
  v183 := Tryz.zeroValue217
  t218 := Tryz.underlying230
  a218 := Tryz.isAgg230
  z218 := Tryz.sizeOf230
  v218 := Tryz.zeroValue230
  t222 := Tryz.underlying234
  a222 := Tryz.isAgg234
  z222 := Tryz.sizeOf234
  v222 := Tryz.zeroValue234
  t228 := Tryz.underlying236
  a228 := Tryz.isAgg236
  z228 := Tryz.sizeOf236
  v228 := Tryz.zeroValue236
  t229 := Tryz.underlying237
  a229 := Tryz.isAgg237
  z229 := Tryz.sizeOf237
  v229 := Tryz.zeroValue237 }
end

end Go.Proofs.YtapjcccpokhhhaaGreat
