/- Bounds (plain law). -/
import Derived.Test.YtakmnncmeefceaaGreatG21
import Derived.Test.YtakmnncmeefceaaGreatG17
namespace Go.Proofs.YtakmnncmeefceaaGreat
set_option linter.unusedVariables false
set_option linter.unusedSimpArgs false
set_option linter.unusedSectionVars false

/- The walk of infoset.Exchange. -/
section
open Go.RowKit

/-- the information sets by the greedy choice -/
def isB (O : FOps) (L : List (List Int)) (Q : List Int) : Bool := decide (Q.length = L.length) && decide ((grS O L Q).length = Q.length)
/-- whether an entry can be put at a place -/
def exP (O : FOps) (L : List (List Int)) (A : List Int) (at' : Nat) (j : Int) : Bool := decide (¬ j ∈ A) && isB O L (A.set at' j)
def rk2E (P M : Int) (mod : List Int) (N : Int) (L : List (List Int)) (A B : List Int) : Int := if codeE P M mod N L = 0 then setsE N [A, B] else codeE P M mod N L
def exV (P M : Int) (mod : List Int) (N : Int) (L : List (List Int)) (A B : List Int) (i : Int) : Int × Int :=
  if rk2E P M mod N L A B ≠ 0 then (0, rk2E P M mod N L A B)
  else if (isB (tblOf P M.toNat mod).ops L A && isB (tblOf P M.toNat mod).ops L B) = false then (0, 9)
  else if ¬ i ∈ A then (0, 11)
  else match B.find? (exP (tblOf P M.toNat mod).ops L A (A.findIdx fun x => x == i)) with
    | some j => (j, 0)
    | none => (0, 11)
theorem InNs.set {m : Nat} {A : List Int} (hA : ∀ k, k < A.length → 0 ≤ nth A k ∧ nth A k < m) {t : Nat} (ht : t < A.length) {j : Int} (hj : 0 ≤ j ∧ j < m) : ∀ k, k < A.length → 0 ≤ nth (A.set t j) k ∧ nth (A.set t j) k < m := fun k hk => by
  rw [nth_set _ _ _ _ ht]
  split
  · exact hj
  · exact hA k hk

set_option maxRecDepth 100000 in
set_option maxHeartbeats 8000000 in
theorem exchange_any (P M : Int) (am : Option Addr) (mn cm : Nat) (mod : List Int) (N : Int) (a : Option Addr) (n c : Nat) (L : List (List Int)) (aa : Option Addr) (na ca : Nat) (A : List Int) (ab : Option Addr) (nb cb : Nat) (B : List Int) (i : Int) (w : World)
    (hmod : Ints w am mn mod) (hi : Mat w a n L) (hA : Ints w aa na A) (hB : Ints w ab nb B) :
    Calls Tryz.prog 33 #[.agg #[.int .i64 P, .int .i64 M, .slice am mn cm, .int .i64 N, .slice a n c], .slice aa na ca, .slice ab nb cb, .int .i64 i] w
      fun e w' => e = .returned (.tuple #[.int .i64 (exV P M mod N L A B i).1, .int .i64 (exV P M mod N L A B i).2]) ∧ Below w.heap.size w w' := by
  have Hal := Lib.hid hA.len
  have Hbl := Lib.hid hB.len
  have Hil := Lib.hid hi.len
  have hplb := hB.pl
  go_enter Tryz.func33, Tryz.ntmps33
  go_wp2_with fail
  obtain ⟨W, hW⟩ : ∃ W : World, W = w.alloc (.cells #[.int .i64 P, .int .i64 M, .slice am mn cm, .int .i64 N, .slice a n c] 27) := ⟨_, rfl⟩
  rw [← hW]
  have hbW : Below w.heap.size w W := by rw [hW]; exact below1 _ _
  have x0 : Box W w.heap.size [.int .i64 P, .int .i64 M, .slice am mn cm, .int .i64 N, .slice a n c] := by rw [hW]; exact Box.new _ _ _ rfl
  have hS : ∀ V, Below W.heap.size W V → V.cell? ⟨w.heap.size, 0, none⟩ = some (.int .i64 P) ∧ V.cell? ⟨w.heap.size, 1, none⟩ = some (.int .i64 M) ∧ V.cell? ⟨w.heap.size, 2, none⟩ = some (.slice am mn cm) ∧ V.cell? ⟨w.heap.size, 3, none⟩ = some (.int .i64 N) ∧ V.cell? ⟨w.heap.size, 4, none⟩ = some (.slice a n c) := fun V hV => by
    have x1 := x0.keep hV
    exact ⟨x1.cell 0 rfl, x1.cell 1 rfl, x1.cell 2 rfl, x1.cell 3 rfl, x1.cell 4 rfl⟩
  have HS := Lib.hid hS
  have HbW := Lib.hid hbW
  clear hW x0 hS
  refine (infOpen_any P M am mn cm mod N a n c L W (hmod.keep hbW) (hi.keep hbW)).mono ?_
  rintro e w1 ⟨hb1, ⟨hE, rfl⟩ | ⟨hE, b, rfl, hG⟩⟩
  · have hbw1 := Below.next hbW hb1
    have HE : Hid (exV P M mod N L A B i = (0, codeE P M mod N L)) := by
      show _ = _
      have h1 : rk2E P M mod N L A B = codeE P M mod N L := by rw [rk2E, if_neg hE]
      rw [exV, h1, if_pos hE]
    have hE1 : (codeE P M mod N L == 0) = false := by simpa using hE
    have hE2 : (codeE P M mod N L != 0) = true := by simpa using hE
    clear hE
    go_wp2_with fail
    go_ret2
    exact ⟨by rw [HE.out]; rfl, hbw1⟩
  have hbw1 := Below.next hbW hb1
  obtain ⟨m, hm, hm1, hm2, hLl, hRw⟩ := codeE_rws hE
  subst hm
  have hn : n ≤ 1000000 := by rw [← Hil.out]; omega
  have HE : Hid (rk2E P M mod m L A B = setsE m [A, B]) := by show _ = _; rw [rk2E, if_pos hE]
  have hbl := below1 w1 (.cells #[.slice aa na ca, .slice ab nb cb] 22)
  have hMs : Mat (w1.alloc (.cells #[.slice aa na ca, .slice ab nb cb] 22)) (some ⟨w1.heap.size, 0, none⟩) 2 [A, B] := ⟨rfl, fun _ => rfl, by unfold maxLen; omega, fun k hk => by
    have h2 := cell_alloc_at w1 #[.slice aa na ca, .slice ab nb cb] 22 rfl k
    match k, hk with
    | 0, _ => exact ⟨aa, na, ca, h2, (hA.keep hbw1).keep hbl⟩
    | 1, _ => exact ⟨ab, nb, cb, h2, (hB.keep hbw1).keep hbl⟩⟩
  have HMs := Lib.hid (sets_any P M am mn cm m a n c _ 2 2 [A, B] _ hMs)
  obtain ⟨c0, c1, c2, c3, c4⟩ := HS.out w1 hb1
  have Hbl2 := Lib.hid hbl
  clear hE hMs hbl
  go_wp2_with fail
  refine HMs.out.mono ?_
  rintro e w2 ⟨rfl, hb2⟩
  have hb12 : Below w1.heap.size w1 w2 := Below.next Hbl2.out hb2
  have hbw2 := Below.next hbw1 hb12
  clear c0 c1 c2 c3 c4 HMs
  have hse : setsE m [A, B] = if okSet m A = true ∧ okSet m B = true then 0 else 6 := by simp [setsE]
  rw [hse] at HE ⊢
  by_cases hok : okSet m A = true ∧ okSet m B = true
  rotate_left
  · have HV : Hid (exV P M mod m L A B i = (0, 6)) := by
      show _ = _
      have h1 : rk2E P M mod m L A B = 6 := by rw [HE.out, if_neg hok]
      rw [exV, h1, if_pos (by decide)]
    rw [if_neg hok]
    clear hok hse
    go_wp2_with fail
    go_ret2
    exact ⟨by rw [HV.out]; rfl, hbw2⟩
  have HE2 : Hid (rk2E P M mod m L A B = 0) := by show _ = _; rw [HE.out, if_pos hok]
  rw [if_pos hok]
  obtain ⟨hokA, hokB⟩ := hok
  have hAk : ∀ k, k < A.length → 0 ≤ nth A k ∧ nth A k < m := fun k hk => ⟨(okSet_at hokA hk).1, (okSet_at hokA hk).2.1⟩
  have hBk : ∀ k, k < B.length → 0 ≤ nth B k ∧ nth B k < m := fun k hk => ⟨(okSet_at hokB hk).1, (okSet_at hokB hk).2.1⟩
  have hna : na ≤ 1000000 := by have := okSet_len hokA (by omega); rw [← Hal.out]; omega
  have hnb : nb ≤ 1000000 := by have := okSet_len hokB (by omega); rw [← Hbl.out]; omega
  have HisQ : Hid (∀ V Q aq nq cq, Below w1.heap.size w1 V → Ints V aq nq Q → (∀ k, k < Q.length → 0 ≤ nth Q k ∧ nth Q k < m) → nq ≤ 1000000 →
      Calls Tryz.prog 82 #[.pointer (some ⟨b, 0, none⟩), .agg #[.int .i64 P, .int .i64 M, .slice am mn cm, .int .i64 m, .slice a n c], .slice aq nq cq] V
        fun e w' => e = .returned (.bool (isB (tblOf P M.toNat mod).ops L Q)) ∧ Below V.heap.size V w') := fun V Q aq nq cq hV hq hQ hnq =>
    infis_any P M am mn cm m a n c L m aq nq cq Q (hG.keep hV) (hi.keep (Below.next hbw1 hV)) hRw hq (fun k hk => hQ k (by rw [hq.len]; exact hk)) hn hnq
  have HAk := Lib.hid hAk
  have HBk := Lib.hid hBk
  obtain ⟨O, hO⟩ : ∃ O, (tblOf P M.toNat mod).ops = O := ⟨_, rfl⟩
  rw [hO] at HisQ
  have HexV : Hid (exV P M mod m L A B i = if (isB O L A && isB O L B) = false then ((0, 9) : Int × Int) else if ¬ i ∈ A then (0, 11) else match B.find? (exP O L A (A.findIdx fun x => x == i)) with | some j => (j, 0) | none => (0, 11)) := by
    show _ = _
    rw [exV, HE2.out, hO, if_neg (by decide)]
  have hbW2 := Below.next hb1 hb12
  obtain ⟨c0, c1, c2, c3, c4⟩ := HS.out w2 hbW2
  have HiA := Lib.hid (HisQ.out w2 A aa na ca hb12 (hA.keep hbw2) hAk hna)
  clear hAk hBk hokA hokB hse hRw hG hO HE HE2
  go_wp2_with fail
  refine HiA.out.mono ?_
  rintro e w3 ⟨rfl, hb3⟩
  have hb13 := Below.next hb12 hb3
  have hbW3 := Below.next hbW2 hb3
  clear c0 c1 c2 c3 c4 HiA
  by_cases hiA : isB O L A = true
  rotate_left
  · have hiA' : isB O L A = false := by simpa using hiA
    have HV : Hid (exV P M mod m L A B i = (0, 9)) := by show _ = _; rw [HexV.out, hiA']; rfl
    have hF := Below.next HbW.out hbW3
    rw [hiA']
    clear hiA hiA'
    go_wp2_with fail
    go_ret2
    exact ⟨by rw [HV.out]; rfl, hF⟩
  obtain ⟨c0, c1, c2, c3, c4⟩ := HS.out w3 hbW3
  have HiB := Lib.hid (HisQ.out w3 B ab nb cb hb13 (hB.keep (Below.next HbW.out hbW3)) HBk.out hnb)
  rw [hiA]
  go_wp2_with fail
  refine HiB.out.mono ?_
  rintro e w4 ⟨rfl, hb4⟩
  have hb14 := Below.next hb13 hb4
  have hbW4 := Below.next hbW3 hb4
  clear c0 c1 c2 c3 c4 HiB
  by_cases hiB : isB O L B = true
  rotate_left
  · have hiB' : isB O L B = false := by simpa using hiB
    have HV : Hid (exV P M mod m L A B i = (0, 9)) := by show _ = _; rw [HexV.out, hiA, hiB']; rfl
    have hF := Below.next HbW.out hbW4
    rw [hiB']
    clear hiB hiB' hiA
    go_wp2_with fail
    go_ret2
    exact ⟨by rw [HV.out]; rfl, hF⟩
  have HexV2 : Hid (exV P M mod m L A B i = if ¬ i ∈ A then ((0, 11) : Int × Int) else match B.find? (exP O L A (A.findIdx fun x => x == i)) with | some j => (j, 0) | none => (0, 11)) := by
    show _ = _
    rw [HexV.out, hiA, hiB, if_neg (by decide)]
  rw [hiB]
  have hA4 := hA.keep (Below.next HbW.out hbW4)
  clear hiA hiB HexV
  go_wp2_with fail
  refine (indexV_any aa na ca A i w4 hA4).mono ?_
  rintro e w5 ⟨rfl, rfl⟩
  by_cases hin : i ∈ A
  rotate_left
  · have HV : Hid (exV P M mod m L A B i = (0, 11)) := by show _ = _; rw [HexV2.out, if_pos hin]
    have hix : ixV A i = -1 := by rw [ixV, if_neg hin]
    have hF := Below.next HbW.out hbW4
    rw [hix]
    clear hin hix
    go_wp2_with fail
    go_ret2
    exact ⟨by rw [HV.out]; rfl, hF⟩
  obtain ⟨t, hix, htl, _⟩ := ix_in hin
  have htx : (A.findIdx fun x => x == i) = t := by rw [ixV, if_pos hin] at hix; omega
  have HexV3 : Hid (exV P M mod m L A B i = match B.find? (exP O L A t) with | some j => (j, 0) | none => (0, 11)) := by
    show _ = _
    rw [HexV2.out, if_neg (by simpa using hin), htx]
  have htn : t < na := by rw [← Hal.out]; exact htl
  rw [hix]
  have ht0 : decide ((t : Int) < 0) = false := by simp
  clear hin hix htx HexV2 htl
  generalize w5 = U at *
  go_wp2_with fail
  go_loopw [50] (fun iv wr => ∃ k : Nat, k ≤ nb ∧ iv = .int .i64 k ∧ Hid (∀ j, j < k → exP O L A t (nth B j) = false) ∧ Below U.heap.size U wr) (fun iv _ => nb - (intOf iv).toNat)
  case atStart => exact ⟨0, Nat.zero_le _, rfl, fun j hj => by omega, Below.refl _ _⟩
  case round =>
    obtain ⟨k, hk, rfl, hno, hbr⟩ := hrel
    have hb1r := Below.next hb14 hbr
    have hbWr := Below.next hbW4 hbr
    have hbwr := Below.next HbW.out hbWr
    by_cases hlt : k < nb
    · have cb' := (hB.keep hbwr).cell k hlt
      have hAr := hA.keep hbwr
      have hBkk := HBk.out k (by rw [Hbl.out]; exact hlt)
      have Hno := fun (h : exP O L A t (nth B k) = false) => Lib.hid (show ∀ j, j < k + 1 → exP O L A t (nth B j) = false from fun j hj => by
        by_cases e : j = k
        · subst e; exact h
        · exact hno.out j (by omega))
      have Hyes := fun (h : exP O L A t (nth B k) = true) => Lib.hid (show exV P M mod m L A B i = (nth B k, 0) by
        rw [HexV3.out, find_at _ B k (by rw [Hbl.out]; exact hlt) hno.out h])
      by_cases hm : nth B k ∈ A
      · have Hn := Hno (by unfold exP; simp [hm])
        have hmd : decide (nth B k ∈ A) = true := by simpa using hm
        have HcA := Lib.hid (contains_any aa na ca A (nth B k) wr hAr)
        rw [hmd] at HcA
        clear hm hmd Hno Hyes hno
        go_wp2_with fail
        refine HcA.out.mono ?_
        rintro e w6 ⟨rfl, rfl⟩
        go_wp2_with fail
        go_roundw
        case rel => exact ⟨k + 1, by omega, by go_num, Hn.out, hbr⟩
        case measure => simp [intOf] <;> omega
      · have hmd : decide (nth B k ∈ A) = false := by simpa using hm
        have HcA := Lib.hid (contains_any aa na ca A (nth B k) wr hAr)
        rw [hmd] at HcA
        have hex : exP O L A t (nth B k) = isB O L (A.set t (nth B k)) := by unfold exP; simp [hm]
        have HSk := Lib.hid (InNs.set HAk.out (show t < A.length by rw [Hal.out]; exact htn) hBkk)
        have Hex := Lib.hid hex
        clear hm hmd hno hex
        go_wp2_with fail
        refine HcA.out.mono ?_
        rintro e w6 ⟨rfl, rfl⟩
        go_wp2_with fail
        refine (clone1_any aa na ca A hAr hna).mono ?_
        rintro e w7 ⟨a7, c7, rfl, hown7, hb7⟩
        rw [Hal.out] at hown7 ⊢
        obtain ⟨hints, hmine⟩ := Ints.own hown7
        have hpl7 := hints.pl
        have cz := hints.cell t htn
        have fz := (hmine (by omega)).2 t htn
        have hBz := (hmine (by omega)).1
        have hown8 := own_set hown7 t htn (.int .i64 (nth B k))
        rw [← List.map_set] at hown8
        have hb8 : Below w6.heap.size w6 (w7.setCell ⟨ablk a7, aoff a7 + t, none⟩ (.int .i64 (nth B k))) := hb7.setCell hBz _
        have H8 := Lib.hid (Ints.own hown8).1
        have hb18 := Below.next hb1r hb8
        obtain ⟨c0, c1, c2, c3, c4⟩ := HS.out _ (Below.next hbWr hb8)
        have HiS := Lib.hid (HisQ.out _ (A.set t (nth B k)) a7 na c7 hb18 H8.out (by rw [List.length_set]; exact HSk.out) hna)
        clear hown7 hown8 hints hmine H8 HcA
        go_wp2_with fail
        refine HiS.out.mono ?_
        rintro e w9 ⟨rfl, hb9⟩
        have hbr9 := Below.next hbr (Below.next hb8 hb9)
        have hF9 := Below.next hbwr (Below.next hb8 hb9)
        clear c0 c1 c2 c3 c4
        by_cases hs : isB O L (A.set t (nth B k)) = true
        · have HV := Hyes (by rw [Hex.out]; exact hs)
          rw [hs]
          clear hs Hno Hyes HiS
          go_wp2_with fail
          go_ret2
          exact ⟨by rw [HV.out]; rfl, hF9⟩
        · have hs' : isB O L (A.set t (nth B k)) = false := by simpa using hs
          have Hn := Hno (by rw [Hex.out]; exact hs')
          rw [hs']
          clear hs hs' Hno Hyes HiS
          go_wp2_with fail
          go_roundw
          case rel => exact ⟨k + 1, by omega, by go_num, Hn.out, hbr9⟩
          case measure => simp [intOf] <;> omega
    · obtain rfl : k = nb := by omega
      have HV : Hid (exV P M mod m L A B i = (0, 11)) := by
        show _ = _
        rw [HexV3.out, find_no _ B (by rw [Hbl.out]; exact hno.out)]
      clear hno
      go_wp2_with fail
      go_ret2
      exact ⟨by rw [HV.out]; rfl, hbwr⟩
end

/- The greedy order, as plain Lean functions. -/
section
/-- the first position below i, not in x, of least value, and its value -/
def bestTo (f : Nat → Int) (N x : Nat) : Nat → Int × Int
  | 0 => (-1, N + 1)
  | i + 1 => if x.testBit i = true then bestTo f N x i else if f (x ||| 2 ^ i) < (bestTo f N x i).2 then ((i : Int), f (x ||| 2 ^ i)) else bestTo f N x i
def greedyTo (f : Nat → Int) (N : Nat) : Nat → List Int
  | 0 => []
  | k + 1 => greedyTo f N k ++ [(bestTo f N (maskS (greedyTo f N k)) N).1]
/-- the same over a list of the positions that are left -/
def rbTo (f : Nat → Int) (N x : Nat) (left : List Int) : Nat → Int × Int
  | 0 => (nth left 0, N + 1)
  | i + 1 => if f (x ||| 2 ^ (nth left i).toNat) < (rbTo f N x left i).2 then (nth left i, f (x ||| 2 ^ (nth left i).toNat)) else rbTo f N x left i

theorem greedyTo_len (f : Nat → Int) (N : Nat) : ∀ k, (greedyTo f N k).length = k
  | 0 => rfl
  | k + 1 => by rw [greedyTo, List.length_append, greedyTo_len f N k]; rfl

section
variable {f : Nat → Int} {N : Nat} (hf : ∀ y, f y ≤ N)
include hf
theorem bestTo_spec (x : Nat) : ∀ i, (bestTo f N x i = (-1, (N : Int) + 1) ∧ ∀ j, j < i → x.testBit j = true) ∨ ((bestTo f N x i).2 ≤ N ∧ ∃ b : Nat, (bestTo f N x i).1 = b ∧ b < i ∧ x.testBit b = false)
  | 0 => .inl ⟨rfl, fun j hj => by omega⟩
  | i + 1 => by
    have ih := bestTo_spec x i
    unfold bestTo
    by_cases hx : x.testBit i = true
    · rw [if_pos hx]
      rcases ih with ⟨h1, h2⟩ | ⟨h1, b, h2, h3, h4⟩
      · exact .inl ⟨h1, fun j hj => by
          by_cases e : j = i
          · subst e; exact hx
          · exact h2 j (by omega)⟩
      · exact .inr ⟨h1, b, h2, by omega, h4⟩
    · rw [if_neg hx]
      have hx' : x.testBit i = false := by simpa using hx
      split
      · exact .inr ⟨hf _, i, rfl, by omega, hx'⟩
      · rename_i hlt
        rcases ih with ⟨h1, h2⟩ | ⟨h1, b, h2, h3, h4⟩
        · rw [h1] at hlt
          have := hf (x ||| 2 ^ i)
          exact absurd (show f (x ||| 2 ^ i) < (N : Int) + 1 by omega) hlt
        · exact .inr ⟨h1, b, h2, by omega, h4⟩
end

theorem bits_more {x b : Nat} (h : x.testBit b = false) : ∀ k, (bitsTo (x ||| 2 ^ b) k).length = (bitsTo x k).length + if b < k then 1 else 0
  | 0 => rfl
  | k + 1 => by
    have ih := bits_more h k
    have hb : (x ||| 2 ^ b).testBit k = (x.testBit k || decide (b = k)) := by rw [Nat.testBit_or, Nat.testBit_two_pow]
    rw [bitsTo, bitsTo, hb]
    by_cases e : b = k
    · subst e
      rw [h, if_pos (by simp), if_neg (by simp), List.length_append, ih, if_neg (by omega), if_pos (by omega)]; rfl
    · have : decide (b = k) = false := by simpa using e
      rw [this, Bool.or_false]
      split
      · rw [List.length_append, List.length_append, ih]
        simp only [List.length_singleton]
        by_cases h1 : b < k
        · rw [if_pos h1, if_pos (by omega)]
        · rw [if_neg h1, if_neg (by omega)]
      · rw [ih]
        by_cases h1 : b < k
        · rw [if_pos h1, if_pos (by omega)]
        · rw [if_neg h1, if_neg (by omega)]
theorem bits_full {x : Nat} : ∀ k, (∀ j, j < k → x.testBit j = true) → (bitsTo x k).length = k
  | 0, _ => rfl
  | k + 1, h => by rw [bitsTo, if_pos (h k (by omega)), List.length_append, bits_full k fun j hj => h j (by omega)]; rfl
theorem maskTo_append (Q R : List Int) : ∀ k, k ≤ Q.length → maskTo (Q ++ R) k = maskTo Q k
  | 0, _ => rfl
  | k + 1, h => by
    have e : nth (Q ++ R) k = nth Q k := by simp only [nth, List.getD_eq_getElem?_getD]; rw [List.getElem?_append_left (by omega)]
    rw [maskTo, maskTo, maskTo_append Q R k (by omega), e]
theorem maskS_snoc (Q : List Int) (b : Int) : maskS (Q ++ [b]) = maskS Q ||| 2 ^ b.toNat := by
  unfold maskS
  rw [List.length_append, List.length_singleton, maskTo, maskTo_append Q [b] _ (Nat.le_refl _)]
  congr 3
  rw [nth_push, if_neg (by omega), if_pos rfl]

/-- the first k positions: within N, different, and the next one -/
theorem greedy_inv {f : Nat → Int} {N : Nat} (hf : ∀ y, f y ≤ N) : ∀ k, k ≤ N → InN N (greedyTo f N k) ∧ (bitsTo (maskS (greedyTo f N k)) N).length = k
  | 0, _ => ⟨fun j hj => by simp [greedyTo] at hj, by
      have : ∀ n, bitsTo (maskS (greedyTo f N 0)) n = [] := fun n => by
        induction n with
        | zero => rfl
        | succ n ih => rw [bitsTo, if_neg (by simp [maskS, maskTo, greedyTo]), ih]
      rw [this]; rfl⟩
  | k + 1, hk => by
    obtain ⟨h1, h2⟩ := greedy_inv hf k (by omega)
    rcases bestTo_spec hf (maskS (greedyTo f N k)) N with ⟨_, h3⟩ | ⟨_, b, h4, h5, h6⟩
    · have := bits_full N h3; omega
    · refine ⟨fun j hj => ?_, ?_⟩
      · rw [greedyTo_len] at hj
        rw [greedyTo, nth_push, greedyTo_len, h4]
        by_cases e : j < k
        · rw [if_pos e]; exact h1 j (by rw [greedyTo_len]; exact e)
        · rw [if_neg e, if_pos (by omega)]; omega
      · rw [greedyTo, maskS_snoc, h4, Int.toNat_natCast, bits_more h6, h2, if_pos h5]
theorem greedy_next {f : Nat → Int} {N : Nat} (hf : ∀ y, f y ≤ N) {k : Nat} (hk : k < N) : ∃ b : Nat, (bestTo f N (maskS (greedyTo f N k)) N).1 = b ∧ b < N ∧ (maskS (greedyTo f N k)).testBit b = false := by
  obtain ⟨_, h2⟩ := greedy_inv hf k (by omega)
  rcases bestTo_spec hf (maskS (greedyTo f N k)) N with ⟨_, h3⟩ | ⟨_, b, h4, h5, h6⟩
  · have := bits_full N h3; omega
  · exact ⟨b, h4, h5, h6⟩

theorem bits_prefix (y : Nat) {k N : Nat} (h : k ≤ N) : ∃ r, bitsTo y N = bitsTo y k ++ r := by
  obtain ⟨d, rfl⟩ : ∃ d, N = k + d := ⟨N - k, by omega⟩
  clear h
  induction d with
  | zero => exact ⟨[], by simp⟩
  | succ d ih =>
    obtain ⟨r, hr⟩ := ih
    rw [← Nat.add_assoc, bitsTo]
    split
    · exact ⟨r ++ [((k + d : Nat) : Int)], by rw [hr, List.append_assoc]⟩
    · exact ⟨r, hr⟩
theorem nth_bits_at (y : Nat) {k N : Nat} (h : k < N) (hb : y.testBit k = true) : nth (bitsTo y N) (bitsTo y k).length = k := by
  obtain ⟨r, hr⟩ := bits_prefix y (k := k + 1) (N := N) (by omega)
  rw [hr, bitsTo, if_pos hb]
  simp [nth, List.getD_eq_getElem?_getD]

theorem rb_best {f : Nat → Int} {N : Nat} (hf : ∀ y, f y ≤ N) (hN : N ≤ 64) (x : Nat) : ∀ k, k ≤ N →
    (bitsTo (cplU x) k = [] ∧ bestTo f N x k = (-1, (N : Int) + 1)) ∨ (bitsTo (cplU x) k ≠ [] ∧ rbTo f N x (bitsTo (cplU x) N) (bitsTo (cplU x) k).length = bestTo f N x k)
  | 0, _ => .inl ⟨rfl, rfl⟩
  | k + 1, hk => by
    have ih := rb_best hf hN x k (by omega)
    have hc := cplU_test x k (by omega)
    by_cases hx : x.testBit k = true
    · rw [hx] at hc
      have e1 : bitsTo (cplU x) (k + 1) = bitsTo (cplU x) k := by rw [bitsTo, if_neg (by rw [hc]; simp)]
      have e2 : bestTo f N x (k + 1) = bestTo f N x k := by rw [bestTo, if_pos hx]
      rw [e1, e2]; exact ih
    · have hx' : x.testBit k = false := by simpa using hx
      rw [hx'] at hc
      have e1 : bitsTo (cplU x) (k + 1) = bitsTo (cplU x) k ++ [(k : Int)] := by rw [bitsTo, if_pos (by rw [hc]; rfl)]
      have e2 : bestTo f N x (k + 1) = if f (x ||| 2 ^ k) < (bestTo f N x k).2 then ((k : Int), f (x ||| 2 ^ k)) else bestTo f N x k := by rw [bestTo, if_neg hx]
      have e3 := nth_bits_at (cplU x) (k := k) (N := N) (by omega) (by rw [hc]; rfl)
      refine .inr ⟨by rw [e1]; simp, ?_⟩
      rw [e1, e2, List.length_append, List.length_singleton, rbTo, e3, Int.toNat_natCast]
      rcases ih with ⟨h1, h2⟩ | ⟨h1, h2⟩
      · have := hf (x ||| 2 ^ k)
        rw [h2, h1]
        show (if f (x ||| 2 ^ k) < (N : Int) + 1 then _ else _) = if f (x ||| 2 ^ k) < (N : Int) + 1 then _ else _
        rw [if_pos (by omega), if_pos (by omega)]
      · rw [h2]
theorem rb_all {f : Nat → Int} {N : Nat} (hf : ∀ y, f y ≤ N) (hN : N ≤ 64) {x : Nat} (h0 : 0 < (bitsTo (cplU x) N).length) : rbTo f N x (bitsTo (cplU x) N) (bitsTo (cplU x) N).length = bestTo f N x N := by
  rcases rb_best hf hN x N (Nat.le_refl _) with ⟨h1, _⟩ | ⟨_, h1⟩
  · rw [h1] at h0; exact absurd h0 (by decide)
  · exact h1
end

/- Orders, widths and the table over all sets, as plain Lean functions. -/
section
/-- the first k entries are different positions below N -/
def ordTo (N : Int) (Q : List Int) : Nat → Bool
  | 0 => true
  | k + 1 => ordTo N Q k && (decide (0 ≤ nth Q k) && decide (nth Q k < N) && !(maskTo Q k).testBit (nth Q k).toNat)
def ordB (N : Int) (Q : List Int) : Bool := decide ((Q.length : Int) = N) && ordTo N Q Q.length
theorem ordTo_at {N : Int} {Q : List Int} : ∀ {k}, ordTo N Q k = true → ∀ j, j < k → 0 ≤ nth Q j ∧ nth Q j < N ∧ (maskTo Q j).testBit (nth Q j).toNat = false
  | 0, _, j, hj => by omega
  | k + 1, h, j, hj => by
    unfold ordTo at h
    simp only [Bool.and_eq_true, decide_eq_true_eq, Bool.not_eq_true'] at h
    by_cases e : j = k
    · subst e; exact ⟨h.2.1.1, h.2.1.2, h.2.2⟩
    · exact ordTo_at h.1 j (by omega)
theorem ordTo_le {N : Int} {Q : List Int} {k : Nat} (h : ordTo N Q k = true) : ∀ j, j ≤ k → ordTo N Q j = true := by
  induction k with
  | zero => intro j hj; obtain rfl : j = 0 := by omega
            exact h
  | succ k ih =>
    intro j hj
    by_cases e : j = k + 1
    · subst e; exact h
    · unfold ordTo at h
      simp only [Bool.and_eq_true] at h
      exact ih h.1 j (by omega)
theorem ordTo_bad {N : Int} {Q : List Int} {k j : Nat} (hj : j < k) (h : ¬ (0 ≤ nth Q j ∧ nth Q j < N ∧ (maskTo Q j).testBit (nth Q j).toNat = false)) : ordTo N Q k = false := by
  apply Classical.byContradiction
  intro hn
  exact h (ordTo_at (by simpa using hn) j hj)
theorem ordB_in {n : Nat} {Q : List Int} (h : ordB n Q = true) : InN n Q ∧ Q.length = n := by
  unfold ordB at h
  simp only [Bool.and_eq_true, decide_eq_true_eq] at h
  exact ⟨fun j hj => ⟨(ordTo_at h.2 j hj).1, (ordTo_at h.2 j hj).2.1⟩, by omega⟩

/-- the width of the first k positions -/
def wdTo (f : Nat → Int) (Q : List Int) : Nat → Int
  | 0 => 0
  | k + 1 => max (wdTo f Q k) (f (maskTo Q (k + 1)))
/-- the same, from the empty set on -/
def wrTo (f : Nat → Int) (Q : List Int) : Nat → Int
  | 0 => 0
  | k + 1 => max (wrTo f Q k) (f (maskTo Q k))
theorem wdTo_nn (f : Nat → Int) (Q : List Int) : ∀ k, 0 ≤ wdTo f Q k
  | 0 => Int.le_refl _
  | k + 1 => Int.le_trans (wdTo_nn f Q k) (Int.le_max_left _ _)
theorem wrTo_eq {f : Nat → Int} (h0 : f 0 ≤ 0) (Q : List Int) : ∀ k, wrTo f Q (k + 1) = wdTo f Q k
  | 0 => by
    show max 0 (f 0) = 0
    omega
  | k + 1 => by rw [wrTo, wrTo_eq h0 Q k]; rfl
theorem wdTo_le {f : Nat → Int} {b : Int} (hb : 0 ≤ b) (hf : ∀ y, f y ≤ b) (Q : List Int) : ∀ k, wdTo f Q k ≤ b
  | 0 => hb
  | k + 1 => Int.max_le.2 ⟨wdTo_le hb hf Q k, hf _⟩
theorem wdTo_ge (f : Nat → Int) (Q : List Int) : ∀ k j, j < k → f (maskTo Q (j + 1)) ≤ wdTo f Q k
  | 0, j, hj => by omega
  | k + 1, j, hj => by
    by_cases e : j = k
    · subst e; exact Int.le_max_right _ _
    · exact Int.le_trans (wdTo_ge f Q k j (by omega)) (Int.le_max_left _ _)
theorem maskTo_take (Q : List Int) (i : Nat) : ∀ k, k ≤ i → k ≤ Q.length → maskTo (Q.take i) k = maskTo Q k
  | 0, _, _ => rfl
  | k + 1, h1, h2 => by
    have e : nth (Q.take i) k = nth Q k := by unfold nth; simp only [List.getD_eq_getElem?_getD, List.getElem?_take]; rw [if_pos (by omega)]
    rw [maskTo, maskTo, maskTo_take Q i k (by omega) (by omega), e]
theorem maskS_take (Q : List Int) {i : Nat} (h : i ≤ Q.length) : maskS (Q.take i) = maskTo Q i := by
  unfold maskS
  rw [List.length_take, Nat.min_eq_left h]
  exact maskTo_take Q i i (Nat.le_refl _) h

/-- the least entry at a set with one of its positions below i removed -/
def leastTo (N : Nat) (T : List Int) (s : Nat) : Nat → Int
  | 0 => N
  | i + 1 => if s.testBit i = true then min (leastTo N T s i) (nth T (s - 2 ^ i)) else leastTo N T s i
def entT (f : Nat → Int) (N : Nat) (T : List Int) (s : Nat) : Int := if s = 0 then 0 else max (f s) (leastTo N T s N)
/-- the table's first k entries -/
def tabL (f : Nat → Int) (N : Nat) : Nat → List Int
  | 0 => []
  | k + 1 => tabL f N k ++ [entT f N (tabL f N k) k]
theorem tabL_len (f : Nat → Int) (N : Nat) : ∀ k, (tabL f N k).length = k
  | 0 => rfl
  | k + 1 => by rw [tabL, List.length_append, tabL_len f N k]; rfl
theorem nth_tabL (f : Nat → Int) (N : Nat) {s : Nat} : ∀ {k}, s < k → nth (tabL f N k) s = entT f N (tabL f N s) s
  | 0, h => by omega
  | k + 1, h => by
    rw [tabL, nth_push, tabL_len]
    by_cases e : s < k
    · rw [if_pos e]; exact nth_tabL f N e
    · obtain rfl : s = k := by omega
      rw [if_neg e, if_pos rfl]
theorem pow_le_test {s i : Nat} (h : s.testBit i = true) : 2 ^ i ≤ s := Nat.ge_two_pow_of_testBit h
theorem leastTo_congr {N : Nat} {T T' : List Int} {s : Nat} (h : ∀ j, j < s → nth T j = nth T' j) : ∀ i, leastTo N T s i = leastTo N T' s i
  | 0 => rfl
  | i + 1 => by
    rw [leastTo, leastTo, leastTo_congr h i]
    split
    · rename_i ht
      have := pow_le_test ht
      have := Nat.two_pow_pos i
      rw [h _ (by omega)]
    · rfl
theorem leastTo_bd {N : Nat} {T : List Int} {s : Nat} (h : ∀ j, j < s → 0 ≤ nth T j ∧ nth T j ≤ N) : ∀ i, 0 ≤ leastTo N T s i ∧ leastTo N T s i ≤ N
  | 0 => ⟨Int.natCast_nonneg _, Int.le_refl _⟩
  | i + 1 => by
    have ih := leastTo_bd h i
    rw [leastTo]
    split
    · rename_i ht
      have := pow_le_test ht
      have := Nat.two_pow_pos i
      have := h (s - 2 ^ i) (by omega)
      omega
    · exact ih
theorem tabL_bd {f : Nat → Int} {N : Nat} (hf : ∀ y, f y ≤ N) (k : Nat) : ∀ s, s < k → 0 ≤ nth (tabL f N k) s ∧ nth (tabL f N k) s ≤ N := by
  induction k with
  | zero => intro s hs; omega
  | succ k ih =>
    intro s hs
    rw [tabL, nth_push, tabL_len]
    by_cases e : s < k
    · rw [if_pos e]; exact ih s e
    · rw [if_neg e, if_pos (by omega)]
      unfold entT
      split
      · omega
      · have h1 := leastTo_bd (N := N) (T := tabL f N k) (s := k) ih N
        have h2 := hf k
        omega
/-- the reference's choice: -1 where none has been met -/
def refB (T : List Int) (s : Nat) : Nat → Int
  | 0 => -1
  | i + 1 => if s.testBit i = true then (if refB T s i < 0 ∨ nth T (s - 2 ^ i) < refB T s i then nth T (s - 2 ^ i) else refB T s i) else refB T s i
theorem refB_eq {N : Nat} {T : List Int} {s : Nat} (h : ∀ j, j < s → 0 ≤ nth T j ∧ nth T j ≤ N) : ∀ i, (refB T s i = -1 ∧ leastTo N T s i = N ∧ ∀ j, j < i → s.testBit j = false) ∨ (0 ≤ refB T s i ∧ refB T s i = leastTo N T s i)
  | 0 => .inl ⟨rfl, rfl, fun j hj => by omega⟩
  | i + 1 => by
    have ih := refB_eq h i
    rw [refB, leastTo]
    split
    · rename_i ht
      have := pow_le_test ht
      have := Nat.two_pow_pos i
      have hb := h (s - 2 ^ i) (by omega)
      refine .inr ?_
      rcases ih with ⟨h1, h2, _⟩ | ⟨h1, h2⟩
      · rw [h1, h2, if_pos (.inl (by omega))]
        omega
      · rw [← h2]
        split <;> omega
    · rename_i ht
      rcases ih with ⟨h1, h2, h3⟩ | h1
      · exact .inl ⟨h1, h2, fun j hj => by
          by_cases e : j = i
          · subst e; simpa using ht
          · exact h3 j (by omega)⟩
      · exact .inr h1
theorem test_lt {s N : Nat} (h : s < 2 ^ N) (h0 : ∀ j, j < N → s.testBit j = false) : s = 0 := by
  apply Nat.eq_of_testBit_eq
  intro j
  rw [Nat.zero_testBit]
  by_cases hj : j < N
  · exact h0 j hj
  · exact Nat.testBit_lt_two_pow (Nat.lt_of_lt_of_le h (Nat.pow_le_pow_right (by omega) (by omega)))
theorem refB_all {f : Nat → Int} {N : Nat} (hf : ∀ y, f y ≤ N) {s : Nat} (h0 : s ≠ 0) (hs : s < 2 ^ N) : refB (tabL f N s) s N = leastTo N (tabL f N s) s N := by
  rcases refB_eq (tabL_bd hf s) N with ⟨_, _, h⟩ | ⟨_, h⟩
  · exact absurd (test_lt hs h) h0
  · exact h

/-- the table is below the width of each order -/
theorem leastTo_le {N : Nat} {T : List Int} {s b : Nat} (hb : s.testBit b = true) : ∀ i, b < i → leastTo N T s i ≤ nth T (s - 2 ^ b)
  | 0, h => by omega
  | i + 1, h => by
    rw [leastTo]
    by_cases e : b = i
    · subst e
      rw [if_pos hb]; exact Int.min_le_right _ _
    · have ih := leastTo_le (N := N) (T := T) hb i (by omega)
      split
      · exact Int.le_trans (Int.min_le_left _ _) ih
      · exact ih
theorem or_add : ∀ (b x : Nat), x.testBit b = false → x ||| 2 ^ b = x + 2 ^ b
  | 0, x, h => by
    rw [Nat.testBit_zero, decide_eq_false_iff_not] at h
    have h1 : (x ||| 1) / 2 = x / 2 := by rw [Nat.or_div_two]; simp
    have h2 : (x ||| 1) % 2 = 1 := Nat.or_mod_two_eq_one.2 (.inr rfl)
    show x ||| 1 = x + 1
    omega
  | b + 1, x, h => by
    rw [Nat.testBit_succ] at h
    have ih := or_add b (x / 2) h
    have e : 2 ^ (b + 1) / 2 = 2 ^ b := by rw [Nat.pow_succ]; omega
    have h1 : (x ||| 2 ^ (b + 1)) / 2 = x / 2 + 2 ^ b := by rw [Nat.or_div_two, e, ih]
    have h2 : (x ||| 2 ^ (b + 1)) % 2 = 1 ↔ x % 2 = 1 := by
      rw [Nat.or_mod_two_eq_one]
      have : 2 ^ (b + 1) % 2 = 0 := by rw [Nat.pow_succ]; omega
      omega
    have h3 : 2 ^ (b + 1) = 2 * 2 ^ b := by rw [Nat.pow_succ]; omega
    omega
theorem or_sub {x b : Nat} (h : x.testBit b = false) : (x ||| 2 ^ b) - 2 ^ b = x ∧ (x ||| 2 ^ b).testBit b = true ∧ x < x ||| 2 ^ b := by
  have e := or_add b x h
  have := Nat.two_pow_pos b
  exact ⟨by omega, by rw [Nat.testBit_or, Nat.testBit_two_pow]; simp, by omega⟩

theorem maskTo_ltp {n : Nat} {Q : List Int} : ∀ k, (∀ j, j < k → 0 ≤ nth Q j ∧ nth Q j < n) → maskTo Q k < 2 ^ n
  | 0, _ => Nat.two_pow_pos n
  | k + 1, h => by
    have ih := maskTo_ltp k fun j hj => h j (by omega)
    have hk := h k (by omega)
    exact Nat.or_lt_two_pow ih (Nat.pow_lt_pow_right (by omega) (by omega))
/-- the table's entry at the first k positions is at most their width -/
theorem tab_le {f : Nat → Int} {N : Nat} {Q : List Int} (h : ordTo N Q Q.length = true) : ∀ k, k ≤ Q.length → nth (tabL f N (maskTo Q k + 1)) (maskTo Q k) ≤ wdTo f Q k
  | 0, _ => by
    show nth (tabL f N 1) 0 ≤ 0
    rw [nth_tabL f N (by omega)]
    exact Int.le_refl _
  | k + 1, hk => by
    have ih := tab_le (f := f) h k (by omega)
    obtain ⟨h1, h2, h3⟩ := ordTo_at h k (by omega)
    obtain ⟨e1, e2, e3⟩ := or_sub h3
    rw [nth_tabL f N (Nat.lt_succ_self _)] at ih ⊢
    rw [wdTo, maskTo]
    unfold entT
    rw [if_neg (by omega)]
    have h4 := leastTo_le (N := N) (T := tabL f N (maskTo Q k ||| 2 ^ (nth Q k).toNat)) e2 N (by omega)
    rw [e1, nth_tabL f N e3] at h4
    have h5 : wdTo f Q k ≤ max (wdTo f Q k) (f (maskTo Q k ||| 2 ^ (nth Q k).toNat)) := Int.le_max_left _ _
    have h6 : f (maskTo Q k ||| 2 ^ (nth Q k).toNat) ≤ max (wdTo f Q k) (f (maskTo Q k ||| 2 ^ (nth Q k).toNat)) := Int.le_max_right _ _
    exact Int.max_le.2 ⟨h6, by omega⟩

/-- the bits of an order, all of them -/
theorem bits_ord {N : Int} {Q : List Int} (hN : N ≤ 64) : ∀ {k}, ordTo N Q k = true → ∀ n : Nat, N = n → (bitsTo (maskTo Q k) n).length = k
  | 0, _, n, _ => by
    have : ∀ j, bitsTo 0 j = [] := fun j => by
      induction j with
      | zero => rfl
      | succ j ih => rw [bitsTo, if_neg (by simp), ih]
    show (bitsTo 0 n).length = 0
    rw [this]; rfl
  | k + 1, h, n, e => by
    obtain ⟨h1, h2, h3⟩ := ordTo_at h k (by omega)
    have ih := bits_ord hN (ordTo_le h k (by omega)) n e
    rw [maskTo, bits_more h3, ih, if_pos (by omega)]
theorem bits_all {x N : Nat} (hx : x < 2 ^ N) (h : (bitsTo x N).length = N) : x = 2 ^ N - 1 := by
  have hb : ∀ k, k ≤ N → (bitsTo x k).length = k → ∀ j, j < k → x.testBit j = true := by
    intro k
    induction k with
    | zero => intro _ _ j hj; omega
    | succ k ih =>
      intro hk hl j hj
      have h1 := bitsTo_len x k
      rw [bitsTo] at hl
      split at hl
      · rename_i ht
        rw [List.length_append, List.length_singleton] at hl
        by_cases e : j = k
        · subst e; exact ht
        · exact ih (by omega) (by omega) j (by omega)
      · omega
  apply Nat.eq_of_testBit_eq
  intro j
  rw [Nat.testBit_two_pow_sub_one]
  by_cases hj : j < N
  · rw [hb N (Nat.le_refl _) h j hj]; simp [hj]
  · rw [Nat.testBit_lt_two_pow (Nat.lt_of_lt_of_le hx (Nat.pow_le_pow_right (by omega) (by omega)))]; simp [hj]
/-- no order is below the table's last entry -/
theorem tab_sound {f : Nat → Int} {n : Nat} {Q : List Int} (hn : n ≤ 64) (h : ordB n Q = true) : nth (tabL f n (2 ^ n)) (2 ^ n - 1) ≤ wdTo f Q n := by
  have hl := (ordB_in h).2
  unfold ordB at h
  simp only [Bool.and_eq_true] at h
  have h1 := tab_le (f := f) h.2 Q.length (Nat.le_refl _)
  have h2 := bits_ord (by omega) h.2 n rfl
  rw [hl] at h1 h2
  have h3 := maskTo_ltp (n := n) (Q := Q) n fun j hj => ⟨(ordTo_at h.2 j (by omega)).1, (ordTo_at h.2 j (by omega)).2.1⟩
  have h4 := bits_all h3 h2
  rw [h4] at h1
  have := Nat.two_pow_pos n
  rwa [show 2 ^ n - 1 + 1 = 2 ^ n by omega] at h1
end

/- The walks of ordering.ordered, codewrightref48.IsOrder. -/
section
open Go.RowKit

def ordE (P M : Int) (mod : List Int) (N : Int) (L : List (List Int)) (Q : List Int) : Int :=
  if codeE P M mod N L = 0 then (if ordB N Q = true then 0 else 5) else codeE P M mod N L
theorem ordB_no {N : Int} {Q : List Int} {k : Nat} (hk : k < Q.length) (h : ¬ (0 ≤ nth Q k ∧ nth Q k < N ∧ (maskTo Q k).testBit (nth Q k).toNat = false)) : ordB N Q = false := by
  unfold ordB
  rw [ordTo_bad hk h, Bool.and_false]

set_option maxRecDepth 100000 in
set_option maxHeartbeats 4000000 in
theorem ordOrdered_any (P M : Int) (am : Option Addr) (mn cm : Nat) (mod : List Int) (N : Int) (a : Option Addr) (n c : Nat) (L : List (List Int)) (ao : Option Addr) (no co : Nat) (Q : List Int) (w : World)
    (hmod : Ints w am mn mod) (hi : Mat w a n L) (hq : Ints w ao no Q) :
    Calls Tryz.prog 57 #[.agg #[.int .i64 P, .int .i64 M, .slice am mn cm, .int .i64 N, .slice a n c], .slice ao no co] w fun e w' => e = .returned (.int .i64 (ordE P M mod N L Q)) ∧ Below w.heap.size w w' := by
  have Hql := Lib.hid hq.len
  have hplq := hq.pl
  have hmq := hq.max
  unfold maxLen at hmq
  go_enter Tryz.func57, Tryz.ntmps57
  go_wp2_with fail
  obtain ⟨W, hW⟩ : ∃ W : World, W = w.alloc (.cells #[.int .i64 P, .int .i64 M, .slice am mn cm, .int .i64 N, .slice a n c] 27) := ⟨_, rfl⟩
  rw [← hW]
  have hbW : Below w.heap.size w W := by rw [hW]; exact below1 _ _
  have x0 : Box W w.heap.size [.int .i64 P, .int .i64 M, .slice am mn cm, .int .i64 N, .slice a n c] := by rw [hW]; exact Box.new _ _ _ rfl
  clear hW
  refine (codeCheck_any P M am mn cm mod N a n c L W (hmod.keep hbW) (hi.keep hbW)).mono ?_
  rintro e w1 ⟨rfl, hb1⟩
  have hbw1 := Below.next hbW hb1
  have x1 := x0.keep hb1
  clear x0
  by_cases hE : codeE P M mod N L = 0
  · obtain ⟨m, rfl, hm1, hm64, _⟩ := codeE_fld hE
    have HB : Hid (ordE P M mod m L Q = if ordB m Q = true then 0 else 5) := by show _ = _; rw [ordE, if_pos hE]
    rw [hE]
    clear hE
    have hq1 := hq.keep hbw1
    have c3 := x1.cell 3 rfl
    by_cases hno : no = m
    · subst hno
      have hnn : ((no : Int) != no) = false := by simp
      go_wp2_with (at_make; refine wpList_mk rfl _ _ 58 4 rfl (.bool false) 1 Tryz.underlying58 infoBool rfl no rfl rfl (by omega) (by unfold maxLen; omega) ?_; intro a7 w2 hown hbel hge hlt)
      rw [bL_zero] at hown
      go_loopw [24] (fun iv wr => ∃ k : Nat, k ≤ no ∧ iv = .int .i64 k ∧ wr.ownsRow w1.heap.size 4 1 (.slice a7 no no) no ((bL no (maskTo Q k)).map Value.bool) ∧ Hid (ordTo no Q k = true) ∧ Below w1.heap.size w1 wr)
        (fun iv _ => no - (intOf iv).toNat)
      case atStart => exact ⟨0, Nat.zero_le _, rfl, hown, rfl, hbel⟩
      case round =>
        clear hown hbel c3
        obtain ⟨k, hk, rfl, hop, hok, hbr⟩ := hrel
        obtain ⟨hbl, hmine⟩ := Bools.own hop
        have hpl7 := hbl.pl
        have c3 := (x1.keep hbr).cell 3 rfl
        by_cases hlt : k < no
        · have cq := (hq1.keep hbr).cell k hlt
          have Hno : Hid (¬ (0 ≤ nth Q k ∧ nth Q k < no ∧ (maskTo Q k).testBit (nth Q k).toNat = false) → ordE P M mod no L Q = 5) := fun h => by
            rw [HB.out, ordB_no (by rw [Hql.out]; exact hlt) h]; rfl
          by_cases h0 : nth Q k < 0
          · have h0' : decide (nth Q k < 0) = true := by simpa using h0
            have Hf : Hid (ordE P M mod no L Q = 5) := Hno.out (by omega)
            clear h0 Hno
            go_wp2_with fail
            go_ret
            exact ⟨ret_int Hf.out.symm, Below.next hbw1 hbr⟩
          · have h0' : decide (nth Q k < 0) = false := by simpa using h0
            by_cases h1 : (no : Int) ≤ nth Q k
            · have h1' : decide ((no : Int) ≤ nth Q k) = true := by simpa using h1
              have Hf : Hid (ordE P M mod no L Q = 5) := Hno.out (by omega)
              clear h0 h1 Hno
              go_wp2_with fail
              go_ret
              exact ⟨ret_int Hf.out.symm, Below.next hbw1 hbr⟩
            · have h1' : decide ((no : Int) ≤ nth Q k) = false := by simpa using h1
              obtain ⟨z, hz⟩ : ∃ z : Nat, nth Q k = z := ⟨(nth Q k).toNat, by omega⟩
              have hzm : z < no := by omega
              have ct := hbl.cell z hzm
              rw [nthB_bL hzm] at ct
              have ft := (hmine (by omega)).2 z hzm
              have hB := (hmine (by omega)).1
              rw [hz] at cq h0' h1'
              by_cases ht : (maskTo Q k).testBit z = true
              · have Hf : Hid (ordE P M mod no L Q = 5) := Hno.out (by rw [hz, Int.toNat_natCast, ht]; simp)
                rw [ht] at ct
                clear h0 h1 Hno ht hz
                go_wp2_with fail
                go_ret
                exact ⟨ret_int Hf.out.symm, Below.next hbw1 hbr⟩
              · have ht' : (maskTo Q k).testBit z = false := by simpa using ht
                have Hst : Hid (maskTo Q (k + 1) = maskTo Q k ||| 2 ^ z) := by show _ = _; rw [maskTo, hz, Int.toNat_natCast]
                have Hok : Hid (ordTo no Q (k + 1) = true) := by
                  show _ = _
                  rw [ordTo, hok.out, hz, Int.toNat_natCast, ht']
                  simp; omega
                rw [ht'] at ct
                clear h0 h1 Hno ht ht' hz
                go_wp2_with fail
                go_roundw
                case rel =>
                  refine ⟨k + 1, by omega, by go_num, ?_, Hok.out, hbr.setCell hB _⟩
                  have h1 := own_set hop z hzm (.bool true)
                  rw [← List.map_set, bL_set, ← Hst.out] at h1
                  exact h1
                case measure => simp [intOf] <;> omega
        · obtain rfl : k = no := by omega
          have Hf : Hid (ordE P M mod k L Q = 0) := by show _ = _; rw [HB.out, ordB, Hql.out, hok.out]; simp
          go_wp2_with fail
          go_ret
          exact ⟨ret_int Hf.out.symm, Below.next hbw1 hbr⟩
    · have hnn : ((no : Int) != m) = true := by simp; omega
      have Hf : Hid (ordE P M mod m L Q = 5) := by
        show _ = _
        rw [HB.out, ordB, Hql.out, show decide ((no : Int) = m) = false by simp; omega]; rfl
      clear hno
      go_wp2_with fail
      go_ret
      exact ⟨ret_int Hf.out.symm, hbw1⟩
  · have Hf : Hid (ordE P M mod N L Q = codeE P M mod N L) := by show _ = _; rw [ordE, if_neg hE]
    have hE2 : (codeE P M mod N L != 0) = true := by simpa using hE
    clear hE
    go_wp2_with fail
    go_ret
    exact ⟨ret_int Hf.out.symm, hbw1⟩

set_option maxRecDepth 100000 in
set_option maxHeartbeats 4000000 in
theorem rIsOrder_any (m : Nat) (ao : Option Addr) (no co : Nat) (Q : List Int) (w : World) (hm1 : 1 ≤ m) (hm64 : m ≤ 64) (hq : Ints w ao no Q) :
    Calls Tryz.prog 104 #[.int .i64 m, .slice ao no co] w fun e w' => e = .returned (.bool (ordB m Q)) ∧ Below w.heap.size w w' := by
  have Hql := Lib.hid hq.len
  have hplq := hq.pl
  have hmq := hq.max
  unfold maxLen at hmq
  go_enter Tryz.func104, Tryz.ntmps104
  by_cases hno : no = m
  · subst hno
    have hnn : ((no : Int) != no) = false := by simp
    go_wp2_with (at_make; refine wpList_mk rfl _ _ 58 4 rfl (.bool false) 1 Tryz.underlying58 infoBool rfl no rfl rfl (by omega) (by unfold maxLen; omega) ?_; intro a7 w2 hown hbel hge hlt)
    rw [bL_zero] at hown
    go_loopw [6] (fun iv wr => ∃ k : Nat, k ≤ no ∧ iv = .int .i64 k ∧ wr.ownsRow w.heap.size 4 1 (.slice a7 no no) no ((bL no (maskTo Q k)).map Value.bool) ∧ Hid (ordTo no Q k = true) ∧ Below w.heap.size w wr)
      (fun iv _ => no - (intOf iv).toNat)
    case atStart => exact ⟨0, Nat.zero_le _, rfl, hown, rfl, hbel⟩
    case round =>
      clear hown hbel
      obtain ⟨k, hk, rfl, hop, hok, hbr⟩ := hrel
      obtain ⟨hbl, hmine⟩ := Bools.own hop
      have hpl7 := hbl.pl
      by_cases hlt : k < no
      · have cq := (hq.keep hbr).cell k hlt
        have Hno : Hid (¬ (0 ≤ nth Q k ∧ nth Q k < no ∧ (maskTo Q k).testBit (nth Q k).toNat = false) → ordB no Q = false) := fun h => ordB_no (by rw [Hql.out]; exact hlt) h
        by_cases h0 : nth Q k < 0
        · have h0' : decide (nth Q k < 0) = true := by simpa using h0
          have Hf : Hid (ordB no Q = false) := Hno.out (by omega)
          clear h0 Hno
          go_wp2_with fail
          go_ret
          exact ⟨ret_bool Hf.out.symm, hbr⟩
        · have h0' : decide (nth Q k < 0) = false := by simpa using h0
          by_cases h1 : (no : Int) ≤ nth Q k
          · have h1' : decide ((no : Int) ≤ nth Q k) = true := by simpa using h1
            have Hf : Hid (ordB no Q = false) := Hno.out (by omega)
            clear h0 h1 Hno
            go_wp2_with fail
            go_ret
            exact ⟨ret_bool Hf.out.symm, hbr⟩
          · have h1' : decide ((no : Int) ≤ nth Q k) = false := by simpa using h1
            obtain ⟨z, hz⟩ : ∃ z : Nat, nth Q k = z := ⟨(nth Q k).toNat, by omega⟩
            have hzm : z < no := by omega
            have ct := hbl.cell z hzm
            rw [nthB_bL hzm] at ct
            have ft := (hmine (by omega)).2 z hzm
            have hB := (hmine (by omega)).1
            rw [hz] at cq h0' h1'
            by_cases ht : (maskTo Q k).testBit z = true
            · have Hf : Hid (ordB no Q = false) := Hno.out (by rw [hz, Int.toNat_natCast, ht]; simp)
              rw [ht] at ct
              clear h0 h1 Hno ht hz
              go_wp2_with fail
              go_ret
              exact ⟨ret_bool Hf.out.symm, hbr⟩
            · have ht' : (maskTo Q k).testBit z = false := by simpa using ht
              have Hst : Hid (maskTo Q (k + 1) = maskTo Q k ||| 2 ^ z) := by show _ = _; rw [maskTo, hz, Int.toNat_natCast]
              have Hok : Hid (ordTo no Q (k + 1) = true) := by
                show _ = _
                rw [ordTo, hok.out, hz, Int.toNat_natCast, ht']
                simp; omega
              rw [ht'] at ct
              clear h0 h1 Hno ht ht' hz
              go_wp2_with fail
              go_roundw
              case rel =>
                refine ⟨k + 1, by omega, by go_num, ?_, Hok.out, hbr.setCell hB _⟩
                have h1 := own_set hop z hzm (.bool true)
                rw [← List.map_set, bL_set, ← Hst.out] at h1
                exact h1
              case measure => simp [intOf] <;> omega
      · obtain rfl : k = no := by omega
        have Hf : Hid (ordB k Q = true) := by show _ = _; rw [ordB, Hql.out, hok.out]; simp
        go_wp2_with fail
        go_ret
        exact ⟨ret_bool Hf.out.symm, hbr⟩
  · have hnn : ((no : Int) != m) = true := by simp; omega
    have Hf : Hid (ordB m Q = false) := by
      show _ = _
      rw [ordB, Hql.out, show decide ((no : Int) = m) = false by simp; omega]; rfl
    clear hno
    go_wp2_with fail
    go_ret
    exact ⟨ret_bool Hf.out.symm, Below.refl _ _⟩
end

/- Bounds (plain law). -/
section
theorem dim_le {P M : Int} {mod : List Int} {N : Nat} {L : List (List Int)} (hE : codeE P M mod N L = 0) (x : Nat) : dimS (tblOf P M.toNat mod).ops L N x ≤ N := by
  have h1 := (dim_law hE x).2.2
  omega
theorem or_lt {x i : Nat} (hx : x < 18446744073709551616) (hi : i < 64) : x ||| 2 ^ i < 18446744073709551616 := by
  have : 2 ^ i < 2 ^ 64 := Nat.pow_lt_pow_right (by omega) hi
  exact Nat.or_lt_two_pow (n := 64) hx this
end

end Go.Proofs.YtakmnncmeefceaaGreat
