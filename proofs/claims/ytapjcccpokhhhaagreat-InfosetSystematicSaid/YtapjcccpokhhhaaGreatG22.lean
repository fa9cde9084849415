/- Elimination with columns put behind (plain law): the pivots stay. -/
import Derived.Test.YtapjcccpokhhhaaGreatG8
import Derived.Test.YtapjcccpokhhhaaGreatG21
import Derived.Test.YtapjcccpokhhhaaGreatG17
namespace Go.Proofs.YtapjcccpokhhhaaGreat
set_option linter.unusedVariables false
set_option linter.unusedSimpArgs false
set_option linter.unusedSectionVars false

/- The walk of matrix.Inverse, at an invertible matrix. -/
section
open Go.RowKit

/-- rows side by side -/
def joinL (D U : List (List Int)) : List (List Int) := List.zipWith (fun r s => r ++ s) D U
theorem joinL_take {k : Nat} : ∀ {D U : List (List Int)}, D.length = U.length → (∀ r ∈ D, r.length = k) → (joinL D U).map (List.take k) = D
  | [], [], _, _ => rfl
  | [], _ :: _, h, _ => by simp at h
  | _ :: _, [], h, _ => by simp at h
  | r :: D, u :: U, h, hr => by
    have ih := joinL_take (k := k) (D := D) (U := U) (by simpa using h) fun x hx => hr x (List.mem_cons_of_mem _ hx)
    unfold joinL at ih ⊢
    rw [List.zipWith_cons_cons, List.map_cons, ih]
    have := hr r (List.mem_cons_self ..)
    rw [← this, List.take_left']
    rfl
theorem joinL_drop {k : Nat} : ∀ {D U : List (List Int)}, D.length = U.length → (∀ r ∈ D, r.length = k) → (joinL D U).map (List.drop k) = U
  | [], [], _, _ => rfl
  | [], _ :: _, h, _ => by simp at h
  | _ :: _, [], h, _ => by simp at h
  | r :: D, u :: U, h, hr => by
    have ih := joinL_drop (k := k) (D := D) (U := U) (by simpa using h) fun x hx => hr x (List.mem_cons_of_mem _ hx)
    unfold joinL at ih ⊢
    rw [List.zipWith_cons_cons, List.map_cons, ih]
    have := hr r (List.mem_cons_self ..)
    rw [← this, List.drop_left']
    rfl
theorem joinL_rws {El : Int → Prop} {k m : Nat} : ∀ {D U : List (List Int)}, Rws El k D → Rws El m U → Rws El (k + m) (joinL D U)
  | [], _, _, _ => fun r hr => by simp [joinL] at hr
  | _ :: _, [], _, _ => fun r hr => by simp [joinL] at hr
  | d :: D, u :: U, hD, hU => by
    have ih := joinL_rws (D := D) (U := U) (fun r hr => hD r (List.mem_cons_of_mem _ hr)) (fun r hr => hU r (List.mem_cons_of_mem _ hr))
    intro r hr
    unfold joinL at hr ih
    rw [List.zipWith_cons_cons] at hr
    rcases List.mem_cons.1 hr with rfl | hr
    · have h1 := hD d (List.mem_cons_self ..)
      have h2 := hU u (List.mem_cons_self ..)
      refine ⟨by rw [List.length_append, h1.1, h2.1], fun x hx => ?_⟩
      rcases List.mem_append.1 hx with hx | hx
      · exact h1.2 x hx
      · exact h2.2 x hx
    · exact ih r hr
theorem unit_rws {El : Int → Prop} (h0 : El 0) (h1 : El 1) (n : Nat) : Rws El n (unitL n) := fun r hr => by
  unfold unitL at hr
  obtain ⟨i, _, rfl⟩ := List.mem_map.1 hr
  refine ⟨unitR_len n i, fun x hx => ?_⟩
  unfold unitR at hx
  rcases List.mem_or_eq_of_mem_set hx with hx | rfl
  · rw [List.eq_of_mem_replicate hx]; exact h0
  · exact h1
def invL (O : FOps) (D : List (List Int)) (k : Nat) : List (List Int) := (elimTo O (joinL D (unitL k)) k).1.map (List.drop k)
theorem invL_len (O : FOps) {D : List (List Int)} {k : Nat} (h : D.length = k) : (invL O D k).length = k := by
  unfold invL
  rw [List.length_map, elimTo_length]
  simp [joinL, unitL_len, h]

set_option maxRecDepth 100000 in
set_option maxHeartbeats 8000000 in
theorem inverse_any (P M : Int) (am : Option Addr) (mn cm : Nat) (mod : List Int) (k : Nat) (a : Option Addr) (c : Nat) (D : List (List Int)) (w : World) (hmod : Ints w am mn mod) (hi : Mat w a k D)
    (hB : fieldB P M mod = true) (hR : Rws (tblOf P M.toNat mod).El k D) (hk : k ≤ 64) (hpv : (elimTo (tblOf P M.toNat mod).ops (joinL D (unitL k)) k).2.length = k) :
    Calls Tryz.prog 69 #[.agg #[.int .i64 P, .int .i64 M, .slice am mn cm], .agg #[.int .i64 k, .slice a k c]] w
      fun e w' => ∃ a1 c1, e = .returned (.tuple #[.agg #[.int .i64 k, .slice a1 k c1], .int .i64 0]) ∧ MatN w.heap.size w' a1 k (invL (tblOf P M.toNat mod).ops D k) ∧ Below w.heap.size w w' := by
  have hDl := hi.len
  have F := fieldB_fld hB
  have hmE : matE (tblOf P M.toNat mod).q k D = 0 := by
    have h := fmatE_mk hB (show k ≤ 256 by omega) (show D.length ≤ 256 by omega) hR
    exact (fmatE_zero h).2
  have hJr := joinL_rws hR (unit_rws F.zero F.one k)
  have hJt := joinL_take (U := unitL k) (by rw [unitL_len]; exact hDl) (fun r hr => (hR r hr).1)
  have hJd := joinL_drop (U := unitL k) (by rw [unitL_len]; exact hDl) (fun r hr => (hR r hr).1)
  have hpla := hi.pl
  have HDr : Hid (∀ l ∈ D, l.length ≤ 1000000) := fun l hl => by rw [(hR l hl).1]; omega
  obtain ⟨G, hGG⟩ : ∃ G, tblOf P M.toNat mod = G := ⟨_, rfl⟩
  unfold invL
  obtain ⟨J, hJ⟩ : ∃ J, joinL D (unitL k) = J := ⟨_, rfl⟩
  rw [hGG, hJ] at hpv hJr
  rw [hJ] at hJt hJd
  rw [hGG, hJ]
  have HJ := Lib.hid (And.intro hJr (And.intro hJt hJd))
  have Hpv := Lib.hid hpv
  have HDl := Lib.hid hDl
  have HGG := Lib.hid hGG
  have HB := Lib.hid hB
  have HmE := Lib.hid hmE
  clear hJr hJt hJd hpv hDl hGG F hR hJ hB hmE
  go_enter Tryz.func69, Tryz.ntmps69
  go_wp2_with fail
  obtain ⟨W, hW⟩ : ∃ W : World, W = ((((w.alloc (.cells #[.int .i64 P, .int .i64 M, .slice am mn cm] 24)).alloc (.cells #[.int .i64 k, .slice a k c] 52)).alloc (.cells #[.int .i64 0, .slice none 0 0] 52)).alloc (.cells #[.int .i64 k, .slice a k c] 52)) := ⟨_, rfl⟩
  rw [← hW]
  have hbW : Below w.heap.size w W := by rw [hW]; exact ((((Below.refl _ _).alloc (Nat.le_refl _) _).alloc (by simp) _).alloc (by simp; omega) _).alloc (by simp; omega) _
  have hsW : W.heap.size = w.heap.size + 4 := by rw [hW]; simp
  have x1 : Box W (w.heap.size + 1) [.int .i64 k, .slice a k c] := by rw [hW]; exact ((Box.new _ _ _ (by simp)).alloc _).alloc _
  have x2 : Box W (w.heap.size + 1 + 1) [.int .i64 0, .slice none 0 0] := by rw [hW]; exact (Box.new _ _ _ (by simp)).alloc _
  have q3 : W.cell? ⟨w.heap.size + 1 + 1 + 1, 0, none⟩ = some (.int .i64 k) ∧ W.cell? ⟨w.heap.size + 1 + 1 + 1, 1, none⟩ = some (.slice a k c) := by rw [hW]; exact ⟨cell_alloc_at _ _ _ (by simp) 0, cell_alloc_at _ _ _ (by simp) 1⟩
  have hMs : Mats W (some ⟨w.heap.size + 1 + 1 + 1, 0, none⟩) 1 [((k : Int), D)] := ⟨rfl, fun _ => rfl, by unfold maxLen; omega, fun i hi' => by
    have : i = 0 := by simp at hi'; omega
    subst this
    exact ⟨a, k, c, by simpa using q3.1, by simpa using q3.2, hi.keep hbW⟩⟩
  have HX := Lib.hid (And.intro x1 x2)
  have HsW := Lib.hid hsW
  have HbW := Lib.hid hbW
  clear hW hsW x1 x2 q3
  refine (open_any P M am mn cm mod _ 1 1 _ W (hmod.keep hbW) hMs).mono ?_
  rintro e w1 ⟨hb1, hcase⟩
  rw [matsE_one] at hcase
  rcases hcase with ⟨hB, _⟩ | ⟨_, er, h0, h1, _⟩ | ⟨_, _, b, rfl, hG, hbl⟩
  · rw [HB.out] at hB; exact absurd hB (by decide)
  · rw [HmE.out] at h1; exact absurd h1.symm h0
  rw [HGG.out] at hG
  have hbw1 := Below.next hbW hb1
  have r1 := HX.out.1.keep hb1
  have m0 := r1.cell 0 rfl
  have m1 := r1.cell 1 rfl
  have hkk : ((k : Int) != k) = false := by simp
  have hi1 := hi.keep hbw1
  clear hMs hbW r1 hbl hmod hi
  go_wp2_with fail
  refine (unit_any k w1 (by omega)).mono ?_
  rintro e w2 ⟨ae, ce, S, rfl, hOu, hb2⟩
  rw [unitL_len] at hOu ⊢
  have HS : Hid (∀ V, Below w2.heap.size w2 V → V.cell? ⟨w.heap.size + 1, 0, none⟩ = some (.int .i64 k) ∧ V.cell? ⟨w.heap.size + 1, 1, none⟩ = some (.slice a k c)) := fun V hV => by
    have r2 := HX.out.1.keep (Below.next (Below.next hb1 hb2) hV)
    exact ⟨r2.cell 0 rfl, r2.cell 1 rfl⟩
  have Hcl : Hid (∀ V, Below w2.heap.size w2 V → Calls Tryz.prog 119 #[.slice a k c] V fun e w' => ∃ a1 c1 R, e = .returned (.slice a1 k c1) ∧ OMat w' V.heap.size a1 k c1 R D ∧ Below V.heap.size V w') := fun V hV => by
    refine (clone_any a k c D (hi1.keep (Below.next hb2 hV)) (by omega) HDr.out).mono ?_
    rintro e w' ⟨a1, c1, R, rfl, h1, h2⟩
    rw [HDl.out] at h1 ⊢
    exact ⟨a1, c1, R, rfl, h1, h2⟩
  have Hel : Hid (∀ V V2 a1 c1 R, Below w2.heap.size w2 V → OMat V2 V.heap.size a1 k c1 R D → Below V.heap.size V V2 → ∀ V3, Below V2.heap.size V2 V3 →
      Calls Tryz.prog 118 #[.pointer (some ⟨b, 0, none⟩), .slice a1 k c1, .int .i64 k, .slice ae k ce] V3 fun e w' => ∃ ap cp d, e = .returned (.tuple #[.slice ap k cp, .int .i64 d]) ∧
        MatN w1.heap.size w' ae k ((elimTo G.ops J k).1.map (List.drop k)) ∧ Below w1.heap.size w1 w') := fun V V2 a1 c1 R hV hO hV2 V3 hV3 => by
    have hb13 : Below w1.heap.size w1 V3 := Below.next (Below.next hb2 hV) (Below.next hV2 hV3)
    have hsz2 := hb2.size
    have hszV := hV.size
    have hO2 : OMat2 V3 w1.heap.size a1 k c1 R ae ce S k J := by
      refine ⟨by rw [HJ.out.2.1]; exact (hO.keep hV3).mono (by omega), by rw [HJ.out.2.2]; exact (hOu.keep (Below.next hV (Below.next hV2 hV3))), fun x hx hx2 => ?_⟩
      have h1 := (hO.lt x hx).1
      have h2 := (hOu.lt x hx2).2
      omega
    refine (eliminateA_any w1 a1 k c1 k k (k + k) R ae ce S J hG hb13 hO2 HJ.out.1 (Nat.le_refl _) (by omega) (by omega) (by omega)).mono ?_
    rintro e w' ⟨R', S', ap, cp, d, rfl, hO', _, _, hb'⟩
    exact ⟨ap, cp, d, by rw [Hpv.out], MatN.own hO'.om2, hb'⟩
  obtain ⟨k0, k1⟩ := HS.out w2 (Below.refl _ _)
  have HbW1 := Lib.hid (And.intro hb1 hbw1)
  clear hOu hi1 hG m0 m1 hb1 hbw1
  go_wp2_with fail
  go_cut [9] (fun v wx => ∃ ap cp, v = .slice ap k cp ∧ MatN w1.heap.size wx ae k ((elimTo G.ops J k).1.map (List.drop k)) ∧ Below w1.heap.size w1 wx)
  case first =>
    go_region_law ((first
      | (go_simp; go_at_call 119; ((with_reducible refine (Hcl.out _ (Below.refl _ _).drew).mono ?_); rintro e w4 ⟨a4, c4, R4, rfl, hO4, hb4⟩; obtain ⟨k0, k1⟩ := HS.out w4 (Below.next (Below.refl _ _).drew hb4)))
      | (go_simp; go_at_call 118; ((with_reducible refine (Hel.out _ w4 a4 c4 R4 (Below.refl _ _).drew hO4 hb4 _ (by first | exact Below.refl _ _ | exact (Below.refl _ _).drew)).mono ?_); rintro e w5 ⟨ap, cp, d, rfl, hM5, hb5⟩))))
    all_goals (
      go_wp2_with fail
      go_meet
      exact ⟨ap, cp, rfl, hM5, hb5⟩)
  obtain ⟨ap, cp, rfl, hM, hbc⟩ := hcut
  generalize wc = U at *
  have r2 := HX.out.1.keep (Below.next HbW1.out.1 hbc)
  have k0' := r2.cell 0 rfl
  have z6 := HX.out.2.keep (Below.next HbW1.out.1 hbc)
  have z0 := z6.cell 0 rfl
  have z1 := z6.cell 1 rfl
  have f0 := z6.frozen 0
  have f1 := z6.frozen 1
  have hs := HsW.out
  have hs1 := HbW1.out.1.size
  have HF := Lib.hid (And.intro (((hM.setCell (p := ⟨w.heap.size + 1 + 1, 0, none⟩) (by simp; omega) (.int .i64 k)).setCell (p := ⟨w.heap.size + 1 + 1, 1, none⟩) (by simp; omega) (.slice ae k ce)).mono (show w.heap.size ≤ w1.heap.size by omega))
    (((Below.next HbW1.out.2 hbc).setCell (p := ⟨w.heap.size + 1 + 1, 0, none⟩) (by simp; omega) (.int .i64 k)).setCell (p := ⟨w.heap.size + 1 + 1, 1, none⟩) (by simp; omega) (.slice ae k ce)))
  clear hM z6 r2 k0 k1 HS Hcl Hel
  go_wp2_with fail
  exact bodyPost_ret (v := .tuple #[.agg #[.int .i64 k, .slice ae k ce], .int .i64 0]) (by simp [results, Tryz.results69, go_sem, z0, z1]) rfl ⟨ae, ce, rfl, HF.out.1, HF.out.2⟩
end

/- The walks of infoset.Is, is. -/
section
open Go.RowKit

/-- whether a set is an information set -/
def isV (P M : Int) (mod : List Int) (N : Int) (L : List (List Int)) (Q : List Int) : Bool :=
  decide (rankE P M mod N L Q = 0) && (decide ((grS (tblOf P M.toNat mod).ops L Q).length = Q.length) && decide ((grS (tblOf P M.toNat mod).ops L Q).length = L.length))

set_option maxRecDepth 100000 in
set_option maxHeartbeats 4000000 in
theorem infIs_any (P M : Int) (am : Option Addr) (mn cm : Nat) (mod : List Int) (N : Int) (a : Option Addr) (n c : Nat) (L : List (List Int)) (ao : Option Addr) (no co : Nat) (Q : List Int) (w : World)
    (hmod : Ints w am mn mod) (hi : Mat w a n L) (hq : Ints w ao no Q) :
    Calls Tryz.prog 61 #[.agg #[.int .i64 P, .int .i64 M, .slice am mn cm, .int .i64 N, .slice a n c], .slice ao no co] w
      fun e w' => e = .returned (.tuple #[.bool (isV P M mod N L Q), .int .i64 (rankE P M mod N L Q)]) ∧ Below w.heap.size w w' := by
  have hql := hq.len
  have hil := hi.len
  go_enter Tryz.func61, Tryz.ntmps61
  go_wp2_with fail
  obtain ⟨W, hW⟩ : ∃ W : World, W = w.alloc (.cells #[.int .i64 P, .int .i64 M, .slice am mn cm, .int .i64 N, .slice a n c] 27) := ⟨_, rfl⟩
  rw [← hW]
  have hbW : Below w.heap.size w W := by rw [hW]; exact below1 _ _
  have x0 : Box W w.heap.size [.int .i64 P, .int .i64 M, .slice am mn cm, .int .i64 N, .slice a n c] := by rw [hW]; exact Box.new _ _ _ rfl
  have HX := Lib.hid x0
  clear hW x0
  refine (rank_any P M am mn cm mod N a n c L ao no co Q W (hmod.keep hbW) (hi.keep hbW) (hq.keep hbW)).mono ?_
  rintro e w1 ⟨hb1, ⟨hE, rfl⟩ | ⟨hE, rfl⟩⟩
  · have HV : Hid (isV P M mod N L Q = false) := by show _ = _; unfold isV; rw [decide_eq_false hE]; rfl
    have hE1 : (rankE P M mod N L Q == 0) = false := by simpa using hE
    have hbw1 := Below.next hbW hb1
    clear hE hql hil
    go_wp2_with fail
    go_ret2
    exact ⟨by rw [HV.out]; rfl, hbw1⟩
  · have HV : Hid (isV P M mod N L Q = (decide ((grS (tblOf P M.toNat mod).ops L Q).length = no) && decide ((grS (tblOf P M.toNat mod).ops L Q).length = n))) := by show _ = _; unfold isV; rw [decide_eq_true hE, hql, hil]; rfl
    have hbw1 := Below.next hbW hb1
    have xU := HX.out.keep hb1
    have b4 := xU.cell 4 rfl
    have HE := Lib.hid hE
    clear hE hql hil xU
    obtain ⟨r, hr⟩ : ∃ r, (grS (tblOf P M.toNat mod).ops L Q).length = r := ⟨_, rfl⟩
    rw [hr] at HV ⊢
    clear hr
    by_cases h1 : r = no
    · subst h1
      have h1' : ((r : Int) == r) = true := by simp
      by_cases h2 : r = n
      · subst h2
        have HV2 : Hid (isV P M mod N L Q = true) := by show _ = _; rw [HV.out]; simp
        clear HV
        go_wp2_with fail
        go_ret2
        exact ⟨by rw [HV2.out, HE.out]; rfl, hbw1⟩
      · have h2' : ((r : Int) == n) = false := by simp only [beq_eq_false_iff_ne, ne_eq]; omega
        have HV2 : Hid (isV P M mod N L Q = false) := by show _ = _; rw [HV.out]; simp [h2]
        clear h2 HV
        go_wp2_with fail
        go_ret2
        exact ⟨by rw [HV2.out, HE.out]; rfl, hbw1⟩
    · have h1' : ((r : Int) == no) = false := by simp only [beq_eq_false_iff_ne, ne_eq]; omega
      have HV2 : Hid (isV P M mod N L Q = false) := by show _ = _; rw [HV.out]; simp [h1]
      clear h1 HV
      go_wp2_with fail
      go_ret2
      exact ⟨by rw [HV2.out, HE.out]; rfl, hbw1⟩

set_option maxRecDepth 100000 in
set_option maxHeartbeats 4000000 in
theorem infis_any {w : World} {b : Nat} {G : Tbl} (P M : Int) (am : Option Addr) (mn cm : Nat) (N : Int) (a : Option Addr) (n c : Nat) (L : List (List Int)) (m : Nat) (ao : Option Addr) (no co : Nat) (Q : List Int)
    (h : GFw w b G) (hi : Mat w a n L) (hR : Rws G.El m L) (hq : Ints w ao no Q) (hQ : ∀ k, k < no → 0 ≤ nth Q k ∧ nth Q k < m) (hn : n ≤ 1000000) (hno : no ≤ 1000000) :
    Calls Tryz.prog 113 #[.pointer (some ⟨b, 0, none⟩), .agg #[.int .i64 P, .int .i64 M, .slice am mn cm, .int .i64 N, .slice a n c], .slice ao no co] w
      fun e w' => e = .returned (.bool (decide (Q.length = L.length) && decide ((grS G.ops L Q).length = Q.length))) ∧ Below w.heap.size w w' := by
  have hql := hq.len
  have hil := hi.len
  go_enter Tryz.func113, Tryz.ntmps113
  go_upto_region 1 with fail
  obtain ⟨W, hW⟩ : ∃ W : World, W = w.alloc (.cells #[.int .i64 P, .int .i64 M, .slice am mn cm, .int .i64 N, .slice a n c] 27) := ⟨_, rfl⟩
  rw [← hW]
  have hbW : Below w.heap.size w W := by rw [hW]; exact below1 _ _
  have x0 : Box W w.heap.size [.int .i64 P, .int .i64 M, .slice am mn cm, .int .i64 N, .slice a n c] := by rw [hW]; exact Box.new _ _ _ rfl
  have hc := greedy_any P M am mn cm N a n c L m ao no co Q (h.keep hbW) (hi.keep hbW) hR (hq.keep hbW) hQ hn hno
  have HC := Lib.hid hc
  have HV : Hid ((decide (Q.length = L.length) && decide ((grS G.ops L Q).length = Q.length)) = (decide (no = n) && decide ((grS G.ops L Q).length = no))) := by show _ = _; rw [hql, hil]
  clear hW hQ hR hql hil hc
  have b0 := x0.cell 0 rfl
  have b1 := x0.cell 1 rfl
  have b2 := x0.cell 2 rfl
  have b3 := x0.cell 3 rfl
  have b4 := x0.cell 4 rfl
  clear x0
  by_cases h1 : no = n
  · subst h1
    have h1' : ((no : Int) == no) = true := by simp
    go_wp2_with fail
    refine HC.out.mono ?_
    rintro e w4 ⟨a4, c4, rfl, hown4, hb4⟩
    have hF := Below.next hbW hb4
    clear HC hown4
    obtain ⟨out, ho⟩ : ∃ out, grS G.ops L Q = out := ⟨_, rfl⟩
    have Ho := Lib.hid ho
    rw [ho]
    clear ho
    by_cases h2 : out.length = no
    · have h2' : ((out.length : Int) == no) = true := by simp only [beq_iff_eq]; omega
      have HV2 := Lib.hid (HV.out.trans (show _ = true by rw [Ho.out]; simp [h2]))
      clear h2 HV
      go_wp2_with fail
      go_ret
      exact ⟨ret_bool HV2.out.symm, hF⟩
    · have h2' : ((out.length : Int) == no) = false := by simp only [beq_eq_false_iff_ne, ne_eq]; omega
      have HV2 := Lib.hid (HV.out.trans (show _ = false by rw [Ho.out]; simp [h2]))
      clear h2 HV
      go_wp2_with fail
      go_ret
      exact ⟨ret_bool HV2.out.symm, hF⟩
  · have h1' : ((no : Int) == n) = false := by simp only [beq_eq_false_iff_ne, ne_eq]; omega
    have HV2 := Lib.hid (HV.out.trans (show _ = false by simp [h1]))
    clear h1 HV HC
    go_wp2_with fail
    go_ret
    exact ⟨ret_bool HV2.out.symm, hbW⟩
end

/- Elimination with columns put behind (plain law): the pivots stay. -/
section
theorem nthR_map0 (f : List Int → List Int) (hf : f [] = []) (L : List (List Int)) (i : Nat) : nthR (L.map f) i = f (nthR L i) := by
  by_cases h : i < L.length
  · exact nthR_mapf f L h
  · rw [nthR_nil_of_le (by simpa using h), nthR_nil_of_le (by omega), hf]
section
variable {O : FOps} {k : Nat}
theorem findTo_take {J : List (List Int)} {c : Nat} (hc : c < k) : ∀ f i, findTo (J.map (List.take k)) c i f = findTo J c i f
  | 0, i => rfl
  | f + 1, i => by
    rw [findTo, findTo, nthR_map0 _ List.take_nil, nth_takeL _ hc, findTo_take hc f (i + 1)]
theorem findRow_take {J : List (List Int)} {c : Nat} (hc : c < k) (i : Nat) : findRow (J.map (List.take k)) c i = findRow J c i := by
  unfold findRow
  rw [List.length_map, findTo_take hc]
theorem clearRow_take {pv r : List Int} {c : Nat} (hc : c < k) : clearRow O (pv.take k) c (r.take k) = (clearRow O pv c r).take k := by
  unfold clearRow
  rw [nth_takeL _ hc]
  split
  · rfl
  · rw [addRow_take]
theorem clearTo_take {J : List (List Int)} {t c : Nat} (hc : c < k) : ∀ i, clearTo O t c (J.map (List.take k)) i = (clearTo O t c J i).map (List.take k)
  | 0 => rfl
  | i + 1 => by
    rw [clearTo, clearTo, clearTo_take hc i]
    split
    · rfl
    · rw [nthR_map0 _ List.take_nil, nthR_map0 _ List.take_nil, clearRow_take hc, List.map_set]
theorem normRow_take {J : List (List Int)} {t c : Nat} (hc : c < k) : normRow O (J.map (List.take k)) t c = (normRow O J t c).map (List.take k) := by
  unfold normRow
  rw [nthR_map0 _ List.take_nil, nth_takeL _ hc]
  split
  · rfl
  · rw [List.map_set, List.map_take]
theorem swapRow_take {J : List (List Int)} {t i : Nat} : swapRow (J.map (List.take k)) t i = (swapRow J t i).map (List.take k) := by
  unfold swapRow
  rw [nthR_map0 _ List.take_nil, nthR_map0 _ List.take_nil, List.map_set, List.map_set]
theorem pivotS_take {J : List (List Int)} {t i c : Nat} (hc : c < k) : pivotS O (J.map (List.take k)) t i c = (pivotS O J t i c).map (List.take k) := by
  have h : ∀ J : List (List Int), clearTo O t c (normRow O (J.map (List.take k)) t c) (normRow O (J.map (List.take k)) t c).length = (clearTo O t c (normRow O J t c) (normRow O J t c).length).map (List.take k) := fun J => by
    rw [normRow_take hc, List.length_map, clearTo_take hc]
  unfold pivotS
  split
  · exact h J
  · rw [swapRow_take]; exact h _
theorem elimTo_take {J : List (List Int)} : ∀ c, c ≤ k → (elimTo O (J.map (List.take k)) c).1 = (elimTo O J c).1.map (List.take k) ∧ (elimTo O (J.map (List.take k)) c).2 = (elimTo O J c).2
  | 0, _ => ⟨rfl, rfl⟩
  | c + 1, h => by
    obtain ⟨h1, h2⟩ := elimTo_take (J := J) c (by omega)
    simp only [elimTo]
    rw [h1, h2, List.length_map, findRow_take (by omega)]
    split
    · split
      · exact ⟨h1, h2⟩
      · exact ⟨pivotS_take (by omega), rfl⟩
    · exact ⟨h1, h2⟩
end
section
variable {O : FOps} {El : Int → Prop} {m : Nat}
theorem elim_gr (F : Fld O El) {L : List (List Int)} (hL : Rws El m L) {Q : List Int} (hQ : InN m Q) : (elimTo O (L.map (pickL Q)) Q.length).2.length = (grS O L Q).length := by
  refine Rk.same (col_clo F hL) (pick_rk F hL hQ) (grS_rk F hL Q) fun x => ?_
  rw [mem_grL, List.mem_map]
  constructor
  · rintro ⟨j, hj, rfl⟩; exact ⟨j, List.mem_range.1 hj, rfl⟩
  · rintro ⟨j, hj, e⟩; exact ⟨j, List.mem_range.2 hj, e⟩
theorem sys_pv (F : Fld O El) {L : List (List Int)} (hL : Rws El m L) {Q : List Int} (hQ : InN m Q) (hl : Q.length = L.length) (hg : (grS O L Q).length = Q.length) :
    (elimTo O (joinL (L.map (pickL Q)) (unitL Q.length)) Q.length).2.length = Q.length := by
  have hJ := joinL_take (k := Q.length) (D := L.map (pickL Q)) (U := unitL Q.length) (by rw [List.length_map, unitL_len]; omega) (fun r hr => by
    obtain ⟨s, _, rfl⟩ := List.mem_map.1 hr
    simp [pickL])
  have h := (elimTo_take (O := O) (k := Q.length) (J := joinL (L.map (pickL Q)) (unitL Q.length)) Q.length (Nat.le_refl _)).2
  rw [hJ] at h
  rw [← h, elim_gr F hL hQ, hg]
end
end

end Go.Proofs.YtapjcccpokhhhaaGreat
