/- Information sets are bases (plain laws): greedy sets are information sets, and exchanges exist. -/
import Derived.Test.YtapjcccpokhhhaaGreatG22
import Derived.Test.YtapjcccpokhhhaaGreatG25
import Derived.Test.YtapjcccpokhhhaaGreatG24
import Derived.Test.YtapjcccpokhhhaaGreatG20
import Derived.Test.YtapjcccpokhhhaaGreatG21
import Derived.Test.YtapjcccpokhhhaaGreatG12
namespace Go.Proofs.YtapjcccpokhhhaaGreat
set_option linter.unusedVariables false
set_option linter.unusedSimpArgs false
set_option linter.unusedSectionVars false

/- The walk of matrix.Mul, at matrices that fit. -/
section
open Go.RowKit

def mtL (O : FOps) (m : Nat) (A B : List (List Int)) : List (List Int) := A.map fun r => cmbTo O m r B B.length

set_option maxRecDepth 100000 in
set_option maxHeartbeats 8000000 in
theorem mul_any (P M : Int) (am : Option Addr) (mn cm : Nat) (mod : List Int) (k : Nat) (a : Option Addr) (n c : Nat) (A : List (List Int)) (m : Nat) (ab : Option Addr) (cb : Nat) (B : List (List Int)) (w : World) (hmod : Ints w am mn mod) (hi : Mat w a n A) (hb : Mat w ab k B)
    (hfB : fieldB P M mod = true) (hA : Rws (tblOf P M.toNat mod).El k A) (hBr : Rws (tblOf P M.toNat mod).El m B) (hk : k ≤ 64) (hm1 : 1 ≤ m) (hm : m ≤ 64) (hn : n ≤ 64) :
    Calls Tryz.prog 70 #[.agg #[.int .i64 P, .int .i64 M, .slice am mn cm], .agg #[.int .i64 k, .slice a n c], .agg #[.int .i64 m, .slice ab k cb]] w
      fun e w' => ∃ a1 c1, e = .returned (.tuple #[.agg #[.int .i64 m, .slice a1 n c1], .int .i64 0]) ∧ MatN w.heap.size w' a1 n (mtL (tblOf P M.toNat mod).ops m A B) ∧ Below w.heap.size w w' := by
  have hAl := hi.len
  have hBl := hb.len
  have F := fieldB_fld hfB
  have hmE1 : matE (tblOf P M.toNat mod).q k A = 0 := (fmatE_zero (fmatE_mk hfB (show k ≤ 256 by omega) (show A.length ≤ 256 by omega) hA)).2
  have hmE2 : matE (tblOf P M.toNat mod).q m B = 0 := (fmatE_zero (fmatE_mk hfB (show m ≤ 256 by omega) (show B.length ≤ 256 by omega) hBr)).2
  have hpla := hi.pl
  obtain ⟨G, hGG⟩ : ∃ G, tblOf P M.toNat mod = G := ⟨_, rfl⟩
  rw [hGG] at hA hBr F hmE1 hmE2 ⊢
  obtain ⟨L2, hL2⟩ : ∃ L2, mtL G.ops m A B = L2 := ⟨_, rfl⟩
  have HL2l : Hid (L2.length = n) := by show _ = _; rw [← hL2, mtL, List.length_map]; exact hAl
  have HLk : Hid (∀ j, j < n → L2.take (j + 1) = L2.take j ++ [cmbTo G.ops m (nthR A j) B k]) := fun j hj => by
    have hj' : j < L2.length := by rw [HL2l.out]; exact hj
    rw [List.take_succ_eq_append_getElem hj', ← nthR_getElem hj', ← hL2, mtL, nthR_map _ A (by omega), hBl]
  rw [hL2]
  have HAr : Hid (∀ j, j < n → (nthR A j).length = k ∧ ∀ x ∈ nthR A j, G.El x) := fun j hj => hA.row (by omega)
  have HBr := Lib.hid hBr
  have HFl := Lib.hid F
  have HBl := Lib.hid hBl
  have HB := Lib.hid hfB
  have HmE := Lib.hid (And.intro hmE1 hmE2)
  have HGG := Lib.hid hGG
  clear hA hBr F hAl hBl hfB hmE1 hmE2 hGG hL2
  go_enter Tryz.func70, Tryz.ntmps70
  go_wp2_with fail
  obtain ⟨W, hW⟩ : ∃ W : World, W = (((((w.alloc (.cells #[.int .i64 P, .int .i64 M, .slice am mn cm] 24)).alloc (.cells #[.int .i64 k, .slice a n c] 52)).alloc (.cells #[.int .i64 m, .slice ab k cb] 52)).alloc (.cells #[.int .i64 0, .slice none 0 0] 52)).alloc (.cells #[.int .i64 k, .slice a n c, .int .i64 m, .slice ab k cb] 52)) := ⟨_, rfl⟩
  rw [← hW]
  have hbW : Below w.heap.size w W := by rw [hW]; exact (((((Below.refl _ _).alloc (Nat.le_refl _) _).alloc (by simp) _).alloc (by simp; omega) _).alloc (by simp; omega) _).alloc (by simp; omega) _
  have hsW : W.heap.size = w.heap.size + 5 := by rw [hW]; simp
  have x1 : Box W (w.heap.size + 1) [.int .i64 k, .slice a n c] := by rw [hW]; exact (((Box.new _ _ _ (by simp)).alloc _).alloc _).alloc _
  have x2 : Box W (w.heap.size + 1 + 1) [.int .i64 m, .slice ab k cb] := by rw [hW]; exact ((Box.new _ _ _ (by simp)).alloc _).alloc _
  have x3 : Box W (w.heap.size + 1 + 1 + 1) [.int .i64 0, .slice none 0 0] := by rw [hW]; exact (Box.new _ _ _ (by simp)).alloc _
  have q3 : ∀ i v, [Value.int .i64 k, .slice a n c, .int .i64 m, .slice ab k cb][i]? = some v → W.cell? ⟨w.heap.size + 1 + 1 + 1 + 1, i, none⟩ = some v := fun i v hv => by
    have h : Box W (w.heap.size + 1 + 1 + 1 + 1) [.int .i64 k, .slice a n c, .int .i64 m, .slice ab k cb] := by rw [hW]; exact Box.new _ _ _ (by simp)
    exact h.cell i hv
  have hMs : Mats W (some ⟨w.heap.size + 1 + 1 + 1 + 1, 0, none⟩) 2 [((k : Int), A), ((m : Int), B)] := ⟨rfl, fun _ => rfl, by unfold maxLen; omega, fun i hi' => by
    match i, hi' with
    | 0, _ => exact ⟨a, n, c, by simpa using q3 0 _ rfl, by simpa using q3 1 _ rfl, hi.keep hbW⟩
    | 1, _ => exact ⟨ab, k, cb, by simpa using q3 2 _ rfl, by simpa using q3 3 _ rfl, hb.keep hbW⟩⟩
  have HX := Lib.hid (And.intro x1 (And.intro x2 x3))
  have HsW := Lib.hid hsW
  have HbW := Lib.hid hbW
  clear hW hsW x1 x2 x3 q3
  refine (open_any P M am mn cm mod _ 2 2 _ W (hmod.keep hbW) hMs).mono ?_
  rintro e w1 ⟨hb1, hcase⟩
  have hms : matsE (tblOf P M.toNat mod).q [((k : Int), A), ((m : Int), B)] = 0 := by
    rw [HGG.out]
    simp [matsE, HmE.out.1, HmE.out.2]
  rcases hcase with ⟨hB, _⟩ | ⟨_, er, h0, h1, _⟩ | ⟨_, _, b, rfl, hG, hbl⟩
  · rw [HB.out] at hB; exact absurd hB (by decide)
  · rw [hms] at h1; exact absurd h1.symm h0
  rw [HGG.out] at hG
  have hbw1 := Below.next hbW hb1
  have r1 := HX.out.1.keep hb1
  have r2 := HX.out.2.1.keep hb1
  have m0 := r1.cell 0 rfl
  have m1 := r1.cell 1 rfl
  have p0 := r2.cell 0 rfl
  have p1 := r2.cell 1 rfl
  have hkk : ((k : Int) != k) = false := by simp
  clear hMs hbW r1 r2 hbl hmod hms
  go_upto_region 6 with fail
  obtain ⟨g, hg⟩ : ∃ g, w1.heap.size = g := ⟨_, rfl⟩
  have HGs := Lib.hid hg
  clear hg
  go_cut [10] (fun v wx => v = .pointer (some ⟨w1.heap.size, 0, none⟩) ∧ MOut wx w1.heap.size (.int .i64 m) none 0 0 [] [] ∧ Below w1.heap.size w1 wx)
  case first =>
    go_wp2_with fail
    go_meet
    exact ⟨rfl, MOut.start (Box.new w1 [.int .i64 m, .slice none 0 0] _ rfl), below1 _ _⟩
  obtain ⟨rfl, hO0, hbc⟩ := hcut
  generalize wc = U at *
  have hs3 := HGs.out
  rw [hs3] at hO0 ⊢
  have HbU := Lib.hid (Below.next hb1 hbc)
  have HbU1 := Lib.hid hbc
  have HS : Hid (∀ V, Below W.heap.size W V → V.cell? ⟨w.heap.size + 1, 0, none⟩ = some (.int .i64 k) ∧ V.cell? ⟨w.heap.size + 1, 1, none⟩ = some (.slice a n c) ∧ V.cell? ⟨w.heap.size + 1 + 1, 0, none⟩ = some (.int .i64 m) ∧ V.cell? ⟨w.heap.size + 1 + 1, 1, none⟩ = some (.slice ab k cb)) := fun V hV => by
    have r1 := HX.out.1.keep hV
    have r2 := HX.out.2.1.keep hV
    exact ⟨r1.cell 0 rfl, r1.cell 1 rfl, r2.cell 0 rfl, r2.cell 1 rfl⟩
  clear m0 m1 p0 p1
  obtain ⟨m0, m1, p0, p1⟩ := HS.out U HbU.out
  have hgU := hO0.lt
  have hgW : W.heap.size ≤ g := by have := hb1.size; omega
  have hw1g : w1.heap.size ≤ g := by omega
  clear hbc hs3
  go_wp2_with fail
  clear m0 m1 p0 p1
  go_loopw [38] (fun iv wr => ∃ (j : Nat) (a1 : Option Addr) (c1 : Nat) (Rr : List (Option Addr × Nat)), j ≤ n ∧ iv = .int .i64 j ∧ MOut wr g (.int .i64 m) a1 j c1 Rr (L2.take j) ∧ Below g U wr) (fun iv _ => n - (intOf iv).toNat)
  case atStart => exact ⟨0, none, 0, [], Nat.zero_le _, rfl, by simpa using hO0, Below.refl _ _⟩
  case round =>
    clear hO0
    obtain ⟨j, a1, c1, Rr, hj, rfl, hO, hbr⟩ := hrel
    have hbWr := Below.trans HbU.out (hbr.mono hgW)
    have hbwr := Below.next HbW.out hbWr
    have hb1r : Below w1.heap.size w1 wr := Below.trans HbU1.out (hbr.mono hw1g)
    have hgr := hO.lt
    by_cases hltj : j < n
    · obtain ⟨ra, rn, rc, hcell, hrow⟩ := (hi.keep hbwr).cell j hltj
      have hA := HAr.out j hltj
      have hrn : rn = k := by rw [← hrow.len]; exact hA.1
      rw [hrn] at hcell hrow
      have Htk := Lib.hid (HLk.out j hltj)
      obtain ⟨l, hl⟩ : ∃ l, nthR A j = l := ⟨_, rfl⟩
      rw [hl] at Htk hrow hA
      have Hvec : Hid (∀ V, Below wr.heap.size wr V → Calls Tryz.prog 120 #[.pointer (some ⟨b, 0, none⟩), .slice ra k rc, .slice ab k cb, .int .i64 m] V fun e w' =>
          ∃ a1 c1, e = .returned (.slice a1 m c1) ∧ w'.ownsRow V.heap.size 3 1 (.slice a1 m c1) m ((cmbTo G.ops m l B k).map (Value.int .i64)) ∧ Below V.heap.size V w') := fun V hV =>
        vec_any ra rc l ab k cb B m (hG.keep (Below.next hb1r hV)) HFl.out (hrow.keep hV) (hb.keep (Below.next hbwr hV)) (fun t ht => hA.2 _ (nth_mem (by rw [hA.1]; exact ht))) HBr.out hm1 (by omega) (by omega)
      have hvl : (cmbTo G.ops m l B k).length = m := (cmb_rs HFl.out HBr.out (x := l) (fun t ht => hA.2 _ (nth_mem (by rw [hA.1, ← HBl.out]; exact ht))) k (by rw [HBl.out]; exact Nat.le_refl _)).1.1
      obtain ⟨pk, hpk⟩ : ∃ pk, cmbTo G.ops m l B k = pk := ⟨_, rfl⟩
      rw [hpk] at Hvec hvl Htk
      have Hvl := Lib.hid hvl
      have Hbr := Lib.hid hbr
      have HbWr := Lib.hid hbWr
      have HO := Lib.hid hO
      have g1 := hO.c1
      obtain ⟨_, _, p0, p1⟩ := HS.out wr hbWr
      clear hl hrn hpk hvl hA hrow hbr hbWr hbwr hb1r hO
      go_wp2_with fail
      go_region_law ((first
        | (go_simp; go_at_call 120; ((with_reducible refine (Hvec.out _ (Below.refl _ _).drew).mono ?_); rintro e w4 ⟨a4, c4, rfl, hown4, hb4⟩; have hb4' := Below.next (Below.refl wr.heap.size wr).drew hb4; have hs4 := HO.out.keep hb4'; have g2 := hs4.c1; have g3 := cell_box hs4.c1 (.cells #[.slice a4 m c4] 22)))
        | (refine step_appAll (by rfl) (.tmp 43) (.tmp 51) 25 22 (by rfl) (.slice none 0 0) 24 Tryz.underlying25 infoInts (by rfl) (g + 1) a1 j c1 (List.zipWith rowV Rr (L2.take j)) (by rfl) ((hs4.om.keep (below1 _ _)).own) (some ⟨w4.heap.size, 0, none⟩) 1 1 [.slice a4 m c4] (by rfl) (fun _ => rfl) rfl (by intro y hy; obtain rfl : y = 0 := (by omega); exact cell_new' _ _ _ rfl) (by intro y hy; simp at hy; subst hy; rfl) (by omega) (by unfold maxLen; omega) (by have e2 := hs4.lt; simp; omega) ?_; intro a5 c5 w5 hown5 hgr5 hap5; have k5 := (hs4.pushed hgr5).2.1; have f5 := (hs4.pushed hgr5).2.2)))
      all_goals (
        go_wp2_with fail
        go_roundw
        case rel =>
          have hra : a4 ≠ none → ¬ OIn a1 Rr (ablk a4) := fun h0 hI => by
            have h1 := (own_ne hown4 h0).1
            have h2 := (HO.out.om.lt _ hI).2
            have h3 : wr.drew.heap.size = wr.heap.size := rfl
            omega
          obtain ⟨hP, hbP⟩ := hs4.push Hvl.out (own_mono hown4 (show g + 1 ≤ wr.drew.heap.size from hgr)) hra hown5 hgr5 hap5
          exact ⟨j + 1, a5, c5, _, by omega, by go_num, by rw [Htk.out]; exact hP, Below.trans Hbr.out ((hb4'.mono (by omega)).trans hbP)⟩
        case measure => simp [intOf] <;> omega)
    · obtain rfl : j = n := by omega
      rw [List.take_of_length_le (by rw [HL2l.out]; exact Nat.le_refl _)] at hO
      have g0 := hO.c0
      have g1 := hO.c1
      have z6 := HX.out.2.2.keep hbWr
      have z0 := z6.cell 0 rfl
      have z1 := z6.cell 1 rfl
      have f0 := z6.frozen 0
      have f1 := z6.frozen 1
      have hs := HsW.out
      have hMN : MatN (g + 1) wr a1 j L2 := MatN.own hO.om
      have HF := Lib.hid (And.intro (((hMN.setCell (p := ⟨w.heap.size + 1 + 1 + 1, 0, none⟩) (by simp; omega) (.int .i64 m)).setCell (p := ⟨w.heap.size + 1 + 1 + 1, 1, none⟩) (by simp; omega) (.slice a1 j c1)).mono (show w.heap.size ≤ g + 1 by omega))
        ((hbwr.setCell (p := ⟨w.heap.size + 1 + 1 + 1, 0, none⟩) (by simp; omega) (.int .i64 m)).setCell (p := ⟨w.heap.size + 1 + 1 + 1, 1, none⟩) (by simp; omega) (.slice a1 j c1)))
      clear hMN z6 hO
      go_wp2_with fail
      exact bodyPost_ret (v := .tuple #[.agg #[.int .i64 m, .slice a1 j c1], .int .i64 0]) (by simp [results, Tryz.results70, go_sem, z0, z1]) rfl ⟨a1, c1, rfl, HF.out.1, HF.out.2⟩
end

/- The walk of infoset.Systematic. -/
section
open Go.RowKit

/-- the error of a set for a systematic matrix -/
def sysE (P M : Int) (mod : List Int) (N : Int) (L : List (List Int)) (Q : List Int) : Int :=
  if rankE P M mod N L Q ≠ 0 then rankE P M mod N L Q else if isV P M mod N L Q = true then 0 else 9
def sysL (O : FOps) (m : Nat) (L : List (List Int)) (Q : List Int) : List (List Int) := mtL O m (invL O (L.map (pickL Q)) Q.length) L

def SysPost (P M : Int) (mod : List Int) (N : Int) (L : List (List Int)) (Q : List Int) (w : World) (e : Ending) (w' : World) : Prop :=
  Below w.heap.size w w' ∧ ((sysE P M mod N L Q ≠ 0 ∧ e = .returned (.tuple #[.agg #[.int .i64 0, .slice none 0 0], .int .i64 (sysE P M mod N L Q)])) ∨
    (sysE P M mod N L Q = 0 ∧ ∃ m : Nat, N = m ∧ ∃ a c, e = .returned (.tuple #[.agg #[.int .i64 m, .slice a L.length c], .int .i64 0]) ∧ MatN w.heap.size w' a L.length (sysL (tblOf P M.toNat mod).ops m L Q)))

theorem isV_true {P M : Int} {mod : List Int} {N : Int} {L : List (List Int)} {Q : List Int} (h : isV P M mod N L Q = true) :
    codeE P M mod N L = 0 ∧ okSet N Q = true ∧ (grS (tblOf P M.toNat mod).ops L Q).length = Q.length ∧ Q.length = L.length := by
  unfold isV at h
  simp only [Bool.and_eq_true, decide_eq_true_eq] at h
  obtain ⟨h1, h2, h3⟩ := h
  have hE : codeE P M mod N L = 0 := by
    unfold rankE at h1
    split at h1
    · assumption
    · rename_i h0; exact absurd h1 h0
  refine ⟨hE, ?_, h2, by omega⟩
  rw [rankE, if_pos hE, setsE_one] at h1
  split at h1
  · assumption
  · omega
theorem invL_rws {O : FOps} {El : Int → Prop} (F : Fld O El) {D : List (List Int)} {k : Nat} (hD : Rws El k D) : Rws El k (invL O D k) := fun r hr => by
  unfold invL at hr
  obtain ⟨s, hs, rfl⟩ := List.mem_map.1 hr
  have h := elim_rws F (joinL_rws hD (unit_rws F.zero F.one k)) k (by omega) s hs
  exact ⟨by rw [List.length_drop, h.1]; omega, fun x hx => h.2 x (List.mem_of_mem_drop hx)⟩

set_option maxRecDepth 100000 in
set_option maxHeartbeats 8000000 in
theorem systematic_any (P M : Int) (am : Option Addr) (mn cm : Nat) (mod : List Int) (N : Int) (a : Option Addr) (n c : Nat) (L : List (List Int)) (ao : Option Addr) (no co : Nat) (Q : List Int) (w : World)
    (hmod : Ints w am mn mod) (hi : Mat w a n L) (hq : Ints w ao no Q) :
    Calls Tryz.prog 33 #[.agg #[.int .i64 P, .int .i64 M, .slice am mn cm, .int .i64 N, .slice a n c], .slice ao no co] w (SysPost P M mod N L Q w) := by
  have Hql := Lib.hid hq.len
  have Hil := Lib.hid hi.len
  go_enter Tryz.func33, Tryz.ntmps33
  go_wp2_with fail
  obtain ⟨W, hW⟩ : ∃ W : World, W = (w.alloc (.cells #[.int .i64 P, .int .i64 M, .slice am mn cm, .int .i64 N, .slice a n c] 27)).alloc (.cells #[.int .i64 0, .slice none 0 0] 52) := ⟨_, rfl⟩
  rw [← hW]
  have hbW : Below w.heap.size w W := by rw [hW]; exact below2 _ _ _
  have hsW : W.heap.size = w.heap.size + 2 := by rw [hW]; simp
  have x0 : Box W w.heap.size [.int .i64 P, .int .i64 M, .slice am mn cm, .int .i64 N, .slice a n c] := by rw [hW]; exact (Box.new _ _ _ rfl).alloc _
  have z0 : Box W (w.heap.size + 1) [.int .i64 0, .slice none 0 0] := by rw [hW]; exact Box.new _ _ _ (by simp)
  have hS : ∀ V, Below W.heap.size W V → V.cell? ⟨w.heap.size, 0, none⟩ = some (.int .i64 P) ∧ V.cell? ⟨w.heap.size, 1, none⟩ = some (.int .i64 M) ∧ V.cell? ⟨w.heap.size, 2, none⟩ = some (.slice am mn cm) ∧ V.cell? ⟨w.heap.size, 3, none⟩ = some (.int .i64 N) ∧ V.cell? ⟨w.heap.size, 4, none⟩ = some (.slice a n c) ∧
      Box V (w.heap.size + 1) [.int .i64 0, .slice none 0 0] := fun V hV => by
    have x1 := x0.keep hV
    exact ⟨x1.cell 0 rfl, x1.cell 1 rfl, x1.cell 2 rfl, x1.cell 3 rfl, x1.cell 4 rfl, z0.keep hV⟩
  have HS := Lib.hid hS
  have HbW := Lib.hid hbW
  have HsW := Lib.hid hsW
  clear hW x0 z0 hS
  refine (infIs_any P M am mn cm mod N a n c L ao no co Q W (hmod.keep hbW) (hi.keep hbW) (hq.keep hbW)).mono ?_
  rintro e w1 ⟨rfl, hb1⟩
  have hbw1 := Below.next hbW hb1
  have hend : ∀ er : Int, sysE P M mod N L Q ≠ 0 → sysE P M mod N L Q = er → SysPost P M mod N L Q w (.returned (.tuple #[.agg #[.int .i64 0, .slice none 0 0], .int .i64 er])) ((w1.setCell ⟨w.heap.size + 1, 0, none⟩ (.int .i64 0)).setCell ⟨w.heap.size + 1, 1, none⟩ (.slice none 0 0)) := fun er h0 h1 =>
    ⟨(hbw1.setCell (p := ⟨w.heap.size + 1, 0, none⟩) (by simp) _).setCell (p := ⟨w.heap.size + 1, 1, none⟩) (by simp) _, .inl ⟨h0, by rw [h1]⟩⟩
  have Hend := Lib.hid hend
  have zz := (HS.out w1 hb1).2.2.2.2.2
  have z0 := zz.cell 0 rfl
  have z1 := zz.cell 1 rfl
  have f0 := zz.frozen 0
  have f1 := zz.frozen 1
  clear hend zz hbW hsW
  by_cases hr : rankE P M mod N L Q = 0
  rotate_left
  · have hs : sysE P M mod N L Q = rankE P M mod N L Q := by rw [sysE, if_pos hr]
    have HF := Lib.hid (Hend.out (rankE P M mod N L Q) (by rw [hs]; exact hr) hs)
    have hr' : (rankE P M mod N L Q != 0) = true := by simpa using hr
    clear hr hs Hend
    generalize rankE P M mod N L Q = er at *
    go_wp2_with fail
    exact bodyPost_ret (v := .tuple #[.agg #[.int .i64 0, .slice none 0 0], .int .i64 er]) (by simp [results, Tryz.results33, go_sem, z0, z1]) rfl HF.out
  rw [hr]
  by_cases hv : isV P M mod N L Q = true
  rotate_left
  · have hs : sysE P M mod N L Q = 9 := by rw [sysE, if_neg (by simpa using hr), if_neg hv]
    have HF := Lib.hid (Hend.out 9 (by rw [hs]; decide) hs)
    have hv' : isV P M mod N L Q = false := by simpa using hv
    rw [hv']
    clear hr hs Hend hv hv'
    go_wp2_with fail
    exact bodyPost_ret (v := .tuple #[.agg #[.int .i64 0, .slice none 0 0], .int .i64 9]) (by simp [results, Tryz.results33, go_sem, z0, z1]) rfl HF.out
  have hs0 : sysE P M mod N L Q = 0 := by rw [sysE, if_neg (by simpa using hr), if_pos hv]
  have Hs0 := Lib.hid hs0
  obtain ⟨hE, hok, hg, hl⟩ := isV_true hv
  obtain ⟨m, rfl, hm1, hm64, F, hR⟩ := codeE_fld hE
  have hQ : InN m Q := fun j hj => by have := okSet_at hok hj; omega
  have hno : no = n := by rw [← Hql.out, hl, Hil.out]
  have hqm : (Q.length : Int) ≤ m := okSet_len hok (by omega)
  have hn64 : n ≤ 64 := by rw [← Hil.out, ← hl]; omega
  have hpv := sys_pv F hR hQ hl hg
  have hDr : Rws (tblOf P M.toNat mod).El n (L.map (pickL Q)) := by have h := pick_rws hR hQ; rw [Hql.out, hno] at h; exact h
  have hIr := invL_rws F hDr
  have hqn : Q.length = n := by rw [Hql.out]; exact hno
  rw [hqn] at hpv
  have hfB := (codeE_zero hE).1
  have hsyl : sysL (tblOf P M.toNat mod).ops m L Q = mtL (tblOf P M.toNat mod).ops m (invL (tblOf P M.toNat mod).ops (L.map (pickL Q)) n) L := by rw [sysL, hqn]
  have HCo : Hid (∀ V, Below w.heap.size w V → Calls Tryz.prog 68 #[.agg #[.int .i64 P, .int .i64 M, .slice am mn cm], .agg #[.int .i64 m, .slice a n c], .slice ao no co] V fun e w' =>
      ∃ a1 c1, e = .returned (.tuple #[.agg #[.int .i64 n, .slice a1 n c1], .int .i64 0]) ∧ Mat w' a1 n (L.map (pickL Q)) ∧ Below V.heap.size V w') := fun V hV => by
    refine (columns_any P M am mn cm mod m a n c L ao no co Q V (hmod.keep hV) (hi.keep hV) (hq.keep hV) hE hQ (by omega)).mono ?_
    rintro e w' ⟨a1, c1, rfl, hM, hb⟩
    exact ⟨a1, c1, by rw [hqn], hM.mat, hb⟩
  have HIn : Hid (∀ V a1 c1, Below w.heap.size w V → Mat V a1 n (L.map (pickL Q)) → Calls Tryz.prog 69 #[.agg #[.int .i64 P, .int .i64 M, .slice am mn cm], .agg #[.int .i64 n, .slice a1 n c1]] V fun e w' =>
      ∃ a2 c2, e = .returned (.tuple #[.agg #[.int .i64 n, .slice a2 n c2], .int .i64 0]) ∧ Mat w' a2 n (invL (tblOf P M.toNat mod).ops (L.map (pickL Q)) n) ∧ Below V.heap.size V w') := fun V a1 c1 hV hM => by
    refine (inverse_any P M am mn cm mod n a1 c1 (L.map (pickL Q)) V (hmod.keep hV) hM hfB hDr hn64 hpv).mono ?_
    rintro e w' ⟨a2, c2, rfl, hM2, hb⟩
    exact ⟨a2, c2, rfl, hM2.mat, hb⟩
  have HMu : Hid (∀ V a2 c2, Below w.heap.size w V → Mat V a2 n (invL (tblOf P M.toNat mod).ops (L.map (pickL Q)) n) → Calls Tryz.prog 70 #[.agg #[.int .i64 P, .int .i64 M, .slice am mn cm], .agg #[.int .i64 n, .slice a2 n c2], .agg #[.int .i64 m, .slice a n c]] V fun e w' =>
      ∃ a3 c3, e = .returned (.tuple #[.agg #[.int .i64 m, .slice a3 n c3], .int .i64 0]) ∧ MatN V.heap.size w' a3 n (sysL (tblOf P M.toNat mod).ops m L Q) ∧ Below V.heap.size V w') := fun V a2 c2 hV hM => by
    rw [hsyl]
    exact mul_any P M am mn cm mod n a2 n c2 _ m a c L V (hmod.keep hV) hM (hi.keep hV) hfB hIr hR hn64 hm1 hm64 hn64
  have HPost : Hid (∀ a3 c3 w', Below w.heap.size w w' → MatN w.heap.size w' a3 n (sysL (tblOf P M.toNat mod).ops m L Q) → SysPost P M mod m L Q w (.returned (.tuple #[.agg #[.int .i64 m, .slice a3 n c3], .int .i64 0])) w') := fun a3 c3 w' h1 h2 => by
    rw [← Hil.out] at h2 ⊢
    exact ⟨h1, .inr ⟨Hs0.out, m, rfl, a3, c3, rfl, h2⟩⟩
  obtain ⟨D, hD⟩ : ∃ D, L.map (pickL Q) = D := ⟨_, rfl⟩
  obtain ⟨Iv, hIv⟩ : ∃ Iv, invL (tblOf P M.toNat mod).ops D n = Iv := ⟨_, rfl⟩
  rw [hD] at HCo HIn HMu
  rw [hIv] at HIn HMu
  rw [hv]
  clear hr hv hs0 hE hok hg hl hQ hno hqm hpv hDr hIr hqn hfB hsyl hD hIv F hR Hend z0 z1 f0 f1
  obtain ⟨c0, c1, c2, c3, c4, _⟩ := HS.out w1 hb1
  have hb8 := below1 w1 (.cells #[.int .i64 m, .slice a n c] 52)
  have x8 := Box.new w1 [.int .i64 m, .slice a n c] 52 rfl
  have HX8 := Lib.hid x8
  obtain ⟨d0, d1, d2, d3, d4, _⟩ := HS.out _ (Below.next hb1 hb8)
  clear x8
  go_wp2_with fail
  refine (HCo.out _ (Below.next hbw1 hb8)).mono ?_
  rintro e w2 ⟨a1, c1', rfl, hM1, hb2⟩
  have hb9 := below1 w2 (.cells #[.int .i64 n, .slice a1 n c1'] 52)
  have hk2 := Below.next hb2 hb9
  have hbk2 := Below.next (Below.next hb1 hb8) hk2
  clear c0 c1 c2 c3 c4 d0 d1 d2 d3 d4 HCo
  obtain ⟨c0, c1, c2, c3, c4, _⟩ := HS.out _ hbk2
  have Hin := Lib.hid (HIn.out _ a1 c1' (Below.next HbW.out hbk2) (hM1.keep hb9))
  clear hM1 HIn
  go_wp2_with fail
  refine Hin.out.mono ?_
  rintro e w3 ⟨a2, c2', rfl, hM2, hb3⟩
  have hb10 := below1 w3 (.cells #[.int .i64 n, .slice a2 n c2'] 52)
  have hk3 := Below.next hb3 hb10
  have hbk3 := Below.next hbk2 hk3
  clear c0 c1 c2 c3 c4 Hin
  obtain ⟨c0, c1, c2, c3, c4, _⟩ := HS.out _ hbk3
  have x8 := HX8.out.keep (Below.next hk2 hk3)
  have e0 := x8.cell 0 rfl
  have e1 := x8.cell 1 rfl
  have Hmu := Lib.hid (HMu.out _ a2 c2' (Below.next HbW.out hbk3) (hM2.keep hb10))
  clear hM2 HMu x8
  go_wp2_with fail
  refine Hmu.out.mono ?_
  rintro e w4 ⟨a3, c3', rfl, hM3, hb4⟩
  have hbk4 := Below.next hbk3 hb4
  have zz := (HS.out w4 hbk4).2.2.2.2.2
  have z0 := zz.cell 0 rfl
  have z1 := zz.cell 1 rfl
  have f0 := zz.frozen 0
  have f1 := zz.frozen 1
  have hs := HsW.out
  have hsz := hbk3.size
  have HF := Lib.hid (HPost.out a3 c3' _ (((Below.next HbW.out hbk4).setCell (p := ⟨w.heap.size + 1, 0, none⟩) (by simp) (.int .i64 m)).setCell (p := ⟨w.heap.size + 1, 1, none⟩) (by simp) (.slice a3 n c3'))
    (((hM3.setCell (p := ⟨w.heap.size + 1, 0, none⟩) (by simp at hsz ⊢; omega) (.int .i64 m)).setCell (p := ⟨w.heap.size + 1, 1, none⟩) (by simp at hsz ⊢; omega) (.slice a3 n c3')).mono (by simp at hsz ⊢; omega)))
  clear c0 c1 c2 c3 c4 e0 e1 Hmu zz hM3 HPost
  go_wp2_with fail
  exact bodyPost_ret (v := .tuple #[.agg #[.int .i64 m, .slice a3 n c3'], .int .i64 0]) (by simp [results, Tryz.results33, go_sem, z0, z1]) rfl HF.out
end

/- The walks of codewrightref25: info, Rank, Is. -/
section
open Go.RowKit

theorem set_in {m : Nat} {Q : List Int} (h : okSet m Q = true) : InN m Q := fun j hj => ⟨(okSet_at h hj).1, (okSet_at h hj).2.1⟩
theorem rankE_z {P M : Int} {mod : List Int} {N : Int} {L : List (List Int)} {Q : List Int} (h : rankE P M mod N L Q = 0) : codeE P M mod N L = 0 ∧ okSet N Q = true := by
  unfold rankE at h
  by_cases h1 : codeE P M mod N L = 0
  · refine ⟨h1, ?_⟩
    rw [if_pos h1, setsE_one] at h
    by_cases h2 : okSet N Q = true
    · exact h2
    · rw [if_neg h2] at h; omega
  · rw [if_neg h1] at h; exact absurd h h1
theorem isV_of {P M : Int} {mod : List Int} {N : Int} {L : List (List Int)} {Q : List Int} (h : rankE P M mod N L Q = 0) : isV P M mod N L Q = isB (tblOf P M.toNat mod).ops L Q := by
  unfold isV isB
  rw [h]
  by_cases h1 : (grS (tblOf P M.toNat mod).ops L Q).length = Q.length
  · rw [h1]; simp
  · simp [h1]
set_option maxRecDepth 100000 in
set_option maxHeartbeats 3200000 in
theorem rInfo_any (P M : Int) (am : Option Addr) (mn cm : Nat) (mod : List Int) (m : Nat) (a : Option Addr) (n c : Nat) (L : List (List Int)) (ao : Option Addr) (no co : Nat) (Q : List Int) (w : World) (hmod : Ints w am mn mod) (hi : Mat w a n L) (hq : Ints w ao no Q)
    (hE : codeE P M mod m L = 0) (hQ : InN m Q) (hno : no ≤ 1000000) :
    Calls Tryz.prog 72 #[.agg #[.int .i64 P, .int .i64 M, .slice am mn cm, .int .i64 m, .slice a n c], .slice ao no co] w fun e w' => e = .returned (.bool (isB (tblOf P M.toNat mod).ops L Q)) ∧ Below w.heap.size w w' := by
  have HO : Hid (∀ V, Below w.heap.size w V → Calls Tryz.prog 122 #[.agg #[.int .i64 P, .int .i64 M, .slice am mn cm], .slice a n c, .slice ao no co] V fun e w' => e = .returned (.int .i64 (grS (tblOf P M.toNat mod).ops L Q).length) ∧ Below V.heap.size V w') :=
    fun V hV => rOf25_any P M am mn cm mod m a n c L ao no co Q V (hmod.keep hV) (hi.keep hV) (hq.keep hV) hE hQ hno
  have HB : Hid (isB (tblOf P M.toNat mod).ops L Q = (decide (no = n) && decide ((grS (tblOf P M.toNat mod).ops L Q).length = no))) := by show _ = _; unfold isB; rw [hq.len, hi.len]
  obtain ⟨r, hr⟩ : ∃ r, (grS (tblOf P M.toNat mod).ops L Q).length = r := ⟨_, rfl⟩
  obtain ⟨z, hz⟩ : ∃ z, isB (tblOf P M.toNat mod).ops L Q = z := ⟨_, rfl⟩
  rw [hr] at HO HB
  rw [hz] at HB ⊢
  clear hr hz hmod hi hq hE hQ
  go_enter Tryz.func72, Tryz.ntmps72
  go_upto_region 1 with fail
  obtain ⟨W, hW⟩ : ∃ W : World, W = w.alloc (.cells #[.int .i64 P, .int .i64 M, .slice am mn cm, .int .i64 m, .slice a n c] 27) := ⟨_, rfl⟩
  rw [← hW]
  have hbW : Below w.heap.size w W := by rw [hW]; exact below1 _ _
  have x0 : Box W w.heap.size [.int .i64 P, .int .i64 M, .slice am mn cm, .int .i64 m, .slice a n c] := by rw [hW]; exact Box.new _ _ _ rfl
  have hS : ∀ V, Below W.heap.size W V → V.cell? ⟨w.heap.size, 0, none⟩ = some (.int .i64 P) ∧ V.cell? ⟨w.heap.size, 1, none⟩ = some (.int .i64 M) ∧ V.cell? ⟨w.heap.size, 2, none⟩ = some (.slice am mn cm) ∧ V.cell? ⟨w.heap.size, 4, none⟩ = some (.slice a n c) ∧ Below W.heap.size W V := fun V hV => by
    have x1 := x0.keep hV
    exact ⟨x1.cell 0 rfl, x1.cell 1 rfl, x1.cell 2 rfl, x1.cell 4 rfl, hV⟩
  have HS := Lib.hid hS
  have HbW := Lib.hid hbW
  clear hW x0 hS hbW
  by_cases hl : no = n
  · subst hl
    have Hz : Hid (z = decide (r = no)) := by show _ = _; rw [HB.out]; simp
    have hrr : ((r : Int) == no) = decide (r = no) := by
     by_cases h : r = no
     · simp [h]
     · simp only [h, decide_false]; simp; omega
    go_region_held3 (fun V => V.cell? ⟨w.heap.size, 0, none⟩ = some (.int .i64 P) ∧ V.cell? ⟨w.heap.size, 1, none⟩ = some (.int .i64 M) ∧ V.cell? ⟨w.heap.size, 2, none⟩ = some (.slice am mn cm) ∧ V.cell? ⟨w.heap.size, 4, none⟩ = some (.slice a no c) ∧ Below W.heap.size W V)
      ((refine HS.out _ ?_; first | exact (Below.refl _ _).drew | (go_split_ands; exact Below.next (by assumption) (by assumption))))
      (first
        | (go_at_call 122; ((with_reducible refine (HO.out _ (Below.next HbW.out (by go_split_ands; assumption))).mono ?_); rintro e w6 ⟨rfl, hb6⟩)))
    all_goals (
      go_wp2_with fail
      go_ret
      exact ⟨ret_bool (by rw [Hz.out]), Below.next HbW.out (by go_split_ands; assumption)⟩)
  · have hl1 : ((no : Int) == (n : Int)) = false := by simp; omega
    have Hz : Hid (z = false) := by show _ = _; rw [HB.out, decide_eq_false hl]; rfl
    obtain ⟨c0, c1, c2, c4, _⟩ := HS.out W (Below.refl _ _)
    clear hl
    go_quiet (fail)
    go_wp2
    go_ret
    exact ⟨ret_bool Hz.out.symm, below_drewN HbW.out _⟩
end

/- The greedy choice by ranks alone (plain law). -/
section
theorem nth_snoc_lt {l : List Int} {x : Int} {i : Nat} (h : i < l.length) : nth (l ++ [x]) i = nth l i := by
  simp only [nth, List.getD_eq_getElem?_getD]; rw [List.getElem?_append_left h]
theorem nth_snoc (l : List Int) (x : Int) : nth (l ++ [x]) l.length = x := by simp [nth]
theorem grL_snoc (l : List Int) (x : Int) : ∀ k, k ≤ l.length → grL (l ++ [x]) k = grL l k
  | 0, _ => rfl
  | k + 1, h => by rw [grL, grL, nth_snoc_lt (by omega), grL_snoc l x k (by omega)]
theorem grL_snoc_all (l : List Int) (x : Int) : grL (l ++ [x]) (l ++ [x]).length = x.toNat :: grL l l.length := by
  rw [List.length_append, List.length_singleton, grL, nth_snoc, grL_snoc l x l.length (Nat.le_refl _)]
/-- all positions of a list, the last ahead -/
def gA (Q : List Int) : List Nat := grL Q Q.length
theorem gA_snoc (l : List Int) (x : Int) : gA (l ++ [x]) = x.toNat :: gA l := grL_snoc_all l x
theorem mem_gA {Q : List Int} {x : Nat} : x ∈ gA Q ↔ ∃ y ∈ Q, y.toNat = x := by
  unfold gA
  rw [mem_grL]
  constructor
  · rintro ⟨j, hj, e⟩; exact ⟨nth Q j, nth_mem hj, e⟩
  · rintro ⟨y, hy, e⟩
    obtain ⟨j, hj, rfl⟩ := List.mem_iff_getElem.1 hy
    exact ⟨j, hj, by rw [nth_getElem hj]; exact e⟩

section
variable {O : FOps} {El : Int → Prop} {m : Nat} {L : List (List Int)}
/-- the rank of a list of positions -/
def rkQ (O : FOps) (L : List (List Int)) (Q : List Int) : Nat := (grS O L Q).length
theorem rkQ_rk (F : Fld O El) (hL : Rws El m L) (Q : List Int) : Rk (clV O El L.length (colS L)) (gA Q) (rkQ O L Q) := grS_rk F hL Q
end
end

/- The family of a code (plain law): the rounds. -/
section
/-- the positions below k that are used (b) or not -/
def frTo (b : Bool) (U : List Int) : Nat → List Int
  | 0 => []
  | k + 1 => if decide ((k : Int) ∈ U) = b then frTo b U k ++ [(k : Int)] else frTo b U k
theorem mem_frTo {b : Bool} {U : List Int} {x : Int} : ∀ k, x ∈ frTo b U k ↔ ∃ j : Nat, j < k ∧ x = j ∧ decide ((j : Int) ∈ U) = b
  | 0 => by simp [frTo]
  | k + 1 => by
    rw [frTo]
    by_cases h : decide ((k : Int) ∈ U) = b
    · rw [if_pos h, List.mem_append, mem_frTo k, List.mem_singleton]
      constructor
      · rintro (⟨j, hj, e, hb⟩ | e)
        · exact ⟨j, by omega, e, hb⟩
        · exact ⟨k, by omega, e, h⟩
      · rintro ⟨j, hj, e, hb⟩
        by_cases ejk : j = k
        · subst ejk; exact .inr e
        · exact .inl ⟨j, by omega, e, hb⟩
    · rw [if_neg h, mem_frTo k]
      constructor
      · rintro ⟨j, hj, e, hb⟩; exact ⟨j, by omega, e, hb⟩
      · rintro ⟨j, hj, e, hb⟩
        by_cases ejk : j = k
        · subst ejk; exact absurd hb h
        · exact ⟨j, by omega, e, hb⟩
theorem frTo_len (b : Bool) (U : List Int) : ∀ k, (frTo b U k).length ≤ k
  | 0 => Nat.le_refl _
  | k + 1 => by
    have := frTo_len b U k
    rw [frTo]; split <;> simp <;> omega
theorem frTo_two (U : List Int) : ∀ k, (frTo false U k).length + (frTo true U k).length = k
  | 0 => rfl
  | k + 1 => by
    have := frTo_two U k
    rw [frTo, frTo]
    by_cases h : (k : Int) ∈ U
    · simp [h]; omega
    · simp [h]; omega
/-- the order of a round -/
def ordF (m : Nat) (U : List Int) : List Int := frTo false U m ++ frTo true U m
theorem ordF_len (m : Nat) (U : List Int) : (ordF m U).length = m := by rw [ordF, List.length_append, frTo_two]
theorem mem_ordF {m : Nat} {U : List Int} {x : Int} : x ∈ ordF m U ↔ ∃ j : Nat, j < m ∧ x = j := by
  rw [ordF, List.mem_append, mem_frTo, mem_frTo]
  constructor
  · rintro (⟨j, hj, e, _⟩ | ⟨j, hj, e, _⟩) <;> exact ⟨j, hj, e⟩
  · rintro ⟨j, hj, e⟩
    by_cases h : (j : Int) ∈ U
    · exact .inr ⟨j, hj, e, by simpa using h⟩
    · exact .inl ⟨j, hj, e, by simpa using h⟩
theorem ordF_in (m : Nat) (U : List Int) : InN m (ordF m U) := fun j hj => by
  obtain ⟨i, hi, e⟩ := mem_ordF.1 (nth_mem hj)
  omega
/-- how many of the first k are new -/
def newF (U S : List Int) : Nat → Int
  | 0 => 0
  | k + 1 => if nth S k ∈ U then newF U S k else newF U S k + 1
theorem newF_bd (U S : List Int) : ∀ k, 0 ≤ newF U S k ∧ newF U S k ≤ k
  | 0 => by simp [newF]
  | k + 1 => by
    have := newF_bd U S k
    rw [newF]; split <;> omega
theorem newF_new {U S : List Int} : ∀ k, k ≤ S.length → newF U S k ≠ 0 → ∃ x ∈ S, ¬ x ∈ U
  | 0, _, h => absurd rfl h
  | k + 1, hk, h => by
    rw [newF] at h
    split at h
    · exact newF_new k (by omega) h
    · rename_i h1; exact ⟨_, nth_mem (by omega), h1⟩
/-- the choice of a round -/
def choF (O : FOps) (L : List (List Int)) (m : Nat) (U : List Int) : List Int := grS O L (ordF m U)
def famGo (O : FOps) (L : List (List Int)) (m : Nat) : Nat → List Int → List (List Int × Int) → List (List Int × Int)
  | 0, _, T => T
  | f + 1, U, T => if newF U (choF O L m U) (choF O L m U).length = 0 then T else famGo O L m f (U ++ sortL (choF O L m U)) (T ++ [(sortL (choF O L m U), newF U (choF O L m U) (choF O L m U).length)])
def famL (O : FOps) (L : List (List Int)) (m : Nat) : List (List Int × Int) := famGo O L m (m + 1) [] []
theorem frTo_mono {U V : List Int} (h : ∀ x ∈ U, x ∈ V) : ∀ k, (frTo false V k).length ≤ (frTo false U k).length
  | 0 => Nat.le_refl _
  | k + 1 => by
    have ih := frTo_mono h k
    rw [frTo, frTo]
    by_cases h1 : (k : Int) ∈ U
    · simp [h1, h _ h1]; exact ih
    · by_cases h2 : (k : Int) ∈ V
      · simp [h1, h2]; omega
      · simp [h1, h2]; exact ih
theorem frTo_less {U V : List Int} (h : ∀ x ∈ U, x ∈ V) {x : Nat} (hx : ¬ (x : Int) ∈ U) (hv : (x : Int) ∈ V) : ∀ k, x < k → (frTo false V k).length < (frTo false U k).length
  | 0, hk => by omega
  | k + 1, hk => by
    by_cases e : x = k
    · subst e
      have ih := frTo_mono h x
      rw [frTo, frTo]
      simp [hx, hv]; omega
    · have ih := frTo_less h hx hv k (by omega)
      rw [frTo, frTo]
      by_cases h1 : (k : Int) ∈ U
      · simp [h1, h _ h1]; exact ih
      · by_cases h2 : (k : Int) ∈ V
        · simp [h1, h2]; omega
        · simp [h1, h2]; exact ih
theorem grTo_sub (O : FOps) (L : List (List Int)) (Q : List Int) : ∀ k, k ≤ Q.length → ∀ x ∈ (grTo O L Q k).2, x ∈ Q
  | 0, _, x, hx => by simp [grTo] at hx
  | k + 1, hk, x, hx => by
    rw [grTo] at hx
    split at hx
    · rcases List.mem_append.1 hx with hx | hx
      · exact grTo_sub O L Q k (by omega) x hx
      · rw [List.mem_singleton] at hx; rw [hx]; exact nth_mem (by omega)
    · exact grTo_sub O L Q k (by omega) x hx
theorem choF_in {O : FOps} {L : List (List Int)} {m : Nat} {U : List Int} {x : Int} (hx : x ∈ choF O L m U) : ∃ j : Nat, j < m ∧ x = j := mem_ordF.1 (grTo_sub O L (ordF m U) _ (Nat.le_refl _) x hx)
theorem fam_less {O : FOps} {L : List (List Int)} {m : Nat} {U : List Int} (h : newF U (choF O L m U) (choF O L m U).length ≠ 0) : (frTo false (U ++ sortL (choF O L m U)) m).length < (frTo false U m).length := by
  obtain ⟨x, hx, hn⟩ := newF_new _ (Nat.le_refl _) h
  obtain ⟨j, hj, rfl⟩ := choF_in hx
  exact frTo_less (fun y hy => List.mem_append.2 (.inl hy)) hn (List.mem_append.2 (.inr ((sortL_perm _).mem_iff.2 hx))) m hj
end

/- The family of a code by the reference's rounds, and exchanges by sorted sets (plain laws). -/
section
section
variable {O : FOps} {El : Int → Prop} {m : Nat} {L : List (List Int)}
end
end

/- Information sets are bases (plain laws): greedy sets are information sets, and exchanges exist. -/
section
section
variable {O : FOps} {El : Int → Prop} {m : Nat} {L : List (List Int)}
theorem rkQ_out (F : Fld O El) (hL : Rws El m L) {Q : List Int} {x : Int} (h : ¬ clV O El L.length (colS L) (gA Q) x.toNat) : rkQ O L (Q ++ [x]) = rkQ O L Q + 1 := by
  have h1 := rkQ_rk F hL (Q ++ [x])
  rw [gA_snoc] at h1
  exact h1.uniq (Rk.ind _ h (rkQ_rk F hL Q))
theorem isB_iff {Q : List Int} : isB O L Q = true ↔ Q.length = L.length ∧ rkQ O L Q = Q.length := by
  unfold isB rkQ
  simp
end
/-- a code's rows are independent -/
theorem code_full {P M : Int} {mod : List Int} {m : Nat} {L : List (List Int)} (hE : codeE P M mod m L = 0) : Rk (clV (tblOf P M.toNat mod).ops (tblOf P M.toNat mod).El L.length (colS L)) (List.range m) L.length := by
  obtain ⟨N', e, hm1, hm64, F, hR⟩ := codeE_fld hE
  obtain rfl : m = N' := by omega
  have h6 := (spaceE_zero (codeE_zero hE).2.2.2).2
  rw [Int.toNat_natCast] at h6
  have hcan : canO (tblOf P M.toNat mod).ops m L = L := h6
  have h := canO_rk F hR
  rwa [hcan] at h
/-- all positions, in some order -/
def PermN (m : Nat) (Q : List Int) : Prop := Q.Perm ((List.range m).map Int.ofNat)
theorem PermN.mem {m : Nat} {Q : List Int} (h : PermN m Q) {x : Int} : x ∈ Q ↔ ∃ j : Nat, j < m ∧ x = j := by
  rw [h.mem_iff, List.mem_map]
  constructor
  · rintro ⟨j, hj, rfl⟩; exact ⟨j, List.mem_range.1 hj, rfl⟩
  · rintro ⟨j, hj, rfl⟩; exact ⟨j, List.mem_range.2 hj, rfl⟩
theorem PermN.len {m : Nat} {Q : List Int} (h : PermN m Q) : Q.length = m := by rw [h.length_eq]; simp
theorem PermN.nodup {m : Nat} {Q : List Int} (h : PermN m Q) : Q.Nodup := by
  refine h.nodup_iff.2 ?_
  rw [List.nodup_iff_pairwise_ne, List.pairwise_map]
  exact List.nodup_range.imp fun h e => h (Int.ofNat.inj e)
theorem PermN.inN {m : Nat} {Q : List Int} (h : PermN m Q) : InN m Q := fun j hj => by
  obtain ⟨i, hi, e⟩ := h.mem.1 (nth_mem hj)
  omega
section
variable {P M : Int} {mod : List Int} {m : Nat} {L : List (List Int)}
end
end

end Go.Proofs.YtapjcccpokhhhaaGreat
