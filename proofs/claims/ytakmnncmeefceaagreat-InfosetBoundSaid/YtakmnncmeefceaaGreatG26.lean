/- The walk of matrix.Columns, at positions in range. -/
import Derived.Test.YtakmnncmeefceaaGreatG10
import Derived.Test.YtakmnncmeefceaaGreatG25
import Derived.Test.YtakmnncmeefceaaGreatG23
import Derived.Test.YtakmnncmeefceaaGreatG24
import Derived.Test.YtakmnncmeefceaaGreatG21
namespace Go.Proofs.YtakmnncmeefceaaGreat
set_option linter.unusedVariables false
set_option linter.unusedSimpArgs false
set_option linter.unusedSectionVars false

/- A matrix that is put together row by row, behind a box. -/
section
open Go.RowKit

theorem OMat.setOther {w : World} {B : Nat} {a : Option Addr} {n c : Nat} {R : List (Option Addr × Nat)} {L : List (List Int)} (h : OMat w B a n c R L) {p : Addr} (hp : p.block < B) (v : Value) : OMat (w.setCell p v) B a n c R L :=
  h.of_blocks fun b hb => Below.heap_setCell _ _ _ _ (by have := (h.lt b hb).1; omega)

/-- a box of two cells, the second a matrix whose blocks are behind the box -/
structure MOut (w : World) (g : Nat) (x : Value) (a : Option Addr) (k c : Nat) (R : List (Option Addr × Nat)) (L : List (List Int)) : Prop where
  lt : g < w.heap.size
  c0 : w.cell? ⟨g, 0, none⟩ = some x
  c1 : w.cell? ⟨g, 1, none⟩ = some (.slice a k c)
  fr : ∀ i, w.frozen? ⟨g, i, none⟩ = false
  om : OMat w (g + 1) a k c R L
namespace MOut
variable {w w' w4 w5 : World} {g : Nat} {x : Value} {a : Option Addr} {k c : Nat} {R : List (Option Addr × Nat)} {L : List (List Int)}
theorem keep (h : MOut w g x a k c R L) (hb : Below w.heap.size w w') : MOut w' g x a k c R L :=
  ⟨Nat.lt_of_lt_of_le h.lt hb.size, cell_keep hb h.c0, cell_keep hb h.c1, fun i => frozen_keep hb h.lt (h.fr i), h.om.keep hb⟩
theorem apt (h : MOut w g x a k c R L) : Apt a g := by
  by_cases ha : a = none
  · exact .inl ha
  · exact .inr fun e => by have := (own_ne h.om.own ha).1; omega
theorem pushed {o : Obj} (h : MOut w4 g x a k c R L) (hgr5 : (w4.alloc o).grownBy w5 (Value.slice a k c).ownBlock) : w5.cell? ⟨g, 0, none⟩ = some x ∧ w5.cell? ⟨g, 1, none⟩ = some (.slice a k c) ∧ w5.frozen? ⟨g, 1, none⟩ = false := by
  have hb1 := below1 w4 o
  have hlt := h.lt
  have hs1 := hb1.size
  exact ⟨cell_grownApt hgr5 (cell_box h.c0 o) h.apt, cell_grownApt hgr5 (cell_box h.c1 o) h.apt,
    (World.frozen?_of_block (w := w4.alloc o) (a := ⟨g, 1, none⟩) (hgr5.block g (by omega) fun e => h.apt.own k c e.symm)).trans (frozen_box h.lt (h.fr 1) _)⟩
theorem push {a4 a5 : Option Addr} {n4 c4 c5 : Nat} {N : List Int} {o : Obj} (h : MOut w4 g x a k c R L) (hn4 : N.length = n4)
    (hown4 : w4.ownsRow (g + 1) 3 1 (.slice a4 n4 c4) n4 (N.map (Value.int .i64))) (hra : a4 ≠ none → ¬ OIn a R (ablk a4))
    (hown5 : w5.ownsRow (g + 1) 22 1 (.slice a5 (k + 1) c5) (k + 1) (List.zipWith rowV R L ++ [.slice a4 n4 c4])) (hgr5 : (w4.alloc o).grownBy w5 (Value.slice a k c).ownBlock)
    (hap5 : ∀ x, x < (w4.alloc o).heap.size → Apt a x → Apt a5 x) :
    MOut (w5.setCell ⟨g, 1, none⟩ (.slice a5 (k + 1) c5)) g x a5 (k + 1) c5 (R ++ [(a4, c4)]) (L ++ [N]) ∧ Below g w4 (w5.setCell ⟨g, 1, none⟩ (.slice a5 (k + 1) c5)) := by
  subst hn4
  have hb1 := below1 w4 o
  have hO := h.om.keep hb1
  have hr := own_keep hown4 hb1
  have hP := OMat.push hO hr hra hown5 hgr5 hap5
  have hlt := h.lt
  have hs1 := hb1.size
  have hB5 : Below (g + 1) w4 w5 := Below.app (hb1.mono (by omega)) hO.own hgr5 (Nat.le_refl _) (by omega)
  have hs := hB5.size
  have k0 := cell_grownApt hgr5 (cell_box h.c0 o) h.apt
  have k1 := cell_grownApt hgr5 (cell_box h.c1 o) h.apt
  refine ⟨⟨by simp; omega, ?_, World.cell?_setCell_same _ _ _ k1, fun i => ?_, hP.setOther (by simp) _⟩, (hB5.mono (by omega)).setCell (by simp) _⟩
  · rw [World.cell?_setCell_other _ _ _ _ (by simp)]; exact k0
  · rw [World.frozen?_setCell]
    exact (World.frozen?_of_block (w := w4.alloc o) (a := ⟨g, i, none⟩) (hgr5.block g (by omega) fun e => h.apt.own k c e.symm)).trans (frozen_box h.lt (h.fr i) _)
theorem start {U : World} {g : Nat} {x : Value} (hU : Box U g [x, .slice none 0 0]) : MOut U g x none 0 0 [] [] :=
  ⟨hU.1, hU.cell 0 rfl, hU.cell 1 rfl, hU.frozen, OMat.empty _ _⟩
end MOut

theorem Box.two (w : World) (x0 y0 x y : Value) (e : TypeId) : Box (((w.alloc (.cells #[x0, y0] e)).setCell ⟨w.heap.size, 0, none⟩ x).setCell ⟨w.heap.size, 1, none⟩ y) w.heap.size [x, y] := by
  have h : Box (w.alloc (.cells #[x0, y0] e)) w.heap.size [x0, y0] := Box.new w [x0, y0] e rfl
  have k0 := h.cell 0 rfl
  have k1 := h.cell 1 rfl
  refine ⟨by simp, fun i v hv => ?_, fun i => by rw [World.frozen?_setCell, World.frozen?_setCell]; exact h.frozen i⟩
  match i, hv with
  | 0, hv =>
    obtain rfl : x = v := by simpa using hv
    rw [World.cell?_setCell_other _ _ _ _ (by simp)]
    exact World.cell?_setCell_same _ _ _ k0
  | 1, hv =>
    obtain rfl : y = v := by simpa using hv
    exact World.cell?_setCell_same _ _ _ (by rw [World.cell?_setCell_other _ _ _ _ (by simp)]; exact k1)
  | i + 2, hv => simp at hv
theorem below_two (w : World) (x0 y0 x y : Value) (e : TypeId) : Below w.heap.size w (((w.alloc (.cells #[x0, y0] e)).setCell ⟨w.heap.size, 0, none⟩ x).setCell ⟨w.heap.size, 1, none⟩ y) :=
  ((below1 w (.cells #[x0, y0] e)).setCell (Nat.le_refl _) _).setCell (Nat.le_refl _) _
end

/- The walk of modify.Permute. -/
section
open Go.RowKit

theorem scat_zero (m : Nat) (R r : List Int) : (scat m R r 0).map (Value.int .i64) = List.replicate m (Value.int .i64 0) := by rw [scat, List.map_replicate]
set_option maxRecDepth 100000 in
set_option maxHeartbeats 4000000 in
theorem permute_any (P M : Int) (am : Option Addr) (mn cm : Nat) (mod : List Int) (m : Nat) (a : Option Addr) (n c : Nat) (L : List (List Int)) (ap : Option Addr) (cp : Nat) (R : List Int) (w : World) (hmod : Ints w am mn mod) (hi : Mat w a n L)
    (hE : codeE P M mod m L = 0) (hmn : mn ≤ 1000000) (hp : Ints w ap m R) (hR : InN m R) (hset : okSet m (sortL R) = true) (hfE : fmatE P M mod m (L.map fun r => scat m R r m) = 0) :
    Calls Tryz.prog 62 #[.agg #[.int .i64 P, .int .i64 M, .slice am mn cm, .int .i64 m, .slice a n c], .slice ap m cp] w (CNewPost P M mod m (L.map fun r => scat m R r m) w) := by
  have Hpl := Lib.hid hp.len
  have Hil := Lib.hid hi.len
  have hplp := hp.pl
  have hpla := hi.pl
  obtain ⟨m', e, hm1, hm64, _, hRw⟩ := codeE_fld hE
  obtain rfl : m = m' := by omega
  have hn : n ≤ 256 := by rw [← hi.len]; exact (codeE_rws hE).choose_spec.2.2.2.1
  have HRl : Hid (∀ k, k < n → (nthR L k).length = m) := fun k hk => (hRw _ (nthR_mem (by rw [hi.len]; exact hk))).1
  have HRi := Lib.hid hR
  obtain ⟨L2, hL2⟩ : ∃ L2, (L.map fun r => scat m R r m) = L2 := ⟨_, rfl⟩
  have HLk : Hid (∀ k, k < n → L2.take (k + 1) = L2.take k ++ [scat m R (nthR L k) m]) := fun k hk => by
    have hk' : k < L2.length := by rw [← hL2, List.length_map, hi.len]; exact hk
    rw [List.take_succ_eq_append_getElem hk', ← nthR_getElem hk', ← hL2, nthR_map _ L (by rw [hi.len]; exact hk)]
  have HL2l : Hid (L2.length = n) := by show _ = _; rw [← hL2, List.length_map]; exact hi.len
  rw [hL2] at hfE ⊢
  have HN : Hid (∀ V a5 c5, Below w.heap.size w V → Mat V a5 n L2 → Calls Tryz.prog 45 #[.agg #[.int .i64 P, .int .i64 M, .slice am mn cm], .agg #[.int .i64 m, .slice a5 n c5]] V (CNewPost P M mod m L2 V)) := fun V a5 c5 hV hM =>
    codeNew_any P M am mn cm mod m a5 n c5 L2 V (hmod.keep hV) hM hfE hm1 hm64 hmn
  have HE := Lib.hid hE
  have hnn : ((m : Int) != m) = false := by simp
  clear hL2 hfE hE hRw hR e
  go_enter Tryz.func62, Tryz.ntmps62
  go_wp2_with fail
  obtain ⟨W, hW⟩ : ∃ W : World, W = (w.alloc (.cells #[.int .i64 P, .int .i64 M, .slice am mn cm, .int .i64 m, .slice a n c] 27)).alloc (.cells #[.int .i64 0, .int .i64 0, .slice none 0 0, .int .i64 0, .slice none 0 0] 27) := ⟨_, rfl⟩
  rw [← hW]
  have hbW : Below w.heap.size w W := by rw [hW]; exact below2 _ _ _
  have hsW : W.heap.size = w.heap.size + 2 := by rw [hW]; simp
  have x0 : Box W w.heap.size [.int .i64 P, .int .i64 M, .slice am mn cm, .int .i64 m, .slice a n c] := by rw [hW]; exact (Box.new _ _ _ rfl).alloc _
  have z0 : Box W (w.heap.size + 1) [.int .i64 0, .int .i64 0, .slice none 0 0, .int .i64 0, .slice none 0 0] := by rw [hW]; exact Box.new _ _ _ (by simp)
  clear hW
  have hS : ∀ V, Below W.heap.size W V → V.cell? ⟨w.heap.size, 0, none⟩ = some (.int .i64 P) ∧ V.cell? ⟨w.heap.size, 1, none⟩ = some (.int .i64 M) ∧ V.cell? ⟨w.heap.size, 2, none⟩ = some (.slice am mn cm) ∧ V.cell? ⟨w.heap.size, 3, none⟩ = some (.int .i64 m) ∧ V.cell? ⟨w.heap.size, 4, none⟩ = some (.slice a n c) ∧
      Box V (w.heap.size + 1) [.int .i64 0, .int .i64 0, .slice none 0 0, .int .i64 0, .slice none 0 0] := fun V hV => by
    have x1 := x0.keep hV
    exact ⟨x1.cell 0 rfl, x1.cell 1 rfl, x1.cell 2 rfl, x1.cell 3 rfl, x1.cell 4 rfl, z0.keep hV⟩
  have HS := Lib.hid hS
  have HbW := Lib.hid hbW
  have HsW := Lib.hid hsW
  refine (codeCheck_any P M am mn cm mod m a n c L W (hmod.keep hbW) (hi.keep hbW)).mono ?_
  rintro e w1 ⟨rfl, hb1⟩
  rw [HE.out]
  clear hS x0 z0 hbW hsW
  go_wp2_with fail
  refine (values_any ap m cp w1).mono ?_
  rintro e w2 ⟨rfl, rfl⟩
  have hb12 := below1 w1 (.cells #[.slice ap m cp] 22)
  go_wp2_with fail
  refine (sorted_any w1.heap.size ap m cp R (by omega) _ (by simp) (cell_alloc_at _ _ _ rfl 0) ((hp.keep (Below.next HbW.out hb1)).keep hb12)).mono ?_
  rintro e w3 ⟨a4, c4, rfl, hown4, hb3⟩
  have hI4 := (Ints.own hown4).1
  have hbW3 : Below W.heap.size W w3 := Below.next hb1 (Below.next hb12 hb3)
  obtain ⟨c0, c1, c2, c3, c4', _⟩ := HS.out w3 hbW3
  clear hown4 hb1 hb12 hb3
  go_wp2_with fail
  refine (modSet_any m a4 m c4 (sortL R) w3 hI4).mono ?_
  rintro e w4 ⟨rfl, rfl⟩
  rw [hset]
  go_upto_region 7 with fail
  obtain ⟨g, hg⟩ : ∃ g, w3.heap.size = g := ⟨_, rfl⟩
  have HG := Lib.hid hg
  clear hg
  go_cut [8] (fun v wx => v = .pointer (some ⟨w3.heap.size, 0, none⟩) ∧ MOut wx w3.heap.size (.int .i64 m) none 0 0 [] [] ∧ Below w3.heap.size w3 wx)
  case first =>
    go_wp2_with fail
    go_meet
    exact ⟨rfl, MOut.start (Box.new w3 [.int .i64 m, .slice none 0 0] _ rfl), below1 _ _⟩
  obtain ⟨rfl, hO0, hbc⟩ := hcut
  generalize wc = U at *
  have hs3 := HG.out
  rw [hs3] at hO0 ⊢
  have HbU := Lib.hid (Below.next hbW3 hbc)
  obtain ⟨c0', c1', c2', c3', c4'', _⟩ := HS.out U HbU.out
  have hgU := hO0.lt
  clear c0 c1 c2 c3 c4' hbc hs3
  have hgW : W.heap.size ≤ g := by have := hbW3.size; have := HG.out; omega
  go_wp2_with fail
  go_loopw [42] (fun iv wr => ∃ (k : Nat) (a1 : Option Addr) (c1 : Nat) (Rr : List (Option Addr × Nat)), k ≤ n ∧ iv = .int .i64 k ∧ MOut wr g (.int .i64 m) a1 k c1 Rr (L2.take k) ∧ Below g U wr) (fun iv _ => n - (intOf iv).toNat)
  case atStart => exact ⟨0, none, 0, [], Nat.zero_le _, rfl, by simpa using hO0, Below.refl _ _⟩
  case round =>
    clear hO0
    obtain ⟨k, a1, c1, Rr, hk, rfl, hO, hbr⟩ := hrel
    have hbWr := Below.trans HbU.out (hbr.mono hgW)
    have hbwr := Below.next HbW.out hbWr
    obtain ⟨d0, d1, d2, d3, d4, zz⟩ := HS.out wr hbWr
    have hgr := hO.lt
    by_cases hlt : k < n
    · obtain ⟨ra, rn, rc, hcell, hrow⟩ := (hi.keep hbwr).cell k hlt
      have hrn : rn = m := by rw [← hrow.len]; exact HRl.out k hlt
      subst hrn
      have Htk := Lib.hid (HLk.out k hlt)
      obtain ⟨l, hl⟩ : ∃ l, nthR L k = l := ⟨_, rfl⟩
      rw [hl] at Htk hrow
      have hplr := hrow.pl
      clear hl zz
      go_wp2_with (at_make; refine wpList_mk rfl _ _ 22 3 rfl (.int .i64 0) 8 Tryz.underlying22 infoInt rfl rn rfl rfl (by omega) (by unfold maxLen; omega) ?_; intro a5 w5 hown hbel hge hlt5)
      have hown0 : w5.ownsRow wr.heap.size 3 1 (.slice a5 rn rn) rn ((scat rn R l 0).map (Value.int .i64)) := by rw [scat_zero]; exact hown
      clear hown hge hlt5 d0 d1 d2 d3 d4 hcell
      generalize wr = X1 at *
      go_loopw [51] (fun jv ws => ∃ j : Nat, j ≤ rn ∧ jv = .int .i64 j ∧ ws.ownsRow X1.heap.size 3 1 (.slice a5 rn rn) rn ((scat rn R l j).map (Value.int .i64)) ∧ Below X1.heap.size X1 ws) (fun jv _ => rn - (intOf jv).toNat)
      case atStart => exact ⟨0, Nat.zero_le _, rfl, hown0, hbel⟩
      case round =>
        clear hown0 hbel
        obtain ⟨j, hj, rfl, hown, hbs⟩ := hrel
        by_cases hltj : j < rn
        · have cq := ((hp.keep hbwr).keep hbs).cell j hltj
          have cr := (hrow.keep hbs).cell j hltj
          have hqb := HRi.out j (by rw [Hpl.out]; exact hltj)
          obtain ⟨z, hz⟩ : ∃ z : Nat, nth R j = z := ⟨(nth R j).toNat, by omega⟩
          have hzm : z < rn := by omega
          have Hst : Hid (scat rn R l (j + 1) = (scat rn R l j).set z (nth l j)) := by show _ = _; rw [scat, hz, Int.toNat_natCast]
          rw [hz] at cq
          obtain ⟨hints, hmine⟩ := Ints.own hown
          have hpl5 := hints.pl
          have cz := hints.cell z hzm
          have fz := (hmine (by omega)).2 z hzm
          have hB := (hmine (by omega)).1
          clear hz hqb
          go_wp2_with fail
          go_roundw
          case rel =>
            have h := own_set hown z hzm (.int .i64 (nth l j))
            rw [← List.map_set, ← Hst.out] at h
            exact ⟨j + 1, by omega, by go_num, h, hbs.setCell hB _⟩
          case measure => simp [intOf] <;> omega
        · obtain rfl : j = rn := by omega
          have hs := hO.keep hbs
          have hOk := hs.om.keep (below1 wr (.cells #[.slice a5 j j] 22))
          have hcp := hs.c1
          have hgs := hs.lt
          go_wp2_with (at_builtin; refine wpList_push rfl _ _ 25 22 rfl (.slice none 0 0) 24 Tryz.underlying25 infoInts rfl (g + 1) a1 k c1 _ rfl hOk.own ⟨wr.heap.size, 0, none⟩ 1 (.slice a5 j j) rfl (cell_new wr _ _) rfl (by omega) (by unfold maxLen; omega) (by simp; omega) ?_; intro a6 c6 w6 hown6 hgr6 hap6; have hk6 := (hs.pushed hgr6).2.1; have hf6 := (hs.pushed hgr6).2.2)
          go_roundw
          case rel =>
            have hra : a5 ≠ none → ¬ OIn a1 Rr (ablk a5) := fun h0 hI => by
              have h1 := (own_ne hown h0).1
              have h2 := (hO.om.lt _ hI).2
              omega
            obtain ⟨hP, hbP⟩ := hs.push (scat_len j R l j) (own_mono hown (by omega)) hra hown6 hgr6 hap6
            exact ⟨k + 1, a6, c6, _, by omega, by go_num, by rw [Htk.out]; exact hP, Below.trans hbr ((hbs.mono (by omega)).trans hbP)⟩
          case measure => simp [intOf] <;> omega
    · obtain rfl : k = n := by omega
      rw [List.take_of_length_le (by rw [HL2l.out]; exact Nat.le_refl _)] at hO
      have Hc := Lib.hid (HN.out wr a1 c1 hbwr hO.om.mat)
      have g0 := hO.c0
      have g1 := hO.c1
      clear HN zz hO
      go_wp2_with fail
      refine Hc.out.mono ?_
      rintro e w6 ⟨a6, c6, a7, c7, rfl, hN1, hN2, hb6⟩
      obtain ⟨_, _, _, _, _, zz6⟩ := HS.out w6 (Below.next hbWr hb6)
      have z0 := zz6.cell 0 rfl
      have z1 := zz6.cell 1 rfl
      have z2 := zz6.cell 2 rfl
      have z3 := zz6.cell 3 rfl
      have z4 := zz6.cell 4 rfl
      have f0 := zz6.frozen 0
      have f1 := zz6.frozen 1
      have f2 := zz6.frozen 2
      have f3 := zz6.frozen 3
      have f4 := zz6.frozen 4
      have hs := HsW.out
      have hs2 := hbWr.size
      have hbF := Below.next hbwr hb6
      obtain ⟨q, hq⟩ : ∃ q, (canS (tblOf P M.toNat mod) L2 m).length = q := ⟨_, rfl⟩
      have hFin : CNewPost P M mod m L2 w (.returned (.tuple #[.agg #[.int .i64 P, .int .i64 M, .slice a6 mod.length c6, .int .i64 m, .slice a7 (canS (tblOf P M.toNat mod) L2 m).length c7], .int .i64 0]))
          (((((w6.setCell ⟨w.heap.size + 1, 0, none⟩ (.int .i64 P)).setCell ⟨w.heap.size + 1, 1, none⟩ (.int .i64 M)).setCell ⟨w.heap.size + 1, 2, none⟩ (.slice a6 mod.length c6)).setCell ⟨w.heap.size + 1, 3, none⟩ (.int .i64 m)).setCell ⟨w.heap.size + 1, 4, none⟩ (.slice a7 (canS (tblOf P M.toNat mod) L2 m).length c7)) := by
        refine ⟨a6, c6, a7, c7, rfl, ?_, ?_, (((((hbF.setCell (p := ⟨w.heap.size + 1, 0, none⟩) (by simp) _).setCell (p := ⟨w.heap.size + 1, 1, none⟩) (by simp) _).setCell (p := ⟨w.heap.size + 1, 2, none⟩) (by simp) _).setCell (p := ⟨w.heap.size + 1, 3, none⟩) (by simp) _).setCell (p := ⟨w.heap.size + 1, 4, none⟩) (by simp) _)⟩
        · exact (((((hN1.setCell (p := ⟨w.heap.size + 1, 0, none⟩) (by simp; omega) _).setCell (p := ⟨w.heap.size + 1, 1, none⟩) (by simp; omega) _).setCell (p := ⟨w.heap.size + 1, 2, none⟩) (by simp; omega) _).setCell (p := ⟨w.heap.size + 1, 3, none⟩) (by simp; omega) _).setCell (p := ⟨w.heap.size + 1, 4, none⟩) (by simp; omega) _).mono (by omega)
        · exact (((((hN2.setCell (p := ⟨w.heap.size + 1, 0, none⟩) (by simp; omega) _).setCell (p := ⟨w.heap.size + 1, 1, none⟩) (by simp; omega) _).setCell (p := ⟨w.heap.size + 1, 2, none⟩) (by simp; omega) _).setCell (p := ⟨w.heap.size + 1, 3, none⟩) (by simp; omega) _).setCell (p := ⟨w.heap.size + 1, 4, none⟩) (by simp; omega) _).mono (by omega)
      rw [hq] at hFin ⊢
      have HFin := Lib.hid hFin
      clear hFin hN1 hN2 Hc zz6 hq
      go_wp2_with fail
      exact bodyPost_ret (v := .tuple #[.agg #[.int .i64 P, .int .i64 M, .slice a6 mod.length c6, .int .i64 m, .slice a7 q c7], .int .i64 0]) (by simp [results, Tryz.results62, go_sem, z0, z1, z2, z3, z4]) rfl HFin.out
end

/- The walk of ordering.Reorder. -/
section
open Go.RowKit

theorem fmatE_mk {P M : Int} {mod : List Int} {m : Nat} {D : List (List Int)} (hfB : fieldB P M mod = true) (hm : m ≤ 256) (hD : D.length ≤ 256) (hR : Rws (tblOf P M.toNat mod).El m D) : fmatE P M mod m D = 0 := by
  unfold fmatE
  rw [if_pos hfB]
  unfold matE
  rw [if_neg (by omega)]
  have hsh : shapeQ (m : Int) D = true := by
    unfold shapeQ
    rw [List.all_eq_true]
    intro r hr
    have := (hR r hr).1
    simp; omega
  rw [if_neg (by rw [hsh]; decide), if_pos]
  rw [List.all_eq_true]
  intro r hr
  unfold elsQ isQ
  rw [List.all_eq_true]
  intro x hx
  have := (hR r hr).2 x hx
  unfold Tbl.El at this
  simp
  exact this
theorem reo_fmat {P M : Int} {mod : List Int} {m : Nat} {L : List (List Int)} {Q : List Int} (hE : codeE P M mod m L = 0) (hO : ordB m Q = true) : fmatE P M mod m (L.map (pickL Q)) = 0 := by
  obtain ⟨N', e, hm1, hm64, F, hR⟩ := codeE_fld hE
  obtain rfl : m = N' := by omega
  obtain ⟨hI, hl⟩ := ordB_in hO
  exact fmatE_mk (codeE_zero hE).1 (by omega) (by rw [List.length_map]; exact (codeE_rws hE).choose_spec.2.2.2.1) (reo_rws F hR hI hl)

def ReoPost (P M : Int) (mod : List Int) (N : Int) (L : List (List Int)) (Q : List Int) (w : World) (e : Ending) (w' : World) : Prop :=
  Below w.heap.size w w' ∧ (
    (ordE P M mod N L Q ≠ 0 ∧ e = .returned (.tuple #[.agg #[.int .i64 0, .int .i64 0, .slice none 0 0, .int .i64 0, .slice none 0 0], .int .i64 (ordE P M mod N L Q)])) ∨
    (ordE P M mod N L Q = 0 ∧ ∃ m : Nat, ∃ a1 c1 a2 c2, N = m ∧ e = .returned (.tuple #[.agg #[.int .i64 P, .int .i64 M, .slice a1 mod.length c1, .int .i64 m, .slice a2 (reoL (tblOf P M.toNat mod).ops m Q L).length c2], .int .i64 0]) ∧
      IntsN w.heap.size w' a1 mod.length mod ∧ MatN w.heap.size w' a2 (reoL (tblOf P M.toNat mod).ops m Q L).length (reoL (tblOf P M.toNat mod).ops m Q L)))

set_option maxRecDepth 100000 in
set_option maxHeartbeats 4000000 in
theorem reorder_any (P M : Int) (am : Option Addr) (mn cm : Nat) (mod : List Int) (N : Int) (a : Option Addr) (n c : Nat) (L : List (List Int)) (ao : Option Addr) (no co : Nat) (Q : List Int) (w : World)
    (hmod : Ints w am mn mod) (hi : Mat w a n L) (hq : Ints w ao no Q) :
    Calls Tryz.prog 17 #[.agg #[.int .i64 P, .int .i64 M, .slice am mn cm, .int .i64 N, .slice a n c], .slice ao no co] w (ReoPost P M mod N L Q w) := by
  have Hql := Lib.hid hq.len
  have hplq := hq.pl
  go_enter Tryz.func17, Tryz.ntmps17
  go_wp2_with fail
  obtain ⟨W, hW⟩ : ∃ W : World, W = (w.alloc (.cells #[.int .i64 P, .int .i64 M, .slice am mn cm, .int .i64 N, .slice a n c] 27)).alloc (.cells #[.int .i64 0, .int .i64 0, .slice none 0 0, .int .i64 0, .slice none 0 0] 27) := ⟨_, rfl⟩
  rw [← hW]
  have hbW : Below w.heap.size w W := by rw [hW]; exact below2 _ _ _
  have hsW : W.heap.size = w.heap.size + 2 := by rw [hW]; simp
  have x0 : Box W w.heap.size [.int .i64 P, .int .i64 M, .slice am mn cm, .int .i64 N, .slice a n c] := by rw [hW]; exact (Box.new _ _ _ rfl).alloc _
  have z0 : Box W (w.heap.size + 1) [.int .i64 0, .int .i64 0, .slice none 0 0, .int .i64 0, .slice none 0 0] := by rw [hW]; exact Box.new _ _ _ (by simp)
  clear hW
  have hS : ∀ V, Below W.heap.size W V → V.cell? ⟨w.heap.size, 0, none⟩ = some (.int .i64 P) ∧ V.cell? ⟨w.heap.size, 1, none⟩ = some (.int .i64 M) ∧ V.cell? ⟨w.heap.size, 2, none⟩ = some (.slice am mn cm) ∧ V.cell? ⟨w.heap.size, 3, none⟩ = some (.int .i64 N) ∧ V.cell? ⟨w.heap.size, 4, none⟩ = some (.slice a n c) ∧
      Box V (w.heap.size + 1) [.int .i64 0, .int .i64 0, .slice none 0 0, .int .i64 0, .slice none 0 0] := fun V hV => by
    have x1 := x0.keep hV
    exact ⟨x1.cell 0 rfl, x1.cell 1 rfl, x1.cell 2 rfl, x1.cell 3 rfl, x1.cell 4 rfl, z0.keep hV⟩
  have HS := Lib.hid hS
  have HbW := Lib.hid hbW
  have HsW := Lib.hid hsW
  refine (ordOrdered_any P M am mn cm mod N a n c L ao no co Q W (hmod.keep hbW) (hi.keep hbW) (hq.keep hbW)).mono ?_
  rintro e w1 ⟨rfl, hb1⟩
  have hbw1 := Below.next hbW hb1
  clear hS x0 z0 hbW hsW
  by_cases hO : ordE P M mod N L Q = 0
  · obtain ⟨hE, hB⟩ := ordE_zero hO
    have HO := Lib.hid hO
    have hmn : mn ≤ 1000000 := by
      have h1 := hmod.len
      have h2 := mod_len (codeE_zero hE).1
      omega
    obtain ⟨m, rfl, hm1, hm64, _, _⟩ := codeE_fld hE
    obtain ⟨hI, hl⟩ := ordB_in hB
    obtain rfl : no = m := by rw [← hq.len]; exact hl
    have hsc : (L.map fun r => scat no (permTo no Q no) r no) = L.map (pickL Q) := List.map_congr_left fun r _ => scat_pick hm64 hB r
    have HP : Hid (∀ V a7 c7, Below w.heap.size w V → Ints V a7 no (permTo no Q no) → Calls Tryz.prog 62 #[.agg #[.int .i64 P, .int .i64 M, .slice am mn cm, .int .i64 no, .slice a n c], .slice a7 no c7] V (CNewPost P M mod no (L.map (pickL Q)) V)) := fun V a7 c7 hV hp => by
      have h := permute_any P M am mn cm mod no a n c L a7 c7 (permTo no Q no) V (hmod.keep hV) (hi.keep hV) hE hmn hp (permTo_in hm64 hB) (permTo_set hm64 hB) (by rw [hsc]; exact reo_fmat hE hB)
      rw [hsc] at h
      exact h
    have HI := Lib.hid hI
    have Hlk : Hid (∀ k, k < no → 0 ≤ nth Q k ∧ nth Q k < no) := fun k hk => hI k (by rw [Hql.out]; exact hk)
    have hq1 := hq.keep hbw1
    obtain ⟨c0, c1, c2, c3, c4, _⟩ := HS.out w1 hb1
    rw [hO]
    clear hO hE hB hI hl hsc
    go_wp2_with (at_make; refine wpList_mk rfl _ _ 22 3 rfl (.int .i64 0) 8 Tryz.underlying22 infoInt rfl no rfl rfl (by omega) (by unfold maxLen; omega) ?_; intro a5 w5 hown hbel hge hlt)
    have hown0 : w5.ownsRow w1.heap.size 3 1 (.slice a5 no no) no ((permTo no Q 0).map (Value.int .i64)) := by rw [permTo, List.map_replicate]; exact hown
    clear hown hge hlt c0 c1 c2 c3 c4
    go_loopw [22] (fun iv wr => ∃ k : Nat, k ≤ no ∧ iv = .int .i64 k ∧ wr.ownsRow w1.heap.size 3 1 (.slice a5 no no) no ((permTo no Q k).map (Value.int .i64)) ∧ Below w1.heap.size w1 wr) (fun iv _ => no - (intOf iv).toNat)
    case atStart => exact ⟨0, Nat.zero_le _, rfl, hown0, hbel⟩
    case round =>
      clear hown0 hbel
      obtain ⟨k, hk, rfl, hown, hbr⟩ := hrel
      by_cases hlt : k < no
      · have cq := (hq1.keep hbr).cell k hlt
        have hqb := Hlk.out k hlt
        obtain ⟨z, hz⟩ : ∃ z : Nat, nth Q k = z := ⟨(nth Q k).toNat, by omega⟩
        have hzm : z < no := by omega
        have hst : permTo no Q (k + 1) = (permTo no Q k).set z (k : Int) := by rw [permTo, hz, Int.toNat_natCast]
        have Hst := Lib.hid hst
        rw [hz] at cq
        obtain ⟨hints, hmine⟩ := Ints.own hown
        have hpl5 := hints.pl
        have cz := hints.cell z hzm
        have fz := (hmine (by omega)).2 z hzm
        have hB := (hmine (by omega)).1
        clear hz hqb hst
        go_wp2_with fail
        go_roundw
        case rel =>
          have h := own_set hown z hzm (.int .i64 k)
          rw [← List.map_set, ← Hst.out] at h
          exact ⟨k + 1, by omega, by go_num, h, hbr.setCell hB _⟩
        case measure => simp [intOf] <;> omega
      · obtain rfl : k = no := by omega
        have hI7 := (Ints.own hown).1
        have hbwr := Below.next hbw1 hbr
        have HC := Lib.hid (HP.out wr a5 k hbwr hI7)
        obtain ⟨c0, c1, c2, c3, c4, _⟩ := HS.out wr (Below.next hb1 hbr)
        clear hown hI7
        go_wp2_with fail
        refine HC.out.mono ?_
        rintro e w6 ⟨a1, c1', a2, c2', rfl, hN1, hN2, hb6⟩
        obtain ⟨_, _, _, _, _, zz6⟩ := HS.out w6 (Below.next (Below.next hb1 hbr) hb6)
        have z0 := zz6.cell 0 rfl
        have z1 := zz6.cell 1 rfl
        have z2 := zz6.cell 2 rfl
        have z3 := zz6.cell 3 rfl
        have z4 := zz6.cell 4 rfl
        have f0 := zz6.frozen 0
        have f1 := zz6.frozen 1
        have f2 := zz6.frozen 2
        have f3 := zz6.frozen 3
        have f4 := zz6.frozen 4
        have hs := HsW.out
        have hs2 := (Below.next hb1 hbr).size
        have hbF := Below.next hbwr hb6
        have hFin : ReoPost P M mod k L Q w (.returned (.tuple #[.agg #[.int .i64 P, .int .i64 M, .slice a1 mod.length c1', .int .i64 k, .slice a2 (reoL (tblOf P M.toNat mod).ops k Q L).length c2'], .int .i64 0]))
            (((((w6.setCell ⟨w.heap.size + 1, 0, none⟩ (.int .i64 P)).setCell ⟨w.heap.size + 1, 1, none⟩ (.int .i64 M)).setCell ⟨w.heap.size + 1, 2, none⟩ (.slice a1 mod.length c1')).setCell ⟨w.heap.size + 1, 3, none⟩ (.int .i64 k)).setCell ⟨w.heap.size + 1, 4, none⟩ (.slice a2 (reoL (tblOf P M.toNat mod).ops k Q L).length c2')) := by
          refine ⟨(((((hbF.setCell (p := ⟨w.heap.size + 1, 0, none⟩) (by simp) _).setCell (p := ⟨w.heap.size + 1, 1, none⟩) (by simp) _).setCell (p := ⟨w.heap.size + 1, 2, none⟩) (by simp) _).setCell (p := ⟨w.heap.size + 1, 3, none⟩) (by simp) _).setCell (p := ⟨w.heap.size + 1, 4, none⟩) (by simp) _), .inr ⟨HO.out, k, a1, c1', a2, c2', rfl, rfl, ?_, ?_⟩⟩
          · exact (((((hN1.setCell (p := ⟨w.heap.size + 1, 0, none⟩) (by simp; omega) _).setCell (p := ⟨w.heap.size + 1, 1, none⟩) (by simp; omega) _).setCell (p := ⟨w.heap.size + 1, 2, none⟩) (by simp; omega) _).setCell (p := ⟨w.heap.size + 1, 3, none⟩) (by simp; omega) _).setCell (p := ⟨w.heap.size + 1, 4, none⟩) (by simp; omega) _).mono (by omega)
          · exact (((((hN2.setCell (p := ⟨w.heap.size + 1, 0, none⟩) (by simp; omega) _).setCell (p := ⟨w.heap.size + 1, 1, none⟩) (by simp; omega) _).setCell (p := ⟨w.heap.size + 1, 2, none⟩) (by simp; omega) _).setCell (p := ⟨w.heap.size + 1, 3, none⟩) (by simp; omega) _).setCell (p := ⟨w.heap.size + 1, 4, none⟩) (by simp; omega) _).mono (by omega)
        have HFin := Lib.hid hFin
        have hre : (canS (tblOf P M.toNat mod) (L.map (pickL Q)) k).length = (reoL (tblOf P M.toNat mod).ops k Q L).length := rfl
        rw [hre]
        clear hFin hN1 hN2 HC zz6 hre
        generalize (reoL (tblOf P M.toNat mod).ops k Q L).length = q at *
        go_wp2_with fail
        exact bodyPost_ret (v := .tuple #[.agg #[.int .i64 P, .int .i64 M, .slice a1 mod.length c1', .int .i64 k, .slice a2 q c2'], .int .i64 0]) (by simp [results, Tryz.results17, go_sem, z0, z1, z2, z3, z4]) rfl HFin.out
  · have HO := Lib.hid hO
    have hO2 : (ordE P M mod N L Q != 0) = true := by simpa using hO
    obtain ⟨_, _, _, _, _, zz6⟩ := HS.out w1 hb1
    have z0 := zz6.cell 0 rfl
    have z1 := zz6.cell 1 rfl
    have z2 := zz6.cell 2 rfl
    have z3 := zz6.cell 3 rfl
    have z4 := zz6.cell 4 rfl
    have f0 := zz6.frozen 0
    have f1 := zz6.frozen 1
    have f2 := zz6.frozen 2
    have f3 := zz6.frozen 3
    have f4 := zz6.frozen 4
    have hb6 : Below w.heap.size w (((((w1.setCell ⟨w.heap.size + 1, 0, none⟩ (.int .i64 0)).setCell ⟨w.heap.size + 1, 1, none⟩ (.int .i64 0)).setCell ⟨w.heap.size + 1, 2, none⟩ (.slice none 0 0)).setCell ⟨w.heap.size + 1, 3, none⟩ (.int .i64 0)).setCell ⟨w.heap.size + 1, 4, none⟩ (.slice none 0 0)) :=
      (((((hbw1.setCell (p := ⟨w.heap.size + 1, 0, none⟩) (by simp) _).setCell (p := ⟨w.heap.size + 1, 1, none⟩) (by simp) _).setCell (p := ⟨w.heap.size + 1, 2, none⟩) (by simp) _).setCell (p := ⟨w.heap.size + 1, 3, none⟩) (by simp) _).setCell (p := ⟨w.heap.size + 1, 4, none⟩) (by simp) _)
    have hFin : ReoPost P M mod N L Q w (.returned (.tuple #[.agg #[.int .i64 0, .int .i64 0, .slice none 0 0, .int .i64 0, .slice none 0 0], .int .i64 (ordE P M mod N L Q)])) _ := ⟨hb6, .inl ⟨hO, rfl⟩⟩
    have HFin := Lib.hid hFin
    clear hFin hb6 zz6 hO
    generalize ordE P M mod N L Q = oe at *
    go_wp2_with fail
    exact bodyPost_ret (v := .tuple #[.agg #[.int .i64 0, .int .i64 0, .slice none 0 0, .int .i64 0, .slice none 0 0], .int .i64 oe]) (by simp [results, Tryz.results17, go_sem, z0, z1, z2, z3, z4]) rfl HFin.out
end

/- The walk of matrix.Inverse, at an invertible matrix. -/
section
open Go.RowKit

/-- rows side by side -/
def joinL (D U : List (List Int)) : List (List Int) := List.zipWith (fun r s => r ++ s) D U
theorem joinL_take {k : Nat} : ∀ {D U : List (List Int)}, D.length = U.length → (∀ r ∈ D, r.length = k) → (joinL D U).map (List.take k) = D
  | [], [], _, _ => rfl
  | [], _ :: _, h, _ => by simp at h
  | _ :: _, [], h, _ => by simp at h
  | r :: D, u :: U, h, hr => by
    have ih := joinL_take (k := k) (D := D) (U := U) (by simpa using h) fun x hx => hr x (List.mem_cons_of_mem _ hx)
    unfold joinL at ih ⊢
    rw [List.zipWith_cons_cons, List.map_cons, ih]
    have := hr r (List.mem_cons_self ..)
    rw [← this, List.take_left']
    rfl
theorem joinL_drop {k : Nat} : ∀ {D U : List (List Int)}, D.length = U.length → (∀ r ∈ D, r.length = k) → (joinL D U).map (List.drop k) = U
  | [], [], _, _ => rfl
  | [], _ :: _, h, _ => by simp at h
  | _ :: _, [], h, _ => by simp at h
  | r :: D, u :: U, h, hr => by
    have ih := joinL_drop (k := k) (D := D) (U := U) (by simpa using h) fun x hx => hr x (List.mem_cons_of_mem _ hx)
    unfold joinL at ih ⊢
    rw [List.zipWith_cons_cons, List.map_cons, ih]
    have := hr r (List.mem_cons_self ..)
    rw [← this, List.drop_left']
    rfl
theorem joinL_rws {El : Int → Prop} {k m : Nat} : ∀ {D U : List (List Int)}, Rws El k D → Rws El m U → Rws El (k + m) (joinL D U)
  | [], _, _, _ => fun r hr => by simp [joinL] at hr
  | _ :: _, [], _, _ => fun r hr => by simp [joinL] at hr
  | d :: D, u :: U, hD, hU => by
    have ih := joinL_rws (D := D) (U := U) (fun r hr => hD r (List.mem_cons_of_mem _ hr)) (fun r hr => hU r (List.mem_cons_of_mem _ hr))
    intro r hr
    unfold joinL at hr ih
    rw [List.zipWith_cons_cons] at hr
    rcases List.mem_cons.1 hr with rfl | hr
    · have h1 := hD d (List.mem_cons_self ..)
      have h2 := hU u (List.mem_cons_self ..)
      refine ⟨by rw [List.length_append, h1.1, h2.1], fun x hx => ?_⟩
      rcases List.mem_append.1 hx with hx | hx
      · exact h1.2 x hx
      · exact h2.2 x hx
    · exact ih r hr
theorem unit_rws {El : Int → Prop} (h0 : El 0) (h1 : El 1) (n : Nat) : Rws El n (unitL n) := fun r hr => by
  unfold unitL at hr
  obtain ⟨i, _, rfl⟩ := List.mem_map.1 hr
  refine ⟨unitR_len n i, fun x hx => ?_⟩
  unfold unitR at hx
  rcases List.mem_or_eq_of_mem_set hx with hx | rfl
  · rw [List.eq_of_mem_replicate hx]; exact h0
  · exact h1
def invL (O : FOps) (D : List (List Int)) (k : Nat) : List (List Int) := (elimTo O (joinL D (unitL k)) k).1.map (List.drop k)
theorem invL_len (O : FOps) {D : List (List Int)} {k : Nat} (h : D.length = k) : (invL O D k).length = k := by
  unfold invL
  rw [List.length_map, elimTo_length]
  simp [joinL, unitL_len, h]

set_option maxRecDepth 100000 in
set_option maxHeartbeats 8000000 in
theorem inverse_any (P M : Int) (am : Option Addr) (mn cm : Nat) (mod : List Int) (k : Nat) (a : Option Addr) (c : Nat) (D : List (List Int)) (w : World) (hmod : Ints w am mn mod) (hi : Mat w a k D)
    (hB : fieldB P M mod = true) (hR : Rws (tblOf P M.toNat mod).El k D) (hk : k ≤ 64) (hpv : (elimTo (tblOf P M.toNat mod).ops (joinL D (unitL k)) k).2.length = k) :
    Calls Tryz.prog 90 #[.agg #[.int .i64 P, .int .i64 M, .slice am mn cm], .agg #[.int .i64 k, .slice a k c]] w
      fun e w' => ∃ a1 c1, e = .returned (.tuple #[.agg #[.int .i64 k, .slice a1 k c1], .int .i64 0]) ∧ MatN w.heap.size w' a1 k (invL (tblOf P M.toNat mod).ops D k) ∧ Below w.heap.size w w' := by
  have hDl := hi.len
  have F := fieldB_fld hB
  have hmE : matE (tblOf P M.toNat mod).q k D = 0 := by
    have h := fmatE_mk hB (show k ≤ 256 by omega) (show D.length ≤ 256 by omega) hR
    exact (fmatE_zero h).2
  have hJr := joinL_rws hR (unit_rws F.zero F.one k)
  have hJt := joinL_take (U := unitL k) (by rw [unitL_len]; exact hDl) (fun r hr => (hR r hr).1)
  have hJd := joinL_drop (U := unitL k) (by rw [unitL_len]; exact hDl) (fun r hr => (hR r hr).1)
  have hpla := hi.pl
  have HDr : Hid (∀ l ∈ D, l.length ≤ 1000000) := fun l hl => by rw [(hR l hl).1]; omega
  obtain ⟨G, hGG⟩ : ∃ G, tblOf P M.toNat mod = G := ⟨_, rfl⟩
  unfold invL
  obtain ⟨J, hJ⟩ : ∃ J, joinL D (unitL k) = J := ⟨_, rfl⟩
  rw [hGG, hJ] at hpv hJr
  rw [hJ] at hJt hJd
  rw [hGG, hJ]
  have HJ := Lib.hid (And.intro hJr (And.intro hJt hJd))
  have Hpv := Lib.hid hpv
  have HDl := Lib.hid hDl
  have HGG := Lib.hid hGG
  have HB := Lib.hid hB
  have HmE := Lib.hid hmE
  clear hJr hJt hJd hpv hDl hGG F hR hJ hB hmE
  go_enter Tryz.func90, Tryz.ntmps90
  go_wp2_with fail
  obtain ⟨W, hW⟩ : ∃ W : World, W = ((((w.alloc (.cells #[.int .i64 P, .int .i64 M, .slice am mn cm] 24)).alloc (.cells #[.int .i64 k, .slice a k c] 62)).alloc (.cells #[.int .i64 0, .slice none 0 0] 62)).alloc (.cells #[.int .i64 k, .slice a k c] 62)) := ⟨_, rfl⟩
  rw [← hW]
  have hbW : Below w.heap.size w W := by rw [hW]; exact ((((Below.refl _ _).alloc (Nat.le_refl _) _).alloc (by simp) _).alloc (by simp; omega) _).alloc (by simp; omega) _
  have hsW : W.heap.size = w.heap.size + 4 := by rw [hW]; simp
  have x1 : Box W (w.heap.size + 1) [.int .i64 k, .slice a k c] := by rw [hW]; exact ((Box.new _ _ _ (by simp)).alloc _).alloc _
  have x2 : Box W (w.heap.size + 1 + 1) [.int .i64 0, .slice none 0 0] := by rw [hW]; exact (Box.new _ _ _ (by simp)).alloc _
  have q3 : W.cell? ⟨w.heap.size + 1 + 1 + 1, 0, none⟩ = some (.int .i64 k) ∧ W.cell? ⟨w.heap.size + 1 + 1 + 1, 1, none⟩ = some (.slice a k c) := by rw [hW]; exact ⟨cell_alloc_at _ _ _ (by simp) 0, cell_alloc_at _ _ _ (by simp) 1⟩
  have hMs : Mats W (some ⟨w.heap.size + 1 + 1 + 1, 0, none⟩) 1 [((k : Int), D)] := ⟨rfl, fun _ => rfl, by unfold maxLen; omega, fun i hi' => by
    have : i = 0 := by simp at hi'; omega
    subst this
    exact ⟨a, k, c, by simpa using q3.1, by simpa using q3.2, hi.keep hbW⟩⟩
  have HX := Lib.hid (And.intro x1 x2)
  have HsW := Lib.hid hsW
  have HbW := Lib.hid hbW
  clear hW hsW x1 x2 q3
  refine (open_any P M am mn cm mod _ 1 1 _ W (hmod.keep hbW) hMs).mono ?_
  rintro e w1 ⟨hb1, hcase⟩
  rw [matsE_one] at hcase
  rcases hcase with ⟨hB, _⟩ | ⟨_, er, h0, h1, _⟩ | ⟨_, _, b, rfl, hG, hbl⟩
  · rw [HB.out] at hB; exact absurd hB (by decide)
  · rw [HmE.out] at h1; exact absurd h1.symm h0
  rw [HGG.out] at hG
  have hbw1 := Below.next hbW hb1
  have r1 := HX.out.1.keep hb1
  have m0 := r1.cell 0 rfl
  have m1 := r1.cell 1 rfl
  have hkk : ((k : Int) != k) = false := by simp
  have hi1 := hi.keep hbw1
  clear hMs hbW r1 hbl hmod hi
  go_wp2_with fail
  refine (unit_any k w1 (by omega)).mono ?_
  rintro e w2 ⟨ae, ce, S, rfl, hOu, hb2⟩
  rw [unitL_len] at hOu ⊢
  have HS : Hid (∀ V, Below w2.heap.size w2 V → V.cell? ⟨w.heap.size + 1, 0, none⟩ = some (.int .i64 k) ∧ V.cell? ⟨w.heap.size + 1, 1, none⟩ = some (.slice a k c)) := fun V hV => by
    have r2 := HX.out.1.keep (Below.next (Below.next hb1 hb2) hV)
    exact ⟨r2.cell 0 rfl, r2.cell 1 rfl⟩
  have Hcl : Hid (∀ V, Below w2.heap.size w2 V → Calls Tryz.prog 131 #[.slice a k c] V fun e w' => ∃ a1 c1 R, e = .returned (.slice a1 k c1) ∧ OMat w' V.heap.size a1 k c1 R D ∧ Below V.heap.size V w') := fun V hV => by
    refine (clone_any a k c D (hi1.keep (Below.next hb2 hV)) (by omega) HDr.out).mono ?_
    rintro e w' ⟨a1, c1, R, rfl, h1, h2⟩
    rw [HDl.out] at h1 ⊢
    exact ⟨a1, c1, R, rfl, h1, h2⟩
  have Hel : Hid (∀ V V2 a1 c1 R, Below w2.heap.size w2 V → OMat V2 V.heap.size a1 k c1 R D → Below V.heap.size V V2 → ∀ V3, Below V2.heap.size V2 V3 →
      Calls Tryz.prog 130 #[.pointer (some ⟨b, 0, none⟩), .slice a1 k c1, .int .i64 k, .slice ae k ce] V3 fun e w' => ∃ ap cp d, e = .returned (.tuple #[.slice ap k cp, .int .i64 d]) ∧
        MatN w1.heap.size w' ae k ((elimTo G.ops J k).1.map (List.drop k)) ∧ Below w1.heap.size w1 w') := fun V V2 a1 c1 R hV hO hV2 V3 hV3 => by
    have hb13 : Below w1.heap.size w1 V3 := Below.next (Below.next hb2 hV) (Below.next hV2 hV3)
    have hsz2 := hb2.size
    have hszV := hV.size
    have hO2 : OMat2 V3 w1.heap.size a1 k c1 R ae ce S k J := by
      refine ⟨by rw [HJ.out.2.1]; exact (hO.keep hV3).mono (by omega), by rw [HJ.out.2.2]; exact (hOu.keep (Below.next hV (Below.next hV2 hV3))), fun x hx hx2 => ?_⟩
      have h1 := (hO.lt x hx).1
      have h2 := (hOu.lt x hx2).2
      omega
    refine (eliminateA_any w1 a1 k c1 k k (k + k) R ae ce S J hG hb13 hO2 HJ.out.1 (Nat.le_refl _) (by omega) (by omega) (by omega)).mono ?_
    rintro e w' ⟨R', S', ap, cp, d, rfl, hO', _, _, hb'⟩
    exact ⟨ap, cp, d, by rw [Hpv.out], MatN.own hO'.om2, hb'⟩
  obtain ⟨k0, k1⟩ := HS.out w2 (Below.refl _ _)
  have HbW1 := Lib.hid (And.intro hb1 hbw1)
  clear hOu hi1 hG m0 m1 hb1 hbw1
  go_wp2_with fail
  go_cut [9] (fun v wx => ∃ ap cp, v = .slice ap k cp ∧ MatN w1.heap.size wx ae k ((elimTo G.ops J k).1.map (List.drop k)) ∧ Below w1.heap.size w1 wx)
  case first =>
    go_region_law ((first
      | (go_simp; go_at_call 131; ((with_reducible refine (Hcl.out _ (Below.refl _ _).drew).mono ?_); rintro e w4 ⟨a4, c4, R4, rfl, hO4, hb4⟩; obtain ⟨k0, k1⟩ := HS.out w4 (Below.next (Below.refl _ _).drew hb4)))
      | (go_simp; go_at_call 130; ((with_reducible refine (Hel.out _ w4 a4 c4 R4 (Below.refl _ _).drew hO4 hb4 _ (by first | exact Below.refl _ _ | exact (Below.refl _ _).drew)).mono ?_); rintro e w5 ⟨ap, cp, d, rfl, hM5, hb5⟩))))
    all_goals (
      go_wp2_with fail
      go_meet
      exact ⟨ap, cp, rfl, hM5, hb5⟩)
  obtain ⟨ap, cp, rfl, hM, hbc⟩ := hcut
  generalize wc = U at *
  have r2 := HX.out.1.keep (Below.next HbW1.out.1 hbc)
  have k0' := r2.cell 0 rfl
  have z6 := HX.out.2.keep (Below.next HbW1.out.1 hbc)
  have z0 := z6.cell 0 rfl
  have z1 := z6.cell 1 rfl
  have f0 := z6.frozen 0
  have f1 := z6.frozen 1
  have hs := HsW.out
  have hs1 := HbW1.out.1.size
  have HF := Lib.hid (And.intro (((hM.setCell (p := ⟨w.heap.size + 1 + 1, 0, none⟩) (by simp; omega) (.int .i64 k)).setCell (p := ⟨w.heap.size + 1 + 1, 1, none⟩) (by simp; omega) (.slice ae k ce)).mono (show w.heap.size ≤ w1.heap.size by omega))
    (((Below.next HbW1.out.2 hbc).setCell (p := ⟨w.heap.size + 1 + 1, 0, none⟩) (by simp; omega) (.int .i64 k)).setCell (p := ⟨w.heap.size + 1 + 1, 1, none⟩) (by simp; omega) (.slice ae k ce)))
  clear hM z6 r2 k0 k1 HS Hcl Hel
  go_wp2_with fail
  exact bodyPost_ret (v := .tuple #[.agg #[.int .i64 k, .slice ae k ce], .int .i64 0]) (by simp [results, Tryz.results90, go_sem, z0, z1]) rfl ⟨ae, ce, rfl, HF.out.1, HF.out.2⟩
end

/- Elimination with columns put behind (plain law): the pivots stay. -/
section
theorem nthR_map0 (f : List Int → List Int) (hf : f [] = []) (L : List (List Int)) (i : Nat) : nthR (L.map f) i = f (nthR L i) := by
  by_cases h : i < L.length
  · exact nthR_mapf f L h
  · rw [nthR_nil_of_le (by simpa using h), nthR_nil_of_le (by omega), hf]
section
variable {O : FOps} {k : Nat}
theorem findTo_take {J : List (List Int)} {c : Nat} (hc : c < k) : ∀ f i, findTo (J.map (List.take k)) c i f = findTo J c i f
  | 0, i => rfl
  | f + 1, i => by
    rw [findTo, findTo, nthR_map0 _ List.take_nil, nth_takeL _ hc, findTo_take hc f (i + 1)]
theorem findRow_take {J : List (List Int)} {c : Nat} (hc : c < k) (i : Nat) : findRow (J.map (List.take k)) c i = findRow J c i := by
  unfold findRow
  rw [List.length_map, findTo_take hc]
theorem clearRow_take {pv r : List Int} {c : Nat} (hc : c < k) : clearRow O (pv.take k) c (r.take k) = (clearRow O pv c r).take k := by
  unfold clearRow
  rw [nth_takeL _ hc]
  split
  · rfl
  · rw [addRow_take]
theorem clearTo_take {J : List (List Int)} {t c : Nat} (hc : c < k) : ∀ i, clearTo O t c (J.map (List.take k)) i = (clearTo O t c J i).map (List.take k)
  | 0 => rfl
  | i + 1 => by
    rw [clearTo, clearTo, clearTo_take hc i]
    split
    · rfl
    · rw [nthR_map0 _ List.take_nil, nthR_map0 _ List.take_nil, clearRow_take hc, List.map_set]
theorem normRow_take {J : List (List Int)} {t c : Nat} (hc : c < k) : normRow O (J.map (List.take k)) t c = (normRow O J t c).map (List.take k) := by
  unfold normRow
  rw [nthR_map0 _ List.take_nil, nth_takeL _ hc]
  split
  · rfl
  · rw [List.map_set, List.map_take]
theorem swapRow_take {J : List (List Int)} {t i : Nat} : swapRow (J.map (List.take k)) t i = (swapRow J t i).map (List.take k) := by
  unfold swapRow
  rw [nthR_map0 _ List.take_nil, nthR_map0 _ List.take_nil, List.map_set, List.map_set]
theorem pivotS_take {J : List (List Int)} {t i c : Nat} (hc : c < k) : pivotS O (J.map (List.take k)) t i c = (pivotS O J t i c).map (List.take k) := by
  have h : ∀ J : List (List Int), clearTo O t c (normRow O (J.map (List.take k)) t c) (normRow O (J.map (List.take k)) t c).length = (clearTo O t c (normRow O J t c) (normRow O J t c).length).map (List.take k) := fun J => by
    rw [normRow_take hc, List.length_map, clearTo_take hc]
  unfold pivotS
  split
  · exact h J
  · rw [swapRow_take]; exact h _
theorem elimTo_take {J : List (List Int)} : ∀ c, c ≤ k → (elimTo O (J.map (List.take k)) c).1 = (elimTo O J c).1.map (List.take k) ∧ (elimTo O (J.map (List.take k)) c).2 = (elimTo O J c).2
  | 0, _ => ⟨rfl, rfl⟩
  | c + 1, h => by
    obtain ⟨h1, h2⟩ := elimTo_take (J := J) c (by omega)
    simp only [elimTo]
    rw [h1, h2, List.length_map, findRow_take (by omega)]
    split
    · split
      · exact ⟨h1, h2⟩
      · exact ⟨pivotS_take (by omega), rfl⟩
    · exact ⟨h1, h2⟩
end
section
variable {O : FOps} {El : Int → Prop} {m : Nat}
theorem elim_gr (F : Fld O El) {L : List (List Int)} (hL : Rws El m L) {Q : List Int} (hQ : InN m Q) : (elimTo O (L.map (pickL Q)) Q.length).2.length = (grS O L Q).length := by
  refine Rk.same (col_clo F hL) (pick_rk F hL hQ) (grS_rk F hL Q) fun x => ?_
  rw [mem_grL, List.mem_map]
  constructor
  · rintro ⟨j, hj, rfl⟩; exact ⟨j, List.mem_range.1 hj, rfl⟩
  · rintro ⟨j, hj, e⟩; exact ⟨j, List.mem_range.2 hj, e⟩
theorem sys_pv (F : Fld O El) {L : List (List Int)} (hL : Rws El m L) {Q : List Int} (hQ : InN m Q) (hl : Q.length = L.length) (hg : (grS O L Q).length = Q.length) :
    (elimTo O (joinL (L.map (pickL Q)) (unitL Q.length)) Q.length).2.length = Q.length := by
  have hJ := joinL_take (k := Q.length) (D := L.map (pickL Q)) (U := unitL Q.length) (by rw [List.length_map, unitL_len]; omega) (fun r hr => by
    obtain ⟨s, _, rfl⟩ := List.mem_map.1 hr
    simp [pickL])
  have h := (elimTo_take (O := O) (k := Q.length) (J := joinL (L.map (pickL Q)) (unitL Q.length)) Q.length (Nat.le_refl _)).2
  rw [hJ] at h
  rw [← h, elim_gr F hL hQ, hg]
end
end

/- The walk of matrix.Columns, at positions in range. -/
section
open Go.RowKit

def ColsPost (n : Nat) (Q : List Int) (L : List (List Int)) (w : World) (e : Ending) (w' : World) : Prop :=
  ∃ a1 c1, e = .returned (.tuple #[.agg #[.int .i64 Q.length, .slice a1 n c1], .int .i64 0]) ∧ MatN w.heap.size w' a1 n (L.map (pickL Q)) ∧ Below w.heap.size w w'

set_option maxRecDepth 100000 in
set_option maxHeartbeats 4000000 in
theorem columns_any (P M : Int) (am : Option Addr) (mn cm : Nat) (mod : List Int) (m : Nat) (a : Option Addr) (n c : Nat) (L : List (List Int)) (ao : Option Addr) (no co : Nat) (Q : List Int) (w : World) (hmod : Ints w am mn mod) (hi : Mat w a n L) (hq : Ints w ao no Q)
    (hE : codeE P M mod m L = 0) (hQ : InN m Q) (hno : no ≤ 256) :
    Calls Tryz.prog 89 #[.agg #[.int .i64 P, .int .i64 M, .slice am mn cm], .agg #[.int .i64 m, .slice a n c], .slice ao no co] w (ColsPost n Q L w) := by
  have Hlen := Lib.hid hi.len
  have Hql := Lib.hid hq.len
  have hplq := hq.pl
  have hpla := hi.pl
  obtain ⟨N', e, hm1, hm64, F, hR⟩ := codeE_fld hE
  obtain rfl : m = N' := by omega
  have hL256 := (codeE_rws hE).choose_spec.2.2.2.1
  have hn : n ≤ 256 := by rw [← hi.len]; exact hL256
  obtain ⟨h5, h6⟩ := spaceE_zero (codeE_zero hE).2.2.2
  obtain ⟨hfB, h8⟩ := fmatE_zero h5
  have HLl : Hid (∀ k, k < n → (nthR L k).length = m) := fun k hk => (hR.row (i := k) (by rw [hi.len]; exact hk)).1
  have HQ := Lib.hid hQ
  obtain ⟨L2, hL2⟩ : ∃ L2, L.map (pickL Q) = L2 := ⟨_, rfl⟩
  have HL2l : Hid (L2.length = n) := by show _ = _; rw [← hL2, List.length_map]; exact Hlen.out
  have HLk : Hid (∀ k, k < n → L2.take (k + 1) = L2.take k ++ [pickL Q (nthR L k)]) := fun k hk => by
    have hk' : k < L2.length := by rw [HL2l.out]; exact hk
    rw [List.take_succ_eq_append_getElem hk', ← nthR_getElem hk', ← hL2, nthR_map _ L (by rw [Hlen.out]; exact hk)]
  unfold ColsPost
  rw [hL2, Hql.out]
  clear hE h5 h6 e hL256 F hR hQ hL2
  go_enter Tryz.func89, Tryz.ntmps89
  go_wp2_with fail
  obtain ⟨W, hW⟩ : ∃ W : World, W = ((((w.alloc (.cells #[.int .i64 P, .int .i64 M, .slice am mn cm] 24)).alloc (.cells #[.int .i64 m, .slice a n c] 62)).alloc (.cells #[.int .i64 0, .slice none 0 0] 62)).alloc (.cells #[.int .i64 m, .slice a n c] 62)) := ⟨_, rfl⟩
  rw [← hW]
  have hbW : Below w.heap.size w W := by rw [hW]; exact ((((Below.refl _ _).alloc (Nat.le_refl _) _).alloc (by simp) _).alloc (by simp; omega) _).alloc (by simp; omega) _
  have hsW : W.heap.size = w.heap.size + 4 := by rw [hW]; simp
  have x1 : Box W (w.heap.size + 1) [.int .i64 m, .slice a n c] := by rw [hW]; exact ((Box.new _ _ _ (by simp)).alloc _).alloc _
  have x2 : Box W (w.heap.size + 1 + 1) [.int .i64 0, .slice none 0 0] := by rw [hW]; exact (Box.new _ _ _ (by simp)).alloc _
  have q3 : W.cell? ⟨w.heap.size + 1 + 1 + 1, 0, none⟩ = some (.int .i64 m) ∧ W.cell? ⟨w.heap.size + 1 + 1 + 1, 1, none⟩ = some (.slice a n c) := by rw [hW]; exact ⟨cell_alloc_at _ _ _ (by simp) 0, cell_alloc_at _ _ _ (by simp) 1⟩
  have hMs : Mats W (some ⟨w.heap.size + 1 + 1 + 1, 0, none⟩) 1 [((m : Int), L)] := ⟨rfl, fun _ => rfl, by unfold maxLen; omega, fun i hi' => by
    have : i = 0 := by simp at hi'; omega
    subst this
    exact ⟨a, n, c, by simpa using q3.1, by simpa using q3.2, hi.keep hbW⟩⟩
  have HX := Lib.hid (And.intro x1 x2)
  have HsW := Lib.hid hsW
  have HbW := Lib.hid hbW
  clear hW hsW x1 x2 q3
  refine (open_any P M am mn cm mod _ 1 1 _ W (hmod.keep hbW) hMs).mono ?_
  rintro e w1 ⟨hb1, hcase⟩
  rw [matsE_one] at hcase
  rcases hcase with ⟨hB, _⟩ | ⟨_, er, h0, h1, _⟩ | ⟨_, _, b, rfl, hG, hbl⟩
  · rw [hfB] at hB; exact absurd hB (by decide)
  · rw [h8] at h1; exact absurd h1.symm h0
  have hbw1 := Below.next hbW hb1
  have r1 := HX.out.1.keep hb1
  have m0 := r1.cell 0 rfl
  have m1 := r1.cell 1 rfl
  have hq1 := hq.keep hbw1
  have d256 : decide ((256 : Int) < no) = false := by simp; omega
  clear hMs hfB h8 hbW r1 hG hbl
  go_wp2_with fail
  go_loop [35] (fun iv => ∃ k : Nat, k ≤ no ∧ iv = .int .i64 k) (fun iv => no - (intOf iv).toNat)
  case atStart => exact ⟨0, Nat.zero_le _, rfl⟩
  case round =>
    obtain ⟨k, hk, rfl⟩ := hrel
    by_cases hlt : k < no
    · have cq := hq1.cell k hlt
      have hb := HQ.out k (by rw [Hql.out]; exact hlt)
      have e1 : decide (nth Q k < 0) = false := by simp; omega
      have e2 : decide ((m : Int) ≤ nth Q k) = false := by simp; omega
      clear hb
      go_wp2_with fail
      go_round
      case rel => exact ⟨k + 1, by omega, by go_num⟩
      case measure => simp [intOf] <;> omega
    · obtain rfl : k = no := by omega
      go_upto_region 12 with fail
      obtain ⟨g, hg⟩ : ∃ g, w1.heap.size = g := ⟨_, rfl⟩
      have HG := Lib.hid hg
      clear hg
      go_cut [12] (fun v wx => v = .pointer (some ⟨w1.heap.size, 0, none⟩) ∧ MOut wx w1.heap.size (.int .i64 k) none 0 0 [] [] ∧ Below w1.heap.size w1 wx)
      case first =>
        go_wp2_with fail
        go_meet
        exact ⟨rfl, MOut.start (Box.new w1 [.int .i64 k, .slice none 0 0] _ rfl), below1 _ _⟩
      obtain ⟨rfl, hO0, hbc⟩ := hcut
      generalize wc = U at *
      have hs3 := HG.out
      rw [hs3] at hO0 ⊢
      have HbU := Lib.hid (Below.next hb1 hbc)
      have r1 := HX.out.1.keep HbU.out
      clear m0 m1
      have m0 := r1.cell 0 rfl
      have m1 := r1.cell 1 rfl
      have hgU := hO0.lt
      have hgW : W.heap.size ≤ g := by have := hb1.size; omega
      have hqU := hq1.keep hbc
      clear r1 hbc hs3 hq1
      go_wp2_with fail
      clear m0 m1
      go_loopw [55] (fun iv wr => ∃ (j : Nat) (a1 : Option Addr) (c1 : Nat) (Rr : List (Option Addr × Nat)), j ≤ n ∧ iv = .int .i64 j ∧ MOut wr g (.int .i64 k) a1 j c1 Rr (L2.take j) ∧ Below g U wr) (fun iv _ => n - (intOf iv).toNat)
      case atStart => exact ⟨0, none, 0, [], Nat.zero_le _, rfl, by simpa using hO0, Below.refl _ _⟩
      case round =>
        clear hO0
        obtain ⟨j, a1, c1, Rr, hj, rfl, hO, hbr⟩ := hrel
        have hbWr := Below.trans HbU.out (hbr.mono hgW)
        have hbwr := Below.next HbW.out hbWr
        have hgr := hO.lt
        by_cases hltj : j < n
        · obtain ⟨ra, rn, rc, hcell, hrow⟩ := (hi.keep hbwr).cell j hltj
          have hrn : rn = m := by rw [← hrow.len]; exact HLl.out j hltj
          rw [hrn] at hcell hrow
          have Htk := Lib.hid (HLk.out j hltj)
          obtain ⟨l, hl⟩ : ∃ l, nthR L j = l := ⟨_, rfl⟩
          rw [hl] at Htk hrow
          have hplr := hrow.pl
          obtain ⟨pk, hpk⟩ : ∃ pk, pickL Q l = pk := ⟨_, rfl⟩
          have Hpk := Lib.hid hpk
          have hpl : pk.length = k := by rw [← hpk]; simp [pickL]; exact Hql.out
          have Hpl := Lib.hid hpl
          clear hl hrn hpk hpl
          go_wp2_with (at_make; refine wpList_mk rfl _ _ 22 3 rfl (.int .i64 0) 8 Tryz.underlying22 infoInt rfl k rfl rfl (by omega) (by unfold maxLen; omega) ?_; intro a5 w5 hown hbel hge hlt5)
          have hown0 : w5.ownsRow wr.heap.size 3 1 (.slice a5 k k) k ((mixTo pk (List.replicate k 0) 0).map (Value.int .i64)) := by rw [mixTo_zero, List.map_replicate]; exact hown
          clear hown hge hlt5 hcell
          generalize wr = X1 at *
          go_loopw [64] (fun jv ws => ∃ t : Nat, t ≤ k ∧ jv = .int .i64 t ∧ ws.ownsRow X1.heap.size 3 1 (.slice a5 k k) k ((mixTo pk (List.replicate k 0) t).map (Value.int .i64)) ∧ Below X1.heap.size X1 ws) (fun jv _ => k - (intOf jv).toNat)
          case atStart => exact ⟨0, Nat.zero_le _, rfl, hown0, hbel⟩
          case round =>
            clear hown0 hbel
            obtain ⟨t, ht, rfl, hown, hbs⟩ := hrel
            by_cases hltt : t < k
            · have hbU1 : Below w.heap.size w wr := Below.next hbwr hbs
              have cq := (hq.keep hbU1).cell t hltt
              have hqb := HQ.out t (by rw [Hql.out]; exact hltt)
              obtain ⟨z, hz⟩ : ∃ z : Nat, nth Q t = z := ⟨(nth Q t).toNat, by omega⟩
              have hzm : z < m := by omega
              have cr := (hrow.keep hbs).cell z hzm
              have Hst : Hid ((mixTo pk (List.replicate k 0) t).set t (nth l z) = mixTo pk (List.replicate k 0) (t + 1)) := by
                show _ = _
                have h1 := mixTo_set pk (List.replicate k 0) t (by rw [Hpl.out, List.length_replicate]) (by rw [List.length_replicate]; exact hltt)
                rw [← Hpk.out, nth_pickL Q l (by rw [Hql.out]; exact hltt), hz, Int.toNat_natCast] at h1
                rw [← Hpk.out]
                exact h1
              rw [hz] at cq
              obtain ⟨hints, hmine⟩ := Ints.own hown
              have hpl5 := hints.pl
              have cz := hints.cell t hltt
              have fz := (hmine (by omega)).2 t hltt
              have hB := (hmine (by omega)).1
              clear hz hqb
              go_wp2_with fail
              go_roundw
              case rel =>
                have h := own_set hown t hltt (.int .i64 (nth l z))
                rw [← List.map_set, Hst.out] at h
                exact ⟨t + 1, by omega, by go_num, h, hbs.setCell hB _⟩
              case measure => simp [intOf] <;> omega
            · obtain rfl : t = k := by omega
              rw [mixTo_all pk (List.replicate t 0) t (by simp [Hpl.out]) (by simp)] at hown
              have hs := hO.keep hbs
              have hOk := hs.om.keep (below1 wr (.cells #[.slice a5 t t] 22))
              have hcp := hs.c1
              have hgs := hs.lt
              go_wp2_with (at_builtin; refine wpList_push rfl _ _ 25 22 rfl (.slice none 0 0) 24 Tryz.underlying25 infoInts rfl (g + 1) a1 j c1 _ rfl hOk.own ⟨wr.heap.size, 0, none⟩ 1 (.slice a5 t t) rfl (cell_new wr _ _) rfl (by omega) (by unfold maxLen; omega) (by simp; omega) ?_; intro a6 c6 w6 hown6 hgr6 hap6; have hk6 := (hs.pushed hgr6).2.1; have hf6 := (hs.pushed hgr6).2.2)
              go_roundw
              case rel =>
                have hra : a5 ≠ none → ¬ OIn a1 Rr (ablk a5) := fun h0 hI => by
                  have h1 := (own_ne hown h0).1
                  have h2 := (hO.om.lt _ hI).2
                  omega
                obtain ⟨hP, hbP⟩ := hs.push Hpl.out (own_mono hown (by omega)) hra hown6 hgr6 hap6
                exact ⟨j + 1, a6, c6, _, by omega, by go_num, by rw [Htk.out, Hpk.out]; exact hP, Below.trans hbr ((hbs.mono (by omega)).trans hbP)⟩
              case measure => simp [intOf] <;> omega
        · obtain rfl : j = n := by omega
          rw [List.take_of_length_le (by rw [HL2l.out]; exact Nat.le_refl _)] at hO
          have g0 := hO.c0
          have g1 := hO.c1
          have z6 := HX.out.2.keep hbWr
          have z0 := z6.cell 0 rfl
          have z1 := z6.cell 1 rfl
          have f0 := z6.frozen 0
          have f1 := z6.frozen 1
          have hs := HsW.out
          have hMN : MatN (g + 1) wr a1 j L2 := MatN.own hO.om
          have HF := Lib.hid (And.intro (((hMN.setCell (p := ⟨w.heap.size + 1 + 1, 0, none⟩) (by simp; omega) (.int .i64 k)).setCell (p := ⟨w.heap.size + 1 + 1, 1, none⟩) (by simp; omega) (.slice a1 j c1)).mono (show w.heap.size ≤ g + 1 by omega))
            ((hbwr.setCell (p := ⟨w.heap.size + 1 + 1, 0, none⟩) (by simp; omega) (.int .i64 k)).setCell (p := ⟨w.heap.size + 1 + 1, 1, none⟩) (by simp; omega) (.slice a1 j c1)))
          clear hMN z6 hO
          go_wp2_with fail
          exact bodyPost_ret (v := .tuple #[.agg #[.int .i64 k, .slice a1 j c1], .int .i64 0]) (by simp [results, Tryz.results89, go_sem, z0, z1]) rfl ⟨a1, c1, rfl, HF.out.1, HF.out.2⟩
end

end Go.Proofs.YtakmnncmeefceaaGreat
