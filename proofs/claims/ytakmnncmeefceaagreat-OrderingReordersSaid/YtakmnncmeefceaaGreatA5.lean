/- The walk of field.New. -/
import Derived.Test.YtakmnncmeefceaaGreatA4
namespace Go.Proofs.YtakmnncmeefceaaGreat
set_option linter.unusedVariables false
set_option linter.unusedSimpArgs false
set_option linter.unusedSectionVars false

/- The walk of field.New. -/
section
open Go.RowKit

def logTo (q : Nat) (ex : List Int) : Nat → List Int
  | 0 => List.replicate q 0
  | k + 1 => (logTo q ex k).set (nth ex k).toNat k
theorem logTo_length (q : Nat) (ex : List Int) : ∀ k, (logTo q ex k).length = q
  | 0 => by simp [logTo]
  | k + 1 => by simp [logTo, logTo_length q ex k]
theorem logTo_bd (q : Nat) (ex : List Int) (hq : 2 ≤ q) : ∀ k, k ≤ q - 1 → ∀ i, 0 ≤ nth (logTo q ex k) i ∧ nth (logTo q ex k) i < (q : Int) - 1
  | 0, _, i => by
    have : nth (logTo q ex 0) i = 0 := by
      simp only [logTo, nth, List.getD_eq_getElem?_getD, List.getElem?_replicate]; split <;> rfl
    omega
  | k + 1, hk, i => by
    have ih := logTo_bd q ex hq k (by omega) i
    by_cases h : (nth ex k).toNat < q
    · rw [logTo, nth_set _ _ _ _ (by rw [logTo_length]; exact h)]
      split <;> omega
    · rw [logTo, List.set_eq_of_length_le (by rw [logTo_length]; omega)]
      exact ih

theorem genTo_spec (P : Int) (M : Nat) (mod : List Int) (q : Nat) : ∀ (n x : Nat), genTo P M mod q n x ≠ [] → ∃ y : Nat, x ≤ y ∧ y < x + n ∧ isGen P M mod q y = true ∧ genTo P M mod q n x = powS P M mod q y
  | 0, x, h => absurd rfl h
  | n + 1, x, h => by
    rw [genTo] at h ⊢
    by_cases hg : isGen P M mod q x = true
    · rw [if_pos hg]
      exact ⟨x, Nat.le_refl _, by omega, hg, rfl⟩
    · rw [if_neg hg] at h ⊢
      obtain ⟨y, h1, h2, h3, h4⟩ := genTo_spec P M mod q n (x + 1) h
      exact ⟨y, by omega, by omega, h3, h4⟩
theorem genS_spec {P : Int} {M : Nat} {mod : List Int} {q : Nat} (h : genS P M mod q ≠ []) : ∃ y : Nat, 1 ≤ y ∧ y < q ∧ isGen P M mod q y = true ∧ genS P M mod q = powS P M mod q y := by
  obtain ⟨y, h1, h2, h3, h4⟩ := genTo_spec P M mod q (q - 1) 1 h
  exact ⟨y, h1, by omega, h3, h4⟩

/-- the tables of the field that a description means -/
def tblOf (P : Int) (M : Nat) (mod : List Int) : Tbl :=
  { P := P, M := M, q := (orderS P M).toNat, ex := genS P M mod (orderS P M).toNat, lg := logTo (orderS P M).toNat (genS P M mod (orderS P M).toNat) ((orderS P M).toNat - 1) }

theorem shapeB_mn {w : World} {P M : Int} {am : Option Addr} {mn : Nat} {mod : List Int} (hm : Ints w am mn mod) (h : shapeB P M mod = true) : mn ≤ 8 := by
  simp only [shapeB, Bool.and_eq_true, bne_iff_ne, ne_eq] at h
  obtain ⟨⟨h0, h1⟩, h2⟩ := h
  obtain ⟨b1, b2, b3, b4, b5, b6⟩ := orderS_ne h0
  have hl := hm.len
  by_cases hM : M = 1
  · rw [if_pos hM] at h2
    have h3 : mod.length = 0 := by simpa using h2
    omega
  · rw [if_neg hM] at h2
    simp only [Bool.and_eq_true, decide_eq_true_eq] at h2
    omega

/-- a field in memory that stays as long as the blocks from B on stay -/
def GFs (B : Nat) (w : World) (b : Nat) (G : Tbl) : Prop := ∀ V : World, (∀ k, B ≤ k → k < w.heap.size → V.heap[k]? = w.heap[k]?) → GFw V b G
theorem GFs.gf {B : Nat} {w : World} {b : Nat} {G : Tbl} (h : GFs B w b G) : GFw w b G := h w fun _ _ _ => rfl
theorem GFs.mono {B B' : Nat} {w : World} {b : Nat} {G : Tbl} (h : GFs B w b G) (hB : B' ≤ B) : GFs B' w b G := fun V hV => h V fun k h1 h2 => hV k (Nat.le_trans hB h1) h2
theorem GFs.keep {B : Nat} {w w' : World} {b : Nat} {G : Tbl} (h : GFs B w b G) (hb : Below w.heap.size w w') : GFs B w' b G := fun V hV => h V fun k h1 h2 => (hV k h1 (Nat.lt_of_lt_of_le h2 hb.size)).trans (hb.block k h2)
theorem GFs.setCell {B : Nat} {w : World} {b : Nat} {G : Tbl} (h : GFs B w b G) {p : Addr} (hp : p.block < B) (v : Value) : GFs B (w.setCell p v) b G := fun V hV => h V fun k h1 h2 =>
  (hV k h1 (by have := ((Below.refl 0 w).setCell (p := p) (Nat.zero_le _) v).size; omega)).trans (Below.heap_setCell _ _ _ _ (by omega))

def NewPost (P M : Int) (mod : List Int) (w : World) (e : Ending) (w' : World) : Prop :=
  (fieldB P M mod = false ∧ e = .returned (.tuple #[.pointer none, .int .i64 1]) ∧ Below w.heap.size w w') ∨
  (fieldB P M mod = true ∧ ∃ b, e = .returned (.tuple #[.pointer (some ⟨b, 0, none⟩), .int .i64 0]) ∧ GFs w.heap.size w' b (tblOf P M.toNat mod) ∧ w.heap.size ≤ b ∧ Below w.heap.size w w')

set_option maxRecDepth 100000 in
set_option maxHeartbeats 1600000 in
theorem fieldNew_any (P M : Int) (am : Option Addr) (mn cm : Nat) (mod : List Int) (w : World) (hmod : Ints w am mn mod) :
    Calls Tryz.prog 118 #[.agg #[.int .i64 P, .int .i64 M, .slice am mn cm]] w (NewPost P M mod w) := by
  have hbox : ∀ w' : World, Below (w.heap.size + 1) (w.alloc (.cells #[.int .i64 P, .int .i64 M, .slice am mn cm] 24)) w' →
      w'.cell? ⟨w.heap.size, 0, none⟩ = some (.int .i64 P) ∧ w'.cell? ⟨w.heap.size, 1, none⟩ = some (.int .i64 M) ∧ w'.cell? ⟨w.heap.size, 2, none⟩ = some (.slice am mn cm) ∧ Below w.heap.size w w' := by
    intro w' h
    refine ⟨(h.cell (by simp)).trans (by simp), (h.cell (by simp)).trans (by simp), (h.cell (by simp)).trans (by simp), ((Below.refl _ _).alloc (Nat.le_refl _) _).trans (h.mono (by omega))⟩
  have Hbox := Lib.hid hbox
  clear hbox
  go_enter Tryz.func118, Tryz.ntmps118
  go_wp2_with fail
  generalize hW0 : w.alloc (.cells #[.int .i64 P, .int .i64 M, .slice am mn cm] 24) = W0 at *
  have hW0s : W0.heap.size = w.heap.size + 1 := by rw [← hW0]; simp
  obtain ⟨q0, q1, q2, hbw⟩ := Hbox.out W0 (Below.refl _ _)
  clear hW0
  refine (shape_any P M am mn cm mod W0 (hmod.keep hbw)).mono ?_
  rintro e w1 ⟨rfl, hb1⟩
  have hB1 : Below (w.heap.size + 1) W0 w1 := hb1.mono (by omega)
  obtain ⟨q0, q1, q2, hbw⟩ := Hbox.out w1 hB1
  by_cases hs : shapeB P M mod = true
  case neg =>
    have hs' : shapeB P M mod = false := by simpa using hs
    have Hf := Lib.hid (show fieldB P M mod = false by simp [fieldB, hs'])
    clear hs
    go_wp2_with fail
    go_ret2
    exact .inl ⟨Hf.out, rfl, hbw⟩
  have hmn := shapeB_mn hmod hs
  obtain ⟨m, rfl, hd, ho, hq⟩ := shapeB_desc hmod hs
  go_wp2_with fail
  refine (order_any _ _ _).mono ?_
  rintro e w2 ⟨rfl, rfl⟩
  have hoq : orderS P m = ((orderS P m).toNat : Int) := by rw [hq, ho]
  have hfB : fieldB P m mod = !(genS P m mod (orderS P m).toNat).isEmpty := by simp [fieldB, hs]
  have hT : tblOf P ((m : Int).toNat) mod = { P := P, M := m, q := (orderS P m).toNat, ex := genS P m mod (orderS P m).toNat, lg := logTo (orderS P m).toNat (genS P m mod (orderS P m).toNat) ((orderS P m).toNat - 1) } := rfl
  have HT := Lib.hid hT
  have HfB := Lib.hid hfB
  rw [hoq]
  generalize (orderS P m).toNat = q at *
  have Hq := Lib.hid hq
  clear hoq hfB ho hT hq hs
  go_wp2_with fail
  refine (generator_any P m am mn cm mod q w1 (hd.keep hbw) Hq.out).mono ?_
  rintro e w2 ⟨a2, c2, rfl, hown2, hnil2, hb2⟩
  have hin2 := GenPost.isNone hown2 hnil2
  have hB2 : Below (w.heap.size + 1) W0 w2 := hB1.trans (hb2.mono (by have := hB1.size; omega))
  obtain ⟨r0, r1, r2, hbw2⟩ := Hbox.out w2 hB2
  have heq := fun (w : World) (a : Option Addr) (l c : Nat) => Go.run_eql_slice_nil (P := Tryz.prog) w 22 3 a l c Tryz.underlying22
  by_cases hge : genS P m mod q = []
  · have hf : fieldB P m mod = false := by rw [HfB.out, hge]; rfl
    rw [hge] at hin2
    have hin3 : a2.isNone = true := hin2
    have Hf := Lib.hid hf
    clear hf hge hin2
    go_wp2_with fail
    go_ret2
    exact .inl ⟨Hf.out, rfl, hbw2⟩
  · have hin3 : a2.isNone = false := by
      rw [hin2]; cases h : genS P m mod q with
      | nil => exact absurd h hge
      | cons x l => rfl
    obtain ⟨y, hy1, hy2, hgy, hpy⟩ := genS_spec hge
    have hP0 : 0 < P := by have := hd.p2; omega
    have hq2 : 2 ≤ q := by omega
    have hq256 : q ≤ 256 := by have := hd.pw; have := Hq.out; omega
    have hlen : (genS P m mod q).length = q - 1 := by
      rw [hpy]
      simp only [isGen, Bool.and_eq_true, beq_iff_eq] at hgy
      exact hgy.1
    have hexb : ∀ i, 0 ≤ nth (genS P m mod q) i ∧ nth (genS P m mod q) i < q := by
      intro i
      rw [hpy]
      exact powS_nth_bd hP0 m mod q y Hq.out hq2 (by omega) (by omega) i
    have hf : fieldB P m mod = true := by
      rw [HfB.out]; cases h : genS P m mod q with
      | nil => exact absurd h hge
      | cons x l => rfl
    have Hf := Lib.hid hf
    have Hexb := Lib.hid hexb
    rw [hlen] at hown2
    rw [hlen]
    have HLn := Lib.hid hlen
    have hi2 := (Ints.own hown2).1
    have hmod2 := hmod.keep hbw2
    clear hin2 hge hf hexb hlen hpy hgy hnil2
    generalize genS P m mod q = ex at *
    have hmk := run_mk (P := Tryz.prog) 22 3 (.int .i64 0) 8 Tryz.underlying22 infoInt rfl q (by omega) (by omega)
    go_upto_region 7 with fail
    go_cut [6] (fun v wx => ∃ (gb : Nat) (al : Option Addr), v = .pointer (some ⟨gb, 0, none⟩) ∧ w2.heap.size ≤ gb ∧ w2.heap.size ≤ ablk al ∧ ablk al ≠ gb ∧
      wx.cell? ⟨gb, 0, none⟩ = some (.int .i64 P) ∧ wx.cell? ⟨gb, 3, none⟩ = some (.int .i64 q) ∧ wx.cell? ⟨gb, 4, none⟩ = some (.slice a2 (q - 1) c2) ∧ wx.cell? ⟨gb, 5, none⟩ = some (.slice al q q) ∧
      wx.ownsRow w2.heap.size 3 1 (.slice al q q) q (List.replicate q (.int .i64 0)) ∧ Below w2.heap.size w2 wx)
    case first =>
      have hO := own_emp w2 3
      have hO2 : ((w2.alloc (.cells (Array.replicate q (.int .i64 0)) 3)).alloc (.cells #[] 3)).ownsRow w2.heap.size 3 1 (.slice (some ⟨w2.heap.size + 1, 0, none⟩) 0 0) 0 [] := by
        have h := own_mono (own_emp (w2.alloc (.cells (Array.replicate q (.int .i64 0)) 3)) 3) (B' := w2.heap.size) (by simp)
        rwa [World.size_alloc] at h
      have hS : ∀ W, Below w2.heap.size w2 W → W.cell? ⟨w.heap.size, 0, none⟩ = some (.int .i64 P) ∧ W.cell? ⟨w.heap.size, 1, none⟩ = some (.int .i64 m) ∧ W.cell? ⟨w.heap.size, 2, none⟩ = some (.slice am mn cm) ∧ Ints W am mn mod ∧ Below w2.heap.size w2 W :=
        fun W hb => ⟨cell_keep hb r0, cell_keep hb r1, cell_keep hb r2, hmod2.keep hb, hb⟩
      have HS := Lib.hid hS
      clear hS
      go_region_held3 (fun w' => w'.cell? ⟨w.heap.size, 0, none⟩ = some (.int .i64 P) ∧ w'.cell? ⟨w.heap.size, 1, none⟩ = some (.int .i64 m) ∧ w'.cell? ⟨w.heap.size, 2, none⟩ = some (.slice am mn cm) ∧ Ints w' am mn mod ∧ Below w2.heap.size w2 w')
        ((refine HS.out _ ?_; first | exact (Below.refl _ _).drew | exact ((Below.refl _ _).alloc (Nat.le_refl _) _).drew | exact hbA3 | (go_split_ands; exact Below.allocN (by assumption) _)))
        (first | (obtain ⟨_, _, _, hI9, hB9⟩ := (by assumption : _ ∧ _ ∧ _ ∧ Ints _ am mn mod ∧ Below w2.heap.size w2 _); refine step_appAll (by rfl) (.tmp 26) (.tmp 28) 22 3 (by rfl) (.int .i64 0) 8 Tryz.underlying22 infoInt (by rfl) w2.heap.size _ 0 0 [] (by rfl) (by first | exact hO | exact hO.alloc _ | exact hO2) am mn cm (mod.map (Value.int .i64)) (by rfl) hmod2.pl (by simp [hmod2.len]) (Ints.news hI9) (ints_oneCell _ _) (by omega) (by unfold maxLen; omega) (Below.size hB9) ?_; intro a3 c3 w3 hown3 hgr3 hap3; have hbA3 : Below w2.heap.size w2 w3 := Below.app (B := w2.heap.size) (e := 3) (xs := []) hB9 (by first | exact hO | exact hO.alloc _ | exact hO2) hgr3 (Nat.le_refl _) (Below.size hB9)))
      all_goals (go_step; go_step; go_meet)
      · have hsz := hbA3.size
        refine ⟨w3.heap.size + 1, some ⟨w3.heap.size, 0, none⟩, rfl, by omega, hsz, by simp, cell_alloc_at _ _ _ (by simp) 0, cell_alloc_at _ _ _ (by simp) 3, cell_alloc_at _ _ _ (by simp) 4, cell_alloc_at _ _ _ (by simp) 5, ?_, Below.allocN (Below.allocN hbA3 _) _⟩
        exact World.ownsRow.alloc (own_mkArr w3 3 (.int .i64 0) q rfl hsz (by unfold maxLen; omega)) _
      · have hsz := hbA3.size
        have hsz2 := hgr3.size
        simp at hsz2
        refine ⟨w3.heap.size, some ⟨w2.heap.size + 1, 0, none⟩, rfl, hsz, by simp, by simp; omega, cell_alloc_at _ _ _ rfl 0, cell_alloc_at _ _ _ rfl 3, cell_alloc_at _ _ _ rfl 4, cell_alloc_at _ _ _ rfl 5, ?_, Below.allocN hbA3 _⟩
        exact World.ownsRow.alloc (own_grownApt (own_mkArr (w2.alloc (.cells #[] 3)) 3 (.int .i64 0) q (by simp) (by simp) (by unfold maxLen; omega)) (grown_undrew hgr3) (.inr (by simp))) _
      · have hsz := hbA3.size
        have hsz2 := hgr3.size
        simp at hsz2
        refine ⟨w3.heap.size, some ⟨w2.heap.size, 0, none⟩, rfl, hsz, by simp, by simp; omega, cell_alloc_at _ _ _ rfl 0, cell_alloc_at _ _ _ rfl 3, cell_alloc_at _ _ _ rfl 4, cell_alloc_at _ _ _ rfl 5, ?_, Below.allocN hbA3 _⟩
        exact World.ownsRow.alloc (own_grownApt ((own_mkArr w2 3 (.int .i64 0) q rfl (Nat.le_refl _) (by unfold maxLen; omega)).alloc _) (grown_undrew hgr3) (.inr (by simp))) _
    obtain ⟨gb, al, rfl, hgb, hal, hne, g0, g3, g4, g5, hownL, hbc⟩ := hcut
    have hi2c := hi2.keep hbc
    have hpe := hi2.pl
    have HLt : Hid (List.replicate q (Value.int .i64 0) = (logTo q ex 0).map (Value.int .i64)) := by show _ = _; simp [logTo]
    go_wp2_with fail
    go_loopw [39] (fun iv wr => ∃ k : Nat, k ≤ q - 1 ∧ iv = .int .i64 k ∧ wr.ownsRow w2.heap.size 3 1 (.slice al q q) q ((logTo q ex k).map (Value.int .i64)) ∧
        (∀ b, b ≠ ablk al → b < wc.heap.size → wr.heap[b]? = wc.heap[b]?) ∧ Below w2.heap.size w2 wr)
      (fun iv _ => q - (intOf iv).toNat)
    case atStart => exact ⟨0, Nat.zero_le _, rfl, by rw [← HLt.out]; exact hownL, fun _ _ _ => rfl, hbc⟩
    case round =>
      obtain ⟨k, hk, rfl, hownL, hsame, hbr⟩ := hrel
      have HS := Lib.hid hsame
      have hgl : gb < wc.heap.size := World.block_lt_of_cell? wc _ g0
      have hblk := hsame gb (fun h => hne h.symm) hgl
      have g0r : wr.cell? ⟨gb, 0, none⟩ = some (.int .i64 P) := (World.cell?_of_block (w := wc) hblk).trans g0
      have g3r : wr.cell? ⟨gb, 3, none⟩ = some (.int .i64 q) := (World.cell?_of_block (w := wc) hblk).trans g3
      have g4r : wr.cell? ⟨gb, 4, none⟩ = some (.slice a2 (q - 1) c2) := (World.cell?_of_block (w := wc) hblk).trans g4
      have g5r : wr.cell? ⟨gb, 5, none⟩ = some (.slice al q q) := (World.cell?_of_block (w := wc) hblk).trans g5
      have hi2r := hi2.keep hbr
      obtain ⟨hiL, hmL⟩ := Ints.own hownL
      have hpL := hiL.pl
      clear hsame hblk
      by_cases hlt : k < q - 1
      · have ck := hi2r.cell k hlt
        have hb := Hexb.out k
        obtain ⟨xn, hxn⟩ : ∃ xn : Nat, nth ex k = xn := ⟨(nth ex k).toNat, by omega⟩
        have hnx : logTo q ex (k + 1) = (logTo q ex k).set xn k := by rw [logTo, hxn]; rfl
        rw [hxn] at ck hb
        have cL := hiL.cell xn (by omega)
        have fL := (hmL (by omega)).2 xn (by omega)
        have BL := (hmL (by omega)).1
        have Hnx := Lib.hid hnx
        clear hnx hxn
        go_wp2_with fail
        go_roundw
        case rel =>
          refine ⟨k + 1, by omega, by go_num, ?_, fun b hb hl => ?_, hbr.setCell BL _⟩
          · rw [Hnx.out, List.map_set]; exact own_set hownL xn (by omega) _
          · rw [Below.heap_setCell _ _ _ _ hb]; exact HS.out b hb hl
        case measure => simp [intOf] <;> omega
      · obtain rfl : k = q - 1 := by omega
        go_wp2_with fail
        go_ret2
        refine .inr ⟨Hf.out, gb, rfl, ?_, by have := hbw2.size; omega, Below.next hbw2 hbr⟩
        rw [HT.out]
        intro V hV
        have hB := hbw2.size
        have hB2 := hb2.size
        have hB1 := hbw.size
        have cV : ∀ i v, wr.cell? ⟨gb, i, none⟩ = some v → V.cell? ⟨gb, i, none⟩ = some v := fun i v hv => (World.cell?_of_block (w := wr) (a := ⟨gb, i, none⟩) (hV gb (by omega) (World.block_lt_of_cell? wr _ g0r))).trans hv
        refine ⟨hd.p2, hd.m1, hd.m8, Hq.out, hd.p256, hq2, hq256, cV _ _ g0r, cV _ _ g3r, ⟨a2, c2, cV _ _ g4r, ?_⟩, ⟨al, q, cV _ _ g5r, ?_⟩, fun i _ => Hexb.out i, fun i _ => logTo_bd q ex hq2 _ (Nat.le_refl _) i⟩
        · refine hi2r.of_block fun hn => hV _ ?_ (hi2r.lt hn)
          have := (own_lt_pos hown2 hn).1
          omega
        · refine hiL.of_block fun hn => hV _ ?_ (hiL.lt hn)
          have := (own_lt_pos hownL hn).1
          omega
end

end Go.Proofs.YtakmnncmeefceaaGreat
