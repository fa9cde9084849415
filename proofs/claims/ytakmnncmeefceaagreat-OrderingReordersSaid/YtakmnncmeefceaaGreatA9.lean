/- The walks of space.open, Check. -/
import Derived.Test.YtakmnncmeefceaaGreatA8
import Derived.Test.YtakmnncmeefceaaGreatA6
namespace Go.Proofs.YtakmnncmeefceaaGreat
set_option linter.unusedVariables false
set_option linter.unusedSimpArgs false
set_option linter.unusedSectionVars false

/- The walks of matrix.canon, Canonical. -/
section
open Go.RowKit

variable {w : World} {b : Nat} {G : Tbl}

/-- slicing from the start keeps the address -/
@[go_sem high] theorem run_slice_h0 {P : Program} (w : World) (t : TypeId) (a : Option Addr) (len cap : Nat) (ht : P.underlying t = some (.slice (P.elem t))) (kh : IntKind) (h : Int) (h0 : 0 ≤ h) (h2 : h ≤ cap) :
    (Instr.slice t (.slice a len cap) none (some (.int kh h)) none).run P w = ((sizeOf (P.elem t)).run P w).andThen fun _ w => .ok (.slice a h.toNat cap) w := by
  rw [run_slice_h w t a len cap ht kh h h0 h2]
  congr 1; funext s w; congr 1
  simp only [sliced, Nat.zero_mul, Addr.add, if_true, Nat.sub_zero, Option.map_id', ite_self]
@[go_sem high] theorem run_slice_hm0 {P : Program} (w : World) (t : TypeId) (a : Option Addr) (len cap : Nat) (ht : P.underlying t = some (.slice (P.elem t))) (kh km : IntKind) (h m : Int) (h0 : 0 ≤ h) (h2 : h ≤ m) (h3 : m ≤ cap) :
    (Instr.slice t (.slice a len cap) none (some (.int kh h)) (some (.int km m))).run P w = ((sizeOf (P.elem t)).run P w).andThen fun _ w => .ok (.slice a h.toNat m.toNat) w := by
  rw [run_slice_hm w t a len cap ht kh km h m h0 h2 h3]
  congr 1; funext s w; congr 1
  simp only [sliced, Nat.zero_mul, Addr.add, if_true, Nat.sub_zero, Option.map_id', ite_self]

theorem nthR_take {L : List (List Int)} {k i : Nat} (h : i < k) : nthR (L.take k) i = nthR L i := by
  simp only [nthR, List.getD_eq_getElem?_getD, List.getElem?_take, if_pos h]
theorem Mat.take {w : World} {a : Option Addr} {n : Nat} {L : List (List Int)} (h : Mat w a n L) {k : Nat} (hk : k ≤ n) : Mat w a k (L.take k) := by
  refine ⟨by rw [List.length_take, h.len]; omega, fun h0 => h.pl (by omega), Nat.le_trans hk h.max, fun i hi => ?_⟩
  rw [nthR_take hi]
  exact h.cell i (by omega)

/-- a slice of ints in blocks from B on -/
structure IntsN (B : Nat) (w : World) (a : Option Addr) (n : Nat) (l : List Int) : Prop where
  ints : Ints w a n l
  lo : 0 < n → B ≤ ablk a
/-- a slice of slices of ints, all in blocks from B on -/
structure MatN (B : Nat) (w : World) (a : Option Addr) (n : Nat) (l : List (List Int)) : Prop where
  len : l.length = n
  pl : Pl a n
  max : n ≤ maxLen
  lo : 0 < n → B ≤ ablk a
  cell : ∀ i, i < n → ∃ b m c, w.cell? ⟨ablk a, aoff a + i, none⟩ = some (.slice b m c) ∧ IntsN B w b m (nthR l i)
theorem IntsN.mono {B B' : Nat} {w : World} {a : Option Addr} {n : Nat} {l : List Int} (h : IntsN B w a n l) (hB : B' ≤ B) : IntsN B' w a n l := ⟨h.ints, fun hn => Nat.le_trans hB (h.lo hn)⟩
theorem MatN.mono {B B' : Nat} {w : World} {a : Option Addr} {n : Nat} {l : List (List Int)} (h : MatN B w a n l) (hB : B' ≤ B) : MatN B' w a n l :=
  ⟨h.len, h.pl, h.max, fun hn => Nat.le_trans hB (h.lo hn), fun i hi => by obtain ⟨b, m, c, h1, h2⟩ := h.cell i hi; exact ⟨b, m, c, h1, h2.mono hB⟩⟩
theorem MatN.mat {B : Nat} {w : World} {a : Option Addr} {n : Nat} {l : List (List Int)} (h : MatN B w a n l) : Mat w a n l :=
  ⟨h.len, h.pl, h.max, fun i hi => by obtain ⟨b, m, c, h1, h2⟩ := h.cell i hi; exact ⟨b, m, c, h1, h2.ints⟩⟩
theorem IntsN.of_blocks {B : Nat} {w V : World} {a : Option Addr} {n : Nat} {l : List Int} (h : IntsN B w a n l) (hb : ∀ b, B ≤ b → b < w.heap.size → V.heap[b]? = w.heap[b]?) : IntsN B V a n l :=
  ⟨h.ints.of_block fun hn => hb _ (h.lo hn) (h.ints.lt hn), h.lo⟩
theorem MatN.of_blocks {B : Nat} {w V : World} {a : Option Addr} {n : Nat} {l : List (List Int)} (h : MatN B w a n l) (hb : ∀ b, B ≤ b → b < w.heap.size → V.heap[b]? = w.heap[b]?) : MatN B V a n l := by
  refine ⟨h.len, h.pl, h.max, h.lo, fun i hi => ?_⟩
  obtain ⟨b, m, c, h1, h2⟩ := h.cell i hi
  exact ⟨b, m, c, (World.cell?_of_block (w := w) (a := ⟨ablk a, aoff a + i, none⟩) (hb _ (h.lo (by omega)) (World.block_lt_of_cell? w _ h1))).trans h1, h2.of_blocks hb⟩
theorem IntsN.keep {B : Nat} {w V : World} {a : Option Addr} {n : Nat} {l : List Int} (h : IntsN B w a n l) (hb : Below w.heap.size w V) : IntsN B V a n l := h.of_blocks fun b _ h2 => hb.block b h2
theorem MatN.keep {B : Nat} {w V : World} {a : Option Addr} {n : Nat} {l : List (List Int)} (h : MatN B w a n l) (hb : Below w.heap.size w V) : MatN B V a n l := h.of_blocks fun b _ h2 => hb.block b h2
theorem IntsN.setCell {B : Nat} {w : World} {a : Option Addr} {n : Nat} {l : List Int} (h : IntsN B w a n l) {p : Addr} (hp : p.block < B) (v : Value) : IntsN B (w.setCell p v) a n l :=
  h.of_blocks fun b h1 _ => Below.heap_setCell _ _ _ _ (by omega)
theorem MatN.setCell {B : Nat} {w : World} {a : Option Addr} {n : Nat} {l : List (List Int)} (h : MatN B w a n l) {p : Addr} (hp : p.block < B) (v : Value) : MatN B (w.setCell p v) a n l :=
  h.of_blocks fun b h1 _ => Below.heap_setCell _ _ _ _ (by omega)
theorem IntsN.own {w : World} {B : Nat} {e : TypeId} {a : Option Addr} {c n : Nat} {l : List Int} (h : w.ownsRow B e 1 (.slice a n c) n (l.map (Value.int .i64))) : IntsN B w a n l :=
  ⟨(Ints.own h).1, fun hn => (ownsRow_cell h 0 hn).2.2.1⟩
theorem MatN.own {w : World} {B : Nat} {a : Option Addr} {n c : Nat} {R : List (Option Addr × Nat)} {L : List (List Int)} (h : OMat w B a n c R L) : MatN B w a n L :=
  ⟨h.ll, h.pl, h.max, fun hn => (own_lt_pos h.own hn).1, fun _ hi => ⟨_, _, _, h.cell hi, IntsN.own (h.row _ hi)⟩⟩
theorem MatN.take {B : Nat} {w : World} {a : Option Addr} {n : Nat} {L : List (List Int)} (h : MatN B w a n L) {k : Nat} (hk : k ≤ n) : MatN B w a k (L.take k) := by
  refine ⟨by rw [List.length_take, h.len]; omega, fun h0 => h.pl (by omega), Nat.le_trans hk h.max, fun h0 => h.lo (by omega), fun i hi => ?_⟩
  rw [nthR_take hi]
  exact h.cell i (by omega)

/-- the canonical rows and the pivots -/
def canS (G : Tbl) (L : List (List Int)) (m : Nat) : List (List Int) := (elimTo G.ops L m).1.take (elimTo G.ops L m).2.length
def pivS (G : Tbl) (L : List (List Int)) (m : Nat) : List Int := (elimTo G.ops L m).2
theorem canS_length (G : Tbl) (L : List (List Int)) (m : Nat) : (canS G L m).length = (pivS G L m).length := by
  have h1 := elimTo_piv G.ops L m
  have h2 := elimTo_length G.ops L m
  unfold canS pivS
  rw [List.length_take]; omega

def CanonPost (G : Tbl) (L : List (List Int)) (m : Nat) (w : World) (e : Ending) (w' : World) : Prop :=
  ∃ a c ap cp, e = .returned (.tuple #[.slice a (pivS G L m).length c, .slice ap (pivS G L m).length cp]) ∧ MatN w.heap.size w' a (pivS G L m).length (canS G L m) ∧ IntsN w.heap.size w' ap (pivS G L m).length (pivS G L m) ∧ Below w.heap.size w w'

set_option maxHeartbeats 1600000 in
theorem canon_any (a : Option Addr) (n c m : Nat) (L : List (List Int)) (h : GFw w b G) (hi : Mat w a n L) (hR : Rws G.El m L) (hm : m ≤ 1000000) (hn : n ≤ 1000000) :
    Calls Tryz.prog 136 #[.pointer (some ⟨b, 0, none⟩), .slice a n c, .int .i64 m] w (CanonPost G L m w) := by
  have Hlen := Lib.hid hi.len
  have HR := Lib.hid hR
  have hLm : ∀ l ∈ L, l.length ≤ 1000000 := fun l hl => by rw [(hR l hl).1]; exact hm
  have HLm := Lib.hid hLm
  clear hLm hR
  go_enter Tryz.func136, Tryz.ntmps136
  go_wp2_with fail
  refine (clone_any a n c L hi hn HLm.out).mono ?_
  rintro e w1 ⟨a1, c1, R1, rfl, hO1, hb1⟩
  go_wp2_with fail
  refine (eliminate_any w a1 L.length c1 m m R1 L h hb1 hO1 HR.out (Nat.le_refl _) hm (by rw [Hlen.out]; exact hn)).mono ?_
  rintro e w2 ⟨R2, ap, cp, d, rfl, hO2, hp2, hM2, hb2⟩
  have hpl := elimTo_piv G.ops L m
  have hcap := own_cap hO2.own
  have hpv := (IntsN.own hp2).mono hb1.size
  have hmt := (MatN.own hO2).take (k := (elimTo G.ops L m).2.length) hpl.2
  have hF : CanonPost G L m w (.returned (.tuple #[.slice a1 (elimTo G.ops L m).2.length (elimTo G.ops L m).2.length, .slice ap (elimTo G.ops L m).2.length cp])) w2 := ⟨a1, _, ap, cp, rfl, hmt, hpv, hb2⟩
  have HF := Lib.hid hF
  have hle : (elimTo G.ops L m).2.length ≤ c1 := Nat.le_trans hpl.2 hcap
  clear hF hpv hmt hp2 hcap hpl
  generalize (elimTo G.ops L m).2.length = k at *
  go_wp2_with fail
  go_ret2
  simpa using HF.out
end

/- The walk of matrix.Canonical. -/
section
open Go.RowKit

/-- the error of a matrix over a description -/
def fmatE (P M : Int) (mod : List Int) (cols : Int) (L : List (List Int)) : Int :=
  if fieldB P M mod = true then matE (tblOf P M.toNat mod).q cols L else 1

def CanlPost (P M : Int) (mod : List Int) (cols : Int) (L : List (List Int)) (w : World) (e : Ending) (w' : World) : Prop :=
  Below w.heap.size w w' ∧ (
  (fmatE P M mod cols L ≠ 0 ∧ e = .returned (.tuple #[.agg #[.int .i64 0, .slice none 0 0], .slice none 0 0, .int .i64 (fmatE P M mod cols L)])) ∨
  (fmatE P M mod cols L = 0 ∧ ∃ m : Nat, cols = m ∧ ∃ a c ap cp, e = .returned (.tuple #[.agg #[.int .i64 m, .slice a (pivS (tblOf P M.toNat mod) L m).length c], .slice ap (pivS (tblOf P M.toNat mod) L m).length cp, .int .i64 0]) ∧
    MatN w.heap.size w' a (pivS (tblOf P M.toNat mod) L m).length (canS (tblOf P M.toNat mod) L m) ∧ IntsN w.heap.size w' ap (pivS (tblOf P M.toNat mod) L m).length (pivS (tblOf P M.toNat mod) L m)))

theorem matE_zero {q cols : Int} {L : List (List Int)} (h : matE q cols L = 0) : ∃ m : Nat, cols = m ∧ m ≤ 256 ∧ L.length ≤ 256 ∧ Rws (fun x => 0 ≤ x ∧ x < q) m L := by
  unfold matE at h
  split at h
  · omega
  · rename_i h1
    split at h
    · omega
    · rename_i h2
      split at h
      · rename_i h3
        refine ⟨cols.toNat, by omega, by omega, by omega, fun r hr => ?_⟩
        have h4 : shapeQ cols L = true := by simpa using h2
        unfold shapeQ at h4
        rw [List.all_eq_true] at h4 h3
        have h5 := h4 r hr
        have h6 := h3 r hr
        unfold elsQ isQ at h6
        rw [List.all_eq_true] at h6
        refine ⟨by simp at h5; omega, fun x hx => ?_⟩
        have h7 := h6 x hx
        simpa using h7
      · omega
theorem matsE_one {q cols : Int} {L : List (List Int)} : matsE q [(cols, L)] = matE q cols L := by
  simp only [matsE]; split
  · rename_i h; exact h.symm
  · rfl


set_option maxRecDepth 100000 in
set_option maxHeartbeats 1600000 in
theorem canonical_any (P M : Int) (am : Option Addr) (mn cm : Nat) (mod : List Int) (cols : Int) (a : Option Addr) (n c : Nat) (L : List (List Int)) (w : World) (hmod : Ints w am mn mod) (hi : Mat w a n L) :
    Calls Tryz.prog 94 #[.agg #[.int .i64 P, .int .i64 M, .slice am mn cm], .agg #[.int .i64 cols, .slice a n c]] w (CanlPost P M mod cols L w) := by
  have Hlen := Lib.hid hi.len
  go_enter Tryz.func94, Tryz.ntmps94
  go_wp2_with fail
  obtain ⟨W, hW⟩ : ∃ W : World, W = ((((w.alloc (.cells #[.int .i64 P, .int .i64 M, .slice am mn cm] 24)).alloc (.cells #[.int .i64 cols, .slice a n c] 62)).alloc (.cells #[.int .i64 0, .slice none 0 0] 62)).alloc (.cells #[.int .i64 cols, .slice a n c] 62)) := ⟨_, rfl⟩
  rw [← hW]
  have hbW : Below w.heap.size w W := by rw [hW]; exact ((((Below.refl _ _).alloc (Nat.le_refl _) _).alloc (by simp) _).alloc (by simp; omega) _).alloc (by simp; omega) _
  have hsW : W.heap.size = w.heap.size + 4 := by rw [hW]; simp
  have q1 : W.cell? ⟨w.heap.size + 1, 0, none⟩ = some (.int .i64 cols) ∧ W.cell? ⟨w.heap.size + 1, 1, none⟩ = some (.slice a n c) := by rw [hW]; exact ⟨cell_box (cell_box (cell_alloc_at _ _ _ (by simp) 0) _) _, cell_box (cell_box (cell_alloc_at _ _ _ (by simp) 1) _) _⟩
  have q2 : W.cell? ⟨w.heap.size + 1 + 1, 0, none⟩ = some (.int .i64 0) ∧ W.cell? ⟨w.heap.size + 1 + 1, 1, none⟩ = some (.slice none 0 0) ∧ W.frozen? ⟨w.heap.size + 1 + 1, 0, none⟩ = false ∧ W.frozen? ⟨w.heap.size + 1 + 1, 1, none⟩ = false := by
    rw [hW]; exact ⟨cell_box (cell_alloc_at _ _ _ (by simp) 0) _, cell_box (cell_alloc_at _ _ _ (by simp) 1) _, frozen_box (by simp) (frozen_at _ _ _ (by simp) 0) _, frozen_box (by simp) (frozen_at _ _ _ (by simp) 1) _⟩
  have q3 : W.cell? ⟨w.heap.size + 1 + 1 + 1, 0, none⟩ = some (.int .i64 cols) ∧ W.cell? ⟨w.heap.size + 1 + 1 + 1, 1, none⟩ = some (.slice a n c) := by rw [hW]; exact ⟨cell_alloc_at _ _ _ (by simp) 0, cell_alloc_at _ _ _ (by simp) 1⟩
  have hiW := hi.keep hbW
  have hMs : Mats W (some ⟨w.heap.size + 1 + 1 + 1, 0, none⟩) 1 [(cols, L)] := ⟨rfl, fun _ => rfl, by unfold maxLen; omega, fun i hi => by
    have : i = 0 := by simp at hi; omega
    subst this
    exact ⟨a, n, c, by simpa using q3.1, by simpa using q3.2, hiW⟩⟩
  have HsW := Lib.hid hsW
  clear hW hsW
  refine (open_any P M am mn cm mod _ 1 1 _ W (hmod.keep hbW) hMs).mono ?_
  rintro e w1 ⟨hb1, hcase⟩
  have hbw1 := Below.next hbW hb1
  have hq : ∀ V, Below W.heap.size W V → V.cell? ⟨w.heap.size + 1, 0, none⟩ = some (.int .i64 cols) ∧ V.cell? ⟨w.heap.size + 1, 1, none⟩ = some (.slice a n c) ∧ V.cell? ⟨w.heap.size + 1 + 1, 0, none⟩ = some (.int .i64 0) ∧ V.cell? ⟨w.heap.size + 1 + 1, 1, none⟩ = some (.slice none 0 0) ∧ V.frozen? ⟨w.heap.size + 1 + 1, 0, none⟩ = false ∧ V.frozen? ⟨w.heap.size + 1 + 1, 1, none⟩ = false := by
    intro V hV
    have hs := HsW.out
    exact ⟨cell_keep hV q1.1, cell_keep hV q1.2, cell_keep hV q2.1, cell_keep hV q2.2.1, (hV.frozen (p := ⟨w.heap.size + 1 + 1, 0, none⟩) (by simp [hs])).trans q2.2.2.1, (hV.frozen (p := ⟨w.heap.size + 1 + 1, 1, none⟩) (by simp [hs])).trans q2.2.2.2⟩
  have Hq := Lib.hid hq
  clear hq q1 q2 q3
  rcases hcase with ⟨hB, rfl⟩ | ⟨hB, er, h0, h1, rfl⟩ | ⟨hB, h1, b, rfl, hG, hbl⟩
  · obtain ⟨r1, r2, r3, r4, r5, r6⟩ := Hq.out w1 hb1
    have HB : Hid (fmatE P M mod cols L = 1) := by show _ = _; rw [fmatE, hB]; rfl
    clear hB
    go_wp2_with fail
    refine bodyPost_ret (v := .tuple #[.agg #[.int .i64 0, .slice none 0 0], .slice none 0 0, .int .i64 1]) (by simp [results, Tryz.results94, go_sem, r3, r4]) rfl ⟨(hbw1.setCell (by simp; omega) _).setCell (by simp; omega) _, .inl ⟨by rw [HB.out]; omega, by rw [HB.out]⟩⟩
  · obtain ⟨r1, r2, r3, r4, r5, r6⟩ := Hq.out w1 hb1
    have HB : Hid (fmatE P M mod cols L = er) := by show _ = _; rw [fmatE, hB, if_pos rfl, ← h1, matsE_one]
    have He : Hid (er ≠ 0) := h0
    have he' : (er != 0) = true := by simpa using h0
    clear hB h0 h1
    go_wp2_with fail
    refine bodyPost_ret (v := .tuple #[.agg #[.int .i64 0, .slice none 0 0], .slice none 0 0, .int .i64 er]) (by simp [results, Tryz.results94, go_sem, r3, r4]) rfl ⟨(hbw1.setCell (by simp; omega) _).setCell (by simp; omega) _, .inl ⟨by rw [HB.out]; exact He.out, by rw [HB.out]⟩⟩
  · obtain ⟨r1, r2, r3, r4, r5, r6⟩ := Hq.out w1 hb1
    rw [matsE_one] at h1
    obtain ⟨m, rfl, hm, hn, hR⟩ := matE_zero h1
    have HB : Hid (fmatE P M mod m L = 0) := by show _ = _; rw [fmatE, hB, if_pos rfl, h1]
    clear hB h1
    go_wp2_with fail
    refine (canon_any a n c m L hG (hiW.keep hb1) hR (by omega) (by rw [← Hlen.out]; omega)).mono ?_
    rintro e w2 ⟨a2, c2, ap, cp, rfl, hM2, hp2, hb2⟩
    have hbw2 := Below.next hbw1 hb2
    obtain ⟨r1, r2, r3, r4, r5, r6⟩ := Hq.out w2 (Below.next hb1 hb2)
    have hF : CanlPost P M mod m L w (.returned (.tuple #[.agg #[.int .i64 m, .slice a2 (pivS (tblOf P M.toNat mod) L m).length c2], .slice ap (pivS (tblOf P M.toNat mod) L m).length cp, .int .i64 0])) ((w2.setCell ⟨w.heap.size + 1 + 1, 0, none⟩ (.int .i64 m)).setCell ⟨w.heap.size + 1 + 1, 1, none⟩ (.slice a2 (pivS (tblOf P M.toNat mod) L m).length c2)) := by
      have hs := HsW.out
      have hs1 := hb1.size
      refine ⟨(hbw2.setCell (by simp; omega) _).setCell (by simp; omega) _, .inr ⟨HB.out, m, rfl, a2, c2, ap, cp, rfl, ?_, ?_⟩⟩
      · exact ((hM2.setCell (p := ⟨w.heap.size + 1 + 1, 0, none⟩) (by simp; omega) _).setCell (p := ⟨w.heap.size + 1 + 1, 1, none⟩) (by simp; omega) _).mono (by omega)
      · exact ((hp2.setCell (p := ⟨w.heap.size + 1 + 1, 0, none⟩) (by simp; omega) _).setCell (p := ⟨w.heap.size + 1 + 1, 1, none⟩) (by simp; omega) _).mono (by omega)
    have HF := Lib.hid hF
    clear hF hM2 hp2
    generalize (pivS (tblOf P M.toNat mod) L m).length = k at *
    go_wp2_with fail
    exact bodyPost_ret (v := .tuple #[.agg #[.int .i64 m, .slice a2 k c2], .slice ap k cp, .int .i64 0]) (by simp [results, Tryz.results94, go_sem, r3, r4]) rfl HF.out
end

/- The walks of slices.Equal, slices.EqualFunc. -/
section
open Go.RowKit

theorem nth_take_eq {l l' : List Int} {k : Nat} (h : l.take k = l'.take k) (h1 : k < l.length) (h2 : k < l'.length) (he : nth l k = nth l' k) : l.take (k + 1) = l'.take (k + 1) := by
  rw [List.take_succ_eq_append_getElem h1, List.take_succ_eq_append_getElem h2, h, ← nth_getElem h1, ← nth_getElem h2, he]
theorem nthR_take_eq {l l' : List (List Int)} {k : Nat} (h : l.take k = l'.take k) (h1 : k < l.length) (h2 : k < l'.length) (he : nthR l k = nthR l' k) : l.take (k + 1) = l'.take (k + 1) := by
  rw [List.take_succ_eq_append_getElem h1, List.take_succ_eq_append_getElem h2, h, ← nthR_getElem h1, ← nthR_getElem h2, he]

variable {w : World}

set_option maxHeartbeats 800000 in
theorem equal_any (a : Option Addr) (n c : Nat) (l : List Int) (a' : Option Addr) (n' c' : Nat) (l' : List Int) (h : Ints w a n l) (h' : Ints w a' n' l') :
    Calls Tryz.prog 153 #[.slice a n c, .slice a' n' c'] w (QuietBool w (decide (l = l'))) := by
  have Hl := Lib.hid h.len
  have Hl' := Lib.hid h'.len
  have hpl := h.pl
  have hpl' := h'.pl
  have hmax := h.max
  unfold maxLen at hmax
  by_cases hn : n = n'
  · subst hn
    have hnn : ((n : Int) != n) = false := by simp
    go_enter Tryz.func153, Tryz.ntmps153
    go_wp2_with fail
    go_loopw [13] (fun iv wr => ∃ k : Nat, k ≤ n ∧ iv = .int .i64 k ∧ Hid (l.take k = l'.take k) ∧ Drawn w wr) (fun i _ => n - (intOf i).toNat)
    case atStart => exact ⟨0, Nat.zero_le _, rfl, rfl, Drawn.refl _⟩
    case round =>
      obtain ⟨k, hk, rfl, htk, hd⟩ := hrel
      by_cases hlt : k < n
      · have c1 := (h.drawn hd).cell k hlt
        have c2 := (h'.drawn hd).cell k hlt
        by_cases he : nth l k = nth l' k
        · have he' : (nth l k != nth l' k) = false := by simpa using he
          have Hs : Hid (l.take (k + 1) = l'.take (k + 1)) := nth_take_eq htk.out (by rw [Hl.out]; exact hlt) (by rw [Hl'.out]; exact hlt) he
          clear he
          go_wp2_with fail
          go_quiet (fail)
          go_wp2
          go_roundw
          case rel => exact ⟨k + 1, by omega, by go_num, Hs.out, hd.drewN _⟩
          case measure => simp [intOf] <;> omega
        · have he' : (nth l k != nth l' k) = true := by simpa using he
          have Hs : Hid (decide (l = l') = false) := by
            show _ = _; simp; intro e; exact he (by rw [e])
          clear he
          go_wp2_with fail
          go_quiet (fail)
          go_wp2
          go_ret
          exact ⟨ret_bool Hs.out.symm, hd.drewN _⟩
      · obtain rfl : k = n := by omega
        have Hs : Hid (decide (l = l') = true) := by
          show _ = _
          have := htk.out
          rw [List.take_of_length_le (by rw [Hl.out]; exact Nat.le_refl _), List.take_of_length_le (by rw [Hl'.out]; exact Nat.le_refl _)] at this
          simpa using this
        go_wp2_with fail
        go_ret
        exact ⟨ret_bool Hs.out.symm, hd⟩
  · have hnn : ((n : Int) != n') = true := by simp; omega
    have Hs : Hid (decide (l = l') = false) := by
      show _ = _; simp; intro e; have e1 := Hl.out; have e2 := Hl'.out; rw [e] at e1; omega
    clear hn
    go_enter Tryz.func153, Tryz.ntmps153
    go_wp2_with fail
    go_ret
    exact ⟨ret_bool Hs.out.symm, Drawn.refl _⟩

set_option maxHeartbeats 800000 in
theorem equalRows_any (a : Option Addr) (n c : Nat) (l : List (List Int)) (a' : Option Addr) (n' c' : Nat) (l' : List (List Int)) (h : Mat w a n l) (h' : Mat w a' n' l') :
    Calls Tryz.prog 152 #[.slice a n c, .slice a' n' c', .func (.func 153) #[] #[]] w (QuietBool w (decide (l = l'))) := by
  have Hl := Lib.hid h.len
  have Hl' := Lib.hid h'.len
  have hpl := h.pl
  have hpl' := h'.pl
  have hmax := h.max
  unfold maxLen at hmax
  by_cases hn : n = n'
  · subst hn
    have hnn : ((n : Int) != n) = false := by simp
    go_enter Tryz.func152, Tryz.ntmps152
    go_wp2_with fail
    go_loopw [17] (fun iv wr => ∃ k : Nat, k ≤ n ∧ iv = .int .i64 k ∧ Hid (l.take k = l'.take k) ∧ Drawn w wr) (fun i _ => n - (intOf i).toNat)
    case atStart => exact ⟨0, Nat.zero_le _, rfl, rfl, Drawn.refl _⟩
    case round =>
      obtain ⟨k, hk, rfl, htk, hd⟩ := hrel
      by_cases hlt : k < n
      · obtain ⟨b1, n1, d1, c1, i1⟩ := (h.drawn hd).cell k hlt
        obtain ⟨b2, n2, d2, c2, i2⟩ := (h'.drawn hd).cell k hlt
        go_wp2_with fail
        refine (equal_any _ _ _ _ _ _ _ _ i1 i2).mono ?_
        rintro e w2 ⟨rfl, hd2⟩
        by_cases he : nthR l k = nthR l' k
        · have he' : decide (nthR l k = nthR l' k) = true := by simpa using he
          have Hs : Hid (l.take (k + 1) = l'.take (k + 1)) := nthR_take_eq htk.out (by rw [Hl.out]; exact hlt) (by rw [Hl'.out]; exact hlt) he
          rw [he']
          clear he he'
          go_wp2_with fail
          go_roundw
          case rel => exact ⟨k + 1, by omega, by go_num, Hs.out, hd.trans hd2⟩
          case measure => simp [intOf] <;> omega
        · have he' : decide (nthR l k = nthR l' k) = false := by simpa using he
          have Hs : Hid (decide (l = l') = false) := by
            show _ = _; simp; intro e; exact he (by rw [e])
          rw [he']
          clear he he'
          go_wp2_with fail
          go_ret
          exact ⟨ret_bool Hs.out.symm, hd.trans hd2⟩
      · obtain rfl : k = n := by omega
        have Hs : Hid (decide (l = l') = true) := by
          show _ = _
          have := htk.out
          rw [List.take_of_length_le (by rw [Hl.out]; exact Nat.le_refl _), List.take_of_length_le (by rw [Hl'.out]; exact Nat.le_refl _)] at this
          simpa using this
        go_wp2_with fail
        go_ret
        exact ⟨ret_bool Hs.out.symm, hd⟩
  · have hnn : ((n : Int) != n') = true := by simp; omega
    have Hs : Hid (decide (l = l') = false) := by
      show _ = _; simp; intro e; have e1 := Hl.out; have e2 := Hl'.out; rw [e] at e1; omega
    clear hn
    go_enter Tryz.func152, Tryz.ntmps152
    go_wp2_with fail
    go_ret
    exact ⟨ret_bool Hs.out.symm, Drawn.refl _⟩
end

/- The walks of space.open, Check. -/
section
open Go.RowKit

def spaceE (P M : Int) (mod : List Int) (cols : Int) (L : List (List Int)) : Int :=
  if fmatE P M mod cols L = 0 then (if canS (tblOf P M.toNat mod) L cols.toNat = L then 0 else 5) else fmatE P M mod cols L

def SpacePost (P M : Int) (mod : List Int) (cols : Int) (a : Option Addr) (n c : Nat) (L : List (List Int)) (w : World) (e : Ending) (w' : World) : Prop :=
  Below w.heap.size w w' ∧ (
  (spaceE P M mod cols L ≠ 0 ∧ e = .returned (.tuple #[.agg #[.pointer none, .int .i64 0, .slice none 0 0, .slice none 0 0], .int .i64 (spaceE P M mod cols L)])) ∨
  (spaceE P M mod cols L = 0 ∧ ∃ (m b : Nat), cols = m ∧ ∃ ap cp, e = .returned (.tuple #[.agg #[.pointer (some ⟨b, 0, none⟩), .int .i64 m, .slice a n c, .slice ap (pivS (tblOf P M.toNat mod) L m).length cp], .int .i64 0]) ∧
    GFs w.heap.size w' b (tblOf P M.toNat mod) ∧ w.heap.size ≤ b ∧ IntsN w.heap.size w' ap (pivS (tblOf P M.toNat mod) L m).length (pivS (tblOf P M.toNat mod) L m)))

set_option maxRecDepth 100000 in
set_option maxHeartbeats 1600000 in
theorem spaceOpen_any (P M : Int) (am : Option Addr) (mn cm : Nat) (mod : List Int) (cols : Int) (a : Option Addr) (n c : Nat) (L : List (List Int)) (w : World) (hmod : Ints w am mn mod) (hi : Mat w a n L) :
    Calls Tryz.prog 114 #[.agg #[.int .i64 P, .int .i64 M, .slice am mn cm], .agg #[.int .i64 cols, .slice a n c]] w (SpacePost P M mod cols a n c L w) := by
  have Hlen := Lib.hid hi.len
  go_enter Tryz.func114, Tryz.ntmps114
  go_wp2_with fail
  obtain ⟨W, hW⟩ : ∃ W : World, W = (((w.alloc (.cells #[.int .i64 P, .int .i64 M, .slice am mn cm] 24)).alloc (.cells #[.int .i64 cols, .slice a n c] 62)).alloc (.cells #[.pointer none, .int .i64 0, .slice none 0 0, .slice none 0 0] 126)) := ⟨_, rfl⟩
  rw [← hW]
  have hbW : Below w.heap.size w W := by rw [hW]; exact below3 _ _ _ _
  have hsW : W.heap.size = w.heap.size + 3 := by rw [hW]; simp
  have x0 : Box W w.heap.size [.int .i64 P, .int .i64 M, .slice am mn cm] := by rw [hW]; exact ((Box.new _ _ _ rfl).alloc _).alloc _
  have x1 : Box W (w.heap.size + 1) [.int .i64 cols, .slice a n c] := by rw [hW]; exact (Box.new _ _ _ (by simp)).alloc _
  have x2 : Box W (w.heap.size + 1 + 1) [.pointer none, .int .i64 0, .slice none 0 0, .slice none 0 0] := by rw [hW]; exact Box.new _ _ _ (by simp)
  have HX := Lib.hid (And.intro x0 (And.intro x1 x2))
  have HsW := Lib.hid hsW
  have hiW := hi.keep hbW
  have hmW := hmod.keep hbW
  clear hW hsW x0 x1 x2
  refine (canonical_any P M am mn cm mod cols a n c L W hmW hiW).mono ?_
  rintro e w1 ⟨hb1, ⟨he, rfl⟩ | ⟨he, m, rfl, a2, c2, ap, cp, rfl, hM2, hp2⟩⟩
  · have hbw1 := Below.next hbW hb1
    have HB : Hid (spaceE P M mod cols L = fmatE P M mod cols L) := by show _ = _; rw [spaceE, if_neg he]
    have HE := Lib.hid he
    have he' : (fmatE P M mod cols L != 0) = true := by simpa using he
    clear he
    generalize fmatE P M mod cols L = er at *
    have x2 := HX.out.2.2.keep hb1
    have f0 := x2.frozen 0
    have f1 := x2.frozen 1
    have f2 := x2.frozen 2
    have f3 := x2.frozen 3
    have k0 := x2.cell 0 rfl
    have k1 := x2.cell 1 rfl
    have k2 := x2.cell 2 rfl
    have k3 := x2.cell 3 rfl
    clear x2
    have hz : w.heap.size + 1 + 1 < w1.heap.size := by have := hb1.size; have := HsW.out; omega
    go_wp2_with fail
    exact bodyPost_ret (v := .tuple #[.agg #[.pointer none, .int .i64 0, .slice none 0 0, .slice none 0 0], .int .i64 er]) (by simp [results, Tryz.results114, go_sem, k0, k1, k2, k3, hz]) rfl
      ⟨(((((hbw1.setCell (by simp; omega) _).setCell (by simp; omega) _).setCell (by simp; omega) _).setCell (by simp; omega) _).alloc (by simp; omega) _), .inl ⟨by rw [HB.out]; exact HE.out, by rw [HB.out]⟩⟩
  · have hbw1 := Below.next hbW hb1
    have hb2 : Below w1.heap.size w1 (w1.alloc (.cells #[.int .i64 m, .slice a2 (pivS (tblOf P M.toNat mod) L m).length c2] 62)) := below1 _ _
    have hz : w.heap.size + 1 + 1 < w1.heap.size := by have := hb1.size; have := HsW.out; omega
    have x1 := HX.out.2.1.keep hb1
    have j0 := x1.cell 0 rfl
    have j1 := x1.cell 1 rfl
    have He := Lib.hid he
    have hz1 : w.heap.size + 1 < w1.heap.size := by omega
    clear x1 he
    go_wp2_with fail
    refine (equalRows_any _ _ _ _ _ _ _ _ (hM2.mat.keep hb2) ((hiW.keep hb1).keep hb2)).mono ?_
    rintro e w3 ⟨rfl, hd3⟩
    have hb3 : Below w1.heap.size w1 w3 := Below.next hb2 hd3.below
    have hbw3 := Below.next hbw1 hb3
    have hz3 : w.heap.size + 1 + 1 < w3.heap.size := Nat.lt_of_lt_of_le hz hb3.size
    have x0 := (HX.out.1.keep hb1).keep hb3
    have x1 := (HX.out.2.1.keep hb1).keep hb3
    have x2 := (HX.out.2.2.keep hb1).keep hb3
    by_cases hc : canS (tblOf P M.toNat mod) L m = L
    · have hc' : decide (canS (tblOf P M.toNat mod) L m = L) = true := by simpa using hc
      have HB : Hid (spaceE P M mod m L = 0) := by show _ = _; rw [spaceE, if_pos He.out, Int.toNat_natCast, if_pos hc]
      rw [hc']
      have hmW3 := (hmW.keep hb1).keep hb3
      have i0 := x0.cell 0 rfl
      have i1 := x0.cell 1 rfl
      have i2 := x0.cell 2 rfl
      have hfb : fieldB P M mod = true := by
        have := He.out
        unfold fmatE at this
        split at this
        · assumption
        · omega
      have Hfb := Lib.hid hfb
      clear hc hc' x0 x1 hfb
      go_wp2_with fail
      refine (fieldNew_any P M am mn cm mod w3 hmW3).mono ?_
      rintro e w4 (⟨hB, rfl, hb4⟩ | ⟨hB, b, rfl, hG, hbl, hb4⟩)
      · rw [Hfb.out] at hB; cases hB
      · clear hB
        have hbw4 := Below.next hbw3 hb4
        have x1 := ((HX.out.2.1.keep hb1).keep hb3).keep hb4
        have x2 := ((HX.out.2.2.keep hb1).keep hb3).keep hb4
        have j0 := x1.cell 0 rfl
        have j1 := x1.cell 1 rfl
        have f0 := x2.frozen 0
        have f1 := x2.frozen 1
        have f2 := x2.frozen 2
        have f3 := x2.frozen 3
        have k0 := x2.cell 0 rfl
        have k1 := x2.cell 1 rfl
        have k2 := x2.cell 2 rfl
        have k3 := x2.cell 3 rfl
        have hp4 := (hp2.keep hb3).keep hb4
        have hF : SpacePost P M mod m a n c L w (.returned (.tuple #[.agg #[.pointer (some ⟨b, 0, none⟩), .int .i64 m, .slice a n c, .slice ap (pivS (tblOf P M.toNat mod) L m).length cp], .int .i64 0])) 
            ((((w4.setCell ⟨w.heap.size + 1 + 1, 0, none⟩ (.pointer (some ⟨b, 0, none⟩))).setCell ⟨w.heap.size + 1 + 1, 1, none⟩ (.int .i64 m)).setCell ⟨w.heap.size + 1 + 1, 2, none⟩ (.slice a n c)).setCell ⟨w.heap.size + 1 + 1, 3, none⟩ (.slice ap (pivS (tblOf P M.toNat mod) L m).length cp)) := by
          have hs := HsW.out
          have hs3 := hb3.size
          refine ⟨(((hbw4.setCell (by simp; omega) _).setCell (by simp; omega) _).setCell (by simp; omega) _).setCell (by simp; omega) _, .inr ⟨HB.out, m, b, rfl, ap, cp, rfl, ?_, ?_, ?_⟩⟩
          · exact ((((hG.setCell (by simp; omega) _).setCell (by simp; omega) _).setCell (by simp; omega) _).setCell (by simp; omega) _).mono (by omega)
          · omega
          · exact ((((hp4.setCell (by simp; omega) _).setCell (by simp; omega) _).setCell (by simp; omega) _).setCell (by simp; omega) _).mono (by omega)
        have HF := Lib.hid hF
        clear hF hp4 hp2 x1 x2
        generalize (pivS (tblOf P M.toNat mod) L m).length = k at *
        go_wp2_with fail
        exact bodyPost_ret (v := .tuple #[.agg #[.pointer (some ⟨b, 0, none⟩), .int .i64 m, .slice a n c, .slice ap k cp], .int .i64 0]) (by simp [results, Tryz.results114, go_sem, k0, k1, k2, k3]) rfl HF.out
    · have hc' : decide (canS (tblOf P M.toNat mod) L m = L) = false := by simpa using hc
      have HB : Hid (spaceE P M mod m L = 5) := by show _ = _; rw [spaceE, if_pos He.out, Int.toNat_natCast, if_neg hc]
      rw [hc']
      have f0 := x2.frozen 0
      have f1 := x2.frozen 1
      have f2 := x2.frozen 2
      have f3 := x2.frozen 3
      have k0 := x2.cell 0 rfl
      have k1 := x2.cell 1 rfl
      have k2 := x2.cell 2 rfl
      have k3 := x2.cell 3 rfl
      clear hc hc' x0 x1 x2
      go_wp2_with fail
      exact bodyPost_ret (v := .tuple #[.agg #[.pointer none, .int .i64 0, .slice none 0 0, .slice none 0 0], .int .i64 5]) (by simp [results, Tryz.results114, go_sem, k0, k1, k2, k3]) rfl
        ⟨(((hbw3.setCell (by simp; omega) _).setCell (by simp; omega) _).setCell (by simp; omega) _).setCell (by simp; omega) _, .inl ⟨by rw [HB.out]; omega, by rw [HB.out]⟩⟩
end

end Go.Proofs.YtakmnncmeefceaaGreat
