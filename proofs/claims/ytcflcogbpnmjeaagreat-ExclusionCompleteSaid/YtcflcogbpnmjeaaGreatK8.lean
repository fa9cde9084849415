/- The residues of polynomials, as numbers: their sum and product are those of a commutative ring. -/
import Derived.Test.YtcflcogbpnmjeaaGreatK7
import Derived.Test.YtcflcogbpnmjeaaGreatK5
import Derived.Test.YtcflcogbpnmjeaaGreatK4
namespace Go.Proofs.YtcflcogbpnmjeaaGreat
set_option linter.unusedVariables false
set_option linter.unusedSimpArgs false
set_option linter.unusedSectionVars false

/- The walks of matrix.canon, Canonical. -/
section
open Go.RowKit

variable {w : World} {b : Nat} {G : Tbl}

/-- slicing from the start keeps the address -/
@[go_sem high] theorem run_slice_h0 {P : Program} (w : World) (t : TypeId) (a : Option Addr) (len cap : Nat) (ht : P.underlying t = some (.slice (P.elem t))) (kh : IntKind) (h : Int) (h0 : 0 ≤ h) (h2 : h ≤ cap) :
    (Instr.slice t (.slice a len cap) none (some (.int kh h)) none).run P w = ((sizeOf (P.elem t)).run P w).andThen fun _ w => .ok (.slice a h.toNat cap) w := by
  rw [run_slice_h w t a len cap ht kh h h0 h2]
  congr 1; funext s w; congr 1
  simp only [sliced, Nat.zero_mul, Addr.add, if_true, Nat.sub_zero, Option.map_id', ite_self]
@[go_sem high] theorem run_slice_hm0 {P : Program} (w : World) (t : TypeId) (a : Option Addr) (len cap : Nat) (ht : P.underlying t = some (.slice (P.elem t))) (kh km : IntKind) (h m : Int) (h0 : 0 ≤ h) (h2 : h ≤ m) (h3 : m ≤ cap) :
    (Instr.slice t (.slice a len cap) none (some (.int kh h)) (some (.int km m))).run P w = ((sizeOf (P.elem t)).run P w).andThen fun _ w => .ok (.slice a h.toNat m.toNat) w := by
  rw [run_slice_hm w t a len cap ht kh km h m h0 h2 h3]
  congr 1; funext s w; congr 1
  simp only [sliced, Nat.zero_mul, Addr.add, if_true, Nat.sub_zero, Option.map_id', ite_self]

theorem nthR_take {L : List (List Int)} {k i : Nat} (h : i < k) : nthR (L.take k) i = nthR L i := by
  simp only [nthR, List.getD_eq_getElem?_getD, List.getElem?_take, if_pos h]
theorem Mat.take {w : World} {a : Option Addr} {n : Nat} {L : List (List Int)} (h : Mat w a n L) {k : Nat} (hk : k ≤ n) : Mat w a k (L.take k) := by
  refine ⟨by rw [List.length_take, h.len]; omega, fun h0 => h.pl (by omega), Nat.le_trans hk h.max, fun i hi => ?_⟩
  rw [nthR_take hi]
  exact h.cell i (by omega)

/-- a slice of ints in blocks from B on -/
structure IntsN (B : Nat) (w : World) (a : Option Addr) (n : Nat) (l : List Int) : Prop where
  ints : Ints w a n l
  lo : 0 < n → B ≤ ablk a
/-- a slice of slices of ints, all in blocks from B on -/
structure MatN (B : Nat) (w : World) (a : Option Addr) (n : Nat) (l : List (List Int)) : Prop where
  len : l.length = n
  pl : Pl a n
  max : n ≤ maxLen
  lo : 0 < n → B ≤ ablk a
  cell : ∀ i, i < n → ∃ b m c, w.cell? ⟨ablk a, aoff a + i, none⟩ = some (.slice b m c) ∧ IntsN B w b m (nthR l i)
theorem IntsN.mono {B B' : Nat} {w : World} {a : Option Addr} {n : Nat} {l : List Int} (h : IntsN B w a n l) (hB : B' ≤ B) : IntsN B' w a n l := ⟨h.ints, fun hn => Nat.le_trans hB (h.lo hn)⟩
theorem MatN.mono {B B' : Nat} {w : World} {a : Option Addr} {n : Nat} {l : List (List Int)} (h : MatN B w a n l) (hB : B' ≤ B) : MatN B' w a n l :=
  ⟨h.len, h.pl, h.max, fun hn => Nat.le_trans hB (h.lo hn), fun i hi => by obtain ⟨b, m, c, h1, h2⟩ := h.cell i hi; exact ⟨b, m, c, h1, h2.mono hB⟩⟩
theorem MatN.mat {B : Nat} {w : World} {a : Option Addr} {n : Nat} {l : List (List Int)} (h : MatN B w a n l) : Mat w a n l :=
  ⟨h.len, h.pl, h.max, fun i hi => by obtain ⟨b, m, c, h1, h2⟩ := h.cell i hi; exact ⟨b, m, c, h1, h2.ints⟩⟩
theorem IntsN.of_blocks {B : Nat} {w V : World} {a : Option Addr} {n : Nat} {l : List Int} (h : IntsN B w a n l) (hb : ∀ b, B ≤ b → b < w.heap.size → V.heap[b]? = w.heap[b]?) : IntsN B V a n l :=
  ⟨h.ints.of_block fun hn => hb _ (h.lo hn) (h.ints.lt hn), h.lo⟩
theorem MatN.of_blocks {B : Nat} {w V : World} {a : Option Addr} {n : Nat} {l : List (List Int)} (h : MatN B w a n l) (hb : ∀ b, B ≤ b → b < w.heap.size → V.heap[b]? = w.heap[b]?) : MatN B V a n l := by
  refine ⟨h.len, h.pl, h.max, h.lo, fun i hi => ?_⟩
  obtain ⟨b, m, c, h1, h2⟩ := h.cell i hi
  exact ⟨b, m, c, (World.cell?_of_block (w := w) (a := ⟨ablk a, aoff a + i, none⟩) (hb _ (h.lo (by omega)) (World.block_lt_of_cell? w _ h1))).trans h1, h2.of_blocks hb⟩
theorem IntsN.keep {B : Nat} {w V : World} {a : Option Addr} {n : Nat} {l : List Int} (h : IntsN B w a n l) (hb : Below w.heap.size w V) : IntsN B V a n l := h.of_blocks fun b _ h2 => hb.block b h2
theorem MatN.keep {B : Nat} {w V : World} {a : Option Addr} {n : Nat} {l : List (List Int)} (h : MatN B w a n l) (hb : Below w.heap.size w V) : MatN B V a n l := h.of_blocks fun b _ h2 => hb.block b h2
theorem IntsN.setCell {B : Nat} {w : World} {a : Option Addr} {n : Nat} {l : List Int} (h : IntsN B w a n l) {p : Addr} (hp : p.block < B) (v : Value) : IntsN B (w.setCell p v) a n l :=
  h.of_blocks fun b h1 _ => Below.heap_setCell _ _ _ _ (by omega)
theorem MatN.setCell {B : Nat} {w : World} {a : Option Addr} {n : Nat} {l : List (List Int)} (h : MatN B w a n l) {p : Addr} (hp : p.block < B) (v : Value) : MatN B (w.setCell p v) a n l :=
  h.of_blocks fun b h1 _ => Below.heap_setCell _ _ _ _ (by omega)
theorem IntsN.own {w : World} {B : Nat} {e : TypeId} {a : Option Addr} {c n : Nat} {l : List Int} (h : w.ownsRow B e 1 (.slice a n c) n (l.map (Value.int .i64))) : IntsN B w a n l :=
  ⟨(Ints.own h).1, fun hn => (ownsRow_cell h 0 hn).2.2.1⟩
theorem MatN.own {w : World} {B : Nat} {a : Option Addr} {n c : Nat} {R : List (Option Addr × Nat)} {L : List (List Int)} (h : OMat w B a n c R L) : MatN B w a n L :=
  ⟨h.ll, h.pl, h.max, fun hn => (own_lt_pos h.own hn).1, fun _ hi => ⟨_, _, _, h.cell hi, IntsN.own (h.row _ hi)⟩⟩
theorem MatN.take {B : Nat} {w : World} {a : Option Addr} {n : Nat} {L : List (List Int)} (h : MatN B w a n L) {k : Nat} (hk : k ≤ n) : MatN B w a k (L.take k) := by
  refine ⟨by rw [List.length_take, h.len]; omega, fun h0 => h.pl (by omega), Nat.le_trans hk h.max, fun h0 => h.lo (by omega), fun i hi => ?_⟩
  rw [nthR_take hi]
  exact h.cell i (by omega)

/-- the canonical rows and the pivots -/
def canS (G : Tbl) (L : List (List Int)) (m : Nat) : List (List Int) := (elimTo G.ops L m).1.take (elimTo G.ops L m).2.length
def pivS (G : Tbl) (L : List (List Int)) (m : Nat) : List Int := (elimTo G.ops L m).2
def CanonPost (G : Tbl) (L : List (List Int)) (m : Nat) (w : World) (e : Ending) (w' : World) : Prop :=
  ∃ a c ap cp, e = .returned (.tuple #[.slice a (pivS G L m).length c, .slice ap (pivS G L m).length cp]) ∧ MatN w.heap.size w' a (pivS G L m).length (canS G L m) ∧ IntsN w.heap.size w' ap (pivS G L m).length (pivS G L m) ∧ Below w.heap.size w w'

set_option maxHeartbeats 1600000 in
theorem canon_any (a : Option Addr) (n c m : Nat) (L : List (List Int)) (h : GFw w b G) (hi : Mat w a n L) (hR : Rws G.El m L) (hm : m ≤ 1000000) (hn : n ≤ 1000000) :
    Calls Tryz.prog 145 #[.pointer (some ⟨b, 0, none⟩), .slice a n c, .int .i64 m] w (CanonPost G L m w) := by
  have Hlen := Lib.hid hi.len
  have HR := Lib.hid hR
  have hLm : ∀ l ∈ L, l.length ≤ 1000000 := fun l hl => by rw [(hR l hl).1]; exact hm
  have HLm := Lib.hid hLm
  clear hLm hR
  go_enter Tryz.func145, Tryz.ntmps145
  go_wp2_with fail
  refine (clone_any a n c L hi hn HLm.out).mono ?_
  rintro e w1 ⟨a1, c1, R1, rfl, hO1, hb1⟩
  go_wp2_with fail
  refine (eliminate_any w a1 L.length c1 m m R1 L h hb1 hO1 HR.out (Nat.le_refl _) hm (by rw [Hlen.out]; exact hn)).mono ?_
  rintro e w2 ⟨R2, ap, cp, d, rfl, hO2, hp2, hM2, hb2⟩
  have hpl := elimTo_piv G.ops L m
  have hcap := own_cap hO2.own
  have hpv := (IntsN.own hp2).mono hb1.size
  have hmt := (MatN.own hO2).take (k := (elimTo G.ops L m).2.length) hpl.2
  have hF : CanonPost G L m w (.returned (.tuple #[.slice a1 (elimTo G.ops L m).2.length (elimTo G.ops L m).2.length, .slice ap (elimTo G.ops L m).2.length cp])) w2 := ⟨a1, _, ap, cp, rfl, hmt, hpv, hb2⟩
  have HF := Lib.hid hF
  have hle : (elimTo G.ops L m).2.length ≤ c1 := Nat.le_trans hpl.2 hcap
  clear hF hpv hmt hp2 hcap hpl
  generalize (elimTo G.ops L m).2.length = k at *
  go_wp2_with fail
  go_ret2
  simpa using HF.out
end

/- Blocks of the call's own. -/
section
open Go.RowKit

theorem frozen_at (w : World) (cs : Array Value) (e : TypeId) {g : Nat} (hg : g = w.heap.size) (i : Nat) : (w.alloc (.cells cs e)).frozen? ⟨g, i, none⟩ = false := by subst hg; simp
theorem frozen_keep {w w' : World} (hb : Below w.heap.size w w') {g i : Nat} (hg : g < w.heap.size) {v : Bool} (h : w.frozen? ⟨g, i, none⟩ = v) : w'.frozen? ⟨g, i, none⟩ = v := (hb.frozen (p := ⟨g, i, none⟩) hg).trans h
theorem frozen_box {w : World} {g i : Nat} {v : Bool} (hg : g < w.heap.size) (h : w.frozen? ⟨g, i, none⟩ = v) (o : Obj) : (w.alloc o).frozen? ⟨g, i, none⟩ = v := frozen_keep ((Below.refl _ _).alloc (Nat.le_refl _) o) hg h
/-- a block of the call's own, cell by cell -/
def Box (w : World) (b : Nat) (cs : List Value) : Prop := b < w.heap.size ∧ (∀ i v, cs[i]? = some v → w.cell? ⟨b, i, none⟩ = some v) ∧ ∀ i, w.frozen? ⟨b, i, none⟩ = false
theorem Box.new (w : World) (cs : List Value) (e : TypeId) {g : Nat} (hg : g = w.heap.size) : Box (w.alloc (.cells cs.toArray e)) g cs :=
  ⟨by subst hg; simp, fun i v hv => by rw [cell_alloc_at _ _ _ hg i]; simpa using hv, fun i => frozen_at _ _ _ hg i⟩
theorem Box.keep {w w' : World} {b : Nat} {cs : List Value} (h : Box w b cs) (hb : Below w.heap.size w w') : Box w' b cs :=
  ⟨Nat.lt_of_lt_of_le h.1 hb.size, fun i v hv => cell_keep hb (h.2.1 i v hv), fun i => frozen_keep hb h.1 (h.2.2 i)⟩
theorem Box.alloc {w : World} {b : Nat} {cs : List Value} (h : Box w b cs) (o : Obj) : Box (w.alloc o) b cs := h.keep ((Below.refl _ _).alloc (Nat.le_refl _) o)
theorem Box.cell {w : World} {b : Nat} {cs : List Value} (h : Box w b cs) (i : Nat) {v : Value} (hv : cs[i]? = some v) : w.cell? ⟨b, i, none⟩ = some v := h.2.1 i v hv
theorem Box.frozen {w : World} {b : Nat} {cs : List Value} (h : Box w b cs) (i : Nat) : w.frozen? ⟨b, i, none⟩ = false := h.2.2 i
theorem below3 (w : World) (o1 o2 o3 : Obj) : Below w.heap.size w (((w.alloc o1).alloc o2).alloc o3) := (((Below.refl _ _).alloc (Nat.le_refl _) _).alloc (by simp) _).alloc (by simp; omega) _
theorem below2 (w : World) (o1 o2 : Obj) : Below w.heap.size w ((w.alloc o1).alloc o2) := ((Below.refl _ _).alloc (Nat.le_refl _) _).alloc (by simp) _
theorem below1 (w : World) (o1 : Obj) : Below w.heap.size w (w.alloc o1) := (Below.refl _ _).alloc (Nat.le_refl _) _
theorem Ints.drawn {w w' : World} {a : Option Addr} {n : Nat} {l : List Int} (h : Ints w a n l) (hd : Drawn w w') : Ints w' a n l := h.keep hd.below
theorem Mat.drawn {w w' : World} {a : Option Addr} {n : Nat} {l : List (List Int)} (h : Mat w a n l) (hd : Drawn w w') : Mat w' a n l := h.keep hd.below
theorem Drawn.trans {w w' w'' : World} (h : Drawn w w') (k : Drawn w' w'') : Drawn w w'' := by obtain ⟨m, rfl⟩ := h; obtain ⟨n, rfl⟩ := k; exact ⟨m + n, World.drewN_drewN _ _ _⟩
/-- a result: a bool; nothing has changed -/
def QuietBool (w : World) (z : Bool) (e : Ending) (w' : World) : Prop := e = .returned (.bool z) ∧ Drawn w w'
end

/- The walk of matrix.Canonical. -/
section
open Go.RowKit

/-- the error of a matrix over a description -/
def fmatE (P M : Int) (mod : List Int) (cols : Int) (L : List (List Int)) : Int :=
  if fieldB P M mod = true then matE (tblOf P M.toNat mod).q cols L else 1

def CanlPost (P M : Int) (mod : List Int) (cols : Int) (L : List (List Int)) (w : World) (e : Ending) (w' : World) : Prop :=
  Below w.heap.size w w' ∧ (
  (fmatE P M mod cols L ≠ 0 ∧ e = .returned (.tuple #[.agg #[.int .i64 0, .slice none 0 0], .slice none 0 0, .int .i64 (fmatE P M mod cols L)])) ∨
  (fmatE P M mod cols L = 0 ∧ ∃ m : Nat, cols = m ∧ ∃ a c ap cp, e = .returned (.tuple #[.agg #[.int .i64 m, .slice a (pivS (tblOf P M.toNat mod) L m).length c], .slice ap (pivS (tblOf P M.toNat mod) L m).length cp, .int .i64 0]) ∧
    MatN w.heap.size w' a (pivS (tblOf P M.toNat mod) L m).length (canS (tblOf P M.toNat mod) L m) ∧ IntsN w.heap.size w' ap (pivS (tblOf P M.toNat mod) L m).length (pivS (tblOf P M.toNat mod) L m)))

theorem matE_zero {q cols : Int} {L : List (List Int)} (h : matE q cols L = 0) : ∃ m : Nat, cols = m ∧ m ≤ 256 ∧ L.length ≤ 256 ∧ Rws (fun x => 0 ≤ x ∧ x < q) m L := by
  unfold matE at h
  split at h
  · omega
  · rename_i h1
    split at h
    · omega
    · rename_i h2
      split at h
      · rename_i h3
        refine ⟨cols.toNat, by omega, by omega, by omega, fun r hr => ?_⟩
        have h4 : shapeQ cols L = true := by simpa using h2
        unfold shapeQ at h4
        rw [List.all_eq_true] at h4 h3
        have h5 := h4 r hr
        have h6 := h3 r hr
        unfold elsQ isQ at h6
        rw [List.all_eq_true] at h6
        refine ⟨by simp at h5; omega, fun x hx => ?_⟩
        have h7 := h6 x hx
        simpa using h7
      · omega
theorem matsE_one {q cols : Int} {L : List (List Int)} : matsE q [(cols, L)] = matE q cols L := by
  simp only [matsE]; split
  · rename_i h; exact h.symm
  · rfl


set_option maxRecDepth 100000 in
set_option maxHeartbeats 1600000 in
theorem canonical_any (P M : Int) (am : Option Addr) (mn cm : Nat) (mod : List Int) (cols : Int) (a : Option Addr) (n c : Nat) (L : List (List Int)) (w : World) (hmod : Ints w am mn mod) (hi : Mat w a n L) :
    Calls Tryz.prog 99 #[.agg #[.int .i64 P, .int .i64 M, .slice am mn cm], .agg #[.int .i64 cols, .slice a n c]] w (CanlPost P M mod cols L w) := by
  have Hlen := Lib.hid hi.len
  go_enter Tryz.func99, Tryz.ntmps99
  go_wp2_with fail
  obtain ⟨W, hW⟩ : ∃ W : World, W = ((((w.alloc (.cells #[.int .i64 P, .int .i64 M, .slice am mn cm] 24)).alloc (.cells #[.int .i64 cols, .slice a n c] 73)).alloc (.cells #[.int .i64 0, .slice none 0 0] 73)).alloc (.cells #[.int .i64 cols, .slice a n c] 73)) := ⟨_, rfl⟩
  rw [← hW]
  have hbW : Below w.heap.size w W := by rw [hW]; exact ((((Below.refl _ _).alloc (Nat.le_refl _) _).alloc (by simp) _).alloc (by simp; omega) _).alloc (by simp; omega) _
  have hsW : W.heap.size = w.heap.size + 4 := by rw [hW]; simp
  have q1 : W.cell? ⟨w.heap.size + 1, 0, none⟩ = some (.int .i64 cols) ∧ W.cell? ⟨w.heap.size + 1, 1, none⟩ = some (.slice a n c) := by rw [hW]; exact ⟨cell_box (cell_box (cell_alloc_at _ _ _ (by simp) 0) _) _, cell_box (cell_box (cell_alloc_at _ _ _ (by simp) 1) _) _⟩
  have q2 : W.cell? ⟨w.heap.size + 1 + 1, 0, none⟩ = some (.int .i64 0) ∧ W.cell? ⟨w.heap.size + 1 + 1, 1, none⟩ = some (.slice none 0 0) ∧ W.frozen? ⟨w.heap.size + 1 + 1, 0, none⟩ = false ∧ W.frozen? ⟨w.heap.size + 1 + 1, 1, none⟩ = false := by
    rw [hW]; exact ⟨cell_box (cell_alloc_at _ _ _ (by simp) 0) _, cell_box (cell_alloc_at _ _ _ (by simp) 1) _, frozen_box (by simp) (frozen_at _ _ _ (by simp) 0) _, frozen_box (by simp) (frozen_at _ _ _ (by simp) 1) _⟩
  have q3 : W.cell? ⟨w.heap.size + 1 + 1 + 1, 0, none⟩ = some (.int .i64 cols) ∧ W.cell? ⟨w.heap.size + 1 + 1 + 1, 1, none⟩ = some (.slice a n c) := by rw [hW]; exact ⟨cell_alloc_at _ _ _ (by simp) 0, cell_alloc_at _ _ _ (by simp) 1⟩
  have hiW := hi.keep hbW
  have hMs : Mats W (some ⟨w.heap.size + 1 + 1 + 1, 0, none⟩) 1 [(cols, L)] := ⟨rfl, fun _ => rfl, by unfold maxLen; omega, fun i hi => by
    have : i = 0 := by simp at hi; omega
    subst this
    exact ⟨a, n, c, by simpa using q3.1, by simpa using q3.2, hiW⟩⟩
  have HsW := Lib.hid hsW
  clear hW hsW
  refine (open_any P M am mn cm mod _ 1 1 _ W (hmod.keep hbW) hMs).mono ?_
  rintro e w1 ⟨hb1, hcase⟩
  have hbw1 := Below.next hbW hb1
  have hq : ∀ V, Below W.heap.size W V → V.cell? ⟨w.heap.size + 1, 0, none⟩ = some (.int .i64 cols) ∧ V.cell? ⟨w.heap.size + 1, 1, none⟩ = some (.slice a n c) ∧ V.cell? ⟨w.heap.size + 1 + 1, 0, none⟩ = some (.int .i64 0) ∧ V.cell? ⟨w.heap.size + 1 + 1, 1, none⟩ = some (.slice none 0 0) ∧ V.frozen? ⟨w.heap.size + 1 + 1, 0, none⟩ = false ∧ V.frozen? ⟨w.heap.size + 1 + 1, 1, none⟩ = false := by
    intro V hV
    have hs := HsW.out
    exact ⟨cell_keep hV q1.1, cell_keep hV q1.2, cell_keep hV q2.1, cell_keep hV q2.2.1, (hV.frozen (p := ⟨w.heap.size + 1 + 1, 0, none⟩) (by simp [hs])).trans q2.2.2.1, (hV.frozen (p := ⟨w.heap.size + 1 + 1, 1, none⟩) (by simp [hs])).trans q2.2.2.2⟩
  have Hq := Lib.hid hq
  clear hq q1 q2 q3
  rcases hcase with ⟨hB, rfl⟩ | ⟨hB, er, h0, h1, rfl⟩ | ⟨hB, h1, b, rfl, hG, hbl⟩
  · obtain ⟨r1, r2, r3, r4, r5, r6⟩ := Hq.out w1 hb1
    have HB : Hid (fmatE P M mod cols L = 1) := by show _ = _; rw [fmatE, hB]; rfl
    clear hB
    go_wp2_with fail
    refine bodyPost_ret (v := .tuple #[.agg #[.int .i64 0, .slice none 0 0], .slice none 0 0, .int .i64 1]) (by simp [results, Tryz.results99, go_sem, r3, r4]) rfl ⟨(hbw1.setCell (by simp; omega) _).setCell (by simp; omega) _, .inl ⟨by rw [HB.out]; omega, by rw [HB.out]⟩⟩
  · obtain ⟨r1, r2, r3, r4, r5, r6⟩ := Hq.out w1 hb1
    have HB : Hid (fmatE P M mod cols L = er) := by show _ = _; rw [fmatE, hB, if_pos rfl, ← h1, matsE_one]
    have He : Hid (er ≠ 0) := h0
    have he' : (er != 0) = true := by simpa using h0
    clear hB h0 h1
    go_wp2_with fail
    refine bodyPost_ret (v := .tuple #[.agg #[.int .i64 0, .slice none 0 0], .slice none 0 0, .int .i64 er]) (by simp [results, Tryz.results99, go_sem, r3, r4]) rfl ⟨(hbw1.setCell (by simp; omega) _).setCell (by simp; omega) _, .inl ⟨by rw [HB.out]; exact He.out, by rw [HB.out]⟩⟩
  · obtain ⟨r1, r2, r3, r4, r5, r6⟩ := Hq.out w1 hb1
    rw [matsE_one] at h1
    obtain ⟨m, rfl, hm, hn, hR⟩ := matE_zero h1
    have HB : Hid (fmatE P M mod m L = 0) := by show _ = _; rw [fmatE, hB, if_pos rfl, h1]
    clear hB h1
    go_wp2_with fail
    refine (canon_any a n c m L hG (hiW.keep hb1) hR (by omega) (by rw [← Hlen.out]; omega)).mono ?_
    rintro e w2 ⟨a2, c2, ap, cp, rfl, hM2, hp2, hb2⟩
    have hbw2 := Below.next hbw1 hb2
    obtain ⟨r1, r2, r3, r4, r5, r6⟩ := Hq.out w2 (Below.next hb1 hb2)
    have hF : CanlPost P M mod m L w (.returned (.tuple #[.agg #[.int .i64 m, .slice a2 (pivS (tblOf P M.toNat mod) L m).length c2], .slice ap (pivS (tblOf P M.toNat mod) L m).length cp, .int .i64 0])) ((w2.setCell ⟨w.heap.size + 1 + 1, 0, none⟩ (.int .i64 m)).setCell ⟨w.heap.size + 1 + 1, 1, none⟩ (.slice a2 (pivS (tblOf P M.toNat mod) L m).length c2)) := by
      have hs := HsW.out
      have hs1 := hb1.size
      refine ⟨(hbw2.setCell (by simp; omega) _).setCell (by simp; omega) _, .inr ⟨HB.out, m, rfl, a2, c2, ap, cp, rfl, ?_, ?_⟩⟩
      · exact ((hM2.setCell (p := ⟨w.heap.size + 1 + 1, 0, none⟩) (by simp; omega) _).setCell (p := ⟨w.heap.size + 1 + 1, 1, none⟩) (by simp; omega) _).mono (by omega)
      · exact ((hp2.setCell (p := ⟨w.heap.size + 1 + 1, 0, none⟩) (by simp; omega) _).setCell (p := ⟨w.heap.size + 1 + 1, 1, none⟩) (by simp; omega) _).mono (by omega)
    have HF := Lib.hid hF
    clear hF hM2 hp2
    generalize (pivS (tblOf P M.toNat mod) L m).length = k at *
    go_wp2_with fail
    exact bodyPost_ret (v := .tuple #[.agg #[.int .i64 m, .slice a2 k c2], .slice ap k cp, .int .i64 0]) (by simp [results, Tryz.results99, go_sem, r3, r4]) rfl HF.out
end

/- The walks of slices.Equal, slices.EqualFunc. -/
section
open Go.RowKit

theorem nth_take_eq {l l' : List Int} {k : Nat} (h : l.take k = l'.take k) (h1 : k < l.length) (h2 : k < l'.length) (he : nth l k = nth l' k) : l.take (k + 1) = l'.take (k + 1) := by
  rw [List.take_succ_eq_append_getElem h1, List.take_succ_eq_append_getElem h2, h, ← nth_getElem h1, ← nth_getElem h2, he]
theorem nthR_take_eq {l l' : List (List Int)} {k : Nat} (h : l.take k = l'.take k) (h1 : k < l.length) (h2 : k < l'.length) (he : nthR l k = nthR l' k) : l.take (k + 1) = l'.take (k + 1) := by
  rw [List.take_succ_eq_append_getElem h1, List.take_succ_eq_append_getElem h2, h, ← nthR_getElem h1, ← nthR_getElem h2, he]

variable {w : World}

set_option maxHeartbeats 800000 in
theorem equal_any (a : Option Addr) (n c : Nat) (l : List Int) (a' : Option Addr) (n' c' : Nat) (l' : List Int) (h : Ints w a n l) (h' : Ints w a' n' l') :
    Calls Tryz.prog 174 #[.slice a n c, .slice a' n' c'] w (QuietBool w (decide (l = l'))) := by
  have Hl := Lib.hid h.len
  have Hl' := Lib.hid h'.len
  have hpl := h.pl
  have hpl' := h'.pl
  have hmax := h.max
  unfold maxLen at hmax
  by_cases hn : n = n'
  · subst hn
    have hnn : ((n : Int) != n) = false := by simp
    go_enter Tryz.func174, Tryz.ntmps174
    go_wp2_with fail
    go_loopw [13] (fun iv wr => ∃ k : Nat, k ≤ n ∧ iv = .int .i64 k ∧ Hid (l.take k = l'.take k) ∧ Drawn w wr) (fun i _ => n - (intOf i).toNat)
    case atStart => exact ⟨0, Nat.zero_le _, rfl, rfl, Drawn.refl _⟩
    case round =>
      obtain ⟨k, hk, rfl, htk, hd⟩ := hrel
      by_cases hlt : k < n
      · have c1 := (h.drawn hd).cell k hlt
        have c2 := (h'.drawn hd).cell k hlt
        by_cases he : nth l k = nth l' k
        · have he' : (nth l k != nth l' k) = false := by simpa using he
          have Hs : Hid (l.take (k + 1) = l'.take (k + 1)) := nth_take_eq htk.out (by rw [Hl.out]; exact hlt) (by rw [Hl'.out]; exact hlt) he
          clear he
          go_wp2_with fail
          go_quiet (fail)
          go_wp2
          go_roundw
          case rel => exact ⟨k + 1, by omega, by go_num, Hs.out, hd.drewN _⟩
          case measure => simp [intOf] <;> omega
        · have he' : (nth l k != nth l' k) = true := by simpa using he
          have Hs : Hid (decide (l = l') = false) := by
            show _ = _; simp; intro e; exact he (by rw [e])
          clear he
          go_wp2_with fail
          go_quiet (fail)
          go_wp2
          go_ret
          exact ⟨ret_bool Hs.out.symm, hd.drewN _⟩
      · obtain rfl : k = n := by omega
        have Hs : Hid (decide (l = l') = true) := by
          show _ = _
          have := htk.out
          rw [List.take_of_length_le (by rw [Hl.out]; exact Nat.le_refl _), List.take_of_length_le (by rw [Hl'.out]; exact Nat.le_refl _)] at this
          simpa using this
        go_wp2_with fail
        go_ret
        exact ⟨ret_bool Hs.out.symm, hd⟩
  · have hnn : ((n : Int) != n') = true := by simp; omega
    have Hs : Hid (decide (l = l') = false) := by
      show _ = _; simp; intro e; have e1 := Hl.out; have e2 := Hl'.out; rw [e] at e1; omega
    clear hn
    go_enter Tryz.func174, Tryz.ntmps174
    go_wp2_with fail
    go_ret
    exact ⟨ret_bool Hs.out.symm, Drawn.refl _⟩

set_option maxHeartbeats 800000 in
theorem equalRows_any (a : Option Addr) (n c : Nat) (l : List (List Int)) (a' : Option Addr) (n' c' : Nat) (l' : List (List Int)) (h : Mat w a n l) (h' : Mat w a' n' l') :
    Calls Tryz.prog 173 #[.slice a n c, .slice a' n' c', .func (.func 174) #[] #[]] w (QuietBool w (decide (l = l'))) := by
  have Hl := Lib.hid h.len
  have Hl' := Lib.hid h'.len
  have hpl := h.pl
  have hpl' := h'.pl
  have hmax := h.max
  unfold maxLen at hmax
  by_cases hn : n = n'
  · subst hn
    have hnn : ((n : Int) != n) = false := by simp
    go_enter Tryz.func173, Tryz.ntmps173
    go_wp2_with fail
    go_loopw [17] (fun iv wr => ∃ k : Nat, k ≤ n ∧ iv = .int .i64 k ∧ Hid (l.take k = l'.take k) ∧ Drawn w wr) (fun i _ => n - (intOf i).toNat)
    case atStart => exact ⟨0, Nat.zero_le _, rfl, rfl, Drawn.refl _⟩
    case round =>
      obtain ⟨k, hk, rfl, htk, hd⟩ := hrel
      by_cases hlt : k < n
      · obtain ⟨b1, n1, d1, c1, i1⟩ := (h.drawn hd).cell k hlt
        obtain ⟨b2, n2, d2, c2, i2⟩ := (h'.drawn hd).cell k hlt
        go_wp2_with fail
        refine (equal_any _ _ _ _ _ _ _ _ i1 i2).mono ?_
        rintro e w2 ⟨rfl, hd2⟩
        by_cases he : nthR l k = nthR l' k
        · have he' : decide (nthR l k = nthR l' k) = true := by simpa using he
          have Hs : Hid (l.take (k + 1) = l'.take (k + 1)) := nthR_take_eq htk.out (by rw [Hl.out]; exact hlt) (by rw [Hl'.out]; exact hlt) he
          rw [he']
          clear he he'
          go_wp2_with fail
          go_roundw
          case rel => exact ⟨k + 1, by omega, by go_num, Hs.out, hd.trans hd2⟩
          case measure => simp [intOf] <;> omega
        · have he' : decide (nthR l k = nthR l' k) = false := by simpa using he
          have Hs : Hid (decide (l = l') = false) := by
            show _ = _; simp; intro e; exact he (by rw [e])
          rw [he']
          clear he he'
          go_wp2_with fail
          go_ret
          exact ⟨ret_bool Hs.out.symm, hd.trans hd2⟩
      · obtain rfl : k = n := by omega
        have Hs : Hid (decide (l = l') = true) := by
          show _ = _
          have := htk.out
          rw [List.take_of_length_le (by rw [Hl.out]; exact Nat.le_refl _), List.take_of_length_le (by rw [Hl'.out]; exact Nat.le_refl _)] at this
          simpa using this
        go_wp2_with fail
        go_ret
        exact ⟨ret_bool Hs.out.symm, hd⟩
  · have hnn : ((n : Int) != n') = true := by simp; omega
    have Hs : Hid (decide (l = l') = false) := by
      show _ = _; simp; intro e; have e1 := Hl.out; have e2 := Hl'.out; rw [e] at e1; omega
    clear hn
    go_enter Tryz.func173, Tryz.ntmps173
    go_wp2_with fail
    go_ret
    exact ⟨ret_bool Hs.out.symm, Drawn.refl _⟩
end

/- The walks of space.open, Check. -/
section
open Go.RowKit

def spaceE (P M : Int) (mod : List Int) (cols : Int) (L : List (List Int)) : Int :=
  if fmatE P M mod cols L = 0 then (if canS (tblOf P M.toNat mod) L cols.toNat = L then 0 else 5) else fmatE P M mod cols L

def SpacePost (P M : Int) (mod : List Int) (cols : Int) (a : Option Addr) (n c : Nat) (L : List (List Int)) (w : World) (e : Ending) (w' : World) : Prop :=
  Below w.heap.size w w' ∧ (
  (spaceE P M mod cols L ≠ 0 ∧ e = .returned (.tuple #[.agg #[.pointer none, .int .i64 0, .slice none 0 0, .slice none 0 0], .int .i64 (spaceE P M mod cols L)])) ∨
  (spaceE P M mod cols L = 0 ∧ ∃ (m b : Nat), cols = m ∧ ∃ ap cp, e = .returned (.tuple #[.agg #[.pointer (some ⟨b, 0, none⟩), .int .i64 m, .slice a n c, .slice ap (pivS (tblOf P M.toNat mod) L m).length cp], .int .i64 0]) ∧
    GFs w.heap.size w' b (tblOf P M.toNat mod) ∧ w.heap.size ≤ b ∧ IntsN w.heap.size w' ap (pivS (tblOf P M.toNat mod) L m).length (pivS (tblOf P M.toNat mod) L m)))

set_option maxRecDepth 100000 in
set_option maxHeartbeats 1600000 in
theorem spaceOpen_any (P M : Int) (am : Option Addr) (mn cm : Nat) (mod : List Int) (cols : Int) (a : Option Addr) (n c : Nat) (L : List (List Int)) (w : World) (hmod : Ints w am mn mod) (hi : Mat w a n L) :
    Calls Tryz.prog 128 #[.agg #[.int .i64 P, .int .i64 M, .slice am mn cm], .agg #[.int .i64 cols, .slice a n c]] w (SpacePost P M mod cols a n c L w) := by
  have Hlen := Lib.hid hi.len
  go_enter Tryz.func128, Tryz.ntmps128
  go_wp2_with fail
  obtain ⟨W, hW⟩ : ∃ W : World, W = (((w.alloc (.cells #[.int .i64 P, .int .i64 M, .slice am mn cm] 24)).alloc (.cells #[.int .i64 cols, .slice a n c] 73)).alloc (.cells #[.pointer none, .int .i64 0, .slice none 0 0, .slice none 0 0] 144)) := ⟨_, rfl⟩
  rw [← hW]
  have hbW : Below w.heap.size w W := by rw [hW]; exact below3 _ _ _ _
  have hsW : W.heap.size = w.heap.size + 3 := by rw [hW]; simp
  have x0 : Box W w.heap.size [.int .i64 P, .int .i64 M, .slice am mn cm] := by rw [hW]; exact ((Box.new _ _ _ rfl).alloc _).alloc _
  have x1 : Box W (w.heap.size + 1) [.int .i64 cols, .slice a n c] := by rw [hW]; exact (Box.new _ _ _ (by simp)).alloc _
  have x2 : Box W (w.heap.size + 1 + 1) [.pointer none, .int .i64 0, .slice none 0 0, .slice none 0 0] := by rw [hW]; exact Box.new _ _ _ (by simp)
  have HX := Lib.hid (And.intro x0 (And.intro x1 x2))
  have HsW := Lib.hid hsW
  have hiW := hi.keep hbW
  have hmW := hmod.keep hbW
  clear hW hsW x0 x1 x2
  refine (canonical_any P M am mn cm mod cols a n c L W hmW hiW).mono ?_
  rintro e w1 ⟨hb1, ⟨he, rfl⟩ | ⟨he, m, rfl, a2, c2, ap, cp, rfl, hM2, hp2⟩⟩
  · have hbw1 := Below.next hbW hb1
    have HB : Hid (spaceE P M mod cols L = fmatE P M mod cols L) := by show _ = _; rw [spaceE, if_neg he]
    have HE := Lib.hid he
    have he' : (fmatE P M mod cols L != 0) = true := by simpa using he
    clear he
    generalize fmatE P M mod cols L = er at *
    have x2 := HX.out.2.2.keep hb1
    have f0 := x2.frozen 0
    have f1 := x2.frozen 1
    have f2 := x2.frozen 2
    have f3 := x2.frozen 3
    have k0 := x2.cell 0 rfl
    have k1 := x2.cell 1 rfl
    have k2 := x2.cell 2 rfl
    have k3 := x2.cell 3 rfl
    clear x2
    have hz : w.heap.size + 1 + 1 < w1.heap.size := by have := hb1.size; have := HsW.out; omega
    go_wp2_with fail
    exact bodyPost_ret (v := .tuple #[.agg #[.pointer none, .int .i64 0, .slice none 0 0, .slice none 0 0], .int .i64 er]) (by simp [results, Tryz.results128, go_sem, k0, k1, k2, k3, hz]) rfl
      ⟨(((((hbw1.setCell (by simp; omega) _).setCell (by simp; omega) _).setCell (by simp; omega) _).setCell (by simp; omega) _).alloc (by simp; omega) _), .inl ⟨by rw [HB.out]; exact HE.out, by rw [HB.out]⟩⟩
  · have hbw1 := Below.next hbW hb1
    have hb2 : Below w1.heap.size w1 (w1.alloc (.cells #[.int .i64 m, .slice a2 (pivS (tblOf P M.toNat mod) L m).length c2] 73)) := below1 _ _
    have hz : w.heap.size + 1 + 1 < w1.heap.size := by have := hb1.size; have := HsW.out; omega
    have x1 := HX.out.2.1.keep hb1
    have j0 := x1.cell 0 rfl
    have j1 := x1.cell 1 rfl
    have He := Lib.hid he
    have hz1 : w.heap.size + 1 < w1.heap.size := by omega
    clear x1 he
    go_wp2_with fail
    refine (equalRows_any _ _ _ _ _ _ _ _ (hM2.mat.keep hb2) ((hiW.keep hb1).keep hb2)).mono ?_
    rintro e w3 ⟨rfl, hd3⟩
    have hb3 : Below w1.heap.size w1 w3 := Below.next hb2 hd3.below
    have hbw3 := Below.next hbw1 hb3
    have hz3 : w.heap.size + 1 + 1 < w3.heap.size := Nat.lt_of_lt_of_le hz hb3.size
    have x0 := (HX.out.1.keep hb1).keep hb3
    have x1 := (HX.out.2.1.keep hb1).keep hb3
    have x2 := (HX.out.2.2.keep hb1).keep hb3
    by_cases hc : canS (tblOf P M.toNat mod) L m = L
    · have hc' : decide (canS (tblOf P M.toNat mod) L m = L) = true := by simpa using hc
      have HB : Hid (spaceE P M mod m L = 0) := by show _ = _; rw [spaceE, if_pos He.out, Int.toNat_natCast, if_pos hc]
      rw [hc']
      have hmW3 := (hmW.keep hb1).keep hb3
      have i0 := x0.cell 0 rfl
      have i1 := x0.cell 1 rfl
      have i2 := x0.cell 2 rfl
      have hfb : fieldB P M mod = true := by
        have := He.out
        unfold fmatE at this
        split at this
        · assumption
        · omega
      have Hfb := Lib.hid hfb
      clear hc hc' x0 x1 hfb
      go_wp2_with fail
      refine (fieldNew_any P M am mn cm mod w3 hmW3).mono ?_
      rintro e w4 (⟨hB, rfl, hb4⟩ | ⟨hB, b, rfl, hG, hbl, hb4⟩)
      · rw [Hfb.out] at hB; cases hB
      · clear hB
        have hbw4 := Below.next hbw3 hb4
        have x1 := ((HX.out.2.1.keep hb1).keep hb3).keep hb4
        have x2 := ((HX.out.2.2.keep hb1).keep hb3).keep hb4
        have j0 := x1.cell 0 rfl
        have j1 := x1.cell 1 rfl
        have f0 := x2.frozen 0
        have f1 := x2.frozen 1
        have f2 := x2.frozen 2
        have f3 := x2.frozen 3
        have k0 := x2.cell 0 rfl
        have k1 := x2.cell 1 rfl
        have k2 := x2.cell 2 rfl
        have k3 := x2.cell 3 rfl
        have hp4 := (hp2.keep hb3).keep hb4
        have hF : SpacePost P M mod m a n c L w (.returned (.tuple #[.agg #[.pointer (some ⟨b, 0, none⟩), .int .i64 m, .slice a n c, .slice ap (pivS (tblOf P M.toNat mod) L m).length cp], .int .i64 0])) 
            ((((w4.setCell ⟨w.heap.size + 1 + 1, 0, none⟩ (.pointer (some ⟨b, 0, none⟩))).setCell ⟨w.heap.size + 1 + 1, 1, none⟩ (.int .i64 m)).setCell ⟨w.heap.size + 1 + 1, 2, none⟩ (.slice a n c)).setCell ⟨w.heap.size + 1 + 1, 3, none⟩ (.slice ap (pivS (tblOf P M.toNat mod) L m).length cp)) := by
          have hs := HsW.out
          have hs3 := hb3.size
          refine ⟨(((hbw4.setCell (by simp; omega) _).setCell (by simp; omega) _).setCell (by simp; omega) _).setCell (by simp; omega) _, .inr ⟨HB.out, m, b, rfl, ap, cp, rfl, ?_, ?_, ?_⟩⟩
          · exact ((((hG.setCell (by simp; omega) _).setCell (by simp; omega) _).setCell (by simp; omega) _).setCell (by simp; omega) _).mono (by omega)
          · omega
          · exact ((((hp4.setCell (by simp; omega) _).setCell (by simp; omega) _).setCell (by simp; omega) _).setCell (by simp; omega) _).mono (by omega)
        have HF := Lib.hid hF
        clear hF hp4 hp2 x1 x2
        generalize (pivS (tblOf P M.toNat mod) L m).length = k at *
        go_wp2_with fail
        exact bodyPost_ret (v := .tuple #[.agg #[.pointer (some ⟨b, 0, none⟩), .int .i64 m, .slice a n c, .slice ap k cp], .int .i64 0]) (by simp [results, Tryz.results128, go_sem, k0, k1, k2, k3]) rfl HF.out
    · have hc' : decide (canS (tblOf P M.toNat mod) L m = L) = false := by simpa using hc
      have HB : Hid (spaceE P M mod m L = 5) := by show _ = _; rw [spaceE, if_pos He.out, Int.toNat_natCast, if_neg hc]
      rw [hc']
      have f0 := x2.frozen 0
      have f1 := x2.frozen 1
      have f2 := x2.frozen 2
      have f3 := x2.frozen 3
      have k0 := x2.cell 0 rfl
      have k1 := x2.cell 1 rfl
      have k2 := x2.cell 2 rfl
      have k3 := x2.cell 3 rfl
      clear hc hc' x0 x1 x2
      go_wp2_with fail
      exact bodyPost_ret (v := .tuple #[.agg #[.pointer none, .int .i64 0, .slice none 0 0, .slice none 0 0], .int .i64 5]) (by simp [results, Tryz.results128, go_sem, k0, k1, k2, k3]) rfl
        ⟨(((hbw3.setCell (by simp; omega) _).setCell (by simp; omega) _).setCell (by simp; omega) _).setCell (by simp; omega) _, .inl ⟨by rw [HB.out]; omega, by rw [HB.out]⟩⟩
end

/- The ring of integer polynomials modulo a monic one, as functions; its product is commutative and associative. -/
section
/-- a finite sum -/
def sm : Nat → (Nat → Int) → Int
  | 0, _ => 0
  | n + 1, f => sm n f + f n
theorem sm_congr {n : Nat} {f g : Nat → Int} (h : ∀ i, i < n → f i = g i) : sm n f = sm n g := by
  induction n with
  | zero => rfl
  | succ n ih => rw [sm, sm, ih fun i hi => h i (by omega), h n (by omega)]
theorem sm_add (n : Nat) (f g : Nat → Int) : sm n (fun i => f i + g i) = sm n f + sm n g := by
  induction n with
  | zero => rfl
  | succ n ih => simp only [sm, ih]; omega
theorem sm_zero (n : Nat) : sm n (fun _ => 0) = 0 := by
  induction n with
  | zero => rfl
  | succ n ih => simp only [sm, ih]; rfl
theorem sm_mul (n : Nat) (c : Int) (f : Nat → Int) : sm n (fun i => c * f i) = c * sm n f := by
  induction n with
  | zero => simp [sm]
  | succ n ih => simp only [sm, ih, Int.mul_add]
theorem sm_swap (n m : Nat) (f : Nat → Nat → Int) : sm n (fun i => sm m (fun j => f i j)) = sm m (fun j => sm n (fun i => f i j)) := by
  induction n with
  | zero => simp only [sm]; rw [sm_zero]
  | succ n ih => simp only [sm, ih, sm_add]
theorem sm_dvd {n : Nat} {f : Nat → Int} {P : Int} (h : ∀ i, i < n → P ∣ f i) : P ∣ sm n f := by
  induction n with
  | zero => exact ⟨0, by simp [sm]⟩
  | succ n ih => exact Int.dvd_add (ih fun i hi => h i (by omega)) (h n (by omega))
theorem sm_single {n : Nat} {f : Nat → Int} {k : Nat} (hk : k < n) (h : ∀ i, i < n → i ≠ k → f i = 0) : sm n f = f k := by
  induction n with
  | zero => omega
  | succ n ih =>
    rw [sm]
    by_cases e : k = n
    · subst e
      rw [sm_congr (g := fun _ => 0) fun i hi => h i (by omega) (by omega), sm_zero]; omega
    · rw [ih (by omega) fun i hi => h i (by omega), h n (by omega) (by omega)]; omega
theorem sm_shift (n : Nat) (f : Nat → Int) : sm (n + 1) f = f 0 + sm n (fun i => f (i + 1)) := by
  induction n with
  | zero => simp [sm]
  | succ n ih => rw [sm, ih]; simp only [sm]; omega
/-- times X, where X^M is minus the sum of low -/
def shV (M : Nat) (low : Nat → Int) (v : Nat → Int) : Nat → Int :=
  fun i => if i < M then (if i = 0 then 0 else v (i - 1)) - v (M - 1) * low i else 0
def shN (M : Nat) (low : Nat → Int) : Nat → (Nat → Int) → Nat → Int
  | 0, v => v
  | k + 1, v => shV M low (shN M low k v)

variable {M : Nat} {low : Nat → Int}

theorem shV_add (u v : Nat → Int) : shV M low (fun i => u i + v i) = fun i => shV M low u i + shV M low v i := by
  funext i; simp only [shV]; split
  · split
    · rw [Int.add_mul]; omega
    · rw [Int.add_mul]; omega
  · rfl
theorem shV_smul (c : Int) (v : Nat → Int) : shV M low (fun i => c * v i) = fun i => c * shV M low v i := by
  funext i; simp only [shV]; split
  · split
    · rw [Int.mul_sub, Int.mul_zero, Int.mul_assoc]
    · rw [Int.mul_sub, Int.mul_assoc]
  · rw [Int.mul_zero]
theorem shN_add (k : Nat) (u v : Nat → Int) : shN M low k (fun i => u i + v i) = fun i => shN M low k u i + shN M low k v i := by
  induction k with
  | zero => rfl
  | succ k ih => rw [shN, ih, shV_add]; rfl
theorem shN_smul (k : Nat) (c : Int) (v : Nat → Int) : shN M low k (fun i => c * v i) = fun i => c * shN M low k v i := by
  induction k with
  | zero => rfl
  | succ k ih => rw [shN, ih, shV_smul]; rfl
theorem shN_zero (k : Nat) : shN M low k (fun _ => 0) = fun _ => 0 := by
  have := shN_smul (M := M) (low := low) k 0 (fun _ => 0)
  simpa using this
theorem shN_sm (k n : Nat) (f : Nat → Nat → Int) : shN M low k (fun i => sm n (fun j => f j i)) = fun i => sm n (fun j => shN M low k (f j) i) := by
  induction n with
  | zero => simp only [sm]; exact shN_zero k
  | succ n ih => simp only [sm]; rw [shN_add, ih]
theorem shN_comp (k l : Nat) (v : Nat → Int) : shN M low (k + l) v = shN M low k (shN M low l v) := by
  induction k with
  | zero => rw [Nat.zero_add]; rfl
  | succ k ih => rw [show k + 1 + l = (k + l) + 1 by omega, shN, shN, ih]

/-- the unit vectors -/
def eV (j : Nat) : Nat → Int := fun i => if i = j then 1 else 0
/-- zero from M on -/
def Sh (M : Nat) (v : Nat → Int) : Prop := ∀ i, M ≤ i → v i = 0
theorem Sh_shV (v : Nat → Int) : Sh M (shV M low v) := fun i hi => by simp only [shV]; rw [if_neg (by omega)]
theorem Sh_shN {v : Nat → Int} (h : Sh M v) (k : Nat) : Sh M (shN M low k v) := by
  cases k with
  | zero => exact h
  | succ k => exact Sh_shV _
theorem shN_e (j : Nat) (hj : j < M) : shN M low j (eV 0) = eV j := by
  induction j with
  | zero => rfl
  | succ j ih =>
    rw [shN, ih (by omega)]
    funext i
    simp only [shV, eV]
    by_cases h : i < M
    · rw [if_pos h, if_neg (show ¬ M - 1 = j by omega)]
      by_cases h0 : i = 0
      · rw [if_pos h0, if_neg (by omega)]; omega
      · rw [if_neg h0]
        by_cases h1 : i = j + 1
        · rw [if_pos h1, if_pos (by omega)]; omega
        · rw [if_neg h1, if_neg (by omega)]; omega
    · rw [if_neg h, if_neg (by omega)]
theorem Sh.expand {v : Nat → Int} (h : Sh M v) : v = fun k => sm M (fun j => v j * shN M low j (eV 0) k) := by
  funext k
  rw [sm_congr (g := fun j => v j * eV j k) fun j hj => by rw [shN_e j hj]]
  by_cases hk : k < M
  · rw [sm_single hk fun i hi hne => by simp only [eV]; rw [if_neg (by omega)]; omega]
    simp [eV]
  · rw [h k (by omega), sm_congr (g := fun _ => 0) fun j hj => by simp only [eV]; rw [if_neg (by omega)]; omega, sm_zero]

/-- the product -/
def mulV (M : Nat) (low : Nat → Int) (x y : Nat → Int) : Nat → Int := fun k => sm M (fun i => x i * shN M low i y k)
theorem Sh_mulV {x y : Nat → Int} (hy : Sh M y) : Sh M (mulV M low x y) := fun k hk => by
  simp only [mulV]
  rw [sm_congr (g := fun _ => 0) fun i _ => by rw [Sh_shN hy i k hk]; omega, sm_zero]
theorem mulV_expand {x y : Nat → Int} (hy : Sh M y) : mulV M low x y = fun k => sm M (fun i => sm M (fun j => x i * y j * shN M low (i + j) (eV 0) k)) := by
  funext k
  simp only [mulV]
  refine sm_congr fun i _ => ?_
  have e : shN M low i y = shN M low i (fun k => sm M (fun j => y j * shN M low j (eV 0) k)) := congrArg _ hy.expand
  rw [e, shN_sm]
  simp only
  rw [← sm_mul]
  refine sm_congr fun j _ => ?_
  rw [shN_smul, shN_comp, Int.mul_assoc]
theorem mulV_comm {x y : Nat → Int} (hx : Sh M x) (hy : Sh M y) : mulV M low x y = mulV M low y x := by
  rw [mulV_expand hx, mulV_expand hy]
  funext k
  rw [sm_swap]
  refine sm_congr fun i _ => sm_congr fun j _ => ?_
  rw [Int.mul_comm (x j), Nat.add_comm j i]
theorem mulV_left (x y z : Nat → Int) : mulV M low x (mulV M low y z) = fun k => sm M (fun i => sm M (fun j => x i * y j * shN M low (i + j) z k)) := by
  funext k
  refine sm_congr fun i _ => ?_
  rw [show mulV M low y z = (fun k => sm M (fun j => y j * shN M low j z k)) from rfl, shN_sm]
  simp only
  rw [← sm_mul]
  refine sm_congr fun j _ => ?_
  rw [shN_smul, shN_comp, Int.mul_assoc]
theorem mulV_leftComm (x y z : Nat → Int) : mulV M low x (mulV M low y z) = mulV M low y (mulV M low x z) := by
  rw [mulV_left, mulV_left]
  funext k
  rw [sm_swap]
  refine sm_congr fun i _ => sm_congr fun j _ => ?_
  rw [Int.mul_comm (x j), Nat.add_comm j i]
theorem mulV_assoc {x y z : Nat → Int} (hx : Sh M x) (hy : Sh M y) (hz : Sh M z) : mulV M low (mulV M low x y) z = mulV M low x (mulV M low y z) := by
  rw [mulV_comm (Sh_mulV hy) hz, mulV_leftComm, mulV_comm hz hy]
theorem mulV_one {x : Nat → Int} (hM : 0 < M) (hx : Sh M x) : mulV M low (eV 0) x = x := by
  funext k
  simp only [mulV]
  rw [sm_single hM fun i _ hne => by simp only [eV]; rw [if_neg hne]; omega]
  simp [eV, shN]
theorem mulV_addRight (x y z : Nat → Int) : mulV M low x (fun i => y i + z i) = fun k => mulV M low x y k + mulV M low x z k := by
  funext k
  simp only [mulV]
  rw [← sm_add]
  refine sm_congr fun i _ => ?_
  rw [shN_add, Int.mul_add]

/-- equal modulo P -/
def Cg (P : Int) (u v : Nat → Int) : Prop := ∀ i, P ∣ u i - v i
theorem Cg.refl (P : Int) (u : Nat → Int) : Cg P u u := fun i => ⟨0, by omega⟩
theorem Cg.symm {P : Int} {u v : Nat → Int} (h : Cg P u v) : Cg P v u := fun i => by
  obtain ⟨c, hc⟩ := h i; exact ⟨-c, by rw [Int.mul_neg]; omega⟩
theorem Cg.trans {P : Int} {u v x : Nat → Int} (h : Cg P u v) (k : Cg P v x) : Cg P u x := fun i => by
  obtain ⟨c, hc⟩ := h i; obtain ⟨d, hd⟩ := k i; exact ⟨c + d, by rw [Int.mul_add]; omega⟩
theorem Cg.of_eq {P : Int} {u v : Nat → Int} (h : u = v) : Cg P u v := h ▸ Cg.refl P u
theorem Cg_shV {P : Int} {u v : Nat → Int} (h : Cg P u v) : Cg P (shV M low u) (shV M low v) := fun i => by
  simp only [shV]
  split
  · obtain ⟨c, hc⟩ := h (M - 1)
    have e : u (M - 1) * low i - v (M - 1) * low i = P * (c * low i) := by rw [← Int.sub_mul, hc, Int.mul_assoc]
    split
    · exact ⟨-(c * low i), by rw [Int.mul_neg, ← e]; omega⟩
    · obtain ⟨d, hd⟩ := h (i - 1)
      exact ⟨d - c * low i, by rw [Int.mul_sub, ← e, ← hd]; omega⟩
  · exact ⟨0, by omega⟩
theorem Cg_shN {P : Int} {u v : Nat → Int} (h : Cg P u v) (k : Nat) : Cg P (shN M low k u) (shN M low k v) := by
  induction k with
  | zero => exact h
  | succ k ih => exact Cg_shV ih
theorem Cg.add {P : Int} {u v x y : Nat → Int} (h : Cg P u v) (k : Cg P x y) : Cg P (fun i => u i + x i) (fun i => v i + y i) := fun i => by
  obtain ⟨c, hc⟩ := h i; obtain ⟨d, hd⟩ := k i; exact ⟨c + d, by simp only [Int.mul_add]; omega⟩
theorem dvd_mul_sub {P a b c d : Int} (h : P ∣ a - b) (k : P ∣ c - d) : P ∣ a * c - b * d := by
  obtain ⟨x, hx⟩ := h; obtain ⟨y, hy⟩ := k
  have ea : a = b + P * x := by omega
  have ec : c = d + P * y := by omega
  refine ⟨x * d + b * y + P * x * y, ?_⟩
  rw [ea, ec]
  simp only [Int.add_mul, Int.mul_add]
  have e1 : b * (P * y) = P * (b * y) := by rw [← Int.mul_assoc, Int.mul_comm b P, Int.mul_assoc]
  have e2 : P * x * (P * y) = P * (P * x * y) := by rw [← Int.mul_assoc, Int.mul_comm (P * x) P, Int.mul_assoc]
  have e3 : P * (x * d) = P * x * d := by rw [Int.mul_assoc]
  rw [e1, e2, e3]; omega
theorem Cg_mulV {P : Int} {u v x y : Nat → Int} (h : Cg P u v) (k : Cg P x y) : Cg P (mulV M low u x) (mulV M low v y) := fun i => by
  simp only [mulV]
  have e : sm M (fun j => u j * shN M low j x i) - sm M (fun j => v j * shN M low j y i) = sm M (fun j => u j * shN M low j x i - v j * shN M low j y i) := by
    have := sm_add M (fun j => u j * shN M low j x i - v j * shN M low j y i) (fun j => v j * shN M low j y i)
    have e2 : sm M (fun j => u j * shN M low j x i - v j * shN M low j y i + v j * shN M low j y i) = sm M (fun j => u j * shN M low j x i) := sm_congr fun j _ => by omega
    omega
  rw [e]
  exact sm_dvd fun j _ => dvd_mul_sub (h j) (Cg_shN k j i)
end

/- The residues of polynomials, as numbers: their sum and product are those of a commutative ring. -/
section
/-- the digits as a function -/
def dV (P : Int) (M : Nat) (x : Int) : Nat → Int := nth (digs x P M)
theorem dV_sh (P : Int) (M : Nat) (x : Int) : Sh M (dV P M x) := fun i hi => nth_out (by rw [digs_length]; exact hi)

theorem valu_digs {P : Int} (hP : 0 < P) : ∀ (M : Nat) (x : Int), 0 ≤ x → x < P ^ M → valu P (digs x P M) = x
  | 0, x, h0, h1 => by simp at h1; simp [digs, valu]; omega
  | M + 1, x, h0, h1 => by
    rw [digs, valu, valu_digs hP M (x / P) (Int.ediv_nonneg h0 (by omega)) (Int.ediv_lt_of_lt_mul hP (by rwa [Int.pow_succ] at h1))]
    exact Int.emod_add_mul_ediv x P
theorem digs_cons {P : Int} (c r : Int) (M : Nat) (hc0 : 0 ≤ c) (hc1 : c < P) : digs (c + P * r) P (M + 1) = c :: digs r P M := by
  rw [digs, Int.add_mul_emod_self_left, Int.emod_eq_of_lt hc0 hc1, Int.add_mul_ediv_left _ _ (by omega), Int.ediv_eq_zero_of_lt hc0 hc1, Int.zero_add]
theorem digs_valu {P : Int} : ∀ (l : List Int), Dig P l → digs (valu P l) P l.length = l
  | [], _ => rfl
  | c :: l, h => by
    have h0 := h 0
    simp only [nth, List.getD_cons_zero] at h0
    rw [valu, List.length_cons, digs_cons c _ _ h0.1 h0.2, digs_valu l (fun i => by simpa [nth] using h (i + 1))]

theorem cg_mod (P x : Int) : P ∣ x % P - x := ⟨-(x / P), by have := Int.emod_add_mul_ediv x P; rw [Int.mul_neg]; omega⟩
theorem dvd_small {P a b : Int} (hP : 0 < P) (ha : 0 ≤ a) (ha1 : a < P) (hb : 0 ≤ b) (hb1 : b < P) (h : P ∣ a - b) : a = b := by
  obtain ⟨c, hc⟩ := h
  have hc0 : c = 0 := by
    rcases Int.lt_trichotomy c 0 with h1 | h1 | h1
    · have := Int.mul_le_mul_of_nonneg_left (show c ≤ -1 by omega) (show 0 ≤ P by omega)
      omega
    · exact h1
    · have := Int.mul_le_mul_of_nonneg_left (show 1 ≤ c by omega) (show 0 ≤ P by omega)
      omega
  rw [hc0] at hc; omega

/-- elements are equal if their digits are congruent -/
theorem el_ext {P : Int} (hP : 0 < P) {M : Nat} {x y : Int} (hx0 : 0 ≤ x) (hx1 : x < P ^ M) (hy0 : 0 ≤ y) (hy1 : y < P ^ M) (h : Cg P (dV P M x) (dV P M y)) : x = y := by
  have e : digs x P M = digs y P M := by
    refine nth_ext (by rw [digs_length, digs_length]) fun i _ => ?_
    have h1 := Dig.digs hP M x i
    have h2 := Dig.digs hP M y i
    exact dvd_small hP h1.1 h1.2 h2.1 h2.2 (h i)
  rw [← valu_digs hP M x hx0 hx1, ← valu_digs hP M y hy0 hy1, e]

theorem nth_cons_zero (c : Int) (l : List Int) : nth (c :: l) 0 = c := by simp [nth]
theorem nth_cons_succ (c : Int) (l : List Int) (i : Nat) : nth (c :: l) (i + 1) = nth l i := by simp [nth]

theorem dV_fsum {P : Int} (hP : 0 < P) : ∀ (M : Nat) (x y : Int), Cg P (dV P M (fsum P M x y)) (fun i => dV P M x i + dV P M y i)
  | 0, x, y => fun i => by simp [dV, digs, nth]
  | M + 1, x, y => fun i => by
    simp only [dV, fsum]
    rw [digs_cons _ _ _ (Int.emod_nonneg _ (by omega)) (Int.emod_lt_of_pos _ hP), digs, digs]
    match i with
    | 0 =>
      rw [nth_cons_zero, nth_cons_zero, nth_cons_zero]
      have h1 := cg_mod P (x + y)
      have h2 := cg_mod P x
      have h3 := cg_mod P y
      have h4 := Int.dvd_sub (Int.dvd_sub h1 h2) h3
      rwa [show (x + y) % P - (x + y) - (x % P - x) - (y % P - y) = (x + y) % P - (x % P + y % P) by omega] at h4
    | i + 1 =>
      rw [nth_cons_succ, nth_cons_succ, nth_cons_succ]
      exact dV_fsum hP M (x / P) (y / P) i
theorem dV_fneg {P : Int} (hP : 0 < P) : ∀ (M : Nat) (x : Int), Cg P (dV P M (fneg P M x)) (fun i => - dV P M x i)
  | 0, x => fun i => by simp [dV, digs, nth]
  | M + 1, x => fun i => by
    simp only [dV, fneg]
    rw [digs_cons _ _ _ (Int.emod_nonneg _ (by omega)) (Int.emod_lt_of_pos _ hP), digs]
    match i with
    | 0 =>
      rw [nth_cons_zero, nth_cons_zero]
      have h1 := cg_mod P (P - x % P)
      have h4 := Int.dvd_add h1 (Int.dvd_refl P)
      rwa [show (P - x % P) % P - (P - x % P) + P = (P - x % P) % P - - (x % P) by omega] at h4
    | i + 1 =>
      rw [nth_cons_succ, nth_cons_succ]
      exact dV_fneg hP M (x / P) i
theorem dV_zero (P : Int) : ∀ (M : Nat), dV P M 0 = fun _ => 0
  | 0 => by funext i; simp [dV, digs, nth]
  | M + 1 => by
    funext i
    simp only [dV, digs]
    match i with
    | 0 => rw [nth_cons_zero]; simp
    | i + 1 => rw [nth_cons_succ]; have := congrFun (dV_zero P M) i; simpa [dV] using this
theorem dV_one {P : Int} (hP : 2 ≤ P) {M : Nat} (hM : 0 < M) : dV P M 1 = eV 0 := by
  obtain ⟨m, rfl⟩ : ∃ m, M = m + 1 := ⟨M - 1, by omega⟩
  funext i
  simp only [dV, digs]
  match i with
  | 0 => rw [nth_cons_zero]; simp [eV]; exact Int.emod_eq_of_lt (by omega) (by omega)
  | i + 1 =>
    rw [nth_cons_succ, Int.ediv_eq_zero_of_lt (by omega) (by omega)]
    have := congrFun (dV_zero P m) i
    simpa [dV, eV] using this

theorem nth_shl {out : List Int} {M i : Nat} (hl : out.length = M) (hi : i < M) : nth (shl out) i = if i = 0 then 0 else nth out (i - 1) := by
  match i with
  | 0 => simp [shl, nth]
  | i + 1 =>
    rw [shl, nth_cons_succ, if_neg (by omega)]
    simp only [nth, List.getD_eq_getElem?_getD, List.getElem?_dropLast]
    rw [if_pos (by omega)]; rfl

theorem horn_spec {P : Int} (hP : 0 < P) (low a b : List Int) {M : Nat} (ha : a.length = M) : ∀ k, k ≤ M →
    Cg P (nth (horn P low a b M k)) (fun i => sm k (fun j => nth b (M - k + j) * shN M (nth low) j (nth a) i))
  | 0, _ => fun i => by
    have e : nth (horn P low a b M 0) i = 0 := by
      simp only [horn, nth, List.getD_eq_getElem?_getD, List.getElem?_replicate]; split <;> rfl
    rw [e]; simp [sm]
  | k + 1, hk => by
    have ih := Cg_shV (M := M) (low := nth low) (horn_spec hP low a b ha k (by omega))
    have e1 : (fun i => sm (k + 1) (fun j => nth b (M - (k + 1) + j) * shN M (nth low) j (nth a) i)) =
        fun i => shV M (nth low) (fun i => sm k (fun j => nth b (M - k + j) * shN M (nth low) j (nth a) i)) i + nth b (M - 1 - k) * nth a i := by
      funext i
      rw [sm_shift, show M - (k + 1) + 0 = M - 1 - k by omega]
      have e2 := congrFun (shN_sm (M := M) (low := nth low) 1 k (fun j i => nth b (M - k + j) * shN M (nth low) j (nth a) i)) i
      have e3 : shV M (nth low) (fun i => sm k (fun j => nth b (M - k + j) * shN M (nth low) j (nth a) i)) i = sm k (fun j => nth b (M - (k + 1) + (j + 1)) * shN M (nth low) (j + 1) (nth a) i) := by
        refine Eq.trans e2 (sm_congr fun j _ => ?_)
        rw [shN_smul, show M - (k + 1) + (j + 1) = M - k + j by omega]
        rfl
      rw [e3]
      show nth b (M - 1 - k) * nth a i + _ = _
      omega
    rw [e1]
    intro i
    show P ∣ nth (horn P low a b M (k + 1)) i - (shV M (nth low) (fun i => sm k (fun j => nth b (M - k + j) * shN M (nth low) j (nth a) i)) i + nth b (M - 1 - k) * nth a i)
    by_cases hi : i < M
    · rw [horn, nth_stepF _ _ _ _ _ _ _ hi, stepE, nth_shl (horn_length ..) hi]
      have h1 := ih i
      generalize hv : shV M (nth low) (fun i => sm k (fun j => nth b (M - k + j) * shN M (nth low) j (nth a) i)) i = z at *
      simp only [shV, if_pos hi] at h1
      generalize (if i = 0 then (0 : Int) else nth (horn P low a b M k) (i - 1)) = u at *
      generalize nth (horn P low a b M k) (M - 1) = t at *
      generalize nth b (M - 1 - k) * nth a i = c at *
      have h2 := cg_mod P (u + (P - t) * nth low i + c)
      have h3 : P ∣ P * nth low i := Int.dvd_mul_right _ _
      have h4 := Int.dvd_add (Int.dvd_add h2 h1) h3
      rw [Int.sub_mul] at h4 ⊢
      rwa [show (u + (P * nth low i - t * nth low i) + c) % P - (u + (P * nth low i - t * nth low i) + c) + (u - t * nth low i - z) + P * nth low i = (u + (P * nth low i - t * nth low i) + c) % P - (z + c) by omega] at h4
    · rw [nth_out (by rw [horn_length]; omega), nth_out (l := a) (by omega)]
      have e2 : shV M (nth low) (fun i => sm k (fun j => nth b (M - k + j) * shN M (nth low) j (nth a) i)) i = 0 := Sh_shV _ i (by omega)
      rw [e2]; simp

/-- the product of two numbers below q has the digits of the product -/
theorem dV_mulS {P : Int} (hP : 0 < P) (M : Nat) (mod : List Int) (x y : Int) : Cg P (dV P M (mulS P M mod x y)) (mulV M (nth (lowF M mod)) (dV P M x) (dV P M y)) := by
  have h := horn_spec hP (lowF M mod) (digs x P M) (digs y P M) (digs_length P M x) M (Nat.le_refl _)
  have e : dV P M (mulS P M mod x y) = nth (horn P (lowF M mod) (digs x P M) (digs y P M) M M) := by
    unfold dV mulS
    have := digs_valu (P := P) (horn P (lowF M mod) (digs x P M) (digs y P M) M M) (Dig.horn hP _ _ _ _ _)
    rw [horn_length] at this
    rw [this]
  rw [e, mulV_comm (dV_sh P M x) (dV_sh P M y)]
  refine h.trans (Cg.of_eq ?_)
  funext i
  simp only [mulV]
  refine sm_congr fun j _ => ?_
  rw [show M - M + j = j by omega]
  rfl

structure Res (P : Int) (M : Nat) : Prop where
  p : 2 ≤ P
  m : 0 < M
def ElP (P : Int) (M : Nat) (x : Int) : Prop := 0 ≤ x ∧ x < P ^ M
variable {P : Int} {M : Nat} {mod : List Int}

theorem ElP.ext (h : Res P M) {x y : Int} (hx : ElP P M x) (hy : ElP P M y) (e : Cg P (dV P M x) (dV P M y)) : x = y := el_ext (by have := h.p; omega) hx.1 hx.2 hy.1 hy.2 e
theorem mulS_el (h : Res P M) (x y : Int) : ElP P M (mulS P M mod x y) := mulS_bd (by have := h.p; omega) M mod x y
theorem fsum_el (h : Res P M) (x y : Int) : ElP P M (fsum P M x y) := fsum_bd (by have := h.p; omega) M x y
theorem fneg_el (h : Res P M) (x : Int) : ElP P M (fneg P M x) := fneg_bd (by have := h.p; omega) M x
theorem one_lt_pow (h : Res P M) : 1 < P ^ M := by
  have h1 := pow_mono (P := P) (by have := h.p; omega) h.m
  have h2 := h.p
  have h3 : P ^ (0 + 1) = P := by rw [Int.pow_succ, Int.pow_zero, Int.one_mul]
  have h4 : P ^ (0 + 1) ≤ P ^ M := h1
  omega
theorem one_el (h : Res P M) : ElP P M 1 := ⟨by omega, one_lt_pow h⟩
theorem zero_el (h : Res P M) : ElP P M 0 := ⟨by omega, by have := one_lt_pow h; omega⟩
theorem Res.pos (h : Res P M) : 0 < P := by have := h.p; omega

theorem mulS_comm (h : Res P M) (x y : Int) : mulS P M mod x y = mulS P M mod y x :=
  (mulS_el h x y).ext h (mulS_el h y x) (((dV_mulS h.pos M mod x y).trans (Cg.of_eq (mulV_comm (dV_sh _ _ _) (dV_sh _ _ _)))).trans (dV_mulS h.pos M mod y x).symm)
theorem mulS_assoc (h : Res P M) (x y z : Int) : mulS P M mod (mulS P M mod x y) z = mulS P M mod x (mulS P M mod y z) := by
  refine (mulS_el h _ z).ext h (mulS_el h x _) ?_
  refine (dV_mulS h.pos M mod _ z).trans (((Cg_mulV (dV_mulS h.pos M mod x y) (Cg.refl _ _)).trans (Cg.of_eq (mulV_assoc (dV_sh _ _ _) (dV_sh _ _ _) (dV_sh _ _ _)))).trans ?_)
  exact ((dV_mulS h.pos M mod x _).trans (Cg_mulV (Cg.refl _ _) (dV_mulS h.pos M mod y z))).symm
theorem mulS_one (h : Res P M) {x : Int} (hx : ElP P M x) : mulS P M mod 1 x = x := by
  refine (mulS_el h 1 x).ext h hx ((dV_mulS h.pos M mod 1 x).trans (Cg.of_eq ?_))
  rw [dV_one h.p h.m, mulV_one h.m (dV_sh _ _ _)]
theorem mulS_zero (h : Res P M) (x : Int) : mulS P M mod x 0 = 0 := by
  refine (mulS_el h x 0).ext h (zero_el h) ((dV_mulS h.pos M mod x 0).trans (Cg.of_eq ?_))
  rw [dV_zero]
  funext i
  simp only [mulV]
  rw [sm_congr (g := fun _ => 0) fun j _ => by rw [shN_zero]; simp, sm_zero]
theorem mulS_add (h : Res P M) (x y z : Int) : mulS P M mod x (fsum P M y z) = fsum P M (mulS P M mod x y) (mulS P M mod x z) := by
  refine (mulS_el h x _).ext h (fsum_el h _ _) ((dV_mulS h.pos M mod x _).trans ?_)
  refine (Cg_mulV (Cg.refl _ _) (dV_fsum h.pos M y z)).trans ((Cg.of_eq (mulV_addRight _ _ _)).trans ?_)
  exact ((dV_fsum h.pos M _ _).trans (Cg.add (dV_mulS h.pos M mod x y) (dV_mulS h.pos M mod x z))).symm
theorem fsum_comm (h : Res P M) (x y : Int) : fsum P M x y = fsum P M y x := by
  refine (fsum_el h x y).ext h (fsum_el h y x) ((dV_fsum h.pos M x y).trans ((Cg.of_eq ?_).trans (dV_fsum h.pos M y x).symm))
  funext i; show _ = _; omega
theorem fsum_assoc (h : Res P M) (x y z : Int) : fsum P M (fsum P M x y) z = fsum P M x (fsum P M y z) := by
  refine (fsum_el h _ z).ext h (fsum_el h x _) ?_
  refine (dV_fsum h.pos M _ z).trans ((Cg.add (dV_fsum h.pos M x y) (Cg.refl _ _)).trans ((Cg.of_eq ?_).trans ((dV_fsum h.pos M x _).trans (Cg.add (Cg.refl _ _) (dV_fsum h.pos M y z))).symm))
  funext i; show _ = _; omega
theorem fsum_id (h : Res P M) {x : Int} (hx : ElP P M x) : fsum P M x 0 = x := by
  refine (fsum_el h x 0).ext h hx ((dV_fsum h.pos M x 0).trans (Cg.of_eq ?_))
  rw [dV_zero]; funext i; simp
theorem fsum_fneg (h : Res P M) (x : Int) : fsum P M x (fneg P M x) = 0 := by
  refine (fsum_el h x _).ext h (zero_el h) ((dV_fsum h.pos M x _).trans ((Cg.add (Cg.refl _ _) (dV_fneg h.pos M x)).trans (Cg.of_eq ?_)))
  rw [dV_zero]; funext i; show _ = _; omega
end

end Go.Proofs.YtcflcogbpnmjeaaGreat
