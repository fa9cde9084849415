/- OrderingWidths: the statement. -/
import Derived.Test.YtakmnncmeefceaaGreatF1
import Derived.Test.YtakmnncmeefceaaGreatB4
import Derived.Test.YtakmnncmeefceaaGreatE2
import Derived.Test.YtakmnncmeefceaaGreatF2
import Derived.Test.YtakmnncmeefceaaGreatC7
import Derived.Test.YtakmnncmeefceaaGreatRows
namespace Go.Proofs.YtakmnncmeefceaaGreat
set_option linter.unusedVariables false
set_option linter.unusedSimpArgs false
set_option linter.unusedSectionVars false

/- The walks of trellis.span, ranks, Profile. -/
section
open Go.RowKit

theorem spanL_succ (lo k : Nat) : spanL lo (k + 1) = spanL lo k ++ [((lo + k : Nat) : Int)] := by simp [spanL, List.range_succ]
theorem okTo_of {N : Int} {l : List Int} : ∀ k, (∀ i, i < k → okAt N l i = true) → okTo N l k = true
  | 0, _ => rfl
  | k + 1, h => okTo_succ (okTo_of k fun i hi => h i (by omega)) (h k (by omega))
theorem okSet_span {m lo n : Nat} (h : lo + n ≤ m) : okSet m (spanL lo n) = true := by
  unfold okSet
  rw [spanL_len]
  refine okTo_of n fun i hi => ?_
  unfold okAt
  rw [nth_spanL hi]
  by_cases h0 : i = 0
  · simp [h0]; omega
  · rw [nth_spanL (show i - 1 < n by omega)]
    simp; omega

set_option maxRecDepth 100000 in
set_option maxHeartbeats 4000000 in
theorem span_any (lo hi : Nat) (w : World) (h : lo ≤ hi) (h2 : hi ≤ 64) :
    Calls Tryz.prog 110 #[.int .i64 lo, .int .i64 hi] w
      fun e w' => ∃ a c, e = .returned (.slice a (hi - lo) c) ∧ w'.ownsRow w.heap.size 3 1 (.slice a (hi - lo) c) (hi - lo) ((spanL lo (hi - lo)).map (Value.int .i64)) ∧ Below w.heap.size w w' := by
  go_enter Tryz.func110, Tryz.ntmps110
  go_wp2_with fail
  go_loopw [5, 6] (fun sv iv wr => ∃ (k : Nat) (aq : Option Addr) (cq : Nat), k ≤ hi - lo ∧ iv = .int .i64 ((lo + k : Nat) : Int) ∧ sv = .slice aq k cq ∧ wr.ownsRow w.heap.size 3 1 (.slice aq k cq) k ((spanL lo k).map (Value.int .i64)) ∧ Below w.heap.size w wr)
    (fun _ iv _ => hi - (intOf iv).toNat)
  case atStart => exact ⟨0, none, 0, Nat.zero_le _, rfl, rfl, own_none, Below.refl _ _⟩
  case round =>
    obtain ⟨k, aq, cq, hk, rfl, rfl, hop, hbr⟩ := hrel
    obtain ⟨z, hz⟩ : ∃ z, lo + k = z := ⟨_, rfl⟩
    have hs := spanL_succ lo k
    rw [hz] at hs ⊢
    by_cases hlt : z < hi
    · have HS := Lib.hid hs
      have Hz := Lib.hid hz
      clear hs hz
      have hcn := cell_new wr (.int .i64 z) 3
      have hbn := below1 wr (.cells #[.int .i64 z] 3)
      have hsz := hbr.size
      have hk64 : k ≤ 64 := by omega
      go_wp2_with (at_builtin; refine wpList_push rfl _ _ 22 3 rfl (.int .i64 0) 8 Tryz.underlying22 infoInt rfl w.heap.size aq k cq _ rfl (hop.alloc _) ⟨wr.heap.size, 0, none⟩ 1 (.int .i64 z) rfl hcn rfl (by omega) (by unfold maxLen; omega) (by simp; omega) ?_; intro a5 c5 w5 hown5 hgr5 hap5)
      go_roundw
      case rel =>
        refine ⟨k + 1, a5, c5, by have := Hz.out; omega, by have := Hz.out; go_num, rfl, ?_, Below.app (Below.trans hbr (hbn.mono hsz)) (hop.alloc _) hgr5 (Nat.le_refl _) (Nat.le_trans hsz hbn.size)⟩
        rw [HS.out]; simpa using hown5
      case measure => simp [intOf] <;> omega
    · obtain rfl : k = hi - lo := by omega
      have hzh : z = hi := by omega
      go_wp2_with fail
      go_ret
      exact ⟨aq, cq, rfl, hop, hbr⟩

/-- the rank of a code's positions in a set -/
theorem rank_ok {P M : Int} {mod : List Int} {N : Int} {L : List (List Int)} {Q : List Int} (hE : codeE P M mod N L = 0) (hS : okSet N Q = true) : rankE P M mod N L Q = 0 := by
  unfold rankE
  rw [if_pos hE, setsE_one, if_pos hS]

set_option maxRecDepth 100000 in
set_option maxHeartbeats 4000000 in
theorem trRanks_any (P M : Int) (am : Option Addr) (mn cm : Nat) (mod : List Int) (N : Nat) (a : Option Addr) (n c : Nat) (L : List (List Int)) (i : Nat) (w : World)
    (hmod : Ints w am mn mod) (hi : Mat w a n L) (hE : codeE P M mod N L = 0) (hiN : i ≤ N) :
    Calls Tryz.prog 64 #[.agg #[.int .i64 P, .int .i64 M, .slice am mn cm, .int .i64 N, .slice a n c], .int .i64 i] w
      fun e w' => e = .returned (.tuple #[.int .i64 (grS (tblOf P M.toNat mod).ops L (spanL 0 i)).length, .int .i64 (grS (tblOf P M.toNat mod).ops L (spanL i (N - i))).length]) ∧ Below w.heap.size w w' := by
  obtain ⟨N', e, hN1, hN64, _⟩ := codeE_fld hE
  obtain rfl : N = N' := by omega
  have hs1 : Hid (∀ V, Below w.heap.size w V → Calls Tryz.prog 110 #[.int .i64 0, .int .i64 i] V
      fun e w' => ∃ a c, e = .returned (.slice a i c) ∧ w'.ownsRow V.heap.size 3 1 (.slice a i c) i ((spanL 0 i).map (Value.int .i64)) ∧ Below V.heap.size V w') := fun V _ => by
    have h := span_any 0 i V (Nat.zero_le _) (by omega)
    simpa using h
  have hs2 : Hid (∀ V, Below w.heap.size w V → Calls Tryz.prog 110 #[.int .i64 i, .int .i64 N] V
      fun e w' => ∃ a c, e = .returned (.slice a (N - i) c) ∧ w'.ownsRow V.heap.size 3 1 (.slice a (N - i) c) (N - i) ((spanL i (N - i)).map (Value.int .i64)) ∧ Below V.heap.size V w') := fun V _ => span_any i N V hiN hN64
  have hrk : Hid (∀ V lo k a6 c6, lo + k ≤ N → Below w.heap.size w V → V.ownsRow 0 3 1 (.slice a6 k c6) k ((spanL lo k).map (Value.int .i64)) → ∀ V2, Below V.heap.size V V2 →
      Calls Tryz.prog 26 #[.agg #[.int .i64 P, .int .i64 M, .slice am mn cm, .int .i64 N, .slice a n c], .slice a6 k c6] V2
      fun e w' => e = .returned (.tuple #[.int .i64 (grS (tblOf P M.toNat mod).ops L (spanL lo k)).length, .int .i64 0]) ∧ Below V2.heap.size V2 w') := fun V lo k a6 c6 hlk hV ho V2 hV2 => by
    refine (rank_any P M am mn cm mod N a n c L a6 k c6 (spanL lo k) V2 (hmod.keep (Below.next hV hV2)) (hi.keep (Below.next hV hV2)) ((Ints.own ho).1.keep hV2)).mono ?_
    rintro e w' ⟨hb, ⟨h0, _⟩ | ⟨_, rfl⟩⟩
    · exact absurd (rank_ok hE (okSet_span hlk)) h0
    · exact ⟨rfl, hb⟩
  obtain ⟨f, hf⟩ : ∃ f : Nat → Nat → Nat, ∀ lo k, (grS (tblOf P M.toNat mod).ops L (spanL lo k)).length = f lo k := ⟨fun lo k => (grS (tblOf P M.toNat mod).ops L (spanL lo k)).length, fun _ _ => rfl⟩
  simp only [hf] at hrk ⊢
  clear hf hE e
  go_enter Tryz.func64, Tryz.ntmps64
  go_wp2_with fail
  obtain ⟨W, hW⟩ : ∃ W : World, W = w.alloc (.cells #[.int .i64 P, .int .i64 M, .slice am mn cm, .int .i64 N, .slice a n c] 27) := ⟨_, rfl⟩
  rw [← hW]
  have hbW : Below w.heap.size w W := by rw [hW]; exact below1 _ _
  have x0 : Box W w.heap.size [.int .i64 P, .int .i64 M, .slice am mn cm, .int .i64 N, .slice a n c] := by rw [hW]; exact Box.new _ _ _ rfl
  have HX := Lib.hid x0
  clear hW x0
  have hS : ∀ V, Below W.heap.size W V → V.cell? ⟨w.heap.size, 0, none⟩ = some (.int .i64 P) ∧ V.cell? ⟨w.heap.size, 1, none⟩ = some (.int .i64 M) ∧ V.cell? ⟨w.heap.size, 2, none⟩ = some (.slice am mn cm) ∧ V.cell? ⟨w.heap.size, 3, none⟩ = some (.int .i64 N) ∧ V.cell? ⟨w.heap.size, 4, none⟩ = some (.slice a n c) ∧ Below W.heap.size W V := by
    intro V hV
    have x1 := HX.out.keep hV
    exact ⟨x1.cell 0 rfl, x1.cell 1 rfl, x1.cell 2 rfl, x1.cell 3 rfl, x1.cell 4 rfl, hV⟩
  have HS := Lib.hid hS
  have HbW := Lib.hid hbW
  clear hS hbW
  go_cut [6] (fun v6 wx => v6 = .int .i64 (f 0 i) ∧ Below W.heap.size W wx)
  case first =>
    go_region_held3 (fun V => V.cell? ⟨w.heap.size, 0, none⟩ = some (.int .i64 P) ∧ V.cell? ⟨w.heap.size, 1, none⟩ = some (.int .i64 M) ∧ V.cell? ⟨w.heap.size, 2, none⟩ = some (.slice am mn cm) ∧ V.cell? ⟨w.heap.size, 3, none⟩ = some (.int .i64 N) ∧ V.cell? ⟨w.heap.size, 4, none⟩ = some (.slice a n c) ∧ Below W.heap.size W V)
      ((refine HS.out _ ?_; first | exact (Below.refl _ _).drew | (go_split_ands; exact Below.next (by assumption) (by assumption))))
      (first
        | (go_at_call 110; ((with_reducible refine (hs1.out _ (Below.next HbW.out (by go_split_ands; assumption))).mono ?_); rintro e w6 ⟨a6, c6, rfl, hown6, hb6⟩; have hb7 : Below W.heap.size W w6 := (by go_split_ands; exact Below.next (by assumption) hb6); have Hr2 := Lib.hid (hrk.out w6 0 i a6 c6 (by omega) (Below.next HbW.out hb7) (own_mono hown6 (Nat.zero_le _))); clear hown6))
        | (go_at_call 26; ((with_reducible refine (Hr2.out _ (by first | exact Below.refl _ _ | exact hb4)).mono ?_); rintro e w8 ⟨rfl, hb8⟩)))
    all_goals (
      go_wp2_with fail
      go_meet
      exact ⟨rfl, by go_split_ands; assumption⟩)
  obtain ⟨rfl, hbc⟩ := hcut
  generalize wc = U at *
  have HU := Lib.hid hbc
  clear hbc
  go_wp2_with fail
  go_region_held3 (fun V => V.cell? ⟨w.heap.size, 0, none⟩ = some (.int .i64 P) ∧ V.cell? ⟨w.heap.size, 1, none⟩ = some (.int .i64 M) ∧ V.cell? ⟨w.heap.size, 2, none⟩ = some (.slice am mn cm) ∧ V.cell? ⟨w.heap.size, 3, none⟩ = some (.int .i64 N) ∧ V.cell? ⟨w.heap.size, 4, none⟩ = some (.slice a n c) ∧ Below W.heap.size W V)
    ((refine HS.out _ ?_; first | exact HU.out.drew | (go_split_ands; exact Below.next (by assumption) (by assumption))))
    (first
      | (go_at_call 110; ((with_reducible refine (hs2.out _ (Below.next HbW.out (by go_split_ands; assumption))).mono ?_); rintro e w6 ⟨a6, c6, rfl, hown6, hb6⟩; have hb7 : Below W.heap.size W w6 := (by go_split_ands; exact Below.next (by assumption) hb6); have Hr2 := Lib.hid (hrk.out w6 i (N - i) a6 c6 (by omega) (Below.next HbW.out hb7) (own_mono hown6 (Nat.zero_le _))); clear hown6))
      | (go_at_call 26; ((with_reducible refine (Hr2.out _ (by first | exact Below.refl _ _ | exact hb4)).mono ?_); rintro e w8 ⟨rfl, hb8⟩)))
  all_goals (
    go_wp2_with fail
    go_ret2
    exact ⟨rfl, Below.next HbW.out (by go_split_ands; assumption)⟩)

/-- the profile of a code's rows -/
def profF (O : FOps) (L : List (List Int)) (m i : Nat) : Int := ((grS O L (spanL 0 i)).length : Int) + (grS O L (spanL i (m - i))).length - L.length
def prL (f : Nat → Int) (K : Nat) : List Int := (List.range K).map f
theorem prL_len (f : Nat → Int) (K : Nat) : (prL f K).length = K := by simp [prL]
theorem prL_take (f : Nat → Int) {K k : Nat} (h : k < K) : (prL f K).take (k + 1) = (prL f K).take k ++ [f k] := by
  rw [List.take_succ_eq_append_getElem (by rw [prL_len]; exact h)]; simp [prL]
theorem nth_prL (f : Nat → Int) {K k : Nat} (h : k < K) : nth (prL f K) k = f k := by
  rw [nth_getElem (by rw [prL_len]; exact h)]; simp [prL]

set_option maxRecDepth 100000 in
set_option maxHeartbeats 4000000 in
theorem profile_any (P M : Int) (am : Option Addr) (mn cm : Nat) (mod : List Int) (N : Nat) (a : Option Addr) (n c : Nat) (L : List (List Int)) (w : World)
    (hmod : Ints w am mn mod) (hi : Mat w a n L) (hE : codeE P M mod N L = 0) :
    Calls Tryz.prog 18 #[.agg #[.int .i64 P, .int .i64 M, .slice am mn cm, .int .i64 N, .slice a n c]] w
      fun e w' => ∃ a2, e = .returned (.tuple #[.slice a2 (N + 1) (N + 1), .int .i64 0]) ∧ Ints w' a2 (N + 1) (prL (profF (tblOf P M.toNat mod).ops L N) (N + 1)) ∧ Below w.heap.size w w' := by
  obtain ⟨N', e, hN1, hN64, _⟩ := codeE_fld hE
  obtain rfl : N = N' := by omega
  have hn : n ≤ 256 := by rw [← hi.len]; exact (codeE_rws hE).choose_spec.2.2.2.1
  have Hil := Lib.hid hi.len
  have hrk : Hid (∀ i, i ≤ N → ∀ V, Below w.heap.size w V → Calls Tryz.prog 64 #[.agg #[.int .i64 P, .int .i64 M, .slice am mn cm, .int .i64 N, .slice a n c], .int .i64 i] V
      fun e w' => e = .returned (.tuple #[.int .i64 (grS (tblOf P M.toNat mod).ops L (spanL 0 i)).length, .int .i64 (grS (tblOf P M.toNat mod).ops L (spanL i (N - i))).length]) ∧ Below V.heap.size V w') := fun i hiN V hV =>
    trRanks_any P M am mn cm mod N a n c L i V (hmod.keep hV) (hi.keep hV) hE hiN
  have hpf : ∀ i, profF (tblOf P M.toNat mod).ops L N i = ((grS (tblOf P M.toNat mod).ops L (spanL 0 i)).length : Int) + (grS (tblOf P M.toNat mod).ops L (spanL i (N - i))).length - n := fun i => by rw [profF, hi.len]
  have hlen : ∀ lo k, (grS (tblOf P M.toNat mod).ops L (spanL lo k)).length ≤ k := fun lo k => by
    have := grS_len (tblOf P M.toNat mod).ops L (spanL lo k); rw [spanL_len] at this; exact this
  obtain ⟨f, hf⟩ : ∃ f : Nat → Nat → Nat, ∀ lo k, (grS (tblOf P M.toNat mod).ops L (spanL lo k)).length = f lo k := ⟨fun lo k => (grS (tblOf P M.toNat mod).ops L (spanL lo k)).length, fun _ _ => rfl⟩
  simp only [hf] at hrk hpf hlen
  obtain ⟨p, hp⟩ : ∃ p, profF (tblOf P M.toNat mod).ops L N = p := ⟨_, rfl⟩
  rw [hp] at hpf ⊢
  have HE := Lib.hid hE
  have Hpf := Lib.hid hpf
  have Hlen := Lib.hid hlen
  obtain ⟨K, hK⟩ : ∃ K, N + 1 = K := ⟨_, rfl⟩
  have kw : IntKind.i64.wrap ((N : Int) + 1) = (K : Int) := by rw [← hK]; exact IntWalk.i64_in _ (by omega)
  rw [hK]
  have HK := Lib.hid hK
  have hK1 : 2 ≤ K := by omega
  have hK2 : K ≤ 65 := by omega
  clear hE hf hp hpf hlen hK e
  go_enter Tryz.func18, Tryz.ntmps18
  go_wp2_with fail
  obtain ⟨W, hW⟩ : ∃ W : World, W = w.alloc (.cells #[.int .i64 P, .int .i64 M, .slice am mn cm, .int .i64 N, .slice a n c] 27) := ⟨_, rfl⟩
  rw [← hW]
  have hbW : Below w.heap.size w W := by rw [hW]; exact below1 _ _
  have x0 : Box W w.heap.size [.int .i64 P, .int .i64 M, .slice am mn cm, .int .i64 N, .slice a n c] := by rw [hW]; exact Box.new _ _ _ rfl
  clear hW
  refine (codeCheck_any P M am mn cm mod N a n c L W (hmod.keep hbW) (hi.keep hbW)).mono ?_
  rintro e w1 ⟨rfl, hb1⟩
  have hbw1 := Below.next hbW hb1
  have x1 := x0.keep hb1
  rw [HE.out]
  clear hbW x0 hb1
  have c3 := x1.cell 3 rfl
  go_wp2_with (at_make; refine wpList_mk rfl _ _ 22 3 rfl (.int .i64 0) 8 Tryz.underlying22 infoInt rfl K rfl rfl (by omega) (by unfold maxLen; omega) ?_; intro a5 w5 hown hbel hge hlt)
  clear c3
  go_loopw [20] (fun iv wr => ∃ k : Nat, k ≤ K ∧ iv = .int .i64 k ∧ wr.ownsRow w1.heap.size 3 1 (.slice a5 K K) K ((fillTo ((prL p K).take k) k K).map (Value.int .i64)) ∧ Below w1.heap.size w1 wr) (fun iv _ => K - (intOf iv).toNat)
  case atStart => exact ⟨0, Nat.zero_le _, rfl, by simpa [fillTo] using hown, hbel⟩
  case round =>
    clear hown hbel hge hlt
    obtain ⟨k, hk, rfl, hown, hbr⟩ := hrel
    by_cases hlt : k < K
    · have hbw := Below.next hbw1 hbr
      have x2 := x1.keep hbr
      have c0 := x2.cell 0 rfl
      have c1 := x2.cell 1 rfl
      have c2 := x2.cell 2 rfl
      have c3 := x2.cell 3 rfl
      have c4 := x2.cell 4 rfl
      have Hc := Lib.hid (hrk.out k (by have := HK.out; omega) wr hbw)
      have hl1 := Hlen.out 0 k
      have hl2 := Hlen.out k (N - k)
      have hp := Hpf.out k
      have hr1 : f 0 k ≤ 64 := by have := HK.out; omega
      have hr2 : f k (N - k) ≤ 64 := by omega
      generalize f 0 k = r1 at *
      generalize f k (N - k) = r2 at *
      have k1 : IntKind.i64.wrap ((r1 : Int) + r2) = (r1 : Int) + r2 := IntWalk.i64_in _ (by omega)
      have k2 : IntKind.i64.wrap ((r1 : Int) + r2 - n) = (r1 : Int) + r2 - n := IntWalk.i64_in _ (by omega)
      have Hp := Lib.hid hp
      clear hp hl1 hl2 x2
      go_wp2_with fail
      refine Hc.out.mono ?_
      rintro e w2 ⟨rfl, hb2⟩
      have hown2 := own_keep hown hb2
      obtain ⟨hints, hmine⟩ := Ints.own hown2
      have hpl1 := hints.pl
      have hf := (hmine (by omega)).2 k hlt
      have hc2 := hints.cell k hlt
      have hB := (hmine (by omega)).1
      have hbr2 := Below.next hbr hb2
      have x3 := x1.keep hbr2
      clear c0 c1 c2 c3 c4
      have c4 := x3.cell 4 rfl
      clear Hc x3
      go_wp2_with fail
      go_roundw
      case rel =>
        refine ⟨k + 1, by omega, by go_num, ?_, hbr2.setCell hB _⟩
        have h := own_set hown2 k hlt (.int .i64 (p k))
        rw [← List.map_set, fillTo_set _ _ _ _ (by rw [List.length_take, prL_len]; omega) hlt, ← prL_take p hlt] at h
        rw [Hp.out] at h
        exact h
      case measure => simp [intOf] <;> omega
    · obtain rfl : k = K := by omega
      have hfin : fillTo ((prL p k).take k) k k = prL p k := by rw [fillTo_all, List.take_of_length_le (by rw [prL_len]; exact Nat.le_refl _)]
      rw [hfin] at hown
      have hF : Ints wr a5 k (prL p k) := (Ints.own hown).1
      have HF := Lib.hid hF
      clear hF hown hfin
      go_wp2_with fail
      go_ret2
      exact ⟨a5, rfl, HF.out, Below.next hbw1 hbr⟩
end

/- The greatest entry of a reordered code's profile is the order's width (plain law). -/
section
open Go.RowKit

/-- the greatest of the first k entries and 0 -/
def mostL (l : List Int) : Nat → Int
  | 0 => 0
  | k + 1 => max (mostL l k) (nth l k)
theorem dims_zero {P M : Int} {mod : List Int} {m : Nat} {L : List (List Int)} (hE : codeE P M mod m L = 0) : dimS (tblOf P M.toNat mod).ops L m 0 ≤ 0 := by
  have h1 := gr_rows hE (cplU 0)
  have h2 : bitsTo 0 m = [] := by
    have : ∀ j, bitsTo 0 j = [] := fun j => by
      induction j with
      | zero => rfl
      | succ j ih => rw [bitsTo, if_neg (by simp), ih]
    exact this m
  have h3 : (grS (tblOf P M.toNat mod).ops L []).length ≤ 0 := grS_len _ _ []
  unfold dimS
  rw [h2]
  omega
theorem most_prof {P M : Int} {mod : List Int} {m : Nat} {L : List (List Int)} {Q : List Int} (hE : codeE P M mod m L = 0) (hO : ordB m Q = true) : ∀ k, k ≤ m + 1 →
    mostL (prL (profF (tblOf P M.toNat mod).ops (reoL (tblOf P M.toNat mod).ops m Q L) m) (m + 1)) k = wrTo (dimS (tblOf P M.toNat mod).ops L m) Q k
  | 0, _ => rfl
  | k + 1, hk => by
    have h := reo_prof hE hO (show k ≤ m by omega)
    rw [mostL, wrTo, most_prof hE hO k (by omega), nth_prL _ (by omega), profF, h]
theorem most_width {P M : Int} {mod : List Int} {m : Nat} {L : List (List Int)} {Q : List Int} (hE : codeE P M mod m L = 0) (hO : ordB m Q = true) :
    mostL (prL (profF (tblOf P M.toNat mod).ops (reoL (tblOf P M.toNat mod).ops m Q L) m) (m + 1)) (m + 1) = wdTo (dimS (tblOf P M.toNat mod).ops L m) Q m := by
  rw [most_prof hE hO (m + 1) (Nat.le_refl _), wrTo_eq (dims_zero hE)]
end

/- The walk of OrderingWidths. -/
section
open Go.RowKit

set_option maxRecDepth 100000 in
set_option maxHeartbeats 4000000 in
theorem widths_any (P M : Int) (am : Option Addr) (mn cm : Nat) (mod : List Int) (N : Int) (a : Option Addr) (n c : Nat) (L : List (List Int)) (ao : Option Addr) (no co : Nat) (Q : List Int) (w : World)
    (hmod : Ints w am mn mod) (hi : Mat w a n L) (hq : Ints w ao no Q) (hco : no ≤ co) :
    Calls Tryz.prog 3 #[.agg #[.int .i64 P, .int .i64 M, .slice am mn cm, .int .i64 N, .slice a n c], .slice ao no co] w fun e w' => e = .returned (.bool true) ∧ Below w.heap.size w w' := by
  have H1 : Hid (∀ V, Below w.heap.size w V → Calls Tryz.prog 14 #[.agg #[.int .i64 P, .int .i64 M, .slice am mn cm, .int .i64 N, .slice a n c], .slice ao no co] V fun e w' => e = .returned (.tuple #[.int .i64 (widV P M mod N L Q).1, .int .i64 (widV P M mod N L Q).2]) ∧ Below V.heap.size V w') :=
    fun V hV => ordWidthE_any P M am mn cm mod N a n c L ao no co Q V (hmod.keep hV) (hi.keep hV) (hq.keep hV)
  have H2 : Hid (∀ V, Below w.heap.size w V → Calls Tryz.prog 15 #[.agg #[.int .i64 P, .int .i64 M, .slice am mn cm, .int .i64 N, .slice a n c], .slice ao no co] V fun e w' => e = .returned (.tuple #[.int .i64 (widV P M mod N L Q).1, .int .i64 (widV P M mod N L Q).2]) ∧ Below V.heap.size V w') :=
    fun V hV => rWidth_any P M am mn cm mod N a n c L ao no co Q V (hmod.keep hV) (hi.keep hV) (hq.keep hV) hco
  have HM := Lib.hid (And.intro hmod (And.intro hi hq))
  clear hmod hi hq
  go_enter Tryz.func3, Tryz.ntmps3
  go_wp2_with fail
  obtain ⟨W, hW⟩ : ∃ W : World, W = w.alloc (.cells #[.int .i64 P, .int .i64 M, .slice am mn cm, .int .i64 N, .slice a n c] 27) := ⟨_, rfl⟩
  rw [← hW]
  have hbW : Below w.heap.size w W := by rw [hW]; exact below1 _ _
  have x0 : Box W w.heap.size [.int .i64 P, .int .i64 M, .slice am mn cm, .int .i64 N, .slice a n c] := by rw [hW]; exact Box.new _ _ _ rfl
  have hS : ∀ V, Below W.heap.size W V → V.cell? ⟨w.heap.size, 0, none⟩ = some (.int .i64 P) ∧ V.cell? ⟨w.heap.size, 1, none⟩ = some (.int .i64 M) ∧ V.cell? ⟨w.heap.size, 2, none⟩ = some (.slice am mn cm) ∧ V.cell? ⟨w.heap.size, 3, none⟩ = some (.int .i64 N) ∧ V.cell? ⟨w.heap.size, 4, none⟩ = some (.slice a n c) := by
    intro V hV
    have x2 := x0.keep hV
    exact ⟨x2.cell 0 rfl, x2.cell 1 rfl, x2.cell 2 rfl, x2.cell 3 rfl, x2.cell 4 rfl⟩
  have HS := Lib.hid hS
  have HbW := Lib.hid hbW
  clear hW x0 hS
  obtain ⟨c0, c1, c2, c3, c4⟩ := HS.out W (Below.refl _ _)
  go_wp2_with fail
  refine (H1.out W hbW).mono ?_
  rintro e w2 ⟨rfl, hb2⟩
  clear c0 c1 c2 c3 c4 H1
  obtain ⟨c0, c1, c2, c3, c4⟩ := HS.out w2 hb2
  go_wp2_with fail
  refine (H2.out w2 (Below.next hbW hb2)).mono ?_
  rintro e w3 ⟨rfl, hb3⟩
  have hb03 := Below.next hb2 hb3
  clear c0 c1 c2 c3 c4 H2
  go_wp2_with fail
  refine (alive_any w3).mono ?_
  rintro e w4 ⟨rfl, hb4⟩
  have hb04 := Below.next hb03 hb4
  obtain ⟨c0, c1, c2, c3, c4⟩ := HS.out w4 hb04
  by_cases hO : ordE P M mod N L Q = 0
  rotate_left
  · have hv : widV P M mod N L Q = (0, ordE P M mod N L Q) := by rw [widV, if_neg hO]
    rw [hv]
    have hO' : (ordE P M mod N L Q != 0) = true := by simpa using hO
    have hF := Below.next HbW.out hb04
    clear hO hv
    go_wp2_with fail
    go_ret
    exact ⟨rfl, hF⟩
  obtain ⟨hE, hB⟩ := ordE_zero hO
  obtain ⟨m, rfl, hm1, hm64, _⟩ := codeE_fld hE
  have hv : widV P M mod m L Q = (wdTo (dimS (tblOf P M.toNat mod).ops L m) Q m, 0) := by rw [widV, if_pos hO, Int.toNat_natCast]
  have hmn : mn ≤ 1000000 := by
    have h1 := HM.out.1.len
    have h2 := mod_len (codeE_zero hE).1
    omega
  have HD : Hid (∀ V, Below w.heap.size w V → Calls Tryz.prog 17 #[.agg #[.int .i64 P, .int .i64 M, .slice am mn cm, .int .i64 m, .slice a n c], .slice ao no co] V fun e w' => Below V.heap.size V w' ∧ ∃ a1 c1 a2 c2, e = .returned (.tuple #[.agg #[.int .i64 P, .int .i64 M, .slice a1 mod.length c1, .int .i64 m, .slice a2 (reoL (tblOf P M.toNat mod).ops m Q L).length c2], .int .i64 0]) ∧
      IntsN V.heap.size w' a1 mod.length mod ∧ MatN V.heap.size w' a2 (reoL (tblOf P M.toNat mod).ops m Q L).length (reoL (tblOf P M.toNat mod).ops m Q L)) := fun V hV => by
    refine (reorder_any P M am mn cm mod m a n c L ao no co Q V (HM.out.1.keep hV) (HM.out.2.1.keep hV) (HM.out.2.2.keep hV) hmn).mono ?_
    rintro e w' ⟨hb, ⟨h0, _⟩ | ⟨_, m', a1, c1, a2, c2, hm', he, h1, h2⟩⟩
    · exact absurd hO h0
    · obtain rfl : m = m' := by omega
      exact ⟨hb, a1, c1, a2, c2, he, h1, h2⟩
  have HP : Hid (∀ V a1 c1 a2 c2, Ints V a1 mod.length mod → Mat V a2 (reoL (tblOf P M.toNat mod).ops m Q L).length (reoL (tblOf P M.toNat mod).ops m Q L) →
      Calls Tryz.prog 18 #[.agg #[.int .i64 P, .int .i64 M, .slice a1 mod.length c1, .int .i64 m, .slice a2 (reoL (tblOf P M.toNat mod).ops m Q L).length c2]] V
      fun e w' => ∃ a2, e = .returned (.tuple #[.slice a2 (m + 1) (m + 1), .int .i64 0]) ∧ Ints w' a2 (m + 1) (prL (profF (tblOf P M.toNat mod).ops (reoL (tblOf P M.toNat mod).ops m Q L) m) (m + 1)) ∧ Below V.heap.size V w') :=
    fun V a1 c1 a2 c2 h1 h2 => profile_any P M a1 mod.length c1 mod m a2 _ c2 _ V h1 h2 (reo_code hE hB)
  have HF := Lib.hid (most_width hE hB)
  rw [hv]
  generalize prL (profF (tblOf P M.toNat mod).ops (reoL (tblOf P M.toNat mod).ops m Q L) m) (m + 1) = p at *
  generalize reoL (tblOf P M.toNat mod).ops m Q L = D at *
  generalize wdTo (dimS (tblOf P M.toNat mod).ops L m) Q m = t9 at *
  obtain ⟨K, hK⟩ : ∃ K, m + 1 = K := ⟨_, rfl⟩
  have kw : IntKind.i64.wrap ((m : Int) + 1) = (K : Int) := by rw [← hK]; exact IntWalk.i64_in _ (by omega)
  have hK2 : K ≤ 65 := by omega
  have hKn : ((K : Int) != K) = false := by simp
  rw [hK] at HP HF
  clear hO hE hB hv hK
  go_wp2_with fail
  refine (HD.out w4 (Below.next hbW hb04)).mono ?_
  rintro e w5 ⟨hb5, a1, c1', a2, c2', rfl, hN1, hN2⟩
  have hb05 := Below.next hb04 hb5
  have h1 := hN1.ints
  have h2 := hN2.mat
  have hbn := below1 w5 (.cells #[.int .i64 P, .int .i64 M, .slice a1 mod.length c1', .int .i64 m, .slice a2 D.length c2'] 27)
  have HW2 := Lib.hid (HP.out _ a1 c1' a2 c2' (h1.keep hbn) (h2.keep hbn))
  clear HD HP hN1 hN2 c0 c1 c2 c3 c4 h1 h2
  go_wp2_with fail
  refine HW2.out.mono ?_
  rintro e w6 ⟨a6, rfl, h6, hb6⟩
  have hbF := Below.next HbW.out (Below.next (Below.next hb05 hbn) hb6)
  have HbF := Lib.hid hbF
  have hpl6 := h6.pl
  obtain ⟨_, _, _, c3, _⟩ := HS.out w6 (Below.next (Below.next hb05 hbn) hb6)
  clear HW2
  go_wp2_with fail
  go_loop [13, 14] (fun tv iv => ∃ k : Nat, k ≤ K ∧ iv = .int .i64 k ∧ tv = .int .i64 (mostL p k)) (fun _ iv => K - (intOf iv).toNat)
  case atStart => exact ⟨0, Nat.zero_le _, rfl, rfl⟩
  case round =>
    obtain ⟨k, hk, rfl, rfl⟩ := hrel
    by_cases hlt : k < K
    · have cc := h6.cell k hlt
      have Hmx : Hid (mostL p (k + 1) = max (mostL p k) (nth p k)) := rfl
      generalize nth p k = z at *
      generalize mostL p k = t at *
      go_wp2_with fail
      go_round
      case rel => exact ⟨k + 1, by omega, by go_num, by rw [Hmx.out, ← max_if]⟩
      case measure => simp [intOf] <;> omega
    · obtain rfl : k = K := by omega
      rw [HF.out]
      go_wp2_with fail
      go_ret
      exact ⟨rfl, HbF.out⟩
end

/- OrderingWidths: the statement. -/
section
open Go.ChangeShapes Go.WideShapes Go.ChangeAt Go.RowKit

set_option maxRecDepth 100000 in
theorem widths_lifted (os : Os) (started : os.Started) (H : Type) (enc : TypeId × Value → H) :
    ReturnsInHanded {} Tryz.checked os 3 .any (Rows.orderingWidthsSpec.pre6 enc Tryz.prog Tryz.f3 Rows.orderingWidthsRow.domain false) (Rows.orderingWidthsSpec.post enc Tryz.prog Tryz.f3 false true false false) := by
  refine returnsInHanded_of_change (C := Tryz.checked) Tryz.own started (by kernel_rfl) Tryz.func3
    (ChangeSpec.witness6 (enc := enc) (C := Tryz.checked) false ⟨#[], #[.agg #[.int .i64 0, .int .i64 0, .slice none 0 0, .int .i64 0, .slice none 0 0], .slice none 0 0], []⟩ 8 (by kernel_rfl) (by kernel_rfl) (by kernel_rfl) (by kernel_rfl)) ?_
  intro W base args ds gs before hval0 hW hcnd _
  have hval : ∀ (j : Nat) t v, Tryz.f3.params[j]? = some t → args[j]? = some v → Value.okWide Tryz.prog W .any base t v := hval0
  have hW' := hW
  obtain ⟨p, q, hA0, hV, rfl, hfz, hnd⟩ := hW
  have hA : DataW.TrodAll enc Tryz.prog W 0 (fun _ => true) true Tryz.f3.params.toList args.toList ds p := hA0
  rw [Tryz.params3] at hA hval
  obtain ⟨v0, vs0, d0, ds0, p0, q0, hargs, rfl, rfl, h0, r0⟩ := trodAll_cons hA
  obtain ⟨v1, vs1, d1, ds1, p1, q1, rfl, rfl, rfl, h1, r1⟩ := trodAll_cons r0
  obtain ⟨rfl, rfl, rfl⟩ := trodAll_nil r1
  obtain rfl : args = #[v0, v1] := by cases args; simp_all
  obtain ⟨rfl, rfl⟩ := trodVars_none hV
  have k0 := h0
  have k1 := h1
  have lt0 : ∀ x ∈ p0, x.block < W.heap.size := by obtain ⟨m, hm⟩ := k0; exact DataW.trod_lt m _ _ _ hm
  have lt1 : ∀ x ∈ p1, x.block < W.heap.size := by obtain ⟨m, hm⟩ := k1; exact DataW.trod_lt m _ _ _ hm
  obtain ⟨P, M, am, mn, cm, mod, N, a, n, c, L, rfl, hI0, hM0⟩ := arg_code (hval 0 _ v0 rfl rfl) h0
  obtain ⟨a1x, n1x, c1x, Q1, rfl, hQ1, hC1⟩ := arg_intsC (hval 1 _ v1 rfl rfl) h1
  clear hA0 hval0
  refine (widths_any P M am mn cm mod N a n c L a1x n1x c1x Q1 W hI0 hM0 hQ1 hC1).mono fun e W' ⟨he, bel⟩ => ?_
  subst he
  exact ⟨_, rfl, _, _, _, [], _, [], hW', trodAll_mk1 (shut_bool Tryz.underlying4 _), (trodAll_cons_mk (Below.trod Tryz.laid (by kernel_rfl) (of_decide_eq_true (by kernel_rfl)) k0 bel lt0) (trodAll_cons_mk (Below.trod Tryz.laid (by kernel_rfl) (of_decide_eq_true (by kernel_rfl)) k1 bel lt1) trodAll_mk0)), rfl, bel.frame _, fun h => by cases h⟩

theorem widths_over : Rows.orderingWidthsRow.holds Tryz.pinned (OpenSpec.ofChange Rows.orderingWidthsSpec) :=
  OpenClaim.holds_of_wide 3 Tryz.f3 rfl rfl rfl rfl rfl rfl rfl ⟨rfl, rfl, rfl, rfl, rfl⟩ rfl rfl rfl rfl rfl (by kernel_rfl) Tryz.func3 (by kernel_rfl)
    (of_decide_eq_true (by kernel_rfl)) (by unfold Func.isWrapper; first | (rw [if_pos (by decide +kernel)]; kernel_rfl) | (rw [if_neg (by decide +kernel)]; exact ⟨rfl, rfl⟩))
    (fun os started H enc _ => widths_lifted os started H enc)

theorem widths_holds : Rows.OrderingWidthsSaid := widths_over
#print axioms widths_holds
end

end Go.Proofs.YtakmnncmeefceaaGreat
