/- The walk of right of the reference's exclusion, for rank claims. -/
import Derived.Test.YtapjcccpokhhhaaGreatG29
import Derived.Test.YtapjcccpokhhhaaGreatG28
import Derived.Test.YtapjcccpokhhhaaGreatG30
import Derived.Test.YtapjcccpokhhhaaGreatG19
import Derived.Test.YtapjcccpokhhhaaGreatG21
namespace Go.Proofs.YtapjcccpokhhhaaGreat
set_option linter.unusedVariables false
set_option linter.unusedSimpArgs false
set_option linter.unusedSectionVars false

/- The walks of the references: Keep of layer 13, Of of layer 25. -/
section
open Go.RowKit

set_option maxRecDepth 100000 in
set_option maxHeartbeats 4000000 in
theorem rKeep_any (m : Nat) (a : Option Addr) (n c : Nat) (L : List (List Int)) (ao : Option Addr) (no co : Nat) (Q : List Int) (w : World) (hi : Mat w a n L) (hq : Ints w ao no Q) (hL : ∀ r ∈ L, r.length = m) (hQ : InN m Q) (hn : n ≤ 1000000) (hno : no ≤ 1000000) :
    Calls Tryz.prog 39 #[.slice a n c, .slice ao no co] w fun e w' => ∃ a1 c1 R, e = .returned (.slice a1 n c1) ∧ OMat w' w.heap.size a1 n c1 R (L.map (pickL Q)) ∧ Below w.heap.size w w' := by
  have Hlen := Lib.hid hi.len
  have hpla := hi.pl
  have HLl := Lib.hid hL
  have HQ := Lib.hid hQ
  obtain ⟨L2, hL2⟩ : ∃ L2, L.map (pickL Q) = L2 := ⟨_, rfl⟩
  have hl2 : L2.length = n := by rw [← hL2, List.length_map]; exact Hlen.out
  have Hl2 := Lib.hid hl2
  have HLk : Hid (∀ k, k < n → nthR L2 k = pickL Q (nthR L k)) := fun k hk => by rw [← hL2]; exact nthR_map _ L (by rw [Hlen.out]; exact hk)
  rw [hL2]
  clear hL2 hl2 hL hQ
  go_enter Tryz.func39, Tryz.ntmps39
  go_wp2_with fail
  go_loopw [5, 6] (fun sv iv wr => ∃ (k : Nat) (a1 : Option Addr) (c1 : Nat), k ≤ n ∧ iv = .int .i64 k ∧ sv = .slice a1 k c1 ∧ (∃ R, OMat wr w.heap.size a1 k c1 R (L2.take k)) ∧ Below w.heap.size w wr) (fun _ iv _ => n - (intOf iv).toNat)
  case atStart => exact ⟨0, none, 0, Nat.zero_le _, rfl, rfl, ⟨[], by simpa using OMat.empty w w.heap.size⟩, Below.refl _ _⟩
  case round =>
    obtain ⟨k, a1, c1, hk, rfl, rfl, ⟨R, hO⟩, hbr⟩ := hrel
    by_cases hlt : k < n
    · obtain ⟨ra, rn, rc, hcell, hrow⟩ := (hi.keep hbr).cell k hlt
      have hkL : k < L.length := by rw [Hlen.out]; exact hlt
      have hrl : rn = m := by rw [← hrow.len, nthR_getElem hkL]; exact HLl.out _ (List.getElem_mem hkL)
      have Htk : Hid (L2.take (k + 1) = L2.take k ++ [pickL Q (nthR L k)]) := by show _ = _; rw [List.take_succ_eq_append_getElem (by rw [Hl2.out]; exact hlt), ← HLk.out k hlt, nthR_getElem (by rw [Hl2.out]; exact hlt)]
      obtain ⟨l, hl⟩ : ∃ l, nthR L k = l := ⟨_, rfl⟩
      rw [hl] at Htk hrow
      have hpk := rPick_any ra rn rc l ao no co Q wr hrow (hq.keep hbr) (by rw [hrl]; exact HQ.out) hno
      have hsz := hbr.size
      clear hl hrl
      go_wp2_with fail
      refine hpk.mono ?_
      rintro e w3 ⟨a3, c3, rfl, hown3, hb3⟩
      have hO3 := hO.keep (Below.next hb3 (below1 w3 (.cells #[.slice a3 (pickL Q l).length c3] 22)))
      have hs3 : w.heap.size ≤ (w3.alloc (.cells #[.slice a3 (pickL Q l).length c3] 22)).heap.size := by have h1 := hb3.size; simp; omega
      clear hpk
      go_wp2_with (at_builtin; refine wpList_push rfl _ _ 25 22 rfl (.slice none 0 0) 24 Tryz.underlying25 infoInts rfl w.heap.size a1 k c1 _ rfl hO3.own ⟨w3.heap.size, 0, none⟩ 1 (.slice a3 (pickL Q l).length c3) rfl (cell_new w3 _ _) rfl (by omega) (by unfold maxLen; omega) hs3 ?_; intro a5 c5 w5 hown5 hgr5 hap5)
      go_roundw
      case rel =>
        have hb4 : Below wr.heap.size wr (w3.alloc (.cells #[.slice a3 (pickL Q l).length c3] 22)) := Below.next hb3 (below1 _ _)
        have hown4 : (w3.alloc (.cells #[.slice a3 (pickL Q l).length c3] 22)).ownsRow w.heap.size 3 1 (.slice a3 (pickL Q l).length c3) (pickL Q l).length ((pickL Q l).map (Value.int .i64)) :=
          own_mono (own_keep hown3 (below1 _ _)) hsz
        have hra : a3 ≠ none → ¬ OIn a1 R (ablk a3) := fun h0 hI => by
          have h1 := (own_ne hown3 h0).1
          have h2 := (hO.lt _ hI).2
          omega
        have hP := OMat.push hO3 hown4 hra hown5 hgr5 hap5
        have hb5 : Below w.heap.size w w5 := Below.app (Below.next hbr hb4) hO3.own hgr5 (Nat.le_refl _) (Nat.le_trans hsz hb4.size)
        exact ⟨k + 1, a5, c5, by omega, by go_num, rfl, ⟨_, by rw [Htk.out]; exact hP⟩, hb5⟩
      case measure => simp [intOf] <;> omega
    · obtain rfl : k = n := by omega
      rw [List.take_of_length_le (by rw [Hl2.out]; exact Nat.le_refl _)] at hO
      have HO := Lib.hid hO
      clear hO
      go_wp2_with fail
      go_ret
      exact ⟨a1, c1, R, rfl, HO.out, hbr⟩

set_option maxRecDepth 100000 in
set_option maxHeartbeats 4000000 in
theorem rOf25_any (P M : Int) (am : Option Addr) (mn cm : Nat) (mod : List Int) (m : Nat) (a : Option Addr) (n c : Nat) (L : List (List Int)) (ao : Option Addr) (no co : Nat) (Q : List Int) (w : World) (hmod : Ints w am mn mod) (hi : Mat w a n L) (hq : Ints w ao no Q)
    (hE : codeE P M mod m L = 0) (hQ : InN m Q) (hno : no ≤ 1000000) :
    Calls Tryz.prog 122 #[.agg #[.int .i64 P, .int .i64 M, .slice am mn cm], .slice a n c, .slice ao no co] w fun e w' => e = .returned (.int .i64 (grS (tblOf P M.toNat mod).ops L Q).length) ∧ Below w.heap.size w w' := by
  have hql := hq.len
  obtain ⟨N', em, hm1, hm64, F, hR⟩ := codeE_fld hE
  obtain rfl : m = N' := by omega
  have hn : n ≤ 256 := by rw [← hi.len]; exact (codeE_rws hE).choose_spec.2.2.2.1
  have hB := (codeE_zero hE).1
  have hinv := hinv_all (P := P) (M := M) (mod := mod) (by rw [fieldRB_eq]; exact hB)
  have hgr := elim_gr F hR hQ
  have hpr := pick_rws hR hQ
  rw [hql] at hgr hpr
  obtain ⟨k, rfl, hel, _, hF, hA, _⟩ := eq_ops hB
  obtain ⟨k', e2, hrf, hmods⟩ := fieldRB_rf (by rw [fieldRB_eq]; exact hB)
  obtain rfl : k = k' := by omega
  rw [Int.toNat_natCast] at hgr hpr hinv hR ⊢
  have hag := (elimTo_agr hA hF.cl (by rw [hel]; exact hpr) no (Nat.le_refl _)).1
  rw [hag] at hgr
  rw [← hel] at hpr
  have HKp : Hid (∀ V, Below w.heap.size w V → Calls Tryz.prog 39 #[.slice a n c, .slice ao no co] V fun e w' => Below V.heap.size V w' ∧ ∃ a1 c1, e = .returned (.slice a1 n c1) ∧ Mat w' a1 n (L.map (pickL Q))) := fun V hV => by
    refine (rKeep_any m a n c L ao no co Q V (hi.keep hV) (hq.keep hV) (fun r hr => (hR r hr).1) hQ (by omega) hno).mono ?_
    rintro e w' ⟨a1, c1, R, rfl, hO, hb⟩
    exact ⟨hb, a1, c1, rfl, hO.mat⟩
  have HCn : Hid (∀ V a1 c1, Below w.heap.size w V → Mat V a1 n (L.map (pickL Q)) → ∀ V2, Below V.heap.size V V2 → Calls Tryz.prog 134 #[.agg #[.int .i64 P, .int .i64 k, .slice am mn cm], .slice a1 n c1, .int .i64 no] V2 fun e w' =>
      Below V2.heap.size V2 w' ∧ ∃ v ap cp, e = .returned (.tuple #[v, .slice ap (grS (tblOf P k mod).ops L Q).length cp])) := fun V a1 c1 hV hM V2 hV2 => by
    refine (rCanon_any P k am mn cm mod a1 n c1 no (L.map (pickL Q)) V2 ⟨hrf, hmods V2 am mn (hmod.keep (Below.next hV hV2))⟩ (hM.keep hV2) hpr hno (by omega) hinv).mono ?_
    rintro e w' ⟨a4, c4, ap, cp, rfl, _, _, hb⟩
    exact ⟨hb, _, ap, cp, by rw [← hgr]⟩
  obtain ⟨r, hr⟩ : ∃ r, (grS (tblOf P k mod).ops L Q).length = r := ⟨_, rfl⟩
  rw [hr] at HCn ⊢
  clear hE em F hR hB hinv hgr hpr hel hF hA e2 hrf hmods hag hr hQ hql hmod hi hq
  go_enter Tryz.func122, Tryz.ntmps122
  go_upto_region 1 with fail
  obtain ⟨W, hW⟩ : ∃ W : World, W = w.alloc (.cells #[.int .i64 P, .int .i64 k, .slice am mn cm] 24) := ⟨_, rfl⟩
  rw [← hW]
  have hbW : Below w.heap.size w W := by rw [hW]; exact below1 _ _
  have x0 : Box W w.heap.size [.int .i64 P, .int .i64 k, .slice am mn cm] := by rw [hW]; exact Box.new _ _ _ rfl
  have hS : ∀ V, Below W.heap.size W V → V.cell? ⟨w.heap.size, 0, none⟩ = some (.int .i64 P) ∧ V.cell? ⟨w.heap.size, 1, none⟩ = some (.int .i64 k) ∧ V.cell? ⟨w.heap.size, 2, none⟩ = some (.slice am mn cm) ∧ Below W.heap.size W V := fun V hV => by
    have x1 := x0.keep hV
    exact ⟨x1.cell 0 rfl, x1.cell 1 rfl, x1.cell 2 rfl, hV⟩
  have HS := Lib.hid hS
  have HbW := Lib.hid hbW
  clear hW x0 hS hbW
  go_region_held3 (fun V => V.cell? ⟨w.heap.size, 0, none⟩ = some (.int .i64 P) ∧ V.cell? ⟨w.heap.size, 1, none⟩ = some (.int .i64 k) ∧ V.cell? ⟨w.heap.size, 2, none⟩ = some (.slice am mn cm) ∧ Below W.heap.size W V)
    ((refine HS.out _ ?_; first | exact (Below.refl _ _).drew | (go_split_ands; exact Below.next (by assumption) (by assumption))))
    (first
      | (go_at_call 39; ((with_reducible refine (HKp.out _ (Below.next HbW.out (by go_split_ands; assumption))).mono ?_); rintro e w6 ⟨hb6, a6, c6, rfl, hM6⟩; have hb7 : Below W.heap.size W w6 := (by go_split_ands; exact Below.next (by assumption) hb6); have Hr2 := Lib.hid (HCn.out w6 a6 c6 (Below.next HbW.out hb7) hM6); clear hM6))
      | (go_at_call 134; ((with_reducible refine (Hr2.out _ (by first | exact Below.refl _ _ | exact hb4)).mono ?_); rintro e w8 ⟨hb8, v8, ap8, cp8, rfl⟩)))
  all_goals (
    go_wp2_with fail
    go_ret
    exact ⟨rfl, Below.next HbW.out (by go_split_ands; assumption)⟩)
end

/- The walk of codewrightref25.Sorted. -/
section
open Go.RowKit
end

/- The walk of codewrightref25.sets. -/
section
open Go.RowKit

theorem rCheck_any (P M : Int) (am : Option Addr) (mn cm : Nat) (mod : List Int) (N : Int) (a : Option Addr) (n c : Nat) (L : List (List Int)) (w : World) (hmod : Ints w am mn mod) (hi : Mat w a n L) :
    Calls Tryz.prog 41 #[.agg #[.int .i64 P, .int .i64 M, .slice am mn cm, .int .i64 N, .slice a n c]] w fun e w' => e = .returned (.int .i64 (codeE P M mod N L)) ∧ Below w.heap.size w w' := by
  rw [← rcodeE_eq]
  exact rCodeCheck_any P M am mn cm mod N a n c L w hmod hi hinv_all
end

/- The walks of codewrightref25: info, Rank, Is. -/
section
open Go.RowKit

theorem set_in {m : Nat} {Q : List Int} (h : okSet m Q = true) : InN m Q := fun j hj => ⟨(okSet_at h hj).1, (okSet_at h hj).2.1⟩
end

/- The walk of codewrightref25.Pick. -/
section
open Go.RowKit
end

/- The walks of codewrightref25.in and codewrightref10.Others. -/
section
open Go.RowKit

def inTo (l : List Int) (v : Int) (k : Nat) : Bool := decide (v ∈ l.take k)
theorem inTo_succ {l : List Int} {k : Nat} (v : Int) (h : k < l.length) : inTo l v (k + 1) = (inTo l v k || decide (nth l k = v)) := by
  unfold inTo
  rw [List.take_succ_eq_append_getElem h, nth_getElem h]
  simp only [List.mem_append, List.mem_singleton, Bool.decide_or]
  congr 1
  simp [eq_comm]
theorem inTo_all {l : List Int} {n : Nat} (v : Int) (h : l.length = n) : inTo l v n = decide (v ∈ l) := by
  unfold inTo
  rw [List.take_of_length_le (by omega)]
end

/- The walks of in, with, kids of the reference's exclusion. -/
section
open Go.RowKit

theorem rIn26_any (a : Option Addr) (n c : Nat) (l : List Int) (v : Int) (w : World) (h : Ints w a n l) :
    Calls Tryz.prog 156 #[.slice a n c, .int .i64 v] w fun e w' => e = .returned (.bool (decide (v ∈ l))) ∧ w' = w := by
  have Hl := Lib.hid h.len
  have hpl := h.pl
  have hmax := h.max
  unfold maxLen at hmax
  go_enter Tryz.func156, Tryz.ntmps156
  go_wp2_with fail
  go_loopw [5] (fun iv wr => ∃ k : Nat, k ≤ n ∧ iv = .int .i64 k ∧ Hid (inTo l v k = false) ∧ wr = w) (fun i _ => n - (intOf i).toNat)
  case atStart => exact ⟨0, Nat.zero_le _, rfl, by show _ = _; simp [inTo], rfl⟩
  case round =>
    obtain ⟨k, hk, rfl, hno, rfl⟩ := hrel
    by_cases hlt : k < n
    · have c1 := h.cell k hlt
      have Hs := Lib.hid (inTo_succ (l := l) v (show k < l.length by rw [Hl.out]; exact hlt))
      by_cases he : nth l k = v
      · have he' : (nth l k == v) = true := by rw [he]; simp
        have Hm : Hid (decide (v ∈ l) = true) := by show _ = _; rw [← he]; simpa using nth_mem (show k < l.length by rw [Hl.out]; exact hlt)
        clear he
        go_wp2_with fail
        go_ret
        exact ⟨ret_bool Hm.out.symm, rfl⟩
      · have he' : (nth l k == v) = false := by simpa using he
        have Hn2 : Hid (inTo l v (k + 1) = false) := by show _ = _; rw [Hs.out, hno.out, decide_eq_false he]; rfl
        clear he
        go_wp2_with fail
        go_roundw
        case rel => exact ⟨k + 1, by omega, by go_num, Hn2.out, by simp⟩
        case measure => simp [intOf] <;> omega
    · obtain rfl : k = n := by omega
      have Hm : Hid (decide (v ∈ l) = false) := by show _ = _; rw [← inTo_all v Hl.out]; exact hno.out
      go_wp2_with fail
      go_ret
      exact ⟨ret_bool Hm.out.symm, rfl⟩


theorem ints_one (l : List Int) : ∀ u ∈ l.map (Value.int .i64), u.oneCell' = true := fun u hu => by
  obtain ⟨x, _, rfl⟩ := List.mem_map.1 hu
  rfl
set_option maxRecDepth 100000 in
set_option maxHeartbeats 1600000 in
theorem rWith26_any (a : Option Addr) (n c : Nat) (l : List Int) (b : Option Addr) (m cb : Nat) (l2 : List Int) (w : World) (ha : Ints w a n l) (hb : Ints w b m l2) (hn : n ≤ 1000000) (hm : m ≤ 1000000) :
    Calls Tryz.prog 99 #[.slice a n c, .slice b m cb] w fun e w' => ∃ a2 c2, e = .returned (.slice a2 (n + m) c2) ∧ w'.ownsRow w.heap.size 3 1 (.slice a2 (n + m) c2) (n + m) ((l ++ l2).map (Value.int .i64)) ∧ Below w.heap.size w w' := by
  have hb1 := below1 w (.cells #[] 3)
  have ha1 := ha.keep hb1
  have hb2 := hb.keep hb1
  have hal := ha.len
  have hbl := hb.len
  have hO := own_emp w 3
  go_enter Tryz.func99, Tryz.ntmps99
  go_wp2_with (at_builtin; first
    | (refine wpList_appAll rfl _ _ 22 3 rfl (.int .i64 0) 8 Tryz.underlying22 infoInt rfl w.heap.size _ 0 0 [] rfl hO a n c (l.map (Value.int .i64)) rfl ha1.pl (by simp [hal]) (Ints.news ha1) (ints_one l) (by omega) (by unfold maxLen; omega) hb1.size ?_; intro a1 c1 w1 hown1 hgr1 hap1; rw [Nat.zero_add] at hown1 ⊢; rw [List.nil_append] at hown1; have hbw1 : Below w.heap.size w w1 := Below.app hb1 hO hgr1 (Nat.le_refl _) hb1.size; have hb3 := hb.keep hbw1)
    | (refine wpList_appAll rfl _ _ 22 3 rfl (.int .i64 0) 8 Tryz.underlying22 infoInt rfl w.heap.size a1 n c1 (l.map (Value.int .i64)) rfl hown1 b m cb (l2.map (Value.int .i64)) rfl hb3.pl (by simp [hbl]) (Ints.news hb3) (ints_one l2) (by omega) (by unfold maxLen; omega) hbw1.size ?_; intro a2 c2 w2 hown2 hgr2 hap2))
  go_ret
  exact ⟨a2, c2, rfl, by rw [List.map_append]; exact hown2, Below.app hbw1 hown1 hgr2 (Nat.le_refl _) hbw1.size⟩

/-- a claim of the reference -/
def rclV (P M : Int) (am : Option Addr) (mn cm : Nat) (m : Nat) (a : Option Addr) (n c : Nat) (ay : Option Addr) (ny cy : Nat) (C : Clm) : Value :=
  .agg #[.int .i64 P, .int .i64 M, .slice am mn cm, .int .i64 m, .slice a n c, .int .i64 C.M, .int .i64 C.W, .slice ay ny cy, .bool C.cos]
set_option maxRecDepth 100000 in
set_option maxHeartbeats 3200000 in
theorem rKids26_any (P M : Int) (am : Option Addr) (mn cm : Nat) (m : Nat) (a : Option Addr) (n c : Nat) (ay : Option Addr) (ny cy : Nat) (C : Clm) (sa : Option Addr) (ns cs : Nat) (s : List Int) (az : Option Addr) (nz cz : Nat) (z : List Int) (at' : Option Addr) (nt ct : Nat) (t : List Int) (w : World)
    (hs : Ints w sa ns s) (hz : Ints w az nz z) (ht : Ints w at' nt t) (hnt : nt ≤ 1000000) :
    Calls Tryz.prog 104 #[rclV P M am mn cm m a n c ay ny cy C, .slice sa ns cs, .slice az nz cz, .slice at' nt ct] w (NewInts w (kidsS C s z t)) := by
  have Htl := Lib.hid ht.len
  have Hsl := Lib.hid hs.len
  have hplt := ht.pl
  obtain ⟨K, hK⟩ : ∃ K, kidsS C s z t = K := ⟨_, rfl⟩
  rw [hK]
  have HK := Lib.hid hK
  unfold rclV
  clear hK
  go_enter Tryz.func104, Tryz.ntmps104
  go_wp2_with fail
  obtain ⟨U, hU⟩ : ∃ U : World, U = w.alloc (.cells #[.int .i64 P, .int .i64 M, .slice am mn cm, .int .i64 m, .slice a n c, .int .i64 C.M, .int .i64 C.W, .slice ay ny cy, .bool C.cos] 89) := ⟨_, rfl⟩
  rw [← hU]
  have hbU : Below w.heap.size w U := by rw [hU]; exact below1 _ _
  have x0 : Box U w.heap.size [.int .i64 P, .int .i64 M, .slice am mn cm, .int .i64 m, .slice a n c, .int .i64 C.M, .int .i64 C.W, .slice ay ny cy, .bool C.cos] := by rw [hU]; exact Box.new _ _ _ rfl
  have HX := Lib.hid x0
  have hsU : w.heap.size < U.heap.size := x0.1
  clear hU x0
  go_loopw [9, 10] (fun qv iv wr => ∃ (k : Nat) (aq : Option Addr) (cq : Nat) (out : List Int), k ≤ nt ∧ iv = .int .i64 k ∧ qv = .slice aq out.length cq ∧ Hid (K = out ++ (if s.length < C.W then (t.drop k).filter (fun x => decide (¬ x ∈ z)) else [])) ∧ out.length ≤ k ∧
      wr.ownsRow U.heap.size 3 1 (.slice aq out.length cq) out.length (out.map (Value.int .i64)) ∧ Below U.heap.size U wr)
    (fun _ iv _ => nt - (intOf iv).toNat)
  case atStart => exact ⟨0, none, 0, [], Nat.zero_le _, rfl, rfl, (show _ = _ by rw [← HK.out, kidsS, List.drop_zero, List.nil_append]), Nat.zero_le _, own_none, Below.refl _ _⟩
  case round =>
    obtain ⟨k, aq, cq, out, hk, rfl, rfl, hst, hln, hop, hbr⟩ := hrel
    generalize wr = V at *
    have c6 := (HX.out.keep hbr).cell 6 rfl
    by_cases hlt : k < nt
    · by_cases hW : ns < C.W
      · have d1 : decide ((ns : Int) < (C.W : Int)) = true := by simp; omega
        have ck := (ht.keep (Below.next hbU hbr)).cell k hlt
        have hktl : k < t.length := by rw [Htl.out]; exact hlt
        have Hdk := Lib.hid (show t.drop k = nth t k :: t.drop (k + 1) by rw [nth_getElem hktl]; exact List.drop_eq_getElem_cons hktl)
        have HI := Lib.hid (rIn26_any az nz cz z (nth t k) V (hz.keep (Below.next hbU hbr)))
        have hlsW : s.length < C.W := by rw [Hsl.out]; exact hW
        by_cases hm1 : nth t k ∈ z
        · have hmd : decide (nth t k ∈ z) = true := by simpa using hm1
          rw [hmd] at HI
          have Hst : Hid (K = out ++ (if s.length < C.W then (t.drop (k + 1)).filter (fun x => decide (¬ x ∈ z)) else [])) := by
            show _ = _
            rw [hst.out, Hdk.out, if_pos hlsW, if_pos hlsW, List.filter_cons_of_neg (by simpa using hm1)]
          clear hm1 hmd hlsW
          go_wp2_with fail
          refine HI.out.mono ?_
          rintro e w6 ⟨rfl, rfl⟩
          go_wp2_with fail
          go_roundw
          case rel => exact ⟨k + 1, aq, cq, out, by omega, by go_num, rfl, Hst.out, by omega, hop, hbr⟩
          case measure => simp [intOf] <;> omega
        · have hmd : decide (nth t k ∈ z) = false := by simpa using hm1
          rw [hmd] at HI
          have Hst : Hid (K = (out ++ [nth t k]) ++ (if s.length < C.W then (t.drop (k + 1)).filter (fun x => decide (¬ x ∈ z)) else [])) := by
            show _ = _
            rw [hst.out, Hdk.out, if_pos hlsW, if_pos hlsW, List.filter_cons_of_pos (by simpa using hm1), List.append_assoc]; rfl
          obtain ⟨x, hx⟩ : ∃ x, nth t k = x := ⟨_, rfl⟩
          rw [hx] at ck Hst HI
          have hcn := cell_new V (.int .i64 x) 3
          have hbn := below1 V (.cells #[.int .i64 x] 3)
          have hszV := hbr.size
          clear hm1 hmd hlsW hx
          go_wp2_with fail
          refine HI.out.mono ?_
          rintro e w6 ⟨rfl, rfl⟩
          go_wp2_with (at_builtin; refine wpList_push rfl _ _ 22 3 rfl (.int .i64 0) 8 Tryz.underlying22 infoInt rfl U.heap.size aq out.length cq _ rfl (hop.alloc _) ⟨w6.heap.size, 0, none⟩ 1 (.int .i64 x) rfl hcn rfl (by omega) (by unfold maxLen; omega) (by simp; omega) ?_; intro a5 c5 w5 hown5 hgr5 hap5)
          go_roundw
          case rel =>
            have hb5 : Below U.heap.size U w5 := Below.app (Below.trans hbr (hbn.mono hszV)) (hop.alloc _) hgr5 (Nat.le_refl _) (Nat.le_trans hszV hbn.size)
            exact ⟨k + 1, a5, c5, out ++ [x], by omega, by go_num, by simp, Hst.out, by simp; omega, by simpa using hown5, hb5⟩
          case measure => simp [intOf] <;> omega
      · have d1 : decide ((ns : Int) < (C.W : Int)) = false := by simp; omega
        have Ho : Hid (K = out) := by show _ = _; rw [hst.out, if_neg (by rw [Hsl.out]; exact hW), List.append_nil]
        have hop2 := own_mono hop hbU.size
        have hF := Below.next hbU hbr
        go_wp2_with fail
        go_ret
        exact ⟨aq, cq, by rw [Ho.out]; rfl, by rw [Ho.out]; exact hop2, hF⟩
    · obtain rfl : k = nt := by omega
      have Ho : Hid (K = out) := by
        show _ = _
        rw [hst.out, List.drop_of_length_le (by rw [Htl.out]; exact Nat.le_refl _)]
        split <;> simp
      have hop2 := own_mono hop hbU.size
      have hF := Below.next hbU hbr
      go_wp2_with fail
      go_ret
      exact ⟨aq, cq, by rw [Ho.out]; rfl, by rw [Ho.out]; exact hop2, hF⟩
end

/- The walk of right of the reference's exclusion, for rank claims. -/
section
open Go.RowKit

set_option maxRecDepth 100000 in
set_option maxHeartbeats 3200000 in
theorem rRight26_any (P M : Int) (am : Option Addr) (mn cm : Nat) (mod : List Int) (m : Nat) (a : Option Addr) (n c : Nat) (L : List (List Int)) (ay : Option Addr) (ny cy : Nat) (C : Clm) (sa : Option Addr) (ns cs : Nat) (s : List Int) (at' : Option Addr) (nt ct : Nat) (t : List Int) (w : World)
    (hmod : Ints w am mn mod) (hi : Mat w a n L) (hE : codeE P M mod m L = 0) (hc : C.cos = false) (hs : Ints w sa ns s) (ht : Ints w at' nt t) :
    Calls Tryz.prog 103 #[rclV P M am mn cm m a n c ay ny cy C, .slice sa ns cs, .slice at' nt ct] w fun e w' => e = .returned (.bool (rightS (tblOf P M.toNat mod).ops L m C s t)) ∧ Below w.heap.size w w' := by
  have Htl := Lib.hid ht.len
  have hplt := ht.pl
  have hmax := ht.max
  unfold maxLen at hmax
  obtain ⟨RS, hRS⟩ : ∃ RS, rightS (tblOf P M.toNat mod).ops L m C s t = RS := ⟨_, rfl⟩
  rw [hRS]
  have HRS : Hid (RS = (setOk m s t && (decide ((grS (tblOf P M.toNat mod).ops L t).length = t.length) && decide (t.length = C.M)))) := by
    show _ = _
    rw [← hRS, rightS, hc]
    simp only [Bool.false_eq_true, if_false]
  have Hm := Lib.hid (codeE_rws hE)
  unfold rclV
  rw [hc]
  clear hRS hc
  go_enter Tryz.func103, Tryz.ntmps103
  go_wp2_with fail
  obtain ⟨U, hU⟩ : ∃ U : World, U = w.alloc (.cells #[.int .i64 P, .int .i64 M, .slice am mn cm, .int .i64 m, .slice a n c, .int .i64 C.M, .int .i64 C.W, .slice ay ny cy, .bool false] 89) := ⟨_, rfl⟩
  rw [← hU]
  have hbU : Below w.heap.size w U := by rw [hU]; exact below1 _ _
  have x0 : Box U w.heap.size [.int .i64 P, .int .i64 M, .slice am mn cm, .int .i64 m, .slice a n c, .int .i64 C.M, .int .i64 C.W, .slice ay ny cy, .bool false] := by rw [hU]; exact Box.new _ _ _ rfl
  have HS : Hid (∀ V, Below U.heap.size U V → V.cell? ⟨w.heap.size, 0, none⟩ = some (.int .i64 P) ∧ V.cell? ⟨w.heap.size, 1, none⟩ = some (.int .i64 M) ∧ V.cell? ⟨w.heap.size, 2, none⟩ = some (.slice am mn cm) ∧ V.cell? ⟨w.heap.size, 3, none⟩ = some (.int .i64 m) ∧ V.cell? ⟨w.heap.size, 4, none⟩ = some (.slice a n c) ∧
      V.cell? ⟨w.heap.size, 5, none⟩ = some (.int .i64 C.M) ∧ V.cell? ⟨w.heap.size, 8, none⟩ = some (.bool false)) := fun V hV => by
    have x1 := x0.keep hV
    exact ⟨x1.cell 0 rfl, x1.cell 1 rfl, x1.cell 2 rfl, x1.cell 3 rfl, x1.cell 4 rfl, x1.cell 5 rfl, x1.cell 8 rfl⟩
  clear hU x0
  refine (rising_any m at' nt ct t U (ht.keep hbU)).mono ?_
  rintro e w1 ⟨rfl, hd1⟩
  have hb1 : Below U.heap.size U w1 := hd1.below
  have hbw1 := Below.next hbU hb1
  obtain ⟨zo, hzo⟩ : ∃ zo, okSet m t = zo := ⟨_, rfl⟩
  rw [hzo]
  cases zo
  · have HF : Hid (RS = false) := by show _ = _; rw [HRS.out, setOk, hzo]; rfl
    clear hzo
    go_wp2_with fail
    go_ret
    exact ⟨by rw [HF.out]; rfl, hbw1⟩
  have Hok := Lib.hid hzo
  clear hzo
  have ht1 := ht.keep hbw1
  have hs1 := hs.keep hbw1
  go_wp2_with fail
  go_loop [7] (fun iv => ∃ k : Nat, k ≤ nt ∧ iv = .int .i64 k ∧ Hid (∀ j, j < k → ¬ nth t j ∈ s)) (fun iv => nt - (intOf iv).toNat)
  case atStart => exact ⟨0, Nat.zero_le _, rfl, fun j hj => by omega⟩
  case round =>
    obtain ⟨k, hk, rfl, hno⟩ := hrel
    generalize w1 = wr at *
    by_cases hlt : k < nt
    · have ck := ht1.cell k hlt
      have HI := Lib.hid (rIn26_any sa ns cs s (nth t k) wr hs1)
      by_cases hm1 : nth t k ∈ s
      · have hmd : decide (nth t k ∈ s) = true := by simpa using hm1
        rw [hmd] at HI
        have HF : Hid (RS = false) := by
          show _ = _
          have h1 : t.all (fun x => decide (¬ x ∈ s)) = false := by
            rw [List.all_eq_false]
            exact ⟨nth t k, nth_mem (by rw [Htl.out]; exact hlt), by simpa using hm1⟩
          rw [HRS.out, setOk, h1, Bool.and_false]; rfl
        clear hm1 hmd
        go_wp2_with fail
        refine HI.out.mono ?_
        rintro e w6 ⟨rfl, rfl⟩
        go_wp2_with fail
        go_ret
        exact ⟨by rw [HF.out]; rfl, hbw1⟩
      · have hmd : decide (nth t k ∈ s) = false := by simpa using hm1
        rw [hmd] at HI
        have Hno2 : Hid (∀ j, j < k + 1 → ¬ nth t j ∈ s) := fun j hj => by
          by_cases e : j = k
          · rw [e]; exact hm1
          · exact hno.out j (by omega)
        clear hm1 hmd hno
        go_wp2_with fail
        refine HI.out.mono ?_
        rintro e w6 ⟨rfl, rfl⟩
        go_wp2_with fail
        go_round
        case rel => exact ⟨k + 1, by omega, by go_num, Hno2.out⟩
        case measure => simp [intOf] <;> omega
    · have hkn : k = nt := by omega
      subst hkn
      have hset : setOk m s t = true := by
        rw [setOk, Hok.out, Bool.true_and, List.all_eq_true]
        intro x hx
        obtain ⟨j, hj, rfl⟩ := List.mem_iff_getElem.1 hx
        have h1 := hno.out j (by rw [← Htl.out]; exact hj)
        rw [nth_getElem hj] at h1
        simpa using h1
      obtain ⟨m', hm', hm1, hm2, _, _⟩ := Hm.out
      have hklen : k ≤ 64 := by
        have h1 := okSet_len Hok.out (by omega)
        rw [Htl.out] at h1
        omega
      have HO := Lib.hid (rOf25_any P M am mn cm mod m a n c L at' k ct t wr (hmod.keep hbw1) (hi.keep hbw1) ht1 hE (set_in Hok.out) (by omega))
      have HR2 : Hid (RS = (decide ((grS (tblOf P M.toNat mod).ops L t).length = k) && decide (k = C.M))) := by show _ = _; rw [HRS.out, hset, Bool.true_and, Htl.out]
      obtain ⟨r1, hr1⟩ : ∃ r1, (grS (tblOf P M.toNat mod).ops L t).length = r1 := ⟨_, rfl⟩
      rw [hr1] at HO HR2
      obtain ⟨c0, c1, c2, c3, c4, c5, c8⟩ := HS.out wr hb1
      clear hset hr1 hm' hm1 hm2
      go_wp2_with fail
      refine HO.out.mono ?_
      rintro e w2 ⟨rfl, hb2⟩
      have hb12 := Below.next hb1 hb2
      have hbF := Below.next hbU hb12
      clear c0 c1 c2 c3 c4 c5 c8
      obtain ⟨c0, c1, c2, c3, c4, c5, c8⟩ := HS.out w2 hb12
      by_cases hrr : r1 = k
      · have hne : ((r1 : Int) != k) = false := by simp [hrr]
        by_cases hM : k = C.M
        · have HF : Hid (RS = true) := by show _ = _; rw [HR2.out, decide_eq_true hrr, decide_eq_true hM]; rfl
          have hd : ((k : Int) == C.M) = true := by simp [hM]
          clear hrr hM
          go_wp2_with fail
          go_ret
          exact ⟨by rw [HF.out]; rfl, hbF⟩
        · have HF : Hid (RS = false) := by show _ = _; rw [HR2.out, decide_eq_false hM, Bool.and_false]
          have hd : ((k : Int) == C.M) = false := by simp; omega
          clear hrr hM
          go_wp2_with fail
          go_ret
          exact ⟨by rw [HF.out]; rfl, hbF⟩
      · have HF : Hid (RS = false) := by show _ = _; rw [HR2.out, decide_eq_false hrr]; rfl
        have hne : ((r1 : Int) != k) = true := by simp; omega
        clear hrr
        go_wp2_with fail
        go_ret
        exact ⟨by rw [HF.out]; rfl, hbF⟩
end

end Go.Proofs.YtapjcccpokhhhaaGreat
