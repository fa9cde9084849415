/- Plain: the shapes in light of the package exclusion. -/
import Derived.Test.YtapjcccpokhhhaaGreatG19
import Derived.Test.YtapjcccpokhhhaaGreatG20
import Derived.Test.YtapjcccpokhhhaaGreatG16
import Derived.Test.YtapjcccpokhhhaaGreatG6
import Derived.Test.YtapjcccpokhhhaaGreatG7
namespace Go.Proofs.YtapjcccpokhhhaaGreat
set_option linter.unusedVariables false
set_option linter.unusedSimpArgs false
set_option linter.unusedSectionVars false

/- The walk of outside of the package exclusion. -/
section
open Go.RowKit

theorem frTo_step (U : List Int) (k : Nat) : frTo false U (k + 1) = if decide ((k : Int) ∈ U) = false then frTo false U k ++ [(k : Int)] else frTo false U k := rfl

set_option maxRecDepth 100000 in
set_option maxHeartbeats 4000000 in
theorem exOutside_any (pb m : Nat) (sa : Option Addr) (ns cs : Nat) (s : List Int) (az : Option Addr) (nz cz : Nat) (z : List Int) (w : World) (p4 : w.cell? ⟨pb, 4, none⟩ = some (.int .i64 m)) (hs : Ints w sa ns s) (hz : Ints w az nz z)
    (hnz : nz ≤ 1000000) (hm : m ≤ 1000) :
    Calls Tryz.prog 155 #[.pointer (some ⟨pb, 0, none⟩), .slice sa ns cs, .slice az nz cz] w (NewInts w (outS m s z)) := by
  have Hzl := Lib.hid hz.len
  have HP := Lib.hid (fun (V : World) (hV : Below w.heap.size w V) => cell_keep hV p4)
  go_enter Tryz.func155, Tryz.ntmps155
  go_wp2_with fail
  refine (values_any az nz cz w).mono ?_
  rintro e w1 ⟨rfl, rfl⟩
  have hb1 : Below w.heap.size w (w.alloc (.cells #[.slice az nz cz] 22)) := below1 _ _
  have HSo := Lib.hid (sorted_any w.heap.size az nz cz z hnz (w.alloc (.cells #[.slice az nz cz] 22)) (by simp) (cell_alloc_at _ _ _ rfl 0) (hz.keep hb1))
  have hsz1 : w.heap.size ≤ (w.alloc (.cells #[.slice az nz cz] 22)).heap.size := hb1.size
  generalize w.alloc (.cells #[.slice az nz cz] 22) = w1 at *
  go_wp2_with fail
  refine HSo.out.mono ?_
  rintro e w2 ⟨a2, c2, rfl, hown2, hb2⟩
  have hbw2 := Below.next hb1 hb2
  have p4' := HP.out w2 hbw2
  have hO2 : w2.ownsRow w.heap.size 3 1 (.slice a2 nz c2) nz ((sortL z).map (Value.int .i64)) := own_mono hown2 hsz1
  clear hown2 p4
  go_wp2_with fail
  go_loopw [7, 17] (fun qv iv wr => ∃ (k : Nat) (aq : Option Addr) (cq : Nat) (out : List Int), k ≤ m ∧ iv = .int .i64 k ∧ qv = .slice aq out.length cq ∧ Hid (out = sortL z ++ frTo false (s ++ z) k) ∧ Hid (out.length ≤ nz + k) ∧
      wr.ownsRow w.heap.size 3 1 (.slice aq out.length cq) out.length (out.map (Value.int .i64)) ∧ Below w.heap.size w wr)
    (fun _ iv _ => m - (intOf iv).toNat)
  case atStart =>
    refine ⟨0, a2, c2, sortL z, Nat.zero_le _, rfl, ?_, ?_, ?_, ?_, hbw2⟩
    · rw [sortL_len, Hzl.out]
    · show _ = _; simp [frTo]
    · show _ ≤ _; rw [sortL_len, Hzl.out]; omega
    · rw [sortL_len, Hzl.out]; exact hO2
  case round =>
    obtain ⟨k, aq, cq, out, hk, rfl, rfl, hst, hln, hop, hbr⟩ := hrel
    generalize wr = U at *
    by_cases hlt : k < m
    · have hsU := hs.keep hbr
      have hzU := hz.keep hbr
      have hlen := hln.out
      have Hskip : Hid (((k : Int) ∈ s ++ z) → out = sortL z ++ frTo false (s ++ z) (k + 1)) := fun hmem => by
        rw [frTo_step, if_neg (by rw [decide_eq_true hmem]; decide)]; exact hst.out
      have Htake : Hid (¬ ((k : Int) ∈ s ++ z) → out ++ [(k : Int)] = sortL z ++ frTo false (s ++ z) (k + 1)) := fun hmem => by
        rw [frTo_step, if_pos (by rw [decide_eq_false hmem]), ← List.append_assoc, ← hst.out]
      by_cases h1 : (k : Int) ∈ s
      · have hmd : decide ((k : Int) ∈ s) = true := by simpa using h1
        have HcA := Lib.hid (contains_any sa ns cs s k U hsU)
        rw [hmd] at HcA
        have Hst : Hid (out = sortL z ++ frTo false (s ++ z) (k + 1)) := Hskip.out (List.mem_append.2 (.inl h1))
        clear h1 hmd
        go_wp2_with fail
        refine HcA.out.mono ?_
        rintro e w6 ⟨rfl, rfl⟩
        go_wp2_with fail
        go_roundw
        case rel => exact ⟨k + 1, aq, cq, out, by omega, by go_num, rfl, Hst.out, (show _ ≤ _ by omega), hop, hbr⟩
        case measure => simp [intOf] <;> omega
      · have hmd : decide ((k : Int) ∈ s) = false := by simpa using h1
        have HcA := Lib.hid (contains_any sa ns cs s k U hsU)
        rw [hmd] at HcA
        by_cases h2 : (k : Int) ∈ z
        · have hmd2 : decide ((k : Int) ∈ z) = true := by simpa using h2
          have HcB := Lib.hid (contains_any az nz cz z k U hzU)
          rw [hmd2] at HcB
          have Hst : Hid (out = sortL z ++ frTo false (s ++ z) (k + 1)) := Hskip.out (List.mem_append.2 (.inr h2))
          clear h1 hmd h2 hmd2
          go_wp2_with fail
          refine HcA.out.mono ?_
          rintro e w6 ⟨rfl, rfl⟩
          go_wp2_with fail
          refine HcB.out.mono ?_
          rintro e w7 ⟨rfl, rfl⟩
          go_wp2_with fail
          go_roundw
          case rel => exact ⟨k + 1, aq, cq, out, by omega, by go_num, rfl, Hst.out, (show _ ≤ _ by omega), hop, hbr⟩
          case measure => simp [intOf] <;> omega
        · have hmd2 : decide ((k : Int) ∈ z) = false := by simpa using h2
          have HcB := Lib.hid (contains_any az nz cz z k U hzU)
          rw [hmd2] at HcB
          have Hst : Hid (out ++ [(k : Int)] = sortL z ++ frTo false (s ++ z) (k + 1)) := Htake.out fun h => by
            rcases List.mem_append.1 h with h | h
            · exact h1 h
            · exact h2 h
          have hcn := cell_new U (.int .i64 k) 3
          have hbn := below1 U (.cells #[.int .i64 k] 3)
          have hszU := hbr.size
          clear h1 hmd h2 hmd2
          go_wp2_with fail
          refine HcA.out.mono ?_
          rintro e w6 ⟨rfl, rfl⟩
          go_wp2_with fail
          refine HcB.out.mono ?_
          rintro e w7 ⟨rfl, rfl⟩
          go_wp2_with (at_builtin; refine wpList_push rfl _ _ 22 3 rfl (.int .i64 0) 8 Tryz.underlying22 infoInt rfl w.heap.size aq out.length cq _ rfl (hop.alloc _) ⟨w7.heap.size, 0, none⟩ 1 (.int .i64 k) rfl hcn rfl (by omega) (by unfold maxLen; omega) (by simp; omega) ?_; intro a5 c5 w5 hown5 hgr5 hap5)
          go_roundw
          case rel =>
            have hb5 : Below w.heap.size w w5 := Below.app (Below.trans hbr (hbn.mono hszU)) (hop.alloc _) hgr5 (Nat.le_refl _) (Nat.le_trans hszU hbn.size)
            refine ⟨k + 1, a5, c5, out ++ [(k : Int)], by omega, by go_num, by simp, Hst.out, (show _ ≤ _ by rw [List.length_append, List.length_singleton]; omega), ?_, hb5⟩
            simpa using hown5
          case measure => simp [intOf] <;> omega
    · obtain rfl : k = m := by omega
      have Ho : Hid (outS k s z = out) := by show _ = _; rw [outS, hst.out]
      go_wp2_with fail
      go_ret
      exact ⟨aq, cq, by rw [Ho.out]; rfl, by rw [Ho.out]; exact hop, hbr⟩
end

/- Plain: what a followed tree proves; that a built tree is followed. -/
section
theorem nodup_sub_len : ∀ {s T : List Int}, s.Nodup → (∀ x ∈ s, x ∈ T) → s.length ≤ T.length
  | [], _, _, _ => Nat.zero_le _
  | x :: s, T, hn, h => by
    have hx : x ∈ T := h x (by simp)
    have hn' := List.nodup_cons.1 hn
    have h1 : ∀ y ∈ s, y ∈ T.erase x := fun y hy => (List.mem_erase_of_ne (fun (e : y = x) => hn'.1 (by rw [← e]; exact hy))).2 (h y (by simp [hy]))
    have h2 := nodup_sub_len hn'.2 h1
    rw [List.length_erase_of_mem hx] at h2
    have : 0 < T.length := List.length_pos_of_mem hx
    simp only [List.length_cons]
    omega
theorem nodup_full {s T : List Int} (hn : s.Nodup) (h : ∀ x ∈ s, x ∈ T) (hl : T.length ≤ s.length) {x : Int} (hx : x ∈ T) : x ∈ s := by
  refine Classical.byContradiction fun hc => ?_
  have := nodup_sub_len (s := x :: s) (T := T) (List.nodup_cons.2 ⟨hc, hn⟩) fun y hy => by
    rcases List.mem_cons.1 hy with rfl | hy
    · exact hx
    · exact h y hy
  simp at this; omega

theorem kfol_node {F : List Int → List Int → List (List Int) → Option (List (List Int))} {s T : List Int} : ∀ (ks z : List Int) (ts rest : List (List Int)), kfol F s z ks ts = some rest → (∀ x ∈ z, ¬ x ∈ T) → (∃ x ∈ ks, x ∈ T) →
    ∃ k z' ts' rest', k ∈ ks ∧ k ∈ T ∧ (∀ x ∈ z', ¬ x ∈ T) ∧ F (s ++ [k]) z' ts' = some rest'
  | [], _, _, _, _, _, h => by obtain ⟨x, hx, _⟩ := h; simp at hx
  | k :: ks, z, ts, rest, h, hz, hk => by
    rw [kfol] at h
    cases hF : F (s ++ [k]) z ts with
    | none => rw [hF] at h; cases h
    | some ts' =>
      rw [hF] at h
      by_cases hkT : k ∈ T
      · exact ⟨k, z, ts, ts', by simp, hkT, hz, hF⟩
      · obtain ⟨k', z', ts'', rest', h1, h2, h3, h4⟩ := kfol_node ks (z ++ [k]) ts' rest h (fun x hx => by
          rcases List.mem_append.1 hx with hx | hx
          · exact hz x hx
          · rw [List.mem_singleton.1 hx]; exact hkT) (by
          obtain ⟨x, hx, hxT⟩ := hk
          rcases List.mem_cons.1 hx with rfl | hx
          · exact absurd hxT hkT
          · exact ⟨x, hx, hxT⟩)
        exact ⟨k', z', ts'', rest', List.mem_cons_of_mem _ h1, h2, h3, h4⟩

variable {O : FOps} {L : List (List Int)} {m : Nat} {C : Clm}

/-- a followed tree has, for each set of at most W positions, a right node whose set misses it -/
theorem fol_node : ∀ (d : Nat) (s z : List Int) (ts rest : List (List Int)), s.length + d = C.W → s.Nodup → folS O L m C d s z ts = some rest → ∀ T : List Int, T.length ≤ C.W → (∀ x ∈ s, x ∈ T) → (∀ x ∈ z, ¬ x ∈ T) →
    ∃ s' t, rightS O L m C s' t = true ∧ s'.Nodup ∧ (∀ x ∈ s', x ∈ T) ∧ ∀ x ∈ t, ¬ x ∈ T
  | 0, s, z, ts, rest, hd, hn, h, T, hT, hs, hz => by
    match ts with
    | [] => simp [folS] at h
    | t :: ts =>
      rw [folS] at h
      by_cases hr : rightS O L m C s t = true
      · exact ⟨s, t, hr, hn, hs, fun x hx hxT => (right_ok hr).2 x hx (nodup_full hn hs (by omega) hxT)⟩
      · rw [if_neg hr] at h; cases h
  | d + 1, s, z, ts, rest, hd, hn, h, T, hT, hs, hz => by
    match ts with
    | [] => simp [folS] at h
    | t :: ts =>
      rw [folS] at h
      by_cases hr : rightS O L m C s t = true
      · rw [if_pos hr] at h
        by_cases ht : ∃ x ∈ t, x ∈ T
        · obtain ⟨x, hx, hxT⟩ := ht
          have hxk : x ∈ kidsS C s z t := by
            unfold kidsS
            rw [if_pos (by omega), List.mem_filter]
            exact ⟨hx, by simpa using fun hxz => hz x hxz hxT⟩
          obtain ⟨k, z', ts', rest', h1, h2, h3, h4⟩ := kfol_node _ _ _ _ h hz ⟨x, hxk, hxT⟩
          have hks := (right_ok hr).2 k (kids_mem h1).1
          refine fol_node d (s ++ [k]) z' ts' rest' (by simp; omega) ?_ h4 T hT ?_ h3
          · rw [List.nodup_append]
            exact ⟨hn, by simp, fun a ha b hb e => hks (by rw [List.mem_singleton.1 hb] at e; exact e ▸ ha)⟩
          · intro y hy
            rcases List.mem_append.1 hy with hy | hy
            · exact hs y hy
            · rw [List.mem_singleton.1 hy]; exact h2
        · exact ⟨s, t, hr, hn, hs, fun x hx hxT => ht ⟨x, hx, hxT⟩⟩
      · rw [if_neg hr] at h; cases h

theorem prov_node {ts : List (List Int)} (h : provS O L m C ts = 0) (T : List Int) (hT : T.length ≤ C.W) : ∃ s' t, rightS O L m C s' t = true ∧ s'.Nodup ∧ (∀ x ∈ s', x ∈ T) ∧ ∀ x ∈ t, ¬ x ∈ T := by
  unfold provS at h
  split at h
  · rename_i hf
    exact fol_node C.W [] [] ts [] (by simp) (by simp) hf T hT (fun x hx => by simp at hx) fun x hx => by simp at hx
  · cases h

/-! ### a built tree is followed -/
end

/- The first entry with a property; slices.Index. -/
section
open Go.RowKit
end

/- The walks of infoset.Is, is. -/
section
open Go.RowKit
end

/- The walk of infoset.Exchange. -/
section
open Go.RowKit

theorem InNs.set {m : Nat} {A : List Int} (hA : ∀ k, k < A.length → 0 ≤ nth A k ∧ nth A k < m) {t : Nat} (ht : t < A.length) {j : Int} (hj : 0 ≤ j ∧ j < m) : ∀ k, k < A.length → 0 ≤ nth (A.set t j) k ∧ nth (A.set t j) k < m := fun k hk => by
  rw [nth_set _ _ _ _ ht]
  split
  · exact hj
  · exact hA k hk
end

/- The family of a code by the reference's rounds, and exchanges by sorted sets (plain laws). -/
section
theorem frTo_pair (b : Bool) (U : List Int) : ∀ k, (frTo b U k).Pairwise (fun x y => x < y)
  | 0 => List.Pairwise.nil
  | k + 1 => by
    have ih := frTo_pair b U k
    rw [frTo]
    split
    · rw [List.pairwise_append]
      refine ⟨ih, by simp, fun x hx y hy => ?_⟩
      rw [List.mem_singleton] at hy
      obtain ⟨j, hj, rfl, _⟩ := (mem_frTo k).1 hx
      omega
    · exact ih
/-- the used ones, sorted -/
theorem used_sort {m : Nat} {U : List Int} (hn : U.Nodup) (hU : ∀ x ∈ U, 0 ≤ x ∧ x < (m : Int)) : sortL U = frTo true U m := by
  have h := frTo_pair true U m
  refine (sortL_unique (h.imp fun h => by omega) ((List.perm_ext_iff_of_nodup (h.imp fun h => by omega) hn).2 fun x => ?_)).symm
  rw [mem_frTo]
  constructor
  · rintro ⟨j, _, rfl, h1⟩; simpa using h1
  · intro hx
    have h1 := hU x hx
    exact ⟨x.toNat, by omega, by omega, by rw [show ((x.toNat : Nat) : Int) = x by omega]; simpa using hx⟩
theorem used_len {m : Nat} {U : List Int} (hn : U.Nodup) (hU : ∀ x ∈ U, 0 ≤ x ∧ x < (m : Int)) : U.length ≤ m := by
  rw [← sortL_len, used_sort hn hU]; exact frTo_len _ _ _
theorem okSet_nodup {N : Int} {A : List Int} (h : okSet N A = true) : A.Nodup := by
  refine nth_inj_nodup fun i j hij hj => ?_
  have key : ∀ d i, i + d < A.length → 0 < d → nth A i < nth A (i + d) := fun d => by
    induction d with
    | zero => intro i _ h0; omega
    | succ d ih =>
      intro i hi _
      have h1 := (okSet_at h hi).2.2 (by omega)
      rw [show i + (d + 1) - 1 = i + d by omega] at h1
      by_cases h0 : d = 0
      · subst h0; exact h1
      · have := ih i (by omega) (by omega); omega
  have := key (j - i) i (by omega) (by omega)
  rw [show i + (j - i) = j by omega] at this
  omega
section
variable {O : FOps} {El : Int → Prop} {m : Nat} {L : List (List Int)}
end
end

/- Plain: how many nodes a canonical tree has; when it is built. -/
section
variable {O : FOps} {El : Int → Prop} {m : Nat} {L : List (List Int)}

/-! ### ranks of lists -/
theorem rkQ_snoc_le (F : Fld O El) (hL : Rws El m L) (Q : List Int) (x : Int) : rkQ O L (Q ++ [x]) ≤ rkQ O L Q + 1 := by
  have h1 := rkQ_rk F hL (Q ++ [x])
  rw [gA_snoc] at h1
  have h2 := rkQ_rk F hL Q
  generalize rkQ O L (Q ++ [x]) = n at *
  cases h1 with
  | dep _ _ h => rw [h2.uniq h]; omega
  | ind _ _ h => rw [h2.uniq h]; omega
theorem rkQ_app_le (F : Fld O El) (hL : Rws El m L) (Q : List Int) : ∀ (n : Nat) (A : List Int), A.length = n → rkQ O L (Q ++ A) ≤ rkQ O L Q + n
  | 0, A, h => by rw [List.eq_nil_of_length_eq_zero h, List.append_nil]; omega
  | n + 1, A, h => by
    have hA : A ≠ [] := fun e => by rw [e] at h; simp at h
    obtain ⟨A', x, rfl⟩ : ∃ A' x, A = A' ++ [x] := ⟨A.dropLast, A.getLast hA, (List.dropLast_concat_getLast hA).symm⟩
    have ih := rkQ_app_le F hL Q n A' (by simpa using h)
    have h1 := rkQ_snoc_le F hL (Q ++ A') x
    rw [List.append_assoc] at h1
    omega
theorem rkQ_le (O : FOps) (L : List (List Int)) (Q : List Int) : rkQ O L Q ≤ Q.length := grS_le O L Q
theorem ind_left (F : Fld O El) (hL : Rws El m L) {Q A : List Int} (h : rkQ O L (Q ++ A) = (Q ++ A).length) : rkQ O L Q = Q.length := by
  have h1 := rkQ_app_le F hL Q _ A rfl
  have h2 := rkQ_le O L Q
  rw [List.length_append] at h
  omega
theorem rkQ_mono (F : Fld O El) (hL : Rws El m L) {Q Q' : List Int} (h : ∀ x ∈ Q, x ∈ Q') : rkQ O L Q ≤ rkQ O L Q' :=
  rkQ_span F hL fun x hx => by
    obtain ⟨y, hy, e⟩ := mem_gA.1 hx
    exact (col_clo F hL).mem _ _ (mem_gA.2 ⟨y, h y hy, e⟩)
variable {C : Clm}
def sizK (O : FOps) (L : List (List Int)) (m : Nat) (C : Clm) (s : List Int) : Nat := if C.cos = true then rkQ O L (frTo false s m) else C.M
structure NodeOk (O : FOps) (L : List (List Int)) (m : Nat) (C : Clm) (s z : List Int) : Prop where
  sn : s.Nodup
  sb : ∀ x ∈ s, 0 ≤ x ∧ x < (m : Int)
  zn : z.Nodup
  zb : ∀ x ∈ z, 0 ≤ x ∧ x < (m : Int)
  sz : ∀ x ∈ z, ¬ x ∈ s
  zi : rkQ O L z = z.length
  zk : ¬ C.cos = true → z.length ≤ C.M
theorem NodeOk.root : NodeOk O L m C [] [] := ⟨by simp, fun x hx => by simp at hx, by simp, fun x hx => by simp at hx, fun x hx => by simp at hx, rfl, fun _ => Nat.zero_le _⟩
theorem right_len {s t : List Int} (h : rightS O L m C s t = true) : t.length = sizK O L m C s ∧ rkQ O L t = t.length := by
  unfold rightS at h
  rw [Bool.and_eq_true, Bool.and_eq_true, decide_eq_true_eq] at h
  refine ⟨?_, h.2.1⟩
  have h2 := h.2.2
  unfold sizK
  split
  · rename_i hc
    rw [if_pos hc, Bool.and_eq_true, decide_eq_true_eq] at h2
    exact h2.1.symm
  · rename_i hc
    rw [if_neg hc, decide_eq_true_eq] at h2
    exact h2
theorem out_nodup {s z : List Int} (hz : z.Nodup) : (outS m s z).Nodup := by
  unfold outS
  rw [List.nodup_append]
  refine ⟨(sortL_perm z).nodup_iff.2 hz, (frTo_pair false (s ++ z) m).imp fun h => by omega, fun a ha b hb e => ?_⟩
  obtain ⟨j, hj, rfl, hd⟩ := (mem_frTo m).1 hb
  have hn : ¬ (j : Int) ∈ s ++ z := by simpa using hd
  exact hn (List.mem_append.2 (.inr ((sortL_perm z).mem_iff.1 (e ▸ ha))))
theorem cset_mem {s z : List Int} {x : Int} : x ∈ csetS O L m C s z ↔ x ∈ grM O L (outS m s z) (if C.cos = true then m else C.M) := (sortL_perm _).mem_iff
theorem cset_nodup {s z : List Int} (hz : z.Nodup) : (csetS O L m C s z).Nodup := by
  unfold csetS
  refine (sortL_perm _).nodup_iff.2 ?_
  unfold grM
  refine List.Nodup.sublist (List.take_sublist _ _) ?_
  exact gr_nodup (out_nodup hz)
where gr_nodup {Q : List Int} (hQ : Q.Nodup) : (grS O L Q).Nodup := List.Nodup.sublist (gr_sub Q Q.length (Nat.le_refl _)) (by rw [List.take_length]; exact hQ)
      gr_sub (Q : List Int) : ∀ k, k ≤ Q.length → ((grTo O L Q k).2).Sublist (Q.take k)
  | 0, _ => by simp [grTo]
  | k + 1, h => by
    have ih := gr_sub Q k (by omega)
    rw [grTo, List.take_succ_eq_append_getElem (by omega)]
    split
    · rw [nth_getElem (show k < Q.length by omega)]; exact ih.append (List.Sublist.refl _)
    · exact ih.trans (List.sublist_append_left _ _)
end

/- The cells of a proof of the package exclusion; what a claim's memory holds. -/
section
open Go.RowKit

/-- the cells of a proof -/
def prfL (b : Nat) (P M : Int) (am : Option Addr) (mn cm : Nat) (m : Nat) (a : Option Addr) (n c : Nat) (ay : Option Addr) (ny cy : Nat) (C : Clm) (sv : Value) (k : Nat) : List Value :=
  [.pointer (some ⟨b, 0, none⟩), .int .i64 P, .int .i64 M, .slice am mn cm, .int .i64 m, .slice a n c, .slice ay ny cy, .bool C.cos, .int .i64 C.M, .int .i64 C.W, sv, .int .i64 k]
structure PEnv (w0 : World) (b : Nat) (G : Tbl) (a : Option Addr) (n : Nat) (L : List (List Int)) (m : Nat) (ay : Option Addr) (ny : Nat) (C : Clm) : Prop where
  g : GFw w0 b G
  mat : Mat w0 a n L
  rws : Rws G.El m L
  n6 : n ≤ 1000000
  m6 : m ≤ 64
  w6 : C.W ≤ 64
  yl : C.cos = true → ny = m
  y : C.cos = true → Ints w0 ay m C.y
  ye : C.cos = true → G.Els C.y
theorem outS_nil (m : Nat) (s : List Int) : outS m s [] = frTo false s m := by
  unfold outS
  rw [List.append_nil, show sortL [] = [] by unfold sortL; simp]
  rfl
theorem Box.setCell {w : World} {b : Nat} {cs : List Value} (h : Box w b cs) (i : Nat) (v : Value) : Box (w.setCell ⟨b, i, none⟩ v) b (cs.set i v) := by
  refine ⟨by simpa using h.1, fun j u hu => ?_, fun j => by rw [World.frozen?_setCell]; exact h.2.2 j⟩
  by_cases e : j = i
  · subst e
    by_cases hl : j < cs.length
    · rw [List.getElem?_set_self hl] at hu
      cases hu
      exact World.cell?_setCell_same _ _ _ (h.2.1 j cs[j] (List.getElem?_eq_getElem hl))
    · rw [List.set_eq_of_length_le (by omega), List.getElem?_eq_none (by omega)] at hu
      cases hu
  · rw [List.getElem?_set_ne (by omega)] at hu
    rw [World.cell?_setCell_other _ _ _ _ (by simp <;> omega)]
    exact h.2.1 j u hu
/-- an index of a right set -/
theorem okSet_rng {m : Nat} {t : List Int} (h : okSet m t = true) : ∀ k, k < t.length → 0 ≤ nth t k ∧ nth t k < m := fun _ hk => ⟨(okSet_at h hk).1, (okSet_at h hk).2.1⟩
end

/- The walk of clear of the package exclusion. -/
section
open Go.RowKit

theorem clrS_length (O : FOps) (v : List Int) (i : Nat) (r : List Int) (h : r.length = v.length) : (clrS O v i r).length = v.length := by
  unfold clrS; split <;> simp [h]
theorem nth_clrS (O : FOps) (v : List Int) (i : Nat) (r : List Int) (j : Nat) (h : r.length = v.length) (hj : j < v.length) (h0 : nth v i ≠ 0) :
    nth (clrS O v i r) j = if nth r j = 0 then nth v j else O.add (nth v j) (O.neg (O.mul (nth v i) (nth r j))) := by
  unfold clrS
  rw [if_neg h0, nth_getElem (show j < _ by simp [h]; omega), nth_getElem hj, nth_getElem (show j < r.length by omega)]
  simp
theorem clrS_el {O : FOps} {El : Int → Prop} (hO : FCl O El) {v r : List Int} {i : Nat} (hv : ∀ x ∈ v, El x) (hr : ∀ x ∈ r, El x) (hl : r.length = v.length) (hi : i < v.length) : ∀ x ∈ clrS O v i r, El x := by
  intro x hx
  by_cases h0 : nth v i = 0
  · unfold clrS at hx; rw [if_pos h0] at hx; exact hv x hx
  · obtain ⟨j, hj, rfl⟩ := List.mem_iff_getElem.1 hx
    rw [clrS_length O v i r hl] at hj
    have h1 := nth_clrS O v i r j hl hj h0
    rw [nth_getElem (show j < (clrS O v i r).length by rw [clrS_length O v i r hl]; exact hj)] at h1
    rw [h1]
    have e1 : El (nth v j) := hv _ (nth_mem hj)
    have e2 : El (nth r j) := hr _ (nth_mem (by omega))
    have e3 : El (nth v i) := hv _ (nth_mem hi)
    split
    · exact e1
    · exact hO.add _ _ e1 (hO.neg _ (hO.mul _ _ e3 e2))

variable {w : World} {b : Nat} {G : Tbl}

set_option maxRecDepth 100000 in
set_option maxHeartbeats 4000000 in
theorem exClear_any (w0 : World) (pb : Nat) (av : Option Addr) (cv n : Nat) (v : List Int) (i : Nat) (au : Option Addr) (cu : Nat) (u : List Int) (h : GFw w0 b G) (hb : Below w0.heap.size w0 w)
    (p0 : w0.cell? ⟨pb, 0, none⟩ = some (.pointer (some ⟨b, 0, none⟩)))
    (hv : w.ownsRow w0.heap.size 3 1 (.slice av n cv) n (v.map (Value.int .i64))) (hu : Ints w au n u) (hap : av = none ∨ au = none ∨ ablk au ≠ ablk av)
    (hve : ∀ x ∈ v, G.El x) (hue : ∀ x ∈ u, G.El x) (hin : i < n) :
    Calls Tryz.prog 210 #[.pointer (some ⟨pb, 0, none⟩), .slice av n cv, .int .i64 i, .slice au n cu] w
      fun e w' => e = .returned (.tuple #[]) ∧ w'.ownsRow w0.heap.size 3 1 (.slice av n cv) n ((clrS G.ops v i u).map (Value.int .i64)) ∧ Only av w w' := by
  have hul := hu.len
  have hvl : v.length = n := by simpa using own_len hv
  have hmax := hu.max
  unfold maxLen at hmax
  have hpu := hu.pl
  obtain ⟨iv0, mv0⟩ := Ints.own hv
  have hpv := iv0.pl
  have ci := iv0.cell i hin
  have hav : 0 < n → av ≠ none := fun hn e => by have := hpv hn; rw [e] at this; cases this
  have hxe : G.El (nth v i) := hve _ (nth_mem (by omega))
  have Hul := Lib.hid hul
  have Hvl := Lib.hid hvl
  have Hav := Lib.hid hav
  have Hve := Lib.hid hve
  have Hue := Lib.hid hue
  have HP := Lib.hid (fun (V : World) (hV : Below w0.heap.size w0 V) => cell_keep hV p0)
  clear hav hve hue
  by_cases hx : nth v i = 0
  · have Hn : Hid (clrS G.ops v i u = v) := by show _ = _; rw [clrS, if_pos hx]
    have hx' : (nth v i != 0) = false := by simpa using hx
    clear hx hul hvl
    go_enter Tryz.func210, Tryz.ntmps210
    go_wp2_with fail
    go_end0
    exact ⟨rfl, by rw [Hn.out]; exact hv, Only.refl _ _⟩
  have hx' : (nth v i != 0) = true := by simpa using hx
  have Hnl := Lib.hid (clrS_length G.ops v i u (by omega))
  have Hnth := Lib.hid (fun j hj => nth_clrS G.ops v i u j (by omega) hj hx)
  clear hx hul hvl
  generalize clrS G.ops v i u = N at *
  go_enter Tryz.func210, Tryz.ntmps210
  go_wp2_with fail
  generalize nth v i = x at *
  go_loopw [19] (fun iv wr => ∃ k : Nat, k ≤ n ∧ iv = .int .i64 k ∧ wr.ownsRow w0.heap.size 3 1 (.slice av n cv) n ((mixTo N v k).map (Value.int .i64)) ∧ Only av w wr) (fun iv _ => n - (intOf iv).toNat)
  case atStart => exact ⟨0, Nat.zero_le _, rfl, by rw [mixTo_zero]; exact hv, Only.refl _ _⟩
  case round =>
    obtain ⟨k, hk, rfl, hown, honly⟩ := hrel
    by_cases hlt : k < n
    · have hiu := honly.ints hu hap
      have cu1 := hiu.cell k hlt
      have hkN : N.length = v.length := Hnl.out
      have hkv : k < v.length := by rw [Hvl.out]; exact hlt
      have hval := Hnth.out k hkv
      have hmix := nth_mixTo N v k k hkN (by omega)
      rw [if_neg (by omega)] at hmix
      by_cases hz : nth u k = 0
      · rw [if_pos hz] at hval
        have hsame := mixTo_same N v k hkN hkv hval
        have Hsame := Lib.hid hsame
        have hz' : (nth u k != 0) = false := by simpa using hz
        clear hval hmix hsame hkN hkv hz
        go_wp2_with fail
        go_roundw
        case rel => exact ⟨k + 1, by omega, by go_num, by rw [Hsame.out]; exact hown, honly⟩
        case measure => simp [intOf] <;> omega
      · rw [if_neg hz] at hval
        have hset := mixTo_set N v k hkN hkv
        obtain ⟨hiv, hmv⟩ := Ints.own hown
        have cv1 := hiv.cell k hlt
        have fv1 := (hmv (by omega)).2 k hlt
        rw [hmix] at cv1
        have elv : G.El (nth v k) := Hve.out _ (nth_mem hkv)
        have elu : G.El (nth u k) := Hue.out _ (nth_mem (by rw [Hul.out]; exact hlt))
        have hbr : Below w0.heap.size w0 wr := Below.trans hb (honly.below (fun ha => (own_ne hv ha).1) hb.size)
        have p0r := HP.out wr hbr
        have hGr : GFw wr b G := h.keep hbr
        have elm : ∀ x y, G.El (G.mul x y) := fun x y => Tbl.mul_el h x y
        have HG : Hid (GFw wr.drew b G ∧ ∀ n, GFw (wr.drewN n) b G) := ⟨hGr.keep (Below.refl _ _).drew, fun n => hGr.drewN n⟩
        rw [hval] at hset
        have Hset := Lib.hid hset
        have hz' : (nth u k != 0) = true := by simpa using hz
        clear hval hmix hset hkN hkv hz
        go_wp2_with fail
        go_region_law ((first
          | (go_simp; go_at_call 151; ((with_reducible refine (gMul x (nth u k) HG.out.1 hxe elu).mono ?_); rintro e w4 ⟨m4, rfl, rfl⟩))
          | (go_simp; go_at_call 151; ((with_reducible refine (gMul x (nth u k) (HG.out.2 _) hxe elu).mono ?_); rintro e w4 ⟨m4, rfl, rfl⟩))
          | (go_simp; go_at_call 181; ((with_reducible refine (gSub (nth v k) (G.mul x (nth u k)) (HG.out.2 _) elv (elm _ _)).mono ?_); rintro e w4 ⟨m5, rfl, rfl⟩))))
        all_goals (
          go_wp2_with fail
          go_roundw
          case rel =>
            have hdr : Drawn wr (wr.drewN (1 + m4 + m5)) := ⟨_, rfl⟩
            refine ⟨k + 1, by omega, by go_num, ?_, honly.trans ((Only.drawn hdr).trans (Only.set _ k _ (Hav.out (by omega))))⟩
            have h1 := own_set (w := wr.drewN (1 + m4 + m5)) hown k hlt (.int .i64 (G.sub (nth v k) (G.mul x (nth u k))))
            rw [← List.map_set, show G.sub (nth v k) (G.mul x (nth u k)) = G.ops.add (nth v k) (G.ops.neg (G.ops.mul x (nth u k))) from rfl, Hset.out] at h1
            exact h1
          case measure => simp [intOf] <;> omega)
    · obtain rfl : k = n := by omega
      rw [mixTo_all N v k (by rw [Hnl.out, Hvl.out]) Hvl.out] at hown
      go_wp2_with fail
      go_end0
      exact ⟨rfl, hown, honly⟩
end

/- Plain: the shapes in light of the package exclusion. -/
section
open Go.RowKit

theorem clrTo_length (O : FOps) (t i : Nat) (L : List (List Int)) : ∀ l, (clrTo O t i L l).length = L.length
  | 0 => rfl
  | l + 1 => by
    rw [clrTo]
    split
    · rw [List.length_set]; exact clrTo_length O t i L l
    · exact clrTo_length O t i L l
theorem lgtPiv_length (O : FOps) (L : List (List Int)) (t k i : Nat) : (lgtPiv O L t k i).length = L.length := by
  unfold lgtPiv; rw [clrTo_length, List.length_set, swapRow_length]
theorem Rws.clr {O : FOps} {El : Int → Prop} {m : Nat} (hO : FCl O El) {L : List (List Int)} {t i : Nat} (hL : Rws El m L) (ht : t < L.length) (hi : i < m) : ∀ l, l ≤ L.length → Rws El m (clrTo O t i L l)
  | 0, _ => hL
  | l + 1, hl => by
    have ih := Rws.clr hO hL ht hi l (by omega)
    rw [clrTo]
    split
    · have h1 := ih.row (i := l) (by rw [clrTo_length]; omega)
      have h2 := ih.row (i := t) (by rw [clrTo_length]; omega)
      exact ih.set l ⟨by rw [clrS_length _ _ _ _ (by rw [h1.1, h2.1])]; exact h1.1, clrS_el hO h1.2 h2.2 (by rw [h1.1, h2.1]) (by rw [h1.1]; exact hi)⟩
    · exact ih
theorem cntTo_le (s v : List Int) : ∀ k, cntTo s v k ≤ k
  | 0 => Nat.le_refl _
  | k + 1 => by
    have := cntTo_le s v k
    rw [cntTo]; split <;> omega

variable {w : World} {b : Nat} {G : Tbl}

/-- clear on a row, by another one -/
theorem exClearRow (w0 : World) (pb : Nat) (a : Option Addr) (n c : Nat) (R : List (Option Addr × Nat)) (L : List (List Int)) (m i l t : Nat) (hO : OMat w w0.heap.size a n c R L)
    (h : GFw w0 b G) (hb : Below w0.heap.size w0 w) (p0 : w0.cell? ⟨pb, 0, none⟩ = some (.pointer (some ⟨b, 0, none⟩))) (hl : l < n) (ht : t < n) (hlt : l ≠ t) (hi : i < m) (hR : Rws G.El m L) (V : World) (hd : Drawn w V) :
    Calls Tryz.prog 210 #[.pointer (some ⟨pb, 0, none⟩), .slice (nthA R l).1 m (nthA R l).2, .int .i64 i, .slice (nthA R t).1 m (nthA R t).2] V
      fun e w' => e = .returned (.tuple #[]) ∧ (w'.cell? ⟨ablk a, aoff a + l, none⟩ = some (.slice (nthA R l).1 m (nthA R l).2) ∧ w'.cell? ⟨ablk a, aoff a + t, none⟩ = some (.slice (nthA R t).1 m (nthA R t).2)) ∧
        OMat w' w0.heap.size a n c R (L.set l (clrS G.ops (nthR L l) i (nthR L t))) ∧ Moves w w' (OIn a R) (OIn a R) := by
  have rl := hR.row (i := l) (by rw [hO.ll]; exact hl)
  have rt := hR.row (i := t) (by rw [hO.ll]; exact ht)
  have cl := hO.cell hl
  have ct := hO.cell ht
  have ol := hO.row l hl
  have it := hO.ints ht
  rw [rl.1] at cl ol
  rw [rt.1] at ct it
  have hap : (nthA R l).1 = none ∨ (nthA R t).1 = none ∨ ablk (nthA R t).1 ≠ ablk (nthA R l).1 := hO.sep l t hl ht hlt
  refine (exClear_any w0 pb _ _ m (nthR L l) i _ _ (nthR L t) h (hd.below' hb) p0 (own_keep ol hd.below) (it.keep hd.below) hap rl.2 rt.2 hi).mono ?_
  rintro e w' ⟨rfl, hown, honly⟩
  have hmv : Moves w w' (OIn a R) (OIn a R) := (Moves.of_below hd.below _).trans (honly.moves (fun hn => OMat.inRow (by rw [hO.rl]; exact hl) hn))
  have hne2 : ¬ ((nthA R l).1 ≠ none ∧ ablk a = ablk (nthA R l).1) := by
    rintro ⟨h1, h2⟩
    rcases hO.apt l hl with h3 | h3
    · exact h1 h3
    · exact h3 h2.symm
  refine ⟨rfl, ⟨Moves.cell (Moves.trans (Moves.of_below hd.below _) honly) cl hne2, Moves.cell (Moves.trans (Moves.of_below hd.below _) honly) ct hne2⟩, ?_, hmv⟩
  have hOr := hO.keep hd.below
  have hll : (clrS G.ops (nthR L l) i (nthR L t)).length = (nthR L l).length := clrS_length _ _ _ _ (by rw [rl.1, rt.1])
  refine hOr.rowTo hl hll (by rw [rl.1]; exact hown) fun b hb hne => honly.block b hb fun ⟨h1, h2⟩ => ?_
  rcases hne with h3 | h3
  · exact h1 h3
  · exact h3 h2
/-- a row replaced by a new one -/
theorem exScaleRow (w0 V : World) (a : Option Addr) (n c : Nat) (R : List (Option Addr × Nat)) (L : List (List Int)) (t m : Nat) (r : List Int) (hO : OMat w w0.heap.size a n c R L) (hb : Below w0.heap.size w0 w) (ht : t < n) (hr : r.length = m)
    (hV : Below w.heap.size w V) {a4 : Option Addr} {c4 : Nat} (hown : V.ownsRow w.heap.size 3 1 (.slice a4 m c4) m (r.map (Value.int .i64))) :
    ∃ R', OMat (V.setCell ⟨ablk a, aoff a + t, none⟩ (.slice a4 m c4)) w0.heap.size a n c R' (L.set t r) ∧ Moves w (V.setCell ⟨ablk a, aoff a + t, none⟩ (.slice a4 m c4)) (OIn a R) (OIn a R') := by
  subst hr
  have hO4 := hO.keep hV
  have hnew : ∀ b, b < w.heap.size → Apt a4 b := fun b hb => own_apt hown hb
  have h1 := hO4.setRow ht (own_mono hown hb.size) (hnew _ (hO.lt _ (.inl ⟨hO.ne (by omega), rfl⟩)).2) (fun j hj _ => by
    by_cases hn : (nthA R j).1 = none
    · exact .inl hn
    · exact .inr (hnew _ (hO.lt _ (OMat.inRow (by rw [hO.rl]; exact hj) hn)).2))
  have h2 := hO.setRow_moves' hV ht (r := a4) (rc := c4) (.slice a4 r.length c4) (fun ha => .inr (own_ne hown ha).1)
  exact ⟨_, h1, h2⟩
end

end Go.Proofs.YtapjcccpokhhhaaGreat
