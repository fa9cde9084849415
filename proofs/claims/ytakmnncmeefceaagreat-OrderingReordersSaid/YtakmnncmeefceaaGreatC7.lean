/- The arguments, opened: lists of numbers with their capacity. -/
import Derived.Test.YtakmnncmeefceaaGreatC5
import Derived.Test.YtakmnncmeefceaaGreatC6
import Derived.Test.YtakmnncmeefceaaGreatC2
import Derived.Test.YtakmnncmeefceaaGreatB1
import Derived.Test.YtakmnncmeefceaaGreatA6
import Derived.Test.YtakmnncmeefceaaGreatA1
import Derived.Test.YtakmnncmeefceaaGreatC4
import Derived.Test.YtakmnncmeefceaaGreatB3
import Derived.Test.YtakmnncmeefceaaGreatB4
import Derived.WalkKit
import Derived.ProofKit
import Derived.OpenShut
import Derived.ShutString
import Derived.ChangeOld
import Derived.Below
import Derived.Deep.Matrix
namespace Go.Proofs.YtakmnncmeefceaaGreat
set_option linter.unusedVariables false
set_option linter.unusedSimpArgs false
set_option linter.unusedSectionVars false

/- The tables of all descriptions of fields. -/
section
theorem tab5_2_0 : chkC 5 2 25 cert5_2 0 25 = true := by decide +kernel
theorem tab5_2 : chkAll 5 2 25 cert5_2 := chkAll_add (chkAll_nil 5 2 25 cert5_2) tab5_2_0
theorem tab5_3_0 : chkC 5 3 125 cert5_3 0 32 = true := by decide +kernel
theorem tab5_3_32 : chkC 5 3 125 cert5_3 32 32 = true := by decide +kernel
theorem tab5_3_64 : chkC 5 3 125 cert5_3 64 32 = true := by decide +kernel
theorem tab5_3_96 : chkC 5 3 125 cert5_3 96 29 = true := by decide +kernel
theorem tab5_3 : chkAll 5 3 125 cert5_3 := chkAll_add (chkAll_add (chkAll_add (chkAll_add (chkAll_nil 5 3 125 cert5_3) tab5_3_0) tab5_3_32) tab5_3_64) tab5_3_96
theorem tab7_2_0 : chkC 7 2 49 cert7_2 0 49 = true := by decide +kernel
theorem tab7_2 : chkAll 7 2 49 cert7_2 := chkAll_add (chkAll_nil 7 2 49 cert7_2) tab7_2_0
theorem tab11_2_0 : chkC 11 2 121 cert11_2 0 32 = true := by decide +kernel
theorem tab11_2_32 : chkC 11 2 121 cert11_2 32 32 = true := by decide +kernel
theorem tab11_2_64 : chkC 11 2 121 cert11_2 64 32 = true := by decide +kernel
theorem tab11_2_96 : chkC 11 2 121 cert11_2 96 25 = true := by decide +kernel
theorem tab11_2 : chkAll 11 2 121 cert11_2 := chkAll_add (chkAll_add (chkAll_add (chkAll_add (chkAll_nil 11 2 121 cert11_2) tab11_2_0) tab11_2_32) tab11_2_64) tab11_2_96
theorem tab13_2_0 : chkC 13 2 169 cert13_2 0 32 = true := by decide +kernel
theorem tab13_2_32 : chkC 13 2 169 cert13_2 32 32 = true := by decide +kernel
theorem tab13_2_64 : chkC 13 2 169 cert13_2 64 32 = true := by decide +kernel
theorem tab13_2_96 : chkC 13 2 169 cert13_2 96 32 = true := by decide +kernel
theorem tab13_2_128 : chkC 13 2 169 cert13_2 128 32 = true := by decide +kernel
theorem tab13_2_160 : chkC 13 2 169 cert13_2 160 9 = true := by decide +kernel
theorem tab13_2 : chkAll 13 2 169 cert13_2 := chkAll_add (chkAll_add (chkAll_add (chkAll_add (chkAll_add (chkAll_add (chkAll_nil 13 2 169 cert13_2) tab13_2_0) tab13_2_32) tab13_2_64) tab13_2_96) tab13_2_128) tab13_2_160

/-- the fields of prime order -/
def chkP (c : Nat × Nat) : Bool := ordOk (mulS c.1 1 []) c.1 c.2 && decide (0 < c.2) && decide (c.2 < c.1)
theorem tabP : roots.all chkP = true := by decide +kernel
theorem rootsAll : ((List.range 257).all fun p => p < 2 || !primeB p || roots.any fun c => c.1 == p) = true := by decide +kernel
end

/- The reference's product is the program's. -/
section
section
variable {P : Int} {M : Nat} {low : Nat → Int}

/-- the value of the first n coefficients -/
def evL (M : Nat) (low : Nat → Int) (n : Nat) (c : List Int) : Nat → Int := fun i => sm n (fun k => nth c k * shN M low k (eV 0) i)

theorem sm_set {n k : Nat} {c : List Int} {z : Int} (f : Nat → Int) (hk : k < n) (hl : k < c.length) : sm n (fun j => nth (c.set k z) j * f j) = sm n (fun j => nth c j * f j) + (z - nth c k) * f k := by
  have h1 : sm n (fun j => nth (c.set k z) j * f j) = sm n (fun j => nth c j * f j + (if j = k then (z - nth c k) * f k else 0)) := sm_congr fun j _ => by
    rw [nth_set _ _ _ _ hl]
    by_cases e : j = k
    · subst e; rw [if_pos rfl, if_pos rfl, Int.sub_mul]; omega
    · rw [if_neg e, if_neg e]; omega
  rw [h1, sm_add]
  congr 1
  rw [sm_single hk fun i _ hne => if_neg hne, if_pos rfl]
theorem sm_set_out {n k : Nat} {c : List Int} {z : Int} (f : Nat → Int) (hk : n ≤ k) (hl : k < c.length) : sm n (fun j => nth (c.set k z) j * f j) = sm n (fun j => nth c j * f j) := sm_congr fun j hj => by
  rw [nth_set _ _ _ _ hl, if_neg (by omega)]

/-- the sum with a congruent coefficient -/
theorem evL_step {n k : Nat} {c : List Int} {d : Int} (hk : k < n) (hl : k < c.length) :
    Cg P (evL M low n (c.set k ((nth c k + d) % P))) (fun i => evL M low n c i + d * shN M low k (eV 0) i) := fun i => by
  simp only [evL]
  rw [sm_set (fun j => shN M low j (eV 0) i) hk hl]
  obtain ⟨e, he⟩ := cg_mod P (nth c k + d)
  refine ⟨e * shN M low k (eV 0) i, ?_⟩
  have h1 : (nth c k + d) % P - nth c k = d + P * e := by omega
  rw [h1, Int.add_mul, Int.mul_assoc]
  omega

theorem cvJ_ev {a b : List Int} {i n : Nat} {c : List Int} (hl : c.length = n) : ∀ j, i + j ≤ n →
    Cg P (evL M low n (cvJ P a b i c j)) (fun s => evL M low n c s + sm j (fun j => nth a i * nth b j * shN M low (i + j) (eV 0) s))
  | 0, _ => Cg.of_eq (by funext s; simp [cvJ, sm])
  | j + 1, hj => by
    have ih := cvJ_ev (a := a) (b := b) (i := i) hl j (by omega)
    rw [cvJ]
    refine (evL_step (by omega) (by rw [cvJ_len]; omega)).trans ((Cg.add ih (Cg.refl P _)).trans (Cg.of_eq ?_))
    funext s
    simp only [sm]
    omega
theorem cvI_ev {a b : List Int} {n : Nat} (hn : 2 * M - 1 ≤ n) (hM : 1 ≤ M) : ∀ i, i ≤ M →
    Cg P (evL M low n (cvI P a b M n i)) (fun s => sm i (fun i => sm M (fun j => nth a i * nth b j * shN M low (i + j) (eV 0) s)))
  | 0, _ => Cg.of_eq (by
    funext s
    simp only [evL, cvI, sm]
    rw [sm_congr (g := fun _ => 0) fun k _ => by
      have : nth (List.replicate n 0) k = 0 := by simp only [nth, List.getD_eq_getElem?_getD, List.getElem?_replicate]; split <;> rfl
      rw [this, Int.zero_mul], sm_zero])
  | i + 1, hi => by
    have ih := cvI_ev (a := a) (b := b) hn hM i (by omega)
    rw [cvI]
    refine (cvJ_ev (cvI_len P a b M n i) M (by omega)).trans ((Cg.add ih (Cg.refl P _)).trans (Cg.of_eq ?_))
    funext s
    simp only [sm]

theorem shN_M (hM : 1 ≤ M) : shN M low M (eV 0) = fun i => if i < M then - low i else 0 := by
  obtain ⟨m, rfl⟩ : ∃ m, M = m + 1 := ⟨M - 1, by omega⟩
  rw [shN, shN_e m (by omega)]
  funext i
  simp only [shV, eV]
  by_cases h : i < m + 1
  · rw [if_pos h, if_pos h, Nat.add_sub_cancel]
    by_cases h0 : i = 0
    · rw [if_pos h0, if_pos rfl]; omega
    · rw [if_neg h0, if_neg (by omega), if_pos rfl]; omega
  · rw [if_neg h, if_neg h]
theorem lowSum (hM : 1 ≤ M) (t : Nat) : (fun s => sm M (fun j => low j * shN M low (t + j) (eV 0) s)) = fun s => - shN M low (t + M) (eV 0) s := by
  have h1 : (fun s => sm M (fun j => low j * shN M low (t + j) (eV 0) s)) = shN M low t (fun s => sm M (fun j => low j * shN M low j (eV 0) s)) := by
    rw [shN_sm]
    funext s
    refine sm_congr fun j _ => ?_
    rw [shN_smul, shN_comp]
  have h2 : (fun s => sm M (fun j => low j * shN M low j (eV 0) s)) = fun s => (-1) * shN M low M (eV 0) s := by
    funext s
    rw [congrFun (shN_M (low := low) hM) s]
    have h3 : sm M (fun j => low j * shN M low j (eV 0) s) = sm M (fun j => low j * eV j s) := sm_congr fun j hj => by rw [shN_e j hj]
    rw [h3]
    by_cases hs : s < M
    · rw [sm_single hs fun i _ hne => by simp only [eV]; rw [if_neg (by omega)]; omega]
      rw [if_pos hs]
      simp [eV]
    · rw [if_neg hs, sm_congr (g := fun _ => 0) fun j hj => by simp only [eV]; rw [if_neg (by omega)]; omega, sm_zero]; rfl
  rw [h1, h2, shN_smul]
  funext s
  rw [← shN_comp]
  omega

theorem rdJ_top {mod : List Int} {i : Nat} {c : List Int} (hi : M ≤ i) (hl : i < c.length) : ∀ j, j ≤ M → nth (rdJ P M mod i c j) i = nth c i
  | 0, _ => rfl
  | j + 1, hj => by
    rw [rdJ, nth_set _ _ _ _ (by rw [rdJ_len]; omega), if_neg (by omega)]
    exact rdJ_top hi hl j (by omega)
theorem rdJ_ev {mod : List Int} {i : Nat} {c : List Int} (hi : M ≤ i) (hl : i < c.length) : ∀ j, j ≤ M →
    Cg P (evL M low i (rdJ P M mod i c j)) (fun s => evL M low i c s + (- nth c i) * sm j (fun j => nth mod j * shN M low (i - M + j) (eV 0) s))
  | 0, _ => Cg.of_eq (by funext s; simp [rdJ, sm])
  | j + 1, hj => by
    have ih := rdJ_ev (mod := mod) hi hl j (by omega)
    rw [rdJ, rdJ_top hi hl j (by omega)]
    refine (evL_step (by omega) (by rw [rdJ_len]; omega)).trans ?_
    refine (Cg.add ih (Cg.refl P _)).trans ?_
    intro s
    simp only [sm]
    generalize sm j (fun j => nth mod j * shN M low (i - M + j) (eV 0) s) = X
    generalize shN M low (i - M + j) (eV 0) s = Y
    refine ⟨nth mod j * Y, ?_⟩
    simp only [Int.mul_add, Int.sub_mul, Int.neg_mul, Int.mul_assoc]
    omega
theorem rdT_ev {mod : List Int} (hM : 1 ≤ M) (hlow : ∀ j, low j = nth mod j) {c : List Int} (hl : c.length = 2 * M - 1) : ∀ k, k ≤ M - 1 →
    Cg P (evL M low (2 * M - 1 - k) (rdT P M mod c k)) (evL M low (2 * M - 1) c)
  | 0, _ => Cg.refl P _
  | k + 1, hk => by
    have ih := rdT_ev hM hlow hl k (by omega)
    rw [rdT]
    refine Cg.trans ?_ ih
    obtain ⟨i, hi⟩ : ∃ i, 2 * M - 2 - k = i := ⟨_, rfl⟩
    rw [hi, show 2 * M - 1 - (k + 1) = i by omega, show 2 * M - 1 - k = i + 1 by omega]
    refine (rdJ_ev (low := low) (by omega) (by rw [rdT_len]; omega) M (Nat.le_refl _)).trans (Cg.of_eq ?_)
    funext s
    have h1 : sm M (fun j => low j * shN M low (i - M + j) (eV 0) s) = - shN M low (i - M + M) (eV 0) s := congrFun (lowSum (low := low) hM (i - M)) s
    rw [sm_congr (g := fun j => low j * shN M low (i - M + j) (eV 0) s) fun j _ => by rw [hlow], h1, show i - M + M = i by omega]
    simp only [evL, sm]
    rw [Int.neg_mul, Int.mul_neg]
    omega

theorem evL_take (c : List Int) (hl : M ≤ c.length) : evL M low M c = nth (c.take M) := by
  funext s
  simp only [evL]
  rw [sm_congr (g := fun j => nth c j * eV j s) fun j hj => by rw [shN_e j hj]]
  by_cases hs : s < M
  · rw [sm_single hs fun i _ hne => by simp only [eV]; rw [if_neg (by omega)]; omega, nth_take hs]
    simp [eV]
  · rw [nth_out (by rw [List.length_take]; omega), sm_congr (g := fun _ => 0) fun j hj => by simp only [eV]; rw [if_neg (by omega)]; omega, sm_zero]
end

theorem mulR_eq {P : Int} {m : Nat} (hf : RF P m) (mod : List Int) (x y : Int) : mulR P m mod x y = mulS P m mod x y := by
  have hres := hf.res
  have hP := hres.pos
  have hm1 := hf.m1
  refine (mulR_el hf mod x y).ext hres (mulS_el hres x y) (Cg.trans ?_ (dV_mulS hP m mod x y).symm)
  have hd : dV P m (mulR P m mod x y) = nth (mulL P m mod (digs x P m) (digs y P m)) := by
    unfold dV mulR
    have := digs_valu (P := P) (mulL P m mod (digs x P m) (digs y P m)) (mulL_dig hP m mod _ _)
    rw [mulL_len P mod _ _ hm1] at this
    rw [this]
  rw [hd]
  have hc := cvI_ev (P := P) (M := m) (low := nth (lowF m mod)) (a := digs x P m) (b := digs y P m) (n := 2 * m - 1) (Nat.le_refl _) hm1 m (Nat.le_refl _)
  have hx : Cg P (evL m (nth (lowF m mod)) (2 * m - 1) (cvI P (digs x P m) (digs y P m) m (2 * m - 1) m)) (mulV m (nth (lowF m mod)) (dV P m x) (dV P m y)) := by
    rw [mulV_expand (dV_sh P m y)]
    exact hc
  refine Cg.trans ?_ hx
  unfold mulL
  by_cases h1 : 1 < m
  · have hlow : ∀ j, nth (lowF m mod) j = nth mod j := fun j => by rw [lowF, if_pos h1]
    have hr := rdT_ev (P := P) hm1 hlow (cvI_len P (digs x P m) (digs y P m) m (2 * m - 1) m) (m - 1) (Nat.le_refl _)
    rw [show 2 * m - 1 - (m - 1) = m by omega, evL_take _ (by rw [rdT_len, cvI_len]; omega)] at hr
    exact hr
  · obtain rfl : m = 1 := by omega
    rw [← evL_take (M := 1) (low := nth (lowF 1 mod)) _ (by rw [rdT_len, cvI_len]; omega)]
    exact Cg.refl P _
end

/- Elimination over two sets of operations that agree on the elements. -/
section
structure Agr (O O' : FOps) (El : Int → Prop) : Prop where
  add : ∀ x y, El x → El y → O.add x y = O'.add x y
  mul : ∀ x y, El x → El y → O.mul x y = O'.mul x y
  neg : ∀ x, El x → O.neg x = O'.neg x
  inv : ∀ x, El x → x ≠ 0 → O.inv x = O'.inv x

variable {O O' : FOps} {El : Int → Prop}

theorem addRow_agr (h : Agr O O' El) (hO : FCl O El) : ∀ (v u : List Int) (s : Int), (∀ x ∈ v, El x) → (∀ x ∈ u, El x) → El s → addRow O v s u = addRow O' v s u
  | [], _, _, _, _, _ => by simp [addRow]
  | _ :: _, [], _, _, _, _ => by simp [addRow]
  | x :: v, y :: u, s, hv, hu, hs => by
    have ih := addRow_agr h hO v u s (fun z hz => hv z (by simp [hz])) (fun z hz => hu z (by simp [hz])) hs
    unfold addRow at ih ⊢
    have hx := hv x (by simp)
    have hy := hu y (by simp)
    simp only [List.zipWith_cons_cons, ih]
    rw [h.mul s y hs hy, h.add x _ hx (by rw [← h.mul s y hs hy]; exact hO.mul s y hs hy)]
theorem clearRow_agr (h : Agr O O' El) (hO : FCl O El) {pv r : List Int} {c m : Nat} (hc : c < m) (hp : pv.length = m ∧ ∀ x ∈ pv, El x) (hr : r.length = m ∧ ∀ x ∈ r, El x) : clearRow O pv c r = clearRow O' pv c r := by
  have hel : El (nth r c) := hr.2 _ (nth_mem (by omega))
  unfold clearRow
  rw [h.neg _ hel]
  split
  · rfl
  · exact addRow_agr h hO _ _ _ hr.2 hp.2 (by rw [← h.neg _ hel]; exact hO.neg _ hel)
theorem clearTo_agr (h : Agr O O' El) (hO : FCl O El) {m : Nat} {L : List (List Int)} (hL : Rws El m L) {t c : Nat} (ht : t < L.length) (hc : c < m) : ∀ i, i ≤ L.length → clearTo O t c L i = clearTo O' t c L i
  | 0, _ => rfl
  | i + 1, hi => by
    have ih := clearTo_agr h hO hL ht hc i (by omega)
    have hR := Rws.clear hO hL ht hc i (by omega)
    have hl := clearTo_length O t c L i
    unfold clearTo
    rw [← ih]
    split
    · rfl
    · rw [clearRow_agr h hO hc (hR.row (by omega)) (hR.row (by omega))]
theorem normRow_agr (h : Agr O O' El) (hO : FCl O El) {m : Nat} {L : List (List Int)} (hL : Rws El m L) {t c : Nat} (ht : t < L.length) (hc : c < m) (h0 : nth (nthR L t) c ≠ 0) : normRow O L t c = normRow O' L t c := by
  have hr := hL.row ht
  have hel : El (nth (nthR L t) c) := hr.2 _ (nth_mem (by omega))
  unfold normRow
  rw [h.inv _ hel h0]
  split
  · rfl
  · congr 1
    refine List.map_congr_left fun x hx => ?_
    exact h.mul _ _ (by rw [← h.inv _ hel h0]; exact hO.inv _ hel h0) (hr.2 x hx)
theorem pivotS_agr (h : Agr O O' El) (hO : FCl O El) {m : Nat} {L : List (List Int)} (hL : Rws El m L) {t k c : Nat} (ht : t < L.length) (hk : k < L.length) (hc : c < m) (h0 : nth (nthR L k) c ≠ 0) (htk : t ≤ k) :
    pivotS O L t k c = pivotS O' L t k c ∧ Rws El m (pivotS O L t k c) := by
  have hL1 : Rws El m (if k = t then L else swapRow L t k) := by split; exact hL; exact hL.swap ht hk
  have hl1 : (if k = t then L else swapRow L t k).length = L.length := by split; rfl; exact swapRow_length _ _ _
  have hn1 : nth (nthR (if k = t then L else swapRow L t k) t) c ≠ 0 := by
    split
    · rename_i e; subst e; exact h0
    · rename_i e
      have : nthR (swapRow L t k) t = nthR L k := by
        unfold swapRow
        rw [nthR_set _ _ _ _ (by simpa using hk), if_neg (by omega), nthR_set _ _ _ _ ht, if_pos rfl]
      rw [this]; exact h0
  rw [pivotS_eq, pivotS_eq, ← normRow_agr h hO hL1 (by omega) hc hn1]
  have hL2 := hL1.norm hO (t := t) (c := c) (by omega) hc hn1
  have hl2 : (normRow O (if k = t then L else swapRow L t k) t c).length = L.length := by rw [normRow_length, hl1]
  exact ⟨clearTo_agr h hO hL2 (by omega) hc _ (by omega), Rws.clear hO hL2 (by omega) hc _ (by omega)⟩
theorem elimTo_agr (h : Agr O O' El) (hO : FCl O El) {m : Nat} {L : List (List Int)} (hL : Rws El m L) : ∀ k, k ≤ m → elimTo O L k = elimTo O' L k ∧ Rws El m (elimTo O L k).1
  | 0, _ => ⟨rfl, hL⟩
  | k + 1, hk => by
    obtain ⟨h1, h2⟩ := elimTo_agr h hO hL k (by omega)
    obtain ⟨Lk, P, hLP⟩ : ∃ Lk P, elimTo O L k = (Lk, P) := ⟨_, _, rfl⟩
    rw [hLP] at h1 h2
    have hlen : Lk.length = L.length := by have := elimTo_length O L k; rw [hLP] at this; exact this
    by_cases hlt : P.length < Lk.length
    · rw [elimTo_next hLP.symm hlt, elimTo_next h1 hlt]
      by_cases hf : findRow Lk k P.length = Lk.length
      · rw [if_pos hf, if_pos hf]; exact ⟨rfl, h2⟩
      · rw [if_neg hf, if_neg hf]
        have hb := findRow_bd (L := Lk) (c := k) (k := P.length) (by omega)
        have hne : nth (nthR Lk (findRow Lk k P.length)) k ≠ 0 := findTo_stop Lk k (Lk.length - P.length) P.length (by
          have : findTo Lk k P.length (Lk.length - P.length) = findRow Lk k P.length := rfl
          omega)
        have hlt2 : findRow Lk k P.length < Lk.length := by omega
        have := pivotS_agr h hO (L := Lk) h2 (t := P.length) (k := findRow Lk k P.length) (c := k) hlt hlt2 (by omega) hne hb.1
        exact ⟨by rw [this.1], this.2⟩
    · have e : ∀ (O : FOps), elimTo O L k = (Lk, P) → elimTo O L (k + 1) = (Lk, P) := fun O he => by
        rw [elimTo]
        simp only [he]
        rw [if_neg hlt]
      rw [e O hLP, e O' h1.symm]
      exact ⟨rfl, h2⟩
end

/- Ranks over a closure with the exchange property; they are submodular. -/
section
/-- a closure on positions, of lists -/
structure Clo (cl : List Nat → Nat → Prop) : Prop where
  mem : ∀ l x, x ∈ l → cl l x
  mono : ∀ l l', (∀ x ∈ l, cl l' x) → ∀ y, cl l y → cl l' y
  exch : ∀ l x y, cl (x :: l) y → ¬ cl l y → cl (y :: l) x

/-- n of the list's positions are not in the closure of those behind them -/
inductive Rk (cl : List Nat → Nat → Prop) : List Nat → Nat → Prop
  | nil : Rk cl [] 0
  | dep {l n} (x : Nat) : cl l x → Rk cl l n → Rk cl (x :: l) n
  | ind {l n} (x : Nat) : ¬ cl l x → Rk cl l n → Rk cl (x :: l) (n + 1)

variable {cl : List Nat → Nat → Prop}

theorem Rk.ex (cl : List Nat → Nat → Prop) : ∀ l, ∃ n, Rk cl l n
  | [] => ⟨0, .nil⟩
  | x :: l => by
    obtain ⟨n, h⟩ := Rk.ex cl l
    by_cases hx : cl l x
    · exact ⟨n, .dep x hx h⟩
    · exact ⟨n + 1, .ind x hx h⟩
theorem Rk.uniq {l : List Nat} {n : Nat} (h : Rk cl l n) : ∀ {m}, Rk cl l m → n = m := by
  induction h with
  | nil => intro m h; cases h; rfl
  | dep x hx _ ih =>
    intro m h
    cases h with
    | dep _ _ h => exact ih h
    | ind _ hn _ => exact absurd hx hn
  | ind x hx _ ih =>
    intro m h
    cases h with
    | dep _ hn _ => exact absurd hn hx
    | ind _ _ h => rw [ih h]

theorem Clo.sub (h : Clo cl) {l l' : List Nat} (hs : ∀ x ∈ l, x ∈ l') {y : Nat} (hy : cl l y) : cl l' y := h.mono l l' (fun x hx => h.mem l' x (hs x hx)) y hy
theorem Clo.drop (h : Clo cl) {l : List Nat} {x y : Nat} (hx : cl l x) (hy : cl (x :: l) y) : cl l y :=
  h.mono (x :: l) l (fun z hz => by
    rcases List.mem_cons.1 hz with rfl | hz
    · exact hx
    · exact h.mem l z hz) y hy

theorem Rk.swap (h : Clo cl) {l : List Nat} {x y n : Nat} (hr : Rk cl (x :: y :: l) n) : Rk cl (y :: x :: l) n := by
  have up : ∀ {z u}, cl l z → cl (u :: l) z := fun hz => h.sub (fun x hx => by simp [hx]) hz
  cases hr with
  | dep _ hx hr =>
    cases hr with
    | dep _ hy hr => exact .dep y (up hy) (.dep x (h.drop hy hx) hr)
    | ind _ hy hr =>
      by_cases hxl : cl l x
      · exact .ind y (fun hc => hy (h.drop hxl hc)) (.dep x hxl hr)
      · exact .dep y (h.exch l y x hx hxl) (.ind x hxl hr)
  | ind _ hx hr =>
    cases hr with
    | dep _ hy hr => exact .dep y (up hy) (.ind x (fun hc => hx (up hc)) hr)
    | ind _ hy hr =>
      have hxl : ¬ cl l x := fun hc => hx (up hc)
      exact .ind y (fun hc => hx (h.exch l x y hc hy)) (.ind x hxl hr)
theorem Clo.perm (h : Clo cl) {l l' : List Nat} (hp : l.Perm l') {x : Nat} : cl l x → cl l' x := h.sub fun y hy => hp.mem_iff.1 hy
theorem Rk.perm (h : Clo cl) {l l' : List Nat} (hp : l.Perm l') : ∀ {n}, Rk cl l n → Rk cl l' n := by
  induction hp with
  | nil => intro n hr; exact hr
  | cons x hp ih =>
    intro n hr
    cases hr with
    | dep _ hx hr => exact .dep x (h.perm hp hx) (ih hr)
    | ind _ hx hr => exact .ind x (fun hc => hx (h.perm hp.symm hc)) (ih hr)
  | swap x y l => intro n hr; exact hr.swap h
  | trans _ _ ih1 ih2 => intro n hr; exact ih2 (ih1 hr)
theorem Rk.absorb (h : Clo cl) {l : List Nat} {n : Nat} (hr : Rk cl l n) : ∀ l', (∀ x ∈ l', cl l x) → Rk cl (l' ++ l) n
  | [], _ => hr
  | x :: l', hx => .dep x (h.sub (fun y hy => List.mem_append.2 (.inr hy)) (hx x (by simp))) (Rk.absorb h hr l' fun y hy => hx y (by simp [hy]))
theorem Rk.grow {l : List Nat} {m : Nat} (hr : Rk cl l m) : ∀ (l' : List Nat) {n : Nat}, Rk cl (l' ++ l) n → m ≤ n
  | [], n, hn => by rw [hr.uniq hn]; exact Nat.le_refl _
  | x :: l', n, hn => by
    cases hn with
    | dep _ _ hn => exact Rk.grow hr l' hn
    | ind _ _ hn => exact Nat.le_succ_of_le (Rk.grow hr l' hn)
theorem Rk.le (h : Clo cl) {l l' : List Nat} {m n : Nat} (hm : Rk cl l m) (hn : Rk cl l' n) (hs : ∀ x ∈ l, cl l' x) : m ≤ n :=
  hm.grow l' ((hn.absorb h l hs).perm h List.perm_append_comm)
theorem Rk.same (h : Clo cl) {l l' : List Nat} {m n : Nat} (hm : Rk cl l m) (hn : Rk cl l' n) (hs : ∀ x, x ∈ l ↔ x ∈ l') : m = n :=
  Nat.le_antisymm (hm.le h hn fun x hx => h.mem _ _ ((hs x).1 hx)) (hn.le h hm fun x hx => h.mem _ _ ((hs x).2 hx))
theorem Rk.len {l : List Nat} {n : Nat} (hr : Rk cl l n) : n ≤ l.length := by
  induction hr with
  | nil => exact Nat.le_refl _
  | dep x _ _ ih => exact Nat.le_succ_of_le ih
  | ind x _ _ ih => exact Nat.succ_le_succ ih
theorem Rk.one_more (h : Clo cl) {l l' : List Nat} {m n : Nat} (hm : Rk cl l m) (hn : Rk cl l' n) {p : Nat} (hs : ∀ x, x ∈ l' ↔ x ∈ l ∨ x = p) : m ≤ n ∧ n ≤ m + 1 := by
  refine ⟨hm.le h hn fun x hx => h.mem _ _ ((hs x).2 (.inl hx)), ?_⟩
  have hs' : ∀ x, x ∈ p :: l ↔ x ∈ l' := fun x => by rw [hs x, List.mem_cons]; exact or_comm
  by_cases hp : cl l p
  · rw [(Rk.dep p hp hm).same h hn hs']; omega
  · rw [← (Rk.ind p hp hm).same h hn hs']; exact Nat.le_refl _

theorem Rk.sub_aux (h : Clo cl) {S V : List Nat} {a v : Nat} (ha : Rk cl S a) (hv : Rk cl V v) (hVS : ∀ x ∈ V, x ∈ S) : ∀ (T : List Nat) {u b : Nat}, Rk cl (T ++ S) u → Rk cl (T ++ V) b → u + v ≤ a + b
  | [], u, b, hu, hb => by rw [ha.uniq hu, hv.uniq hb]; exact Nat.le_refl _
  | x :: T, u, b, hu, hb => by
    have up : cl (T ++ V) x → cl (T ++ S) x := h.sub fun y hy => by
      rcases List.mem_append.1 hy with h1 | h1
      · exact List.mem_append.2 (.inl h1)
      · exact List.mem_append.2 (.inr (hVS y h1))
    cases hb with
    | dep _ hc hb =>
      cases hu with
      | dep _ _ hu => exact Rk.sub_aux h ha hv hVS T hu hb
      | ind _ hn _ => exact absurd (up hc) hn
    | ind _ _ hb =>
      cases hu with
      | dep _ _ hu => have := Rk.sub_aux h ha hv hVS T hu hb; omega
      | ind _ _ hu => have := Rk.sub_aux h ha hv hVS T hu hb; omega
/-- submodular -/
theorem Rk.modular (h : Clo cl) {S T U V : List Nat} {a b u v : Nat} (ha : Rk cl S a) (hb : Rk cl T b) (hu : Rk cl U u) (hv : Rk cl V v) (hU : ∀ x ∈ U, x ∈ S ∨ x ∈ T) (hV : ∀ x ∈ V, x ∈ S ∧ x ∈ T) : u + v ≤ a + b := by
  obtain ⟨u', hu'⟩ := Rk.ex cl (T ++ S)
  obtain ⟨b', hb'⟩ := Rk.ex cl (T ++ V)
  have h1 : u ≤ u' := hu.le h hu' fun x hx => h.mem _ _ (by rcases hU x hx with h2 | h2; exact List.mem_append.2 (.inr h2); exact List.mem_append.2 (.inl h2))
  have h2 : b' = b := hb'.same h hb fun x => ⟨fun hx => by rcases List.mem_append.1 hx with h3 | h3; exact h3; exact (hV x h3).2, fun hx => List.mem_append.2 (.inl hx)⟩
  have h3 := Rk.sub_aux h ha hv (fun x hx => (hV x hx).1) T hu' hb'
  omega
end

/- A description is a field for the program (a generator exists) exactly if it is one for the reference (prime, irreducible). -/
section
section
variable {P : Int} {M : Nat} {mod : List Int} {q : Nat} {x : Int}

theorem pw_one (h : Res P M) (hx : ElP P M x) : pw P M mod x 1 = x := by show mulS P M mod (pw P M mod x 0) x = x; rw [pw, mulS_one h hx]
theorem pw_two (h : Res P M) (hx : ElP P M x) : pw P M mod x 2 = mulS P M mod x x := by show mulS P M mod (pw P M mod x 1) x = _; rw [pw_one h hx]
theorem pw_sq (h : Res P M) (hx : ElP P M x) : ∀ k, pw P M mod (mulS P M mod x x) k = pw P M mod x (2 * k)
  | 0 => rfl
  | k + 1 => by rw [pw, pw_sq h hx k, ← pw_two h hx, pw_add h]; rfl
theorem fpw_eq (h : Res P M) : ∀ (f n : Nat) (x : Int), ElP P M x → n < 2 ^ f → fpw (mulS P M mod) f x n = pw P M mod x n
  | 0, n, x, hx, hn => by
    have : n = 0 := by simpa using hn
    subst this; rfl
  | f + 1, n, x, hx, hn => by
    have ih := fpw_eq h f (n / 2) (mulS P M mod x x) (mulS_el h x x) (by rw [Nat.pow_succ] at hn; omega)
    unfold fpw
    split
    · rename_i h0; subst h0; rfl
    · rw [ih, pw_sq h hx]
      split
      · rename_i h1
        have e : n = 2 * (n / 2) + 1 := by omega
        have e2 : pw P M mod x n = pw P M mod x (2 * (n / 2) + 1) := congrArg _ e
        rw [e2]; rfl
      · rename_i h1
        have e : n = 2 * (n / 2) := by omega
        exact (congrArg _ e).symm

/-- the order of x is q - 1 -/
structure Ord (P : Int) (M : Nat) (mod : List Int) (q : Nat) (x : Int) : Prop where
  one : pw P M mod x (q - 1) = 1
  ne : ∀ k, 0 < k → k < q - 1 → pw P M mod x k ≠ 1

theorem pw_mul1 (h : Res P M) {a : Nat} (h1 : pw P M mod x a = 1) : ∀ n, pw P M mod x (a * n) = 1
  | 0 => rfl
  | n + 1 => by rw [Nat.mul_succ, ← pw_add h, pw_mul1 h h1 n, h1, mulS_one h (one_el h)]
theorem pw_mod1 (h : Res P M) {a b : Nat} (ha : pw P M mod x a = 1) (hb : pw P M mod x b = 1) : pw P M mod x (a % b) = 1 := by
  have e : a = b * (a / b) + a % b := (Nat.div_add_mod a b).symm
  rw [e, ← pw_add h, pw_mul1 h hb, mulS_one h (pw_el h x _)] at ha
  exact ha
theorem pw_gcd (h : Res P M) : ∀ (b a : Nat), pw P M mod x a = 1 → pw P M mod x b = 1 → pw P M mod x (Nat.gcd b a) = 1 := by
  intro b
  induction b using Nat.strongRecOn with
  | ind b ih =>
    intro a ha hb
    by_cases h0 : b = 0
    · subst h0; rw [Nat.gcd_zero_left]; exact ha
    · rw [Nat.gcd_rec]
      exact ih (a % b) (Nat.mod_lt _ (by omega)) b hb (pw_mod1 h ha hb)

theorem Ord.of (h : Res P M) (hx : ElP P M x) (hq : q ≤ 256) (ho : ordOk (mulS P M mod) q x = true) : Ord P M mod q x := by
  unfold ordOk at ho
  rw [Bool.and_eq_true] at ho
  obtain ⟨h1, h2⟩ := ho
  have h1' := eq_of_beq h1
  rw [fpw_eq h 8 _ x hx (by omega)] at h1'
  refine ⟨h1', fun k hk0 hk1 hk => ?_⟩
  have hg := pw_gcd h k (q - 1) h1' hk
  have hgd : Nat.gcd k (q - 1) ∣ q - 1 := Nat.gcd_dvd_right _ _
  have hgl : Nat.gcd k (q - 1) ≤ k := Nat.gcd_le_left _ hk0
  have hg0 : 0 < Nat.gcd k (q - 1) := Nat.gcd_pos_of_pos_left _ hk0
  have h3 := List.all_eq_true.1 h2 (Nat.gcd k (q - 1)) (List.mem_range.2 (by omega))
  have h4 : (q - 1) % Nat.gcd k (q - 1) = 0 := Nat.mod_eq_zero_of_dvd hgd
  simp only [Bool.or_eq_true, beq_iff_eq, bne_iff_ne, ne_eq] at h3
  rcases h3 with (h3 | h3) | h3
  · omega
  · exact h3 h4
  · rw [fpw_eq h 8 _ x hx (by omega)] at h3
    exact h3 hg

theorem Ord.nz (h : Res P M) (o : Ord P M mod q x) {k : Nat} (hk : k < q - 1) : pw P M mod x k ≠ 0 := by
  intro h0
  have h1 := pw_add (mod := mod) h x k (q - 1 - k)
  rw [h0, mulS_comm h, mulS_zero h, show k + (q - 1 - k) = q - 1 by omega, o.one] at h1
  omega
theorem Ord.inj (h : Res P M) (o : Ord P M mod q x) {i j : Nat} (hij : i < j) (hj : j < q - 1) : pw P M mod x i ≠ pw P M mod x j := by
  intro e
  have h1 := pw_add (mod := mod) h x i (q - 1 - i)
  have h2 := pw_add (mod := mod) h x j (q - 1 - i)
  rw [show i + (q - 1 - i) = q - 1 by omega, o.one, e, h2] at h1
  have h3 : pw P M mod x (j - i) = 1 := by
    have h4 := pw_add (mod := mod) h x (j - i) (q - 1)
    rw [o.one, mulS_comm h, mulS_one h (pw_el h x _), show j - i + (q - 1) = j + (q - 1 - i) by omega, h1] at h4
    exact h4
  exact o.ne (j - i) (by omega) (by omega) h3

/-- the list of the powers, up to the last one -/
theorem powTo_full (h : Res P M) (hx : ElP P M x) (o : Ord P M mod q x) : ∀ (n k : Nat), k ≤ q - 1 → q - 1 - k < n → 0 < k →
    powTo (fun z => mulS P M mod z x) n ((List.range k).map fun i => pw P M mod x i) (pw P M mod x k) = (List.range (q - 1)).map fun i => pw P M mod x i
  | 0, k, _, hn, _ => by omega
  | n + 1, k, hk, hn, h0 => by
    by_cases hke : k = q - 1
    · subst hke
      refine powTo_stop _ _ _ _ (.inr ?_)
      rw [o.one, List.mem_map]
      exact ⟨0, List.mem_range.2 h0, rfl⟩
    · rw [powTo_go]
      · have e : (List.range k).map (fun i => pw P M mod x i) ++ [pw P M mod x k] = (List.range (k + 1)).map fun i => pw P M mod x i := by rw [List.range_succ, List.map_append]; rfl
        rw [e]
        exact powTo_full h hx o n (k + 1) (by omega) (by omega) (by omega)
      · rintro (h1 | h1)
        · exact o.nz h (by omega) h1
        · obtain ⟨i, hi, e⟩ := List.mem_map.1 h1
          exact o.inj h (List.mem_range.1 hi) (by omega) e
theorem Ord.isGen (h : Res P M) (hx : ElP P M x) (hq : 2 ≤ q) (o : Ord P M mod q x) : isGen P M mod q x = true := by
  have hl : powS P M mod q x = (List.range (q - 1)).map fun i => pw P M mod x i := by
    by_cases h2 : q = 2
    · subst h2
      have : x = 1 := by have := o.one; rwa [show 2 - 1 = 1 from rfl, pw_one h hx] at this
      subst this
      rw [powS, powTo_stop _ _ _ _ (.inr (by simp))]
      rfl
    · have := powTo_full h hx o q 1 (by omega) (by omega) (by omega)
      rw [pw_one h hx] at this
      exact this
  unfold Proofs.YtakmnncmeefceaaGreat.isGen
  rw [hl, Bool.and_eq_true]
  refine ⟨by simp, ?_⟩
  have e : nth ((List.range (q - 1)).map fun i => pw P M mod x i) (q - 2) = pw P M mod x (q - 2) := by
    rw [nth_getElem (by simp; omega)]; simp
  rw [e]
  have : mulS P M mod (pw P M mod x (q - 2)) x = pw P M mod x (q - 1) := by rw [show q - 1 = (q - 2) + 1 by omega]; rfl
  rw [this, o.one]; rfl

theorem genTo_some : ∀ (n x y : Nat), 2 ≤ q → x ≤ y → y < x + n → isGen P M mod q y = true → genTo P M mod q n x ≠ []
  | 0, x, y, _, h1, h2, _ => by omega
  | n + 1, x, y, hq, h1, h2, hg => by
    rw [genTo]
    by_cases hx : isGen P M mod q x = true
    · rw [if_pos hx]
      intro e
      simp only [isGen, Bool.and_eq_true, beq_iff_eq] at hx
      rw [e] at hx
      simp at hx
      omega
    · rw [if_neg hx]
      refine genTo_some n (x + 1) y hq ?_ (by omega) hg
      rcases Nat.eq_or_lt_of_le h1 with h3 | h3
      · subst h3; exact absurd hg hx
      · exact h3
theorem no_zero_div {ex : List Int} {y a b : Int} (g : Gen P M mod q y ex) (ha : ElP P M a) (hb : ElP P M b) (ha0 : a ≠ 0) (hb0 : b ≠ 0) : mulS P M mod a b ≠ 0 := by
  obtain ⟨i, _, rfl, _⟩ := g.log ha ha0
  obtain ⟨j, _, rfl, _⟩ := g.log hb hb0
  rw [pw_add g.res]
  exact g.pw_ne _
end

theorem chkAll_at {P : Int} {M q : Nat} {l : List (Nat × Nat)} (h : chkAll P M q l) {v : Nat} (hv : v < q) : ∃ c, chkV P M q v c = true := ⟨_, h v hv⟩

theorem tabOf (p m : Nat) (hp : primeB p = true) (h2 : 2 ≤ p) (hm : 2 ≤ m) (hm8 : m ≤ 8) (hpw : (p : Int) ^ m ≤ 256) : ∃ l, chkAll p m (((p : Int) ^ m).toNat) l := by
  have hp16 : p ≤ 16 := by
    have h1 := pow_mono (P := (p : Int)) (by omega) hm
    have h3 : (p : Int) ^ 2 = p * p := by rw [Int.pow_succ, Int.pow_succ, Int.pow_zero, Int.one_mul]
    rcases Nat.lt_or_ge 16 p with h4 | h4
    · have h5 : 17 * 17 ≤ p * p := Nat.mul_le_mul h4 h4
      have h6 : ((17 * 17 : Nat) : Int) ≤ ((p * p : Nat) : Int) := Int.ofNat_le.2 h5
      rw [Int.natCast_mul] at h6
      omega
    · exact h4
  have hc : p = 2 ∨ p = 3 ∨ p = 4 ∨ p = 5 ∨ p = 6 ∨ p = 7 ∨ p = 8 ∨ p = 9 ∨ p = 10 ∨ p = 11 ∨ p = 12 ∨ p = 13 ∨ p = 14 ∨ p = 15 ∨ p = 16 := by omega
  have hd : m = 2 ∨ m = 3 ∨ m = 4 ∨ m = 5 ∨ m = 6 ∨ m = 7 ∨ m = 8 := by omega
  rcases hc with rfl | rfl | rfl | rfl | rfl | rfl | rfl | rfl | rfl | rfl | rfl | rfl | rfl | rfl | rfl
  · rcases hd with rfl | rfl | rfl | rfl | rfl | rfl | rfl
    · exact ⟨_, tab2_2⟩
    · exact ⟨_, tab2_3⟩
    · exact ⟨_, tab2_4⟩
    · exact ⟨_, tab2_5⟩
    · exact ⟨_, tab2_6⟩
    · exact ⟨_, tab2_7⟩
    · exact ⟨_, tab2_8⟩
  · rcases hd with rfl | rfl | rfl | rfl | rfl | rfl | rfl
    · exact ⟨_, tab3_2⟩
    · exact ⟨_, tab3_3⟩
    · exact ⟨_, tab3_4⟩
    · exact ⟨_, tab3_5⟩
    · exact absurd hpw (by decide)
    · exact absurd hpw (by decide)
    · exact absurd hpw (by decide)
  · exact absurd hp (by decide)
  · rcases hd with rfl | rfl | rfl | rfl | rfl | rfl | rfl
    · exact ⟨_, tab5_2⟩
    · exact ⟨_, tab5_3⟩
    · exact absurd hpw (by decide)
    · exact absurd hpw (by decide)
    · exact absurd hpw (by decide)
    · exact absurd hpw (by decide)
    · exact absurd hpw (by decide)
  · exact absurd hp (by decide)
  · rcases hd with rfl | rfl | rfl | rfl | rfl | rfl | rfl
    · exact ⟨_, tab7_2⟩
    · exact absurd hpw (by decide)
    · exact absurd hpw (by decide)
    · exact absurd hpw (by decide)
    · exact absurd hpw (by decide)
    · exact absurd hpw (by decide)
    · exact absurd hpw (by decide)
  · exact absurd hp (by decide)
  · exact absurd hp (by decide)
  · exact absurd hp (by decide)
  · rcases hd with rfl | rfl | rfl | rfl | rfl | rfl | rfl
    · exact ⟨_, tab11_2⟩
    · exact absurd hpw (by decide)
    · exact absurd hpw (by decide)
    · exact absurd hpw (by decide)
    · exact absurd hpw (by decide)
    · exact absurd hpw (by decide)
    · exact absurd hpw (by decide)
  · exact absurd hp (by decide)
  · rcases hd with rfl | rfl | rfl | rfl | rfl | rfl | rfl
    · exact ⟨_, tab13_2⟩
    · exact absurd hpw (by decide)
    · exact absurd hpw (by decide)
    · exact absurd hpw (by decide)
    · exact absurd hpw (by decide)
    · exact absurd hpw (by decide)
    · exact absurd hpw (by decide)
  · exact absurd hp (by decide)
  · exact absurd hp (by decide)
  · exact absurd hp (by decide)

theorem valu_el {P : Int} {m : Nat} (hf : RF P m) {mod : List Int} (hd : Dig P mod) (hl : mod.length = m) : 0 ≤ valu P mod ∧ valu P mod < P ^ m := by
  have := valu_bd (P := P) (by have := hf.p2; omega) mod hd
  rwa [hl] at this

theorem fieldRB_eq (P M : Int) (mod : List Int) : fieldRB P M mod = fieldB P M mod := by
  by_cases hs : shapeB P M mod = true
  · unfold fieldRB fieldB
    rw [hs, Bool.true_and, Bool.true_and]
    have hs2 := hs
    unfold shapeB at hs2
    simp only [Bool.and_eq_true, bne_iff_ne, ne_eq] at hs2
    obtain ⟨⟨h1, h2⟩, h3⟩ := hs2
    obtain ⟨m, rfl, hrf⟩ := RF.of h1
    obtain ⟨p, rfl⟩ : ∃ p : Nat, P = p := ⟨P.toNat, by have := hrf.p2; omega⟩
    rw [Int.toNat_natCast] at h2 ⊢
    have hp2 : 2 ≤ p := by have := hrf.p2; omega
    have hp256 : p ≤ 256 := by have := hrf.p256; omega
    have hord := hrf.order
    have hres := hrf.res
    obtain ⟨q, hq⟩ : ∃ q : Nat, (p : Int) ^ m = q := ⟨((p : Int) ^ m).toNat, by have := one_lt_pow hres; omega⟩
    have hq2 : 2 ≤ q := by have := one_lt_pow hres; omega
    have hq256 : q ≤ 256 := by have := hrf.pw; omega
    rw [hord, hq, Int.toNat_natCast]
    have hgen : ∀ x : Nat, 0 < x → x < q → ordOk (mulS p m mod) q x = true → (genS p m mod q).isEmpty = false := fun x hx0 hx1 ho => by
      have hel : ElP (p : Int) m x := ⟨by omega, by rw [hq]; omega⟩
      have hg := (Ord.of hres hel hq256 ho).isGen hres hel hq2
      have := genTo_some (P := p) (M := m) (mod := mod) (q - 1) 1 x hq2 (by omega) (by omega) hg
      unfold genS
      cases h : genTo p m mod q (q - 1) 1 with
      | nil => exact absurd h this
      | cons y l => rfl
    by_cases hm : m = 1
    · subst hm
      have hmod : mod = [] := by
        rw [if_pos (by simp)] at h3
        exact List.eq_nil_of_length_eq_zero (by simpa using h3)
      subst hmod
      have hr := List.all_eq_true.1 rootsAll p (List.mem_range.2 (by omega))
      have hp2' : decide (p < 2) = false := by simp; omega
      rw [hp2', h2] at hr
      simp only [Bool.not_true, Bool.false_or, List.any_eq_true] at hr
      obtain ⟨c, hc, hcp⟩ := hr
      have hck := List.all_eq_true.1 tabP c hc
      have hcp2 : c.1 = p := by simpa using hcp
      unfold chkP at hck
      rw [hcp2] at hck
      simp only [Bool.and_eq_true, decide_eq_true_eq] at hck
      have hqp : q = p := by have : (p : Int) ^ 1 = p := by rw [Int.pow_succ, Int.pow_zero, Int.one_mul]
                             omega
      rw [hgen c.2 hck.1.2 (by omega) (by rw [hqp]; exact hck.1.1)]
      rfl
    · have hM : ¬ (m : Int) = 1 := by omega
      rw [if_neg hM] at h3
      simp only [Bool.and_eq_true, decide_eq_true_eq] at h3
      have hlen : mod.length = m := by omega
      have hdig : Dig (p : Int) mod := Dig.of_mem (by omega) fun x hx => by
        have := List.all_eq_true.1 h3.2 x hx
        simpa using this
      have hv := valu_el hrf hdig hlen
      obtain ⟨v, hvv⟩ : ∃ v : Nat, valu p mod = v := ⟨(valu p mod).toNat, by omega⟩
      have hdv : digs v p m = mod := by rw [← hvv, ← hlen]; exact digs_valu mod hdig
      obtain ⟨l, hl⟩ := tabOf p m h2 hp2 (by have := hrf.m1; omega) hrf.m8 hrf.pw
      rw [hq, Int.toNat_natCast] at hl
      obtain ⟨c, hc⟩ := chkAll_at hl (v := v) (by omega)
      have hM' : ((m : Int) == 1) = false := by simpa using hM
      rw [hM', Bool.false_or]
      unfold chkV at hc
      rw [hdv] at hc
      split at hc
      · simp only [Bool.and_eq_true, decide_eq_true_eq] at hc
        rw [hc.1.1.1, hgen c.1 hc.1.2 hc.2 hc.1.1.2]; rfl
      · rename_i hc2
        simp only [Bool.and_eq_true, decide_eq_true_eq, Bool.not_eq_true', beq_iff_eq] at hc
        rw [hc.1.1.1.1]
        cases h : (genS p m mod q).isEmpty with
        | true => rfl
        | false =>
          exfalso
          have hne : genS p m mod q ≠ [] := fun e => by rw [e] at h; cases h
          obtain ⟨y, hy1, hy2, hy3, hy4⟩ := genS_spec hne
          have g := Gen.of_isGen (mod := mod) hres hq.symm ⟨by omega, by omega⟩ hy3
          exact no_zero_div g (a := (c.1 : Int)) (b := (c.2 : Int)) ⟨by omega, by omega⟩ ⟨by omega, by omega⟩ (by omega) (by omega) hc.1.1.1.2
  · have hs' : shapeB P M mod = false := by simpa using hs
    simp [fieldRB, fieldB, hs']
end

/- What the greedy choice of columns counts: the rank over the closure by linear forms. -/
section
namespace Fld
variable {O : FOps} {El : Int → Prop} (F : Fld O El)
include F
theorem zadd {x : Int} (hx : El x) : O.add 0 x = x := by rw [F.add_comm _ _ F.zero hx, F.add_zero x hx]
theorem negadd {x : Int} (hx : El x) : O.add (O.neg x) x = 0 := by rw [F.add_comm _ _ (F.cl.neg x hx) hx, F.add_neg x hx]
theorem nadd {x y : Int} (hx : El x) (hy : El y) : O.add (O.neg x) (O.add x y) = y := by
  rw [← F.add_assoc _ _ _ (F.cl.neg x hx) hx hy, F.negadd hx, F.zadd hy]
theorem cancel {x y z : Int} (hx : El x) (hy : El y) (hz : El z) (h : O.add x y = O.add x z) : y = z := by
  rw [← F.nadd hx hy, h, F.nadd hx hz]
theorem mzero {x : Int} (hx : El x) : O.mul x 0 = 0 := by
  have h0 := F.cl.mul x 0 hx F.zero
  refine F.cancel h0 h0 F.zero ?_
  rw [← F.mul_add x 0 0 hx F.zero F.zero, F.add_zero 0 F.zero, F.add_zero _ h0]
theorem zmul {x : Int} (hx : El x) : O.mul 0 x = 0 := by rw [F.mul_comm _ _ F.zero hx, F.mzero hx]
theorem mone {x : Int} (hx : El x) : O.mul x 1 = x := by rw [F.mul_comm _ _ hx F.one, F.one_mul x hx]
theorem neg_of {x y : Int} (hx : El x) (hy : El y) (h : O.add x y = 0) : y = O.neg x :=
  F.cancel hx hy (F.cl.neg x hx) (by rw [h, F.add_neg x hx])
theorem nzero : O.neg 0 = 0 := (F.neg_of F.zero F.zero (F.add_zero 0 F.zero)).symm
theorem mul_neg {x y : Int} (hx : El x) (hy : El y) : O.mul x (O.neg y) = O.neg (O.mul x y) := by
  have hn := F.cl.neg y hy
  refine F.neg_of (F.cl.mul x y hx hy) (F.cl.mul x _ hx hn) ?_
  rw [← F.mul_add x y _ hx hy hn, F.add_neg y hy, F.mzero hx]
theorem neg_mul {x y : Int} (hx : El x) (hy : El y) : O.mul (O.neg x) y = O.neg (O.mul x y) := by
  rw [F.mul_comm _ _ (F.cl.neg x hx) hy, F.mul_neg hy hx, F.mul_comm _ _ hy hx]
theorem add4 {a b c d : Int} (ha : El a) (hb : El b) (hc : El c) (hd : El d) : O.add (O.add a b) (O.add c d) = O.add (O.add a c) (O.add b d) := by
  rw [F.add_assoc a b _ ha hb (F.cl.add c d hc hd), F.add_assoc a c _ ha hc (F.cl.add b d hb hd), ← F.add_assoc b c d hb hc hd, F.add_comm b c hb hc, F.add_assoc c b d hc hb hd]
theorem neg_add {x y : Int} (hx : El x) (hy : El y) : O.neg (O.add x y) = O.add (O.neg x) (O.neg y) := by
  have hnx := F.cl.neg x hx
  have hny := F.cl.neg y hy
  refine (F.neg_of (F.cl.add x y hx hy) (F.cl.add _ _ hnx hny) ?_).symm
  rw [F.add4 hx hy hnx hny, F.add_neg x hx, F.add_neg y hy, F.add_zero 0 F.zero]
theorem neg_neg {x : Int} (hx : El x) : O.neg (O.neg x) = x := (F.neg_of (F.cl.neg x hx) hx (F.negadd hx)).symm
theorem mul_ne {x y : Int} (hx : El x) (hy : El y) (h0 : x ≠ 0) (h : O.mul x y = 0) : y = 0 := by
  have hi := F.cl.inv x hx h0
  rw [← F.one_mul y hy, ← F.mul_inv x hx h0, F.mul_comm x _ hx hi, F.mul_assoc _ x y hi hx hy, h, F.mzero hi]
/-- a form less a multiple of another -/
theorem comb {A B x A' B' R : Int} (hA : El A) (hB : El B) (hx : El x) (hA' : El A') (hB' : El B') (hR : El R) :
    O.add (O.add A (O.neg (O.mul x B))) (O.neg (O.mul (O.add A' (O.neg (O.mul x B'))) R)) = O.add (O.add A (O.neg (O.mul A' R))) (O.neg (O.mul x (O.add B (O.neg (O.mul B' R))))) := by
  have m := F.cl.mul
  have n := F.cl.neg
  have h1 := m x B hx hB
  have h2 := m A' R hA' hR
  have hxB := m x B' hx hB'
  have h3 := m _ R hxB hR
  have hBR := m B' R hB' hR
  have e1 : O.mul (O.add A' (O.neg (O.mul x B'))) R = O.add (O.mul A' R) (O.neg (O.mul (O.mul x B') R)) := by
    rw [F.mul_comm _ R (F.cl.add _ _ hA' (n _ hxB)) hR, F.mul_add R _ _ hR hA' (n _ hxB), F.mul_comm R A' hR hA', F.mul_comm R _ hR (n _ hxB), F.neg_mul hxB hR]
  have e2 : O.mul x (O.add B (O.neg (O.mul B' R))) = O.add (O.mul x B) (O.neg (O.mul (O.mul x B') R)) := by
    rw [F.mul_add x _ _ hx hB (n _ hBR), F.mul_neg hx hBR, F.mul_assoc x B' R hx hB' hR]
  rw [e1, e2, F.neg_add h2 (n _ h3), F.neg_add h1 (n _ h3), F.neg_neg h3, F.add4 hA (n _ h1) (n _ h2) h3, F.add4 hA (n _ h2) (n _ h1) h3]
end Fld

def Vc (El : Int → Prop) (n : Nat) (v : List Int) : Prop := v.length = n ∧ ∀ y ∈ v, El y
theorem Vc.at {El : Int → Prop} {n : Nat} {v : List Int} (h : Vc El n v) {i : Nat} (hi : i < n) : El (nth v i) := h.2 _ (nth_mem (by rw [h.1]; exact hi))
theorem Vc.sub {O : FOps} {El : Int → Prop} (F : Fld O El) {n : Nat} {v r : List Int} {x : Int} (hv : Vc El n v) (hr : Vc El n r) (hx : El x) : Vc El n (subRow O v x r) :=
  ⟨by rw [subRow_length _ _ _ _ (by rw [hr.1, hv.1])]; exact hv.1, subRow_el F.cl hv.2 hr.2 hx⟩
theorem Vc.scl {O : FOps} {El : Int → Prop} (F : Fld O El) {n : Nat} {r : List Int} {x : Int} (hr : Vc El n r) (hx : El x) : Vc El n (r.map (O.mul x)) :=
  ⟨by rw [List.length_map]; exact hr.1, fun y hy => by
    obtain ⟨z, hz, rfl⟩ := List.mem_map.1 hy
    exact F.cl.mul _ _ hx (hr.2 z hz)⟩

/-- linear forms on the vectors of length n -/
structure Lin (O : FOps) (El : Int → Prop) (n : Nat) (φ : List Int → Int) : Prop where
  el : ∀ v, Vc El n v → El (φ v)
  sub : ∀ v r x, Vc El n v → Vc El n r → El x → φ (subRow O v x r) = O.add (φ v) (O.neg (O.mul x (φ r)))
  scl : ∀ r x, Vc El n r → El x → φ (r.map (O.mul x)) = O.mul x (φ r)

variable {O : FOps} {El : Int → Prop} {n : Nat}

theorem nth_scl (O : FOps) (r : List Int) (x : Int) {i : Nat} (hi : i < r.length) : nth (r.map (O.mul x)) i = O.mul x (nth r i) := by
  rw [nth_getElem (by simpa using hi), nth_getElem hi]; simp
theorem Lin.coord (F : Fld O El) {i : Nat} (hi : i < n) : Lin O El n (fun v => nth v i) :=
  ⟨fun v hv => hv.at hi, fun v r x hv hr hx => nth_subRow O v x r i (by rw [hr.1, hv.1]) (by rw [hv.1]; exact hi), fun r x hr hx => nth_scl O r x (by rw [hr.1]; exact hi)⟩
theorem Lin.congr (F : Fld O El) {φ ψ : List Int → Int} (h : Lin O El n φ) (e : ∀ v, Vc El n v → ψ v = φ v) : Lin O El n ψ :=
  ⟨fun v hv => by rw [e v hv]; exact h.el v hv, fun v r x hv hr hx => by rw [e _ (hv.sub F hr hx), e v hv, e r hr]; exact h.sub v r x hv hr hx,
    fun r x hr hx => by rw [e _ (hr.scl F hx), e r hr]; exact h.scl r x hr hx⟩
theorem Lin.comb (F : Fld O El) {φ ψ : List Int → Int} (h : Lin O El n φ) (g : Lin O El n ψ) {s : Int} (hs : El s) : Lin O El n (fun v => O.add (φ v) (O.neg (O.mul (ψ v) s))) :=
  ⟨fun v hv => F.cl.add _ _ (h.el v hv) (F.cl.neg _ (F.cl.mul _ _ (g.el v hv) hs)),
   fun v r x hv hr hx => by
    show O.add (φ (subRow O v x r)) (O.neg (O.mul (ψ (subRow O v x r)) s)) = _
    rw [h.sub v r x hv hr hx, g.sub v r x hv hr hx]
    exact F.comb (h.el v hv) (h.el r hr) hx (g.el v hv) (g.el r hr) hs,
   fun r x hr hx => by
    show O.add (φ (r.map (O.mul x))) (O.neg (O.mul (ψ (r.map (O.mul x))) s)) = _
    rw [h.scl r x hr hx, g.scl r x hr hx, F.mul_assoc x _ s hx (g.el r hr) hs, ← F.mul_neg hx (F.cl.mul _ _ (g.el r hr) hs), ← F.mul_add x _ _ hx (h.el r hr) (F.cl.neg _ (F.cl.mul _ _ (g.el r hr) hs))]⟩

/-- the closure: what each linear form that is 0 on the vectors of l is 0 on -/
def clV (O : FOps) (El : Int → Prop) (n : Nat) (c : Nat → List Int) (l : List Nat) (x : Nat) : Prop := ∀ φ, Lin O El n φ → (∀ y ∈ l, φ (c y) = 0) → φ (c x) = 0
theorem clV_clo (F : Fld O El) {c : Nat → List Int} (hc : ∀ i, Vc El n (c i)) : Clo (clV O El n c) where
  mem l x hx φ _ h := h x hx
  mono l l' h y hy φ hφ h0 := hy φ hφ fun x hx => h x hx φ hφ h0
  exch l x y h hn := by
    intro b hb h0
    apply Classical.byContradiction
    intro hbx
    apply hn
    intro a ha ha0
    apply Classical.byContradiction
    intro hay
    have hax : a (c x) ≠ 0 := fun e => hay (h a ha fun z hz => by
      rcases List.mem_cons.1 hz with rfl | hz
      · exact e
      · exact ha0 z hz)
    -- the form a, less a multiple of b that makes it 0 at x
    have h1 := ha.el _ (hc x)
    have h2 := hb.el _ (hc x)
    have hbi := F.cl.inv _ h2 hbx
    have hs := F.cl.mul _ _ hbi h1
    have := h _ (ha.comb F hb hs) fun z hz => by
      rcases List.mem_cons.1 hz with rfl | hz
      · show O.add (a (c z)) (O.neg (O.mul (b (c z)) (O.mul (O.inv (b (c z))) (a (c z))))) = 0
        rw [← F.mul_assoc _ _ _ h2 hbi h1, F.mul_inv _ h2 hbx, F.one_mul _ h1, F.add_neg _ h1]
      · show O.add (a (c z)) (O.neg (O.mul (b (c z)) _)) = 0
        rw [ha0 z hz, h0 z (List.mem_cons.2 (.inr hz)), F.zmul hs, F.nzero, F.add_zero 0 F.zero]
    have h3 : O.add (a (c y)) (O.neg (O.mul (b (c y)) (O.mul (O.inv (b (c x))) (a (c x))))) = 0 := this
    rw [h0 y (by simp), F.zmul hs, F.nzero, F.add_zero _ (ha.el _ (hc y))] at h3
    exact hay h3

/-- the vectors are reduced, each has 1 at its place and 0 at the places of those ahead of it -/
structure BS.Inv (El : Int → Prop) (n : Nat) (s : BS) : Prop where
  ok : s.Ok El n
  one : ∀ i, i < s.rows.length → nth (nthR s.rows i) (nth s.place i).toNat = 1
  zero : ∀ j i, j < i → i < s.rows.length → nth (nthR s.rows i) (nth s.place j).toNat = 0

theorem BS.Ok.row {s : BS} (h : s.Ok El n) {i : Nat} (hi : i < s.rows.length) : Vc El n (nthR s.rows i) := h.rws.row hi
theorem BS.Ok.pl {s : BS} (h : s.Ok El n) {i : Nat} (hi : i < s.rows.length) : (nth s.place i).toNat < n := by have := h.plc i hi; omega
theorem Vc.redStep (F : Fld O El) {u r : List Int} {p : Int} (hu : Vc El n u) (hr : Vc El n r) (hp : p.toNat < n) : Vc El n (redStep O u p r) := by
  unfold Go.Proofs.YtakmnncmeefceaaGreat.redStep
  split
  · exact hu
  · exact hu.sub F hr (hu.at hp)
theorem Vc.redTo (F : Fld O El) {s : BS} (h : s.Ok El n) {v : List Int} (hv : Vc El n v) : ∀ k, k ≤ s.rows.length → Vc El n (redTo O s.rows s.place v k)
  | 0, _ => hv
  | k + 1, hk => (Vc.redTo F h hv k (by omega)).redStep F (h.row (by omega)) (h.pl (by omega))
theorem nth_redStep (F : Fld O El) {u r : List Int} {p : Int} (hu : Vc El n u) (hr : Vc El n r) (hp : p.toNat < n) {i : Nat} (hi : i < n) :
    nth (redStep O u p r) i = O.add (nth u i) (O.neg (O.mul (nth u p.toNat) (nth r i))) := by
  unfold redStep
  split
  · rename_i h0
    rw [h0, F.zmul (hr.at hi), F.nzero, F.add_zero _ (hu.at hi)]
  · exact nth_subRow O u _ r i (by rw [hr.1, hu.1]) (by rw [hu.1]; exact hi)

namespace BS.Inv
variable {s : BS}
theorem place (F : Fld O El) (h : s.Inv El n) {v : List Int} (hv : Vc El n v) : ∀ k, k ≤ s.rows.length → ∀ j, j < k → nth (redTo O s.rows s.place v k) (nth s.place j).toNat = 0
  | 0, _, j, hj => by omega
  | k + 1, hk, j, hj => by
    have hu := Vc.redTo F h.ok hv k (by omega)
    have hpk := h.ok.pl (i := k) (by omega)
    have hpj := h.ok.pl (i := j) (by omega)
    rw [redTo, nth_redStep F hu (h.ok.row (by omega)) hpk hpj]
    by_cases e : j = k
    · subst e
      rw [h.one j (by omega), F.mone (hu.at hpk), F.add_neg _ (hu.at hpk)]
    · rw [place F h hv k (by omega) j (by omega), h.zero j k (by omega) (by omega), F.mzero (hu.at hpk), F.nzero, F.add_zero 0 F.zero]
theorem stay (h : s.Inv El n) {i : Nat} (hi : i < s.rows.length) : ∀ k, k ≤ i → redTo O s.rows s.place (nthR s.rows i) k = nthR s.rows i
  | 0, _ => rfl
  | k + 1, hk => by rw [redTo, stay h hi k (by omega), redStep, if_pos (h.zero k i (by omega) hi)]
theorem gone (F : Fld O El) (h : s.Inv El n) {i : Nat} (hi : i < s.rows.length) : ∀ k, i < k → k ≤ s.rows.length → ∀ t, t < n → nth (redTo O s.rows s.place (nthR s.rows i) k) t = 0
  | 0, hk, _, _, _ => by omega
  | k + 1, hk, hkl, t, ht => by
    have hu := Vc.redTo F h.ok (h.ok.row hi) k (by omega)
    have hr := h.ok.row (i := k) (by omega)
    have hpk := h.ok.pl (i := k) (by omega)
    rw [redTo, nth_redStep F hu hr hpk ht]
    by_cases e : k = i
    · subst e
      rw [h.stay hi k (Nat.le_refl _), h.one k hi, F.one_mul _ (hr.at ht), F.add_neg _ (hr.at ht)]
    · rw [gone F h hi k (by omega) (by omega) t ht, gone F h hi k (by omega) (by omega) _ hpk, F.zmul (hr.at ht), F.nzero, F.add_zero 0 F.zero]
theorem lin (F : Fld O El) (h : s.Inv El n) : ∀ k, k ≤ s.rows.length → ∀ i, i < n → Lin O El n (fun v => nth (redTo O s.rows s.place v k) i)
  | 0, _, i, hi => Lin.coord F hi
  | k + 1, hk, i, hi => by
    have hpk := h.ok.pl (i := k) (by omega)
    have hr := h.ok.row (i := k) (by omega)
    refine Lin.congr F ((lin F h k (by omega) i hi).comb F (lin F h k (by omega) _ hpk) (hr.at hi)) fun v hv => ?_
    show nth (redTo O s.rows s.place v (k + 1)) i = _
    rw [redTo, nth_redStep F (Vc.redTo F h.ok hv k (by omega)) hr hpk hi]
theorem form (F : Fld O El) (h : s.Inv El n) {φ : List Int → Int} (hφ : Lin O El n φ) (h0 : ∀ i, i < s.rows.length → φ (nthR s.rows i) = 0) {v : List Int} (hv : Vc El n v) : ∀ k, k ≤ s.rows.length → φ (redTo O s.rows s.place v k) = φ v
  | 0, _ => rfl
  | k + 1, hk => by
    have hu := Vc.redTo F h.ok hv k (by omega)
    have hr := h.ok.row (i := k) (by omega)
    have hpk := h.ok.pl (i := k) (by omega)
    rw [redTo, redStep]
    split
    · exact form F h hφ h0 hv k (by omega)
    · rw [hφ.sub _ _ _ hu hr (hu.at hpk), h0 k (by omega), F.mzero (hu.at hpk), F.nzero, form F h hφ h0 hv k (by omega), F.add_zero _ (hφ.el v hv)]
end BS.Inv

theorem Lin.zero (F : Fld O El) {φ : List Int → Int} (h : Lin O El n φ) {v : List Int} (hv : Vc El n v) (h0 : ∀ i, i < n → nth v i = 0) : φ v = 0 := by
  have e : v = v.map (O.mul 0) := nth_ext (by simp) fun i hi => by
    rw [nth_scl O v 0 hi, F.zmul (hv.at (by rw [← hv.1]; exact hi)), h0 i (by rw [← hv.1]; exact hi)]
  rw [e, h.scl v 0 hv F.zero, F.zmul (h.el v hv)]

theorem takes_false (F : Fld O El) {s : BS} (h : s.Inv El n) {v : List Int} (hv : Vc El n v) :
    s.takes O v = false ↔ ∀ φ, Lin O El n φ → (∀ i, i < s.rows.length → φ (nthR s.rows i) = 0) → φ v = 0 := by
  have hu : Vc El n (s.red O v) := Vc.redTo F h.ok hv _ (Nat.le_refl _)
  constructor
  · intro ht φ hφ h0
    rw [← h.form F hφ h0 hv _ (Nat.le_refl _)]
    refine hφ.zero F hu fun i hi => fnz_zero (s.red O v) i ?_
    have h1 : ¬ fnz (s.red O v) < (s.red O v).length := by simpa [BS.takes] using ht
    have h2 := fnz_le (s.red O v)
    have := hu.1
    omega
  · intro h0
    apply Classical.byContradiction
    intro ht
    have h1 : fnz (s.red O v) < (s.red O v).length := by simpa [BS.takes] using ht
    have := hu.1
    exact fnz_ne _ h1 (h0 _ (h.lin F _ (Nat.le_refl _) _ (by omega)) fun i hi => h.gone F hi _ hi (Nat.le_refl _) _ (by omega))

theorem nthR_push (L : List (List Int)) (r : List Int) (i : Nat) : nthR (L ++ [r]) i = if i < L.length then nthR L i else if i = L.length then r else nthR [] 0 := by
  unfold nthR
  simp only [List.getD_eq_getElem?_getD]
  split
  · rename_i h; rw [List.getElem?_append_left h]
  · rename_i h
    split
    · rename_i e; subst e; simp
    · rename_i e; rw [List.getElem?_eq_none (by simp; omega)]; simp
theorem nth_push (l : List Int) (r : Int) (i : Nat) : nth (l ++ [r]) i = if i < l.length then nth l i else if i = l.length then r else 0 := by
  unfold nth
  simp only [List.getD_eq_getElem?_getD]
  split
  · rename_i h; rw [List.getElem?_append_left h]
  · rename_i h
    split
    · rename_i e; subst e; simp
    · rename_i e; rw [List.getElem?_eq_none (by simp; omega)]; simp

theorem BS.Inv.next (F : Fld O El) {s : BS} (h : s.Inv El n) {v : List Int} (hv : Vc El n v) : (s.next O v).Inv El n := by
  refine ⟨h.ok.next F.cl hv, ?_, ?_⟩
  · unfold BS.next
    split
    · rename_i ht
      have hu : Vc El n (s.red O v) := Vc.redTo F h.ok hv _ (Nat.le_refl _)
      have hf : fnz (s.red O v) < (s.red O v).length := by simpa [BS.takes] using ht
      have hne := fnz_ne _ hf
      have hl := hu.1
      have hel := hu.at (i := fnz (s.red O v)) (by omega)
      intro i hi
      simp only [List.length_append, List.length_singleton] at hi
      simp only [nthR_push, nth_push, h.ok.len]
      by_cases e : i < s.rows.length
      · rw [if_pos e, if_pos e]; exact h.one i e
      · rw [if_neg e, if_neg e, if_pos (by omega), if_pos (by omega), Int.toNat_natCast, nth_scl O _ _ hf, F.mul_comm _ _ (F.cl.inv _ hel hne) hel, F.mul_inv _ hel hne]
    · exact h.one
  · unfold BS.next
    split
    · rename_i ht
      have hu : Vc El n (s.red O v) := Vc.redTo F h.ok hv _ (Nat.le_refl _)
      have hf : fnz (s.red O v) < (s.red O v).length := by simpa [BS.takes] using ht
      have hne := fnz_ne _ hf
      have hl := hu.1
      have hel := hu.at (i := fnz (s.red O v)) (by omega)
      intro j i hji hi
      simp only [List.length_append, List.length_singleton] at hi
      simp only [nthR_push, nth_push, h.ok.len]
      rw [if_pos (show j < s.rows.length by omega)]
      by_cases e : i < s.rows.length
      · rw [if_pos e]; exact h.zero j i hji e
      · have hpj := h.ok.pl (i := j) (by omega)
        rw [if_neg e, if_pos (by omega), nth_scl O _ _ (by omega), BS.red, h.place F hv _ (Nat.le_refl _) j (by omega)]
        exact F.mzero (F.cl.inv _ hel hne)
    · exact h.zero

/-- forms that are 0 on the vectors that were put in are those that are 0 on the basis -/
def Same (O : FOps) (El : Int → Prop) (n : Nat) (c : Nat → List Int) (l : List Nat) (s : BS) : Prop :=
  ∀ φ, Lin O El n φ → ((∀ y ∈ l, φ (c y) = 0) ↔ ∀ i, i < s.rows.length → φ (nthR s.rows i) = 0)
theorem Same.next (F : Fld O El) {c : Nat → List Int} (hc : ∀ i, Vc El n (c i)) {l : List Nat} {s : BS} (h : s.Inv El n) (hs : Same O El n c l s) (x : Nat) : Same O El n c (x :: l) (s.next O (c x)) := by
  intro φ hφ
  have key : (∀ i, i < s.rows.length → φ (nthR s.rows i) = 0) → ((φ (c x) = 0) ↔ ∀ i, i < (s.next O (c x)).rows.length → φ (nthR (s.next O (c x)).rows i) = 0) := by
    intro h0
    have hu : Vc El n (s.red O (c x)) := Vc.redTo F h.ok (hc x) _ (Nat.le_refl _)
    have hform := h.form F hφ h0 (hc x) _ (Nat.le_refl _)
    unfold BS.next
    split
    · rename_i ht
      have hf : fnz (s.red O (c x)) < (s.red O (c x)).length := by simpa [BS.takes] using ht
      have hne := fnz_ne _ hf
      have hl := hu.1
      have hel := hu.at (i := fnz (s.red O (c x))) (by omega)
      have hi := F.cl.inv _ hel hne
      have hscl := hφ.scl _ _ hu hi
      have hine : O.inv (nth (s.red O (c x)) (fnz (s.red O (c x)))) ≠ 0 := by
        intro e
        have := F.mul_inv _ hel hne
        rw [e, F.mzero hel] at this
        exact absurd this (by decide)
      constructor
      · intro hx i hi2
        simp only [List.length_append, List.length_singleton] at hi2
        simp only [nthR_push]
        by_cases e : i < s.rows.length
        · rw [if_pos e]; exact h0 i e
        · rw [if_neg e, if_pos (by omega), hscl]
          show O.mul _ (φ (redTo O s.rows s.place (c x) s.rows.length)) = 0
          rw [hform, hx, F.mzero hi]
      · intro hall
        have := hall s.rows.length (by simp)
        simp only [nthR_push] at this
        rw [if_neg (Nat.lt_irrefl _), if_pos trivial, hscl] at this
        rw [← hform]
        exact F.mul_ne hi (hφ.el _ hu) hine this
    · rename_i ht
      exact ⟨fun _ => h0, fun _ => (takes_false F h (hc x)).1 (by simpa using ht) φ hφ h0⟩
  constructor
  · intro hall
    have h1 : ∀ i, i < s.rows.length → φ (nthR s.rows i) = 0 := (hs φ hφ).1 fun y hy => hall y (List.mem_cons.2 (.inr hy))
    exact (key h1).1 (hall x (by simp))
  · intro hall
    have h1 : ∀ i, i < s.rows.length → φ (nthR s.rows i) = 0 := by
      intro i hi
      have hlen : s.rows.length ≤ (s.next O (c x)).rows.length := by unfold BS.next; split <;> simp
      have := hall i (by omega)
      unfold BS.next at this
      split at this
      · simp only [nthR_push] at this
        rw [if_pos hi] at this; exact this
      · exact this
    intro y hy
    rcases List.mem_cons.1 hy with rfl | hy
    · exact (key h1).2 hall
    · exact (hs φ hφ).2 h1 y hy

/-- the positions of the first k, the last ahead -/
def grL (Q : List Int) : Nat → List Nat
  | 0 => []
  | k + 1 => (nth Q k).toNat :: grL Q k
theorem mem_grL (Q : List Int) (x : Nat) : ∀ k, x ∈ grL Q k ↔ ∃ j, j < k ∧ (nth Q j).toNat = x
  | 0 => by simp [grL]
  | k + 1 => by
    rw [grL, List.mem_cons, mem_grL Q x k]
    constructor
    · rintro (h | ⟨j, hj, h⟩)
      · exact ⟨k, by omega, h.symm⟩
      · exact ⟨j, by omega, h⟩
    · rintro ⟨j, hj, h⟩
      by_cases e : j = k
      · subst e; exact .inl h.symm
      · exact .inr ⟨j, by omega, h⟩

theorem colS_vc {m : Nat} {L : List (List Int)} (h : Rws El m L) (h0 : El 0) (i : Nat) : Vc El L.length (colS L i) := by
  refine ⟨colS_length _ _, fun y hy => ?_⟩
  unfold colS at hy
  obtain ⟨r, hr, rfl⟩ := List.mem_map.1 hy
  by_cases hi : i < m
  · exact (h r hr).2 _ (nth_mem (by rw [(h r hr).1]; exact hi))
  · have : nth r i = 0 := by
      unfold nth
      rw [List.getD_eq_getElem?_getD, List.getElem?_eq_none (by rw [(h r hr).1]; omega)]; rfl
    rw [this]; exact h0
theorem gr_inv (F : Fld O El) {m : Nat} {L : List (List Int)} (hL : Rws El m L) (Q : List Int) : ∀ k, (grTo O L Q k).1.Inv El L.length ∧ Same O El L.length (colS L) (grL Q k) (grTo O L Q k).1 ∧
    Rk (clV O El L.length (colS L)) (grL Q k) (grTo O L Q k).2.length
  | 0 => ⟨⟨⟨fun r hr => by simp [grTo] at hr, rfl, fun i hi => by simp [grTo] at hi⟩, fun i hi => by simp [grTo] at hi, fun j i _ hi => by simp [grTo] at hi⟩, fun φ _ => ⟨fun _ i hi => by simp [grTo] at hi, fun _ y hy => by simp [grL] at hy⟩, .nil⟩
  | k + 1 => by
    obtain ⟨h1, h2, h3⟩ := gr_inv F hL Q k
    have hc := colS_vc hL F.zero
    refine ⟨h1.next F (hc _), h2.next F hc h1 _, ?_⟩
    have htk := takes_false F h1 (hc (nth Q k).toNat)
    have hcl : clV O El L.length (colS L) (grL Q k) (nth Q k).toNat ↔ (grTo O L Q k).1.takes O (colS L (nth Q k).toNat) = false := by
      rw [htk]
      exact ⟨fun h φ hφ h0 => h φ hφ ((h2 φ hφ).2 h0), fun h φ hφ h0 => h φ hφ ((h2 φ hφ).1 h0)⟩
    rw [grL, grTo]
    by_cases ht : (grTo O L Q k).1.takes O (colS L (nth Q k).toNat) = true
    · rw [if_pos ht]
      simp only [List.length_append, List.length_singleton]
      exact .ind _ (fun h => by rw [hcl.1 h] at ht; simp at ht) h3
    · rw [if_neg ht]
      exact .dep _ (hcl.2 (by simpa using ht)) h3
/-- the greedy choice counts the rank -/
theorem grS_rk (F : Fld O El) {m : Nat} {L : List (List Int)} (hL : Rws El m L) (Q : List Int) : Rk (clV O El L.length (colS L)) (grL Q Q.length) (grS O L Q).length := (gr_inv F hL Q Q.length).2.2
theorem col_clo (F : Fld O El) {m : Nat} {L : List (List Int)} (hL : Rws El m L) : Clo (clV O El L.length (colS L)) := clV_clo F (colS_vc hL F.zero)
end

/- The reference's operations are the program's: what the two Checks say is the same. -/
section
theorem invTo_find (f : Int → Int) : ∀ (n : Nat) (y z : Int), y ≤ z → z < y + n → f z = 1 → f (invTo f n y) = 1 ∧ y ≤ invTo f n y ∧ invTo f n y < y + n
  | 0, y, z, h1, h2, _ => by omega
  | n + 1, y, z, h1, h2, hz => by
    unfold invTo
    split
    · exact ⟨by assumption, by omega, by omega⟩
    · rename_i hn
      have hne : y ≠ z := fun e => hn (e ▸ hz)
      have := invTo_find f n (y + 1) z (by omega) (by omega) hz
      exact ⟨this.1, by omega, by omega⟩

/-- the program's operations and the reference's agree on the elements -/
theorem eq_ops {P M : Int} {mod : List Int} (h : fieldB P M mod = true) : ∃ m : Nat, M = m ∧ ElP P m = (tblOf P m mod).El ∧ ((tblOf P m mod).q : Int) = orderS P M ∧ Fld (tblOf P m mod).ops (ElP P m) ∧ Agr (tblOf P m mod).ops (rops P m mod) (ElP P m) ∧
    ∀ p, ElP P m p → p ≠ 0 → (invR P m mod p = 1 ↔ p = 1) := by
  have hF := fieldB_fld h
  obtain ⟨m, y, rfl, hr, h256, hsh, hq, g⟩ := fieldB_gen h
  have hrf : RF P m := by
    obtain ⟨m', e, h2, _⟩ := fieldRB_rf (by rw [fieldRB_eq]; exact h)
    have : m = m' := by omega
    rw [this]; exact h2
  rw [Int.toNat_natCast] at hF
  have e : ElP P m = (tblOf P m mod).El := by
    funext x; simp only [Tbl.El, tblOf, ElP]; rw [hq]
  rw [← e] at hF
  have hq2 := g.q2
  have hmul : ∀ x z, ElP P m x → ElP P m z → (tblOf P m mod).ops.mul x z = mulR P m mod x z := fun x z hx hz => by
    rw [mulR_eq hrf]; exact g.mulT_eq hx hz
  have hqo : ((orderS P m).toNat : Int) = orderS P m := by omega
  have hinv : ∀ x, ElP P m x → x ≠ 0 → (tblOf P m mod).ops.inv x = invR P m mod x := by
    intro x hx h0
    have hi := hF.cl.inv x hx h0
    have hm := hF.mul_inv x hx h0
    rw [hmul x _ hx hi] at hm
    have hi0 : (tblOf P m mod).ops.inv x ≠ 0 := by
      intro e0
      have h2 := hF.mul_inv x hx h0
      rw [e0, hF.mzero hx] at h2
      exact absurd h2 (by decide)
    have hb1 := hi.1
    have hb2 := hi.2
    obtain ⟨h1, h2, h3⟩ := invTo_find (mulR P m mod x) ((orderS P m).toNat - 1) 1 _ (by omega) (by omega) hm
    have hel : ElP P m (invR P m mod x) := ⟨by unfold invR; omega, by unfold invR; omega⟩
    have h4 : (tblOf P m mod).ops.mul x (invR P m mod x) = 1 := by rw [hmul x _ hx hel]; exact h1
    have h5 := hF.mul_inv x hx h0
    have e1 : (tblOf P m mod).ops.mul ((tblOf P m mod).ops.inv x) ((tblOf P m mod).ops.mul x (invR P m mod x)) = invR P m mod x := by
      rw [← hF.mul_assoc _ x _ hi hx hel, hF.mul_comm _ x hi hx, h5, hF.one_mul _ hel]
    rw [h4, hF.mone hi] at e1
    exact e1
  refine ⟨m, rfl, e, hqo, hF, ⟨fun x z _ _ => rfl, hmul, fun x _ => rfl, hinv⟩, fun p hp h0 => ?_⟩
  rw [← hinv p hp h0]
  have hi := hF.cl.inv p hp h0
  have hm := hF.mul_inv p hp h0
  constructor
  · intro e1; rw [e1, hF.mone hp] at hm; exact hm
  · intro e1; rw [e1] at hm hi ⊢; rw [hF.one_mul _ hi] at hm; exact hm

theorem hinv_all {P M : Int} {mod : List Int} (h : fieldRB P M mod = true) : ∀ p, ElP P M.toNat p → p ≠ 0 → (invR P M.toNat mod p = 1 ↔ p = 1) := by
  obtain ⟨m, rfl, _, _, _, _, h6⟩ := eq_ops (by rw [← fieldRB_eq]; exact h)
  exact h6
theorem rmatE_eq (P M : Int) (mod : List Int) (cols : Int) (L : List (List Int)) : rmatE P M mod cols L = fmatE P M mod cols L := by
  unfold rmatE fmatE
  rw [fieldRB_eq]
  split
  · rename_i h
    obtain ⟨m, rfl, _, hq, _⟩ := eq_ops h
    rw [Int.toNat_natCast, hq]
  · rfl
theorem canR_eq {P M : Int} {mod : List Int} (h : fieldB P M mod = true) {L : List (List Int)} {m : Nat} (hL : Rws (tblOf P M.toNat mod).El m L) : canR (rops P M.toNat mod) L m = canS (tblOf P M.toNat mod) L m := by
  obtain ⟨k, rfl, he, _, hF, hA, _⟩ := eq_ops h
  rw [Int.toNat_natCast] at hL ⊢
  rw [← he] at hL
  unfold canR canS
  rw [(elimTo_agr hA hF.cl hL m (Nat.le_refl _)).1]
theorem rspaceE_eq (P M : Int) (mod : List Int) (cols : Int) (L : List (List Int)) : rspaceE P M mod cols L = spaceE P M mod cols L := by
  unfold rspaceE spaceE
  rw [rmatE_eq]
  split
  · rename_i h0
    obtain ⟨h1, h2⟩ := fmatE_zero h0
    obtain ⟨m, rfl, _, _, hR⟩ := matE_zero h2
    rw [Int.toNat_natCast, canR_eq h1 hR]
  · rfl
theorem rcodeE_eq (P M : Int) (mod : List Int) (N : Int) (L : List (List Int)) : rcodeE P M mod N L = codeE P M mod N L := by
  unfold rcodeE codeE
  rw [fieldRB_eq, rspaceE_eq]

/-- a code: its field is a field, its rows are vectors of elements -/
theorem codeE_fld {P M : Int} {mod : List Int} {N : Int} {L : List (List Int)} (h : codeE P M mod N L = 0) : ∃ n : Nat, N = n ∧ 1 ≤ n ∧ n ≤ 64 ∧ Fld (tblOf P M.toNat mod).ops (tblOf P M.toNat mod).El ∧ Rws (tblOf P M.toNat mod).El n L := by
  obtain ⟨m, rfl, h1, h2, _, hR⟩ := codeE_rws h
  exact ⟨m, rfl, h1, h2, fieldB_fld (codeE_zero h).1, hR⟩

/-- the rank of the bits of x -/
def rkb (P M : Int) (mod : List Int) (L : List (List Int)) (l : List Nat) (r : Nat) : Prop := Rk (clV (tblOf P M.toNat mod).ops (tblOf P M.toNat mod).El L.length (colS L)) l r

theorem mem_bitsTo (x : Nat) (i : Int) : ∀ k, i ∈ bitsTo x k ↔ ∃ j : Nat, j < k ∧ i = j ∧ x.testBit j = true
  | 0 => by simp [bitsTo]
  | k + 1 => by
    have ih := mem_bitsTo x i k
    unfold bitsTo
    split
    · rename_i ht
      rw [List.mem_append, ih, List.mem_singleton]
      constructor
      · rintro (⟨j, h1, h2, h3⟩ | rfl)
        · exact ⟨j, by omega, h2, h3⟩
        · exact ⟨k, by omega, rfl, ht⟩
      · rintro ⟨j, h1, h2, h3⟩
        by_cases e : j = k
        · subst e; exact .inr h2
        · exact .inl ⟨j, by omega, h2, h3⟩
    · rename_i ht
      rw [ih]
      constructor
      · rintro ⟨j, h1, h2, h3⟩; exact ⟨j, by omega, h2, h3⟩
      · rintro ⟨j, h1, h2, h3⟩
        by_cases e : j = k
        · subst e; exact absurd h3 ht
        · exact ⟨j, by omega, h2, h3⟩
theorem mem_grBits (x N : Nat) (i : Nat) : i ∈ grL (bitsTo x N) (bitsTo x N).length ↔ i < N ∧ x.testBit i = true := by
  rw [mem_grL]
  constructor
  · rintro ⟨j, hj, e⟩
    have hm : nth (bitsTo x N) j ∈ bitsTo x N := nth_mem hj
    obtain ⟨t, h1, h2, h3⟩ := (mem_bitsTo x _ N).1 hm
    have : t = i := by omega
    subst this; exact ⟨h1, h3⟩
  · rintro ⟨h1, h2⟩
    have hm : (i : Int) ∈ bitsTo x N := (mem_bitsTo x _ N).2 ⟨i, h1, rfl, h2⟩
    obtain ⟨j, hj, e⟩ := List.mem_iff_getElem.1 hm
    exact ⟨j, hj, by rw [nth_getElem hj, e]; rfl⟩

/-- the bits of the mask of a set -/
theorem maskTo_test {Q : List Int} : ∀ k, (∀ j, j < k → 0 ≤ nth Q j ∧ nth Q j < 64) → ∀ i, (maskTo Q k).testBit i = true ↔ ∃ j, j < k ∧ nth Q j = (i : Int)
  | 0, _, i => by simp [maskTo]
  | k + 1, h, i => by
    have ih := maskTo_test k (fun j hj => h j (by omega)) i
    have hk := h k (by omega)
    rw [maskTo, Nat.testBit_or, Bool.or_eq_true, ih, Nat.testBit_two_pow, decide_eq_true_eq]
    constructor
    · rintro (⟨j, h1, h2⟩ | h1)
      · exact ⟨j, by omega, h2⟩
      · exact ⟨k, by omega, by omega⟩
    · rintro ⟨j, h1, h2⟩
      by_cases e : j = k
      · subst e; exact .inr (by omega)
      · exact .inl ⟨j, by omega, h2⟩

/-- the dimension between the ranks of the set and of its complement -/
theorem dimS_rk {P M : Int} {mod : List Int} {n : Nat} {L : List (List Int)} (F : Fld (tblOf P M.toNat mod).ops (tblOf P M.toNat mod).El) (hR : Rws (tblOf P M.toNat mod).El n L) (x N : Nat) (hN : N ≤ 64) :
    ∃ (l l' : List Nat) (r r' : Nat), dimS (tblOf P M.toNat mod).ops L N x = r + r' - L.length ∧ rkb P M mod L l r ∧ rkb P M mod L l' r' ∧ (∀ i, i ∈ l ↔ i < N ∧ x.testBit i = true) ∧ (∀ i, i ∈ l' ↔ i < N ∧ ¬ x.testBit i = true) := by
  refine ⟨_, _, _, _, rfl, grS_rk F hR _, grS_rk F hR _, mem_grBits x N, fun i => ?_⟩
  rw [mem_grBits]
  constructor
  · rintro ⟨h1, h2⟩
    rw [cplU_test _ _ (by omega)] at h2
    exact ⟨h1, by simpa using h2⟩
  · rintro ⟨h1, h2⟩
    exact ⟨h1, by rw [cplU_test _ _ (by omega)]; simpa using h2⟩
end

/- The walk of codewrightlaw48.alive. -/
section
open Go.RowKit

theorem alive_code : codeE 2 1 [] 2 [[1, 1]] = 0 := by decide +kernel
theorem alive_dim : dimS (tblOf 2 1 []).ops [[1, 1]] 2 (maskS [0]) = 1 := by decide +kernel
theorem alive_set : okSet 2 [0] = true := by decide +kernel

set_option maxRecDepth 100000 in
set_option maxHeartbeats 1600000 in
theorem alive_any (w : World) : Calls Tryz.prog 16 #[] w fun e w' => e = .returned (.bool true) ∧ Below w.heap.size w w' := by
  go_enter Tryz.func16, Tryz.ntmps16
  go_wp2_with fail
  obtain ⟨W1, h1⟩ : ∃ W : World, W = w.alloc (Obj.cells #[Value.int IntKind.i64 1, Value.int IntKind.i64 1] 3) := ⟨_, rfl⟩
  obtain ⟨W2, h2⟩ : ∃ W : World, W = W1.alloc (Obj.cells #[Value.slice (some { block := w.heap.size, off := 0 }) 2 2] 22) := ⟨_, rfl⟩
  obtain ⟨W3, h3⟩ : ∃ W : World, W = W2.alloc (Obj.cells #[Value.int IntKind.i64 0] 3) := ⟨_, rfl⟩
  rw [← h1, ← h2, ← h3]
  have s1 : W1.heap.size = w.heap.size + 1 := by rw [h1]; simp
  have s2 : W2.heap.size = w.heap.size + 1 + 1 := by rw [h2]; simp [s1]
  have b1 : Below w.heap.size w W1 := by rw [h1]; exact below1 _ _
  have b2 : Below W1.heap.size W1 W2 := by rw [h2]; exact below1 _ _
  have b3 : Below W2.heap.size W2 W3 := by rw [h3]; exact below1 _ _
  have x1 : Box W1 w.heap.size [.int .i64 1, .int .i64 1] := by rw [h1]; exact Box.new _ _ _ rfl
  have x2 : Box W2 (w.heap.size + 1) [.slice (some { block := w.heap.size, off := 0 }) 2 2] := by rw [h2]; exact Box.new _ _ _ s1.symm
  have x3 : Box W3 (w.heap.size + 1 + 1) [.int .i64 0] := by rw [h3]; exact Box.new _ _ _ s2.symm
  have y1 := (x1.keep b2).keep b3
  have y2 := x2.keep b3
  clear h1 h2 h3 s1 s2 x1 x2
  have b13 := Below.next (Below.next b1 b2) b3
  have hI : Ints W3 (some { block := w.heap.size, off := 0 }) 2 [1, 1] := ⟨rfl, fun _ => rfl, by unfold maxLen; omega, fun i hi => by
    match i, hi with
    | 0, _ => exact y1.cell 0 rfl
    | 1, _ => exact y1.cell 1 rfl⟩
  have hM : Mat W3 (some { block := w.heap.size + 1, off := 0 }) 1 [[1, 1]] := ⟨rfl, fun _ => rfl, by unfold maxLen; omega, fun i hi => by
    match i, hi with
    | 0, _ => exact ⟨_, _, _, y2.cell 0 rfl, hI⟩⟩
  have hQ : Ints W3 (some { block := w.heap.size + 1 + 1, off := 0 }) 1 [0] := ⟨rfl, fun _ => rfl, by unfold maxLen; omega, fun i hi => by
    match i, hi with
    | 0, _ => exact x3.cell 0 rfl⟩
  refine (ordDimension_any 2 1 none 0 0 [] 2 _ 1 1 [[1, 1]] _ 1 1 [0] W3 (Ints.nil _ _) hM hQ).mono ?_
  rintro e w4 ⟨hb4, ⟨hE, _⟩ | ⟨_, hE, _⟩ | ⟨_, _, rfl⟩⟩
  · exact absurd alive_code hE
  · rw [alive_set] at hE; exact absurd hE (by decide)
  · have hF := Below.next b13 hb4
    have hd := alive_dim
    rw [show (1 : Int).toNat = 1 from rfl, show (2 : Int).toNat = 2 from rfl, hd]
    clear hI hM hQ x3 y1 y2 b1 b2 b3 b13 hd
    go_wp2_with fail
    go_ret
    exact ⟨rfl, hF⟩
end

/- The laws of the dimensions of two sets, and of one position more. -/
section
theorem maskS_test {n : Nat} {Q : List Int} (h : okSet n Q = true) (hn : n ≤ 64) (i : Nat) : (maskS Q).testBit i = true ↔ ∃ j, j < Q.length ∧ nth Q j = (i : Int) :=
  maskTo_test Q.length (fun j hj => ⟨(okSet_at h hj).1, by have := (okSet_at h hj).2.1; omega⟩) i
theorem maskS_bits (x n : Nat) (hn : n ≤ 64) (i : Nat) : (maskS (bitsTo x n)).testBit i = true ↔ i < n ∧ x.testBit i = true := by
  rw [maskS_test (okSet_bits x n) hn]
  constructor
  · rintro ⟨j, hj, e⟩
    have hm : nth (bitsTo x n) j ∈ bitsTo x n := nth_mem hj
    obtain ⟨t, h1, h2, h3⟩ := (mem_bitsTo x _ n).1 hm
    have : t = i := by omega
    subst this; exact ⟨h1, h3⟩
  · rintro ⟨h1, h2⟩
    have hm : (i : Int) ∈ bitsTo x n := (mem_bitsTo x _ n).2 ⟨i, h1, rfl, h2⟩
    obtain ⟨j, hj, e⟩ := List.mem_iff_getElem.1 hm
    exact ⟨j, hj, by rw [nth_getElem hj, e]⟩

variable {P M : Int} {mod : List Int} {n : Nat} {L : List (List Int)}

theorem dimS_bd (O : FOps) (L : List (List Int)) (N x : Nat) : -(L.length : Int) ≤ dimS O L N x ∧ dimS O L N x ≤ N + N := by
  have h1 := grS_len O L (bitsTo x N)
  have h2 := grS_len O L (bitsTo (cplU x) N)
  have h3 := bitsTo_len x N
  have h4 := bitsTo_len (cplU x) N
  unfold dimS
  omega

theorem steps_law (hE : codeE P M mod n L = 0) (x y p : Nat) (hy : ∀ i, i < n → (y.testBit i = true ↔ x.testBit i = true ∨ i = p)) (hp : p < n) :
    dimS (tblOf P M.toNat mod).ops L n x ≤ dimS (tblOf P M.toNat mod).ops L n y + 1 ∧ dimS (tblOf P M.toNat mod).ops L n y ≤ dimS (tblOf P M.toNat mod).ops L n x + 1 := by
  obtain ⟨n', e, _, hn, F, hR⟩ := codeE_fld hE
  obtain rfl : n = n' := by omega
  have hC := col_clo F hR
  obtain ⟨l1, l1', r1, r1', d1, k1, k1', m1, m1'⟩ := dimS_rk F hR x n hn
  obtain ⟨l2, l2', r2, r2', d2, k2, k2', m2, m2'⟩ := dimS_rk F hR y n hn
  by_cases hx : x.testBit p = true
  · have e1 := Rk.same hC k1 k2 fun i => by
      rw [m1, m2]
      exact ⟨fun ⟨h1, h2⟩ => ⟨h1, (hy i h1).2 (.inl h2)⟩, fun ⟨h1, h2⟩ => ⟨h1, by rcases (hy i h1).1 h2 with h | rfl; exact h; exact hx⟩⟩
    have e2 := Rk.same hC k1' k2' fun i => by
      rw [m1', m2']
      exact ⟨fun ⟨h1, h2⟩ => ⟨h1, fun h => by rcases (hy i h1).1 h with h | rfl; exact h2 h; exact h2 hx⟩, fun ⟨h1, h2⟩ => ⟨h1, fun h => h2 ((hy i h1).2 (.inl h))⟩⟩
    rw [d1, d2, e1, e2]; omega
  · have e1 := Rk.one_more hC k1 k2 (p := p) fun i => by
      rw [m1, m2]
      constructor
      · rintro ⟨h1, h2⟩
        rcases (hy i h1).1 h2 with h | h
        · exact .inl ⟨h1, h⟩
        · exact .inr h
      · rintro (⟨h1, h2⟩ | rfl)
        · exact ⟨h1, (hy i h1).2 (.inl h2)⟩
        · exact ⟨hp, (hy i hp).2 (.inr rfl)⟩
    have e2 := Rk.one_more hC k2' k1' (p := p) fun i => by
      rw [m1', m2']
      constructor
      · rintro ⟨h1, h2⟩
        by_cases e : i = p
        · exact .inr e
        · exact .inl ⟨h1, fun h => by rcases (hy i h1).1 h with h | h; exact h2 h; exact e h⟩
      · rintro (⟨h1, h2⟩ | rfl)
        · exact ⟨h1, fun h => h2 ((hy i h1).2 (.inl h))⟩
        · exact ⟨hp, hx⟩
    rw [d1, d2]; omega

theorem modular_law (hE : codeE P M mod n L = 0) (s t u v : Nat) (hu : ∀ i, i < n → (u.testBit i = true ↔ s.testBit i = true ∨ t.testBit i = true)) (hv : ∀ i, i < n → (v.testBit i = true ↔ s.testBit i = true ∧ t.testBit i = true)) :
    dimS (tblOf P M.toNat mod).ops L n u + dimS (tblOf P M.toNat mod).ops L n v ≤ dimS (tblOf P M.toNat mod).ops L n s + dimS (tblOf P M.toNat mod).ops L n t := by
  obtain ⟨n', e, _, hn, F, hR⟩ := codeE_fld hE
  obtain rfl : n = n' := by omega
  have hC := col_clo F hR
  obtain ⟨ls, ls', rs, rs', ds, ks, ks', ms, ms'⟩ := dimS_rk F hR s n hn
  obtain ⟨lt, lt', rt, rt', dt, kt, kt', mt, mt'⟩ := dimS_rk F hR t n hn
  obtain ⟨lu, lu', ru, ru', du, ku, ku', mu, mu'⟩ := dimS_rk F hR u n hn
  obtain ⟨lv, lv', rv, rv', dv, kv, kv', mv, mv'⟩ := dimS_rk F hR v n hn
  have e1 := Rk.modular hC ks kt ku kv
    (fun i hi => by
      obtain ⟨h1, h2⟩ := (mu i).1 hi
      rcases (hu i h1).1 h2 with h | h
      · exact .inl ((ms i).2 ⟨h1, h⟩)
      · exact .inr ((mt i).2 ⟨h1, h⟩))
    (fun i hi => by
      obtain ⟨h1, h2⟩ := (mv i).1 hi
      obtain ⟨h3, h4⟩ := (hv i h1).1 h2
      exact ⟨(ms i).2 ⟨h1, h3⟩, (mt i).2 ⟨h1, h4⟩⟩)
  have e2 := Rk.modular hC ks' kt' kv' ku'
    (fun i hi => by
      obtain ⟨h1, h2⟩ := (mv' i).1 hi
      by_cases h : s.testBit i = true
      · exact .inr ((mt' i).2 ⟨h1, fun h3 => h2 ((hv i h1).2 ⟨h, h3⟩)⟩)
      · exact .inl ((ms' i).2 ⟨h1, h⟩))
    (fun i hi => by
      obtain ⟨h1, h2⟩ := (mu' i).1 hi
      exact ⟨(ms' i).2 ⟨h1, fun h => h2 ((hu i h1).2 (.inl h))⟩, (mt' i).2 ⟨h1, fun h => h2 ((hu i h1).2 (.inr h))⟩⟩)
  rw [ds, dt, du, dv]; omega
end

/- The arguments, opened: numbers, lists, lists of lists, codes. -/
section
open Go.ChangeShapes Go.WideShapes Go.ChangeAt Go.RowKit

theorem Tryz.own : ownKnob Tryz.prog.godebug = none := by kernel_rfl
theorem Tryz.laid : laidOutB Tryz.prog = true := by kernel_rfl

section
variable {H : Type} {enc : TypeId × Value → H} {W : World} {held : Bool} {fuel : Nat} {cs : List Value} {x : DataW H × List MemPlace}

theorem add_cell {a : Addr} {v : Value} {i : Nat} (h : W.cell? (a.add i) = some v) : W.cell? ⟨a.block, a.off + i, none⟩ = some v := by
  have hs := World.cell?_spot h
  obtain ⟨b, o, s⟩ := a
  by_cases h0 : i = 0
  · subst h0
    simp only [Addr.add, if_true] at hs h
    subst hs
    exact h
  · simpa [Addr.add, h0] using h
theorem plain_of {a : Addr} {v : Value} (h : W.cell? (a.add 0) = some v) : a = ⟨a.block, a.off, none⟩ := by
  have hs := World.cell?_spot h
  obtain ⟨b, o, s⟩ := a
  simp only [Addr.add, if_true] at hs
  subst hs
  rfl
theorem nth_take_getD (l : List Int) (n i : Nat) (h : i < n) : nth (l.take n) i = l.getD i 0 := by
  unfold nth
  simp only [List.getD_eq_getElem?_getD, List.getElem?_take]
  rw [if_pos h]

theorem opened_ints (h : DataW.trod enc Tryz.prog W 0 (fun _ => true) held fuel 22 cs = some x) : ∃ a n c l, cs = [.slice a n c] ∧ Ints W a n l := by
  rcases open_ints Tryz.underlying22 Tryz.underlying3 (by kernel_rfl) h with ⟨hcs, _⟩ | ⟨a, len, cap, zs, hcs, _, hl, hm, hz, _, hcell, _⟩
  · exact ⟨none, 0, 0, [], hcs, Ints.nil _ _⟩
  · simp only [if_true] at hz
    refine ⟨some a, len, cap, zs.take len, hcs, ⟨by simp; omega, fun h0 => ?_, by omega, fun i hi => ?_⟩⟩
    · exact congrArg some (plain_of (hcell 0 (by omega)))
    · rw [nth_take_getD _ _ _ hi]
      exact add_cell (hcell i (by omega))
theorem opened_mat (h : DataW.trod enc Tryz.prog W 0 (fun _ => true) held fuel 25 cs = some x) : ∃ a n c L, cs = [.slice a n c] ∧ Mat W a n L := by
  rcases Go.Deep.open_int_rows Tryz.underlying25 Tryz.underlying22 Tryz.underlying3 (by kernel_rfl) (by kernel_rfl) h with ⟨hcs, _⟩ | ⟨a, len, cap, A, Ln, C, Z, hcs, _, hl, hm, _, hrows⟩
  · exact ⟨none, 0, 0, [], hcs, ⟨rfl, fun h0 => by omega, by unfold maxLen; omega, fun i hi => by omega⟩⟩
  · refine ⟨some a, len, cap, (List.range len).map (fun r => (Z r).take (Ln r)), hcs, ⟨by simp, fun h0 => congrArg some (plain_of (hrows 0 (by omega)).1), by omega, fun r hr => ?_⟩⟩
    obtain ⟨h1, h2, h3, h4, _, h5, h6⟩ := hrows r (by omega)
    refine ⟨A r, Ln r, C r, add_cell h1, ?_⟩
    have e : nthR ((List.range len).map (fun r => (Z r).take (Ln r))) r = (Z r).take (Ln r) := by
      unfold nthR
      simp [List.getD_eq_getElem?_getD, List.getElem?_map, List.getElem?_range hr]
    rw [e]
    match hA : A r, h5, h6 with
    | none, h5, _ =>
      have h0 : Ln r = 0 := by have := h5 rfl; omega
      rw [h0]
      exact Ints.nil _ _
    | some b, _, h6 =>
      obtain ⟨_, h7⟩ := h6 b rfl
      exact ⟨by simp; omega, fun h0 => congrArg some (plain_of (h7 0 (by omega))), by omega, fun i hi => by
        rw [nth_take_getD _ _ _ hi]
        exact add_cell (h7 i (by omega))⟩
end

section
variable {H : Type} {enc : TypeId × Value → H} {W : World} {held : Bool} {b0 : Nat} {v : Value} {d : DataW H} {p : List MemPlace}

set_option maxRecDepth 100000 in
theorem arg_ints (hv : Value.okWide Tryz.prog W .any b0 22 v) (h : DataW.Trod enc Tryz.prog W 0 (fun _ => true) held 22 v d p) : ∃ a n c l, v = .slice a n c ∧ Ints W a n l := by
  obtain ⟨a, n, c, rfl⟩ := okWide_slice Tryz.underlying22 hv
  obtain ⟨fuel, hf⟩ := h
  obtain ⟨a', n', c', l, e, hi⟩ := opened_ints hf
  simp [Value.cells] at e
  obtain ⟨rfl, rfl, rfl⟩ := e
  exact ⟨_, _, _, l, rfl, hi⟩
set_option maxRecDepth 100000 in
theorem arg_code (hv : Value.okWide Tryz.prog W .any b0 27 v) (h : DataW.Trod enc Tryz.prog W 0 (fun _ => true) held 27 v d p) :
    ∃ (P M : Int) (am : Option Addr) (mn cm : Nat) (mod : List Int) (N : Int) (a : Option Addr) (n c : Nat) (L : List (List Int)), v = .agg #[.int .i64 P, .int .i64 M, .slice am mn cm, .int .i64 N, .slice a n c] ∧ Ints W am mn mod ∧ Mat W a n L := by
  obtain ⟨cs, rfl, hsz⟩ := okWide_struct Tryz.underlying27 hv
  rw [show Tryz.prog.cellsOf 27 = 5 by kernel_rfl] at hsz
  obtain ⟨l⟩ := cs
  match l, hsz with
  | [v0, v1, v2, v3, v4], _ =>
  obtain ⟨fuel, hf⟩ := h
  obtain ⟨xs, n0, _, _, _, hlen, hfs⟩ := DataW.trod_struct Tryz.underlying27 hf
  obtain ⟨y0, y1, y2, rfl⟩ : ∃ y0 y1 y2, xs = [y0, y1, y2] := by
    match xs, hlen with
    | [y0, y1, y2], _ => exact ⟨y0, y1, y2, rfl⟩
  have k24 : Tryz.prog.cellsOf 24 = 3 := by kernel_rfl
  have k3 : Tryz.prog.cellsOf 3 = 1 := by kernel_rfl
  have k22 : Tryz.prog.cellsOf 22 = 1 := by kernel_rfl
  have k25 : Tryz.prog.cellsOf 25 = 1 := by kernel_rfl
  have g0 : DataW.trod enc Tryz.prog W 0 (fun _ => true) held n0 24 [v0, v1, v2] = some y0 := by simpa [Value.cells, k24] using hfs 0 _ rfl
  have g1 : DataW.trod enc Tryz.prog W 0 (fun _ => true) held n0 3 [v3] = some y1 := by simpa [Value.cells, k3] using hfs 1 _ rfl
  have g2 : DataW.trod enc Tryz.prog W 0 (fun _ => true) held n0 25 [v4] = some y2 := by simpa [Value.cells, k25] using hfs 2 _ rfl
  obtain ⟨xs', n1, _, _, _, hlen', hfs'⟩ := DataW.trod_struct Tryz.underlying24 g0
  obtain ⟨z0, z1, z2, rfl⟩ : ∃ z0 z1 z2, xs' = [z0, z1, z2] := by
    match xs', hlen' with
    | [z0, z1, z2], _ => exact ⟨z0, z1, z2, rfl⟩
  have q0 : DataW.trod enc Tryz.prog W 0 (fun _ => true) held n1 3 [v0] = some z0 := by simpa [k3] using hfs' 0 _ rfl
  have q1 : DataW.trod enc Tryz.prog W 0 (fun _ => true) held n1 3 [v1] = some z1 := by simpa [k3] using hfs' 1 _ rfl
  have q2 : DataW.trod enc Tryz.prog W 0 (fun _ => true) held n1 22 [v2] = some z2 := by simpa [k22] using hfs' 2 _ rfl
  obtain ⟨P, eP, _, _⟩ := DataW.trod_int Tryz.underlying3 q0
  obtain ⟨M, eM, _, _⟩ := DataW.trod_int Tryz.underlying3 q1
  obtain ⟨N, eN, _, _⟩ := DataW.trod_int Tryz.underlying3 g1
  obtain ⟨am, mn, cm, mod, eI, hI⟩ := opened_ints q2
  obtain ⟨a, n, c, L, eL, hL⟩ := opened_mat g2
  simp at eP eM eN eI eL
  subst eP eM eN eI eL
  exact ⟨P, M, am, mn, cm, mod, N, a, n, c, L, rfl, hI, hL⟩
end
end

/- The arguments, opened: lists of numbers with their capacity. -/
section
open Go.ChangeShapes Go.WideShapes Go.ChangeAt Go.RowKit

section
variable {H : Type} {enc : TypeId × Value → H} {W : World} {held : Bool} {fuel : Nat} {cs : List Value} {x : DataW H × List MemPlace}
theorem opened_intsC (h : DataW.trod enc Tryz.prog W 0 (fun _ => true) held fuel 22 cs = some x) : ∃ a n c l, cs = [.slice a n c] ∧ Ints W a n l ∧ n ≤ c := by
  rcases open_ints Tryz.underlying22 Tryz.underlying3 (by kernel_rfl) h with ⟨hcs, _⟩ | ⟨a, len, cap, zs, hcs, _, hl, hm, hz, _, hcell, _⟩
  · exact ⟨none, 0, 0, [], hcs, Ints.nil _ _, Nat.le_refl _⟩
  · simp only [if_true] at hz
    refine ⟨some a, len, cap, zs.take len, hcs, ⟨by simp; omega, fun h0 => ?_, by omega, fun i hi => ?_⟩, hl⟩
    · exact congrArg some (plain_of (hcell 0 (by omega)))
    · rw [nth_take_getD _ _ _ hi]
      exact add_cell (hcell i (by omega))
end

section
variable {H : Type} {enc : TypeId × Value → H} {W : World} {held : Bool} {b0 : Nat} {v : Value} {d : DataW H} {p : List MemPlace}
set_option maxRecDepth 100000 in
theorem arg_intsC (hv : Value.okWide Tryz.prog W .any b0 22 v) (h : DataW.Trod enc Tryz.prog W 0 (fun _ => true) held 22 v d p) : ∃ a n c l, v = .slice a n c ∧ Ints W a n l ∧ n ≤ c := by
  obtain ⟨a, n, c, rfl⟩ := okWide_slice Tryz.underlying22 hv
  obtain ⟨fuel, hf⟩ := h
  obtain ⟨a', n', c', l, e, hi⟩ := opened_intsC hf
  simp [Value.cells] at e
  obtain ⟨rfl, rfl, rfl⟩ := e
  exact ⟨_, _, _, l, rfl, hi⟩
end
end

end Go.Proofs.YtakmnncmeefceaaGreat
