/- The walks of the reference of layer 4: divides, irreducible. -/
import Derived.Test.YtcflcogbpnmjeaaGreatK11
import Derived.Test.YtcflcogbpnmjeaaGreatK7
namespace Go.Proofs.YtcflcogbpnmjeaaGreat
set_option linter.unusedVariables false
set_option linter.unusedSimpArgs false
set_option linter.unusedSectionVars false

/- The walk of the reference's product. -/
section
open Go.RowKit

/-- the product of the polynomials, not reduced: its rounds -/
def cvJ (P : Int) (a b : List Int) (i : Nat) (c : List Int) : Nat → List Int
  | 0 => c
  | j + 1 => (cvJ P a b i c j).set (i + j) ((nth (cvJ P a b i c j) (i + j) + nth a i * nth b j) % P)
def cvI (P : Int) (a b : List Int) (M n : Nat) : Nat → List Int
  | 0 => List.replicate n 0
  | i + 1 => cvJ P a b i (cvI P a b M n i) M
/-- the reduction, from the highest power on: its rounds -/
def rdJ (P : Int) (M : Nat) (mod : List Int) (i : Nat) (c : List Int) : Nat → List Int
  | 0 => c
  | j + 1 => (rdJ P M mod i c j).set (i - M + j) ((nth (rdJ P M mod i c j) (i - M + j) + (P - nth (rdJ P M mod i c j) i) * nth mod j) % P)
def rdT (P : Int) (M : Nat) (mod : List Int) (c : List Int) : Nat → List Int
  | 0 => c
  | k + 1 => rdJ P M mod (2 * M - 2 - k) (rdT P M mod c k) M
def mulL (P : Int) (M : Nat) (mod : List Int) (a b : List Int) : List Int := (rdT P M mod (cvI P a b M (2 * M - 1) M) (M - 1)).take M
def mulR (P : Int) (M : Nat) (mod : List Int) (x y : Int) : Int := valu P (mulL P M mod (digs x P M) (digs y P M))

theorem Dig.set {P : Int} {l : List Int} (h : Dig P l) (i : Nat) {x : Int} (h0 : 0 ≤ x) (h1 : x < P) : Dig P (l.set i x) := by
  intro j
  by_cases hi : i < l.length
  · rw [nth_set _ _ _ _ hi]
    split
    · exact ⟨h0, h1⟩
    · exact h j
  · rw [List.set_eq_of_length_le (by omega)]; exact h j
theorem Dig.setMod {P : Int} (hP : 0 < P) {l : List Int} (h : Dig P l) (i : Nat) (x : Int) : Dig P (l.set i (x % P)) := h.set i (Int.emod_nonneg _ (by omega)) (Int.emod_lt_of_pos _ hP)
theorem cvJ_len (P : Int) (a b : List Int) (i : Nat) (c : List Int) : ∀ j, (cvJ P a b i c j).length = c.length
  | 0 => rfl
  | j + 1 => by rw [cvJ, List.length_set, cvJ_len P a b i c j]
theorem cvJ_dig {P : Int} (hP : 0 < P) (a b : List Int) (i : Nat) {c : List Int} (h : Dig P c) : ∀ j, Dig P (cvJ P a b i c j)
  | 0 => h
  | j + 1 => Dig.setMod hP (cvJ_dig hP a b i h j) _ _
theorem cvI_len (P : Int) (a b : List Int) (M n : Nat) : ∀ i, (cvI P a b M n i).length = n
  | 0 => by simp [cvI]
  | i + 1 => by rw [cvI, cvJ_len, cvI_len P a b M n i]
theorem cvI_dig {P : Int} (hP : 0 < P) (a b : List Int) (M n : Nat) : ∀ i, Dig P (cvI P a b M n i)
  | 0 => Dig.replicate hP n
  | i + 1 => cvJ_dig hP a b i (cvI_dig hP a b M n i) M
theorem rdJ_len (P : Int) (M : Nat) (mod : List Int) (i : Nat) (c : List Int) : ∀ j, (rdJ P M mod i c j).length = c.length
  | 0 => rfl
  | j + 1 => by rw [rdJ, List.length_set, rdJ_len P M mod i c j]
theorem rdJ_dig {P : Int} (hP : 0 < P) (M : Nat) (mod : List Int) (i : Nat) {c : List Int} (h : Dig P c) : ∀ j, Dig P (rdJ P M mod i c j)
  | 0 => h
  | j + 1 => Dig.setMod hP (rdJ_dig hP M mod i h j) _ _
theorem rdT_len (P : Int) (M : Nat) (mod : List Int) (c : List Int) : ∀ k, (rdT P M mod c k).length = c.length
  | 0 => rfl
  | k + 1 => by rw [rdT, rdJ_len, rdT_len P M mod c k]
theorem rdT_dig {P : Int} (hP : 0 < P) (M : Nat) (mod : List Int) {c : List Int} (h : Dig P c) : ∀ k, Dig P (rdT P M mod c k)
  | 0 => h
  | k + 1 => rdJ_dig hP M mod _ (rdT_dig hP M mod h k) M
theorem Dig.take {P : Int} (hP : 0 < P) {l : List Int} (h : Dig P l) (k : Nat) : Dig P (l.take k) := by
  intro i
  have e : nth (l.take k) i = if i < k then nth l i else 0 := by
    simp only [nth, List.getD_eq_getElem?_getD, List.getElem?_take]; split <;> rfl
  rw [e]; split
  · exact h i
  · omega
theorem mulL_len (P : Int) {M : Nat} (mod : List Int) (a b : List Int) (hM : 1 ≤ M) : (mulL P M mod a b).length = M := by
  unfold mulL; rw [List.length_take, rdT_len, cvI_len]; omega
theorem mulL_dig {P : Int} (hP : 0 < P) (M : Nat) (mod : List Int) (a b : List Int) : Dig P (mulL P M mod a b) := Dig.take hP (rdT_dig hP M mod (cvI_dig hP a b M _ M) _) M

/-- what the product asks of the low coefficients -/
structure Mods (w : World) (P : Int) (m : Nat) (am : Option Addr) (mn : Nat) (mod : List Int) : Prop where
  ints : Ints w am mn mod
  low : 1 < m → mn = m
  dig : Dig P mod
theorem Mods.keep {w w' : World} {P : Int} {m : Nat} {am : Option Addr} {mn : Nat} {mod : List Int} (h : Mods w P m am mn mod) (hb : Below w.heap.size w w') : Mods w' P m am mn mod := ⟨h.ints.keep hb, h.low, h.dig⟩

theorem nth_take {l : List Int} {k i : Nat} (h : i < k) : nth (l.take k) i = nth l i := by
  simp only [nth, List.getD_eq_getElem?_getD, List.getElem?_take, if_pos h]
theorem Ints.take {w : World} {a : Option Addr} {n : Nat} {l : List Int} (h : Ints w a n l) {k : Nat} (hk : k ≤ n) : Ints w a k (l.take k) :=
  ⟨by rw [List.length_take, h.len]; omega, fun h0 => h.pl (by omega), Nat.le_trans hk h.max, fun i hi => by rw [nth_take hi]; exact h.cell i (by omega)⟩

set_option maxRecDepth 100000 in
set_option maxHeartbeats 4000000 in
theorem rMul_any (P : Int) (m : Nat) (am : Option Addr) (mn cm : Nat) (mod : List Int) (x y : Int) (w : World) (hf : RF P m) (hmod : Mods w P m am mn mod) (hx : isQ (orderS P m) x = true) (hy : isQ (orderS P m) y = true) :
    Calls Tryz.prog 64 #[.agg #[.int .i64 P, .int .i64 m, .slice am mn cm], .int .i64 x, .int .i64 y] w fun e w' => e = .returned (.int .i64 (mulR P m mod x y)) ∧ Below w.heap.size w w' := by
  have hp2 := hf.p2
  have hp256 := hf.p256
  have hm1 := hf.m1
  have hm8 := hf.m8
  have Hx := Lib.hid hx
  have Hy := Lib.hid hy
  have Hdx := Lib.hid (digs_length P m x)
  have Hdy := Lib.hid (digs_length P m y)
  have Hbx := Lib.hid (digs_b hf x)
  have Hby := Lib.hid (digs_b hf y)
  have Hbm := Lib.hid hmod.dig
  have hplm := hmod.ints.pl
  have Hlow := Lib.hid hmod.low
  obtain ⟨n, hn⟩ : ∃ n : Nat, 2 * m - 1 = n := ⟨_, rfl⟩
  have hn1 : m ≤ n := by omega
  have hn2 : n ≤ 15 := by omega
  have Hn := Lib.hid hn
  have hnv : 2 * (m : Int) - 1 = n := by omega
  have hnv2 : 2 * (m : Int) - 2 = (n : Int) - 1 := by omega
  have Hnv2 := Lib.hid hnv2
  clear hx hy hn hnv2
  go_enter Tryz.func64, Tryz.ntmps64
  go_wp2_with fail
  obtain ⟨W, hW⟩ : ∃ W : World, W = w.alloc (.cells #[.int .i64 P, .int .i64 m, .slice am mn cm] 24) := ⟨_, rfl⟩
  rw [← hW]
  have hbW : Below w.heap.size w W := by rw [hW]; exact below1 _ _
  have x0 : Box W w.heap.size [.int .i64 P, .int .i64 m, .slice am mn cm] := by rw [hW]; exact Box.new _ _ _ rfl
  have HX := Lib.hid x0
  clear hW x0
  have hmW := hmod.keep hbW
  refine (rDigits_any P m am mn cm x W hf Hx.out).mono ?_
  rintro e w1 ⟨a1, c1, rfl, hown1, hb1⟩
  have x1 := HX.out.keep hb1
  have d0 := x1.cell 0 rfl
  have d1 := x1.cell 1 rfl
  have d2 := x1.cell 2 rfl
  rw [Hdx.out] at hown1 ⊢
  clear x1
  go_wp2_with fail
  refine (rDigits_any P m am mn cm y w1 hf Hy.out).mono ?_
  rintro e w2 ⟨a2, c2, rfl, hown2, hb2⟩
  rw [Hdy.out] at hown2 ⊢
  have hb12 := Below.next hb1 hb2
  have x1 := HX.out.keep hb12
  have d0 := x1.cell 0 rfl
  have d1 := x1.cell 1 rfl
  have d2 := x1.cell 2 rfl
  have hi1 := ((Ints.own hown1).1).keep hb2
  have hi2 := (Ints.own hown2).1
  have hpl1 := hi1.pl
  have hpl2 := hi2.pl
  have hm2 := hmW.keep hb12
  obtain ⟨D, hD⟩ : ∃ D, digs x P m = D := ⟨_, rfl⟩
  obtain ⟨E, hE⟩ : ∃ E, digs y P m = E := ⟨_, rfl⟩
  have HR : Hid (mulR P m mod x y = valu P (mulL P m mod D E)) := by show _ = _; rw [mulR, hD, hE]
  rw [hD] at hi1 Hdx Hbx
  rw [hE] at hi2 Hdy Hby
  clear hD hE hown1 hown2 x1
  go_wp2_with (at_make; refine wpList_mk rfl _ _ 22 3 rfl (.int .i64 0) 8 Tryz.underlying22 infoInt rfl n rfl rfl (by omega) (by unfold maxLen; omega) ?_; intro a3 w3 hown3 hb3 hge3 hlt3; have d0 := cell_keep hb3 d0; have d1 := cell_keep hb3 d1; have d2 := cell_keep hb3 d2)
  have hP : 0 < P := by omega
  have hS : ∀ V, Below w2.heap.size w2 V → V.cell? ⟨w.heap.size, 0, none⟩ = some (.int .i64 P) ∧ V.cell? ⟨w.heap.size, 1, none⟩ = some (.int .i64 m) ∧ V.cell? ⟨w.heap.size, 2, none⟩ = some (.slice am mn cm) ∧ Ints V a1 m D ∧ Ints V a2 m E ∧ Ints V am mn mod := by
    intro V hV
    have x1 := (HX.out.keep hb12).keep hV
    exact ⟨x1.cell 0 rfl, x1.cell 1 rfl, x1.cell 2 rfl, hi1.keep hV, hi2.keep hV, hm2.ints.keep hV⟩
  have HS := Lib.hid hS
  have HC : Hid (List.replicate n (Value.int .i64 0) = (cvI P D E m n 0).map (Value.int .i64)) := by show _ = _; simp [cvI]
  rw [HC.out] at hown3
  have ha3 : a3 ≠ none → w2.heap.size ≤ ablk a3 := fun _ => hge3
  have hb23 := hb12.trans (hb3.mono hb12.size)
  clear hS d0 d1 d2 hi1 hi2 hm2
  go_loopw [10] (fun iv wr => ∃ i : Nat, i ≤ m ∧ iv = .int .i64 i ∧ wr.ownsRow w2.heap.size 3 1 (.slice a3 n n) n ((cvI P D E m n i).map (Value.int .i64)) ∧ Only a3 w3 wr) (fun iv _ => m - (intOf iv).toNat)
  case atStart => exact ⟨0, Nat.zero_le _, rfl, hown3, Only.refl _ _⟩
  case round =>
    obtain ⟨i, hi, rfl, hown, honly⟩ := hrel
    have hbr : Below w2.heap.size w2 wr := hb3.trans (honly.below ha3 hb3.size)
    obtain ⟨d0, d1, d2, j1, j2, j3⟩ := HS.out wr hbr
    by_cases hlt : i < m
    · have Hci : Hid (cvI P D E m n (i + 1) = cvJ P D E i (cvI P D E m n i) m) := rfl
      have Hcd : Hid (Dig P (cvI P D E m n i)) := cvI_dig hP D E m n i
      have Hcl : Hid ((cvI P D E m n i).length = n) := cvI_len P D E m n i
      obtain ⟨C, hC⟩ : ∃ C, cvI P D E m n i = C := ⟨_, rfl⟩
      rw [hC] at hown Hci Hcd Hcl
      clear hC
      go_wp2_with fail
      go_loopw [11] (fun iv wr => ∃ j : Nat, j ≤ m ∧ iv = .int .i64 j ∧ wr.ownsRow w2.heap.size 3 1 (.slice a3 n n) n ((cvJ P D E i C j).map (Value.int .i64)) ∧ Only a3 w3 wr) (fun iv _ => m - (intOf iv).toNat)
      case atStart => exact ⟨0, Nat.zero_le _, rfl, hown, honly⟩
      case round =>
        obtain ⟨j, hj, rfl, hown2, honly2⟩ := hrel
        have hbr2 : Below w2.heap.size w2 wr := hb3.trans (honly2.below ha3 hb3.size)
        obtain ⟨d0, d1, d2, j1, j2, j3⟩ := HS.out wr hbr2
        by_cases hlt2 : j < m
        · have Hcj : Hid (cvJ P D E i C (j + 1) = (cvJ P D E i C j).set (i + j) ((nth (cvJ P D E i C j) (i + j) + nth D i * nth E j) % P)) := rfl
          have hcd := cvJ_dig hP D E i Hcd.out j (i + j)
          obtain ⟨T, hT⟩ : ∃ T, cvJ P D E i C j = T := ⟨_, rfl⟩
          rw [hT] at hown2 Hcj hcd
          clear hT
          have hij : i + j < n := by have := Hn.out; omega
          obtain ⟨it, mt⟩ := Ints.own hown2
          have ct := it.cell (i + j) hij
          have ft := (mt (by omega)).2 (i + j) hij
          have hplt := it.pl
          have cD := j1.cell i hlt
          have cE := j2.cell j hlt2
          have bD := Hbx.out i
          have bE := Hby.out j
          have hme := mul_bd bD.1 (show nth D i ≤ 256 by omega) bE.1 (show nth E j ≤ 256 by omega)
          have hP0 : P ≠ 0 := by omega
          obtain ⟨k, hk⟩ : ∃ k, i + j = k := ⟨_, rfl⟩
          rw [hk] at ct ft Hcj hcd hij
          obtain ⟨Z, hZ⟩ : ∃ Z, (nth T k + nth D i * nth E j) % P = Z := ⟨_, rfl⟩
          have Hcj2 : Hid (cvJ P D E i C (j + 1) = T.set k Z) := by show _ = _; rw [Hcj.out, hZ]
          have r1 : IntKind.i64.wrap ((i : Int) + j) = (k : Int) := by rw [IntWalk.i64_in _ (by omega)]; omega
          have r2 : IntKind.i64.wrap (nth D i * nth E j) = nth D i * nth E j := IntWalk.i64_in _ (by omega)
          have r3 : IntKind.i64.wrap (nth T k + nth D i * nth E j) = nth T k + nth D i * nth E j := IntWalk.i64_in _ (by omega)
          have r4 : (nth T k + nth D i * nth E j).tmod P = Z := by rw [← hZ]; exact IntWalk.rem_in _ _ (by omega)
          have q1 : (0 : Int) ≤ k := by omega
          have q2 : (k : Int) < n := by omega
          clear hZ hk Hcj
          go_wp2_with fail
          go_still_tail 24, (by kernel_rfl)
          change wpList _ _ _ _ _ wr.drew
          generalize hwd : wr.drew = wd
          have fd : wd.frozen? ⟨ablk a3, aoff a3 + k, none⟩ = false := by rw [← hwd]; exact ft
          have cd : wd.cell? ⟨ablk a3, aoff a3 + k, none⟩ = some (.int .i64 (nth T k)) := by rw [← hwd]; exact ct
          have Hwd := Lib.hid hwd
          clear hwd r1 r2 r3 r4
          go_wp2_with fail
          go_roundw
          case rel =>
            obtain rfl := Hwd.out
            have hdr : Drawn wr wr.drew := (Drawn.refl wr).drew
            refine ⟨j + 1, by omega, by go_num, ?_, honly2.trans ((Only.drawn hdr).trans (Only.set _ k _ (by intro e; have := hplt (by omega); rw [e] at this; cases this)))⟩
            have h1 := own_set (w := wr.drew) hown2 k hij (.int .i64 Z)
            rw [← List.map_set, ← Hcj2.out] at h1
            exact h1
          case measure => simp [intOf] <;> omega
        · obtain rfl : j = m := by omega
          go_wp2_with fail
          go_roundw
          case rel => exact ⟨i + 1, by omega, by go_num, by rw [Hci.out]; exact hown2, honly2⟩
          case measure => simp [intOf] <;> omega
    · obtain rfl : i = m := by omega
      have hw2 := Hnv2.out
      obtain ⟨C, hC⟩ : ∃ C, cvI P D E i n i = C := ⟨_, rfl⟩
      have Hcd : Hid (Dig P C) := by show Dig P C; rw [← hC]; exact cvI_dig hP D E i n i
      have Hcl : Hid (C.length = n) := by show _ = _; rw [← hC]; exact cvI_len P D E i n i
      have HL : Hid (mulL P i mod D E = (rdT P i mod C (i - 1)).take i) := by show _ = _; rw [mulL, Hn.out, hC]
      rw [hC] at hown
      clear hC
      go_wp2_with fail
      clear hw2 hnv
      go_loopw [12] (fun iv wr => ∃ k t : Nat, t + k + 1 = n ∧ k ≤ i - 1 ∧ iv = .int .i64 t ∧ wr.ownsRow w2.heap.size 3 1 (.slice a3 n n) n ((rdT P i mod C k).map (Value.int .i64)) ∧ Only a3 w3 wr) (fun iv _ => (intOf iv).toNat)
      case atStart => exact ⟨0, n - 1, by omega, by omega, by congr 1; omega, hown, honly⟩
      case round =>
        obtain ⟨k, t, htk, hk, rfl, hownk, honlyk⟩ := hrel
        have hbk : Below w2.heap.size w2 wr := hb3.trans (honlyk.below ha3 hb3.size)
        obtain ⟨d0, d1, d2, j1, j2, j3⟩ := HS.out wr hbk
        by_cases hti : i ≤ t
        · have hn' := Hn.out
          have hi1 : 1 < i := by omega
          have hmn := Hlow.out hi1
          have Hrk : Hid (rdT P i mod C (k + 1) = rdJ P i mod t (rdT P i mod C k) i) := by show _ = _; rw [rdT, show 2 * i - 2 - k = t by omega]
          have Hrd : Hid (Dig P (rdT P i mod C k)) := rdT_dig hP i mod Hcd.out k
          have Hrl : Hid ((rdT P i mod C k).length = n) := by show _ = _; rw [rdT_len]; exact Hcl.out
          obtain ⟨C2, hC2⟩ : ∃ C2, rdT P i mod C k = C2 := ⟨_, rfl⟩
          rw [hC2] at hownk Hrk Hrd Hrl
          have Htk := Lib.hid htk
          clear hC2 hn'
          go_wp2_with fail
          go_loopw [13] (fun iv wr => ∃ j : Nat, j ≤ i ∧ iv = .int .i64 j ∧ wr.ownsRow w2.heap.size 3 1 (.slice a3 n n) n ((rdJ P i mod t C2 j).map (Value.int .i64)) ∧ Only a3 w3 wr) (fun iv _ => i - (intOf iv).toNat)
          case atStart => exact ⟨0, Nat.zero_le _, rfl, hownk, honlyk⟩
          case round =>
            obtain ⟨j, hj, rfl, hown2, honly2⟩ := hrel
            have hbr2 : Below w2.heap.size w2 wr := hb3.trans (honly2.below ha3 hb3.size)
            obtain ⟨d0, d1, d2, j1, j2, j3⟩ := HS.out wr hbr2
            by_cases hlt2 : j < i
            · have Hcj : Hid (rdJ P i mod t C2 (j + 1) = (rdJ P i mod t C2 j).set (t - i + j) ((nth (rdJ P i mod t C2 j) (t - i + j) + (P - nth (rdJ P i mod t C2 j) t) * nth mod j) % P)) := rfl
              have hcd := rdJ_dig hP i mod t Hrd.out j
              obtain ⟨T, hT⟩ : ∃ T, rdJ P i mod t C2 j = T := ⟨_, rfl⟩
              rw [hT] at hown2 Hcj hcd
              clear hT
              obtain ⟨it, mt⟩ := Ints.own hown2
              obtain ⟨u, hu⟩ : ∃ u, t - i + j = u := ⟨_, rfl⟩
              have hun : u < n := by omega
              have htn : t < n := by omega
              have hjmn : j < mn := by omega
              have ct := it.cell u hun
              have ctt := it.cell t htn
              have cM := j3.cell j hjmn
              have ft := (mt (by omega)).2 u hun
              have hplt := it.pl
              have b1 := hcd u
              have b2 := hcd t
              have b3 := Hbm.out j
              have hme := mul_bd (show 0 ≤ P - nth T t by omega) (show P - nth T t ≤ 256 by omega) b3.1 (show nth mod j ≤ 256 by omega)
              have hP0 : P ≠ 0 := by omega
              rw [hu] at Hcj
              obtain ⟨Z, hZ⟩ : ∃ Z, (nth T u + (P - nth T t) * nth mod j) % P = Z := ⟨_, rfl⟩
              have Hcj2 : Hid (rdJ P i mod t C2 (j + 1) = T.set u Z) := by show _ = _; rw [Hcj.out, hZ]
              obtain ⟨v, hv⟩ : ∃ v, t - i = v := ⟨_, rfl⟩
              have r0 : IntKind.i64.wrap ((t : Int) - i) = (v : Int) := by rw [IntWalk.i64_in _ (by omega)]; omega
              have r1 : IntKind.i64.wrap ((v : Int) + j) = (u : Int) := by rw [IntWalk.i64_in _ (by omega)]; omega
              have r2 : IntKind.i64.wrap (P - nth T t) = P - nth T t := IntWalk.i64_in _ (by omega)
              have r3 : IntKind.i64.wrap ((P - nth T t) * nth mod j) = (P - nth T t) * nth mod j := IntWalk.i64_in _ (by omega)
              have r4 : IntKind.i64.wrap (nth T u + (P - nth T t) * nth mod j) = nth T u + (P - nth T t) * nth mod j := IntWalk.i64_in _ (by omega)
              have r5 : (nth T u + (P - nth T t) * nth mod j).tmod P = Z := by rw [← hZ]; exact IntWalk.rem_in _ _ (by omega)
              have q1 : (0 : Int) ≤ u := by omega
              have q2 : (u : Int) < n := by omega
              have q3 : (t : Int) < n := by omega
              have q4 : (j : Int) < mn := by omega
              clear hZ hu hv Hcj htk hmn
              go_wp2_with fail
              go_still_tail 34, (by kernel_rfl)
              change wpList _ _ _ _ _ wr.drew
              generalize hwd : wr.drew = wd
              have fd : wd.frozen? ⟨ablk a3, aoff a3 + u, none⟩ = false := by rw [← hwd]; exact ft
              have cd : wd.cell? ⟨ablk a3, aoff a3 + u, none⟩ = some (.int .i64 (nth T u)) := by rw [← hwd]; exact ct
              have Hwd := Lib.hid hwd
              clear hwd r0 r1 r2 r3 r4 r5
              go_wp2_with fail
              go_roundw
              case rel =>
                obtain rfl := Hwd.out
                have hdr : Drawn wr wr.drew := (Drawn.refl wr).drew
                refine ⟨j + 1, by omega, by go_num, ?_, honly2.trans ((Only.drawn hdr).trans (Only.set _ u _ (by intro e; have := hplt (by omega); rw [e] at this; cases this)))⟩
                have h1 := own_set (w := wr.drew) hown2 u hun (.int .i64 Z)
                rw [← List.map_set, ← Hcj2.out] at h1
                exact h1
              case measure => simp [intOf] <;> omega
            · obtain rfl : j = i := by omega
              go_wp2_with fail
              go_roundw
              case rel => exact ⟨k + 1, t - 1, by have := Htk.out; omega, by have := Htk.out; have := Hn.out; omega, by congr 1; omega, by rw [Hrk.out]; exact hown2, honly2⟩
              case measure => simp [intOf] <;> omega
        · have hki : k = i - 1 := by have := Hn.out; omega
          have hfin : Hid (valu P ((rdT P i mod C k).take i) = mulR P i mod x y) := by show _ = _; rw [HR.out, HL.out, hki]
          have hdig : Dig P ((rdT P i mod C k).take i) := Dig.take hP (rdT_dig hP i mod Hcd.out k) i
          have hlen : ((rdT P i mod C k).take i).length = i := by rw [List.length_take, rdT_len, Hcl.out]; omega
          have hbd := Dig.bds hf hdig hlen
          have hit := (Ints.own hownk).1
          have hin : i ≤ n := hn1
          have hit2 : Ints wr a3 i ((rdT P i mod C k).take i) := hit.take hin
          have Hbd := Lib.hid hbd
          have hin' : (i : Int) ≤ n := by omega
          have hbwr : Below w.heap.size w wr := (Below.next hbW hb12).trans (hbk.mono (by have h1 := hb12.size; have h2 := hbW.size; omega))
          have hS2 : ∀ V, Below wr.heap.size wr V → V.cell? ⟨w.heap.size, 0, none⟩ = some (.int .i64 P) ∧ V.cell? ⟨w.heap.size, 1, none⟩ = some (.int .i64 i) ∧ V.cell? ⟨w.heap.size, 2, none⟩ = some (.slice am mn cm) ∧ Below wr.heap.size wr V :=
            fun V hV => ⟨cell_keep hV d0, cell_keep hV d1, cell_keep hV d2, hV⟩
          have HS2 := Lib.hid hS2
          have Hit2 : Hid (∀ V, Below wr.heap.size wr V → Ints V a3 i ((rdT P i mod C k).take i)) := fun V hV => hit2.keep hV
          clear hki hlen hdig hbd hS2 hit hit2 htk
          go_wp2_with fail
          go_region_held3 (fun V => V.cell? ⟨w.heap.size, 0, none⟩ = some (.int .i64 P) ∧ V.cell? ⟨w.heap.size, 1, none⟩ = some (.int .i64 i) ∧ V.cell? ⟨w.heap.size, 2, none⟩ = some (.slice am mn cm) ∧ Below wr.heap.size wr V)
            ((refine HS2.out _ ?_; first | exact (Below.refl _ _).drew | (go_split_ands; exact Below.next (by assumption) (by assumption))))
            (first
              | (go_at_call 115; ((with_reducible refine (rValue_any P i am mn cm a3 i n _ _ (Hit2.out _ (Below.refl _ _).drew) (by omega) (by omega) (by omega) Hbd.out).mono ?_); rintro e w4 ⟨rfl, hb4⟩)))
          go_wp2_with fail
          go_ret
          exact ⟨ret_int hfin.out, Below.next hbwr (by go_split_ands; assumption)⟩
end

/- The walks of the reference of layer 4: divides, irreducible. -/
section
open Go.RowKit

/-- what divides computes: its rounds -/
def dvJ (P : Int) (low : List Int) (v : Nat) (c : Int) (r : List Int) : Nat → List Int
  | 0 => r
  | j + 1 => (dvJ P low v c r j).set (v + j) ((nth (dvJ P low v c r j) (v + j) + (P - c) * nth low j) % P)
def dvT (P : Int) (low : List Int) (n : Nat) (r : List Int) : Nat → List Int
  | 0 => r
  | k + 1 => (dvJ P low (n - 1 - k - low.length) (nth (dvT P low n r k) (n - 1 - k)) (dvT P low n r k) low.length).set (n - 1 - k) 0
def dvB (P : Int) (low mod : List Int) : Bool := (dvT P low (mod.length + 1) (mod ++ [1]) (mod.length + 1 - low.length)).all fun x => x == 0

theorem dvJ_len (P : Int) (low : List Int) (v : Nat) (c : Int) (r : List Int) : ∀ j, (dvJ P low v c r j).length = r.length
  | 0 => rfl
  | j + 1 => by rw [dvJ, List.length_set, dvJ_len P low v c r j]
theorem dvT_len (P : Int) (low : List Int) (n : Nat) (r : List Int) : ∀ k, (dvT P low n r k).length = r.length
  | 0 => rfl
  | k + 1 => by rw [dvT, List.length_set, dvJ_len, dvT_len P low n r k]
theorem dvJ_dig {P : Int} (hP : 0 < P) (low : List Int) (v : Nat) (c : Int) {r : List Int} (h : Dig P r) : ∀ j, Dig P (dvJ P low v c r j)
  | 0 => h
  | j + 1 => Dig.setMod hP (dvJ_dig hP low v c h j) _ _
theorem dvT_dig {P : Int} (hP : 0 < P) (low : List Int) (n : Nat) {r : List Int} (h : Dig P r) : ∀ k, Dig P (dvT P low n r k)
  | 0 => h
  | k + 1 => Dig.set (dvJ_dig hP low _ _ (dvT_dig hP low n h k) _) _ (by omega) hP
theorem Dig.snoc {P : Int} {l : List Int} (h : Dig P l) {x : Int} (h0 : 0 ≤ x) (h1 : x < P) : Dig P (l ++ [x]) := by
  intro i
  by_cases hi : i < l.length
  · have e : nth (l ++ [x]) i = nth l i := by simp only [nth, List.getD_eq_getElem?_getD]; rw [List.getElem?_append_left hi]
    rw [e]; exact h i
  · by_cases hj : i = l.length
    · subst hj
      have e : nth (l ++ [x]) l.length = x := by simp [nth]
      rw [e]; exact ⟨h0, h1⟩
    · rw [nth_out (by simp; omega)]; omega

set_option maxRecDepth 100000 in
set_option maxHeartbeats 4000000 in
theorem rDivides_any (al : Option Addr) (d cl : Nat) (low : List Int) (am : Option Addr) (mn cm : Nat) (mod : List Int) (P : Int) (w : World) (hl : Ints w al d low) (hm : Ints w am mn mod) (hp2 : 2 ≤ P) (hp256 : P ≤ 256)
    (hdl : Dig P low) (hdm : Dig P mod) (hd1 : 1 ≤ d) (hdn : d ≤ mn) (hmn : mn ≤ 8) :
    Calls Tryz.prog 183 #[.slice al d cl, .slice am mn cm, .int .i64 P] w fun e w' => e = .returned (.bool (dvB P low mod)) ∧ Below w.heap.size w w' := by
  have hP : 0 < P := by omega
  have Hll := Lib.hid hl.len
  have Hml := Lib.hid hm.len
  have hpll := hl.pl
  have Hdl := Lib.hid hdl
  have HDB : Hid (dvB P low mod = (dvT P low (mn + 1) (mod ++ [1]) (mn + 1 - d)).all fun x => x == 0) := by show _ = _; rw [dvB, hm.len, hl.len]
  have HD0 : Hid (Dig P (mod ++ [1])) := hdm.snoc (by omega) (by omega)
  have HL0 : Hid ((mod ++ [1]).length = mn + 1) := by show _ = _; rw [List.length_append, hm.len]; rfl
  have hO1 := own_emp w 3
  have hbe := below1 w (.cells #[] 3)
  have hme := hm.keep hbe
  have hpm := hm.pl
  clear hdl hdm
  go_enter Tryz.func183, Tryz.ntmps183
  go_wp2_with (at_builtin; first
        | (refine wpList_appAll (by rfl) (.tmp 15) (.tmp 16) 22 3 (by rfl) (.int .i64 0) 8 Tryz.underlying22 infoInt (by rfl) w.heap.size _ 0 0 [] (by rfl) hO1 am mn cm (mod.map (Value.int .i64)) (by rfl) hpm (by simp [Hml.out]) (Ints.news hme) (ints_oneCell _ _) (by omega) (by unfold maxLen; omega) (Below.size hbe) ?_; intro a3 c3 w3 hown3 hgr3 hap3; have hb3 : Below w.heap.size w w3 := Below.app (B := w.heap.size) (e := 3) (xs := []) hbe hO1 hgr3 (Nat.le_refl _) (Below.size hbe); rw [Nat.zero_add] at hown3 ⊢; rw [List.nil_append] at hown3)
        | (refine wpList_push rfl _ _ 22 3 rfl (.int .i64 0) 8 Tryz.underlying22 infoInt rfl w.heap.size a3 mn c3 _ rfl (hown3.alloc _) ⟨w3.heap.size, 0, none⟩ 1 (.int .i64 1) rfl (cell_new w3 _ _) rfl (by omega) (by unfold maxLen; omega) (by have h1 := Below.size hb3; simp; omega) ?_; intro a1 c1 w1 hown1 hgr1 hap1))
  have hb4 : Below w.heap.size w w1 := Below.app (Below.next hb3 (below1 _ _)) (hown3.alloc _) hgr1 (Nat.le_refl _) (Nat.le_trans hb3.size (Below.size (below1 _ _)))
  have hown : w1.ownsRow w.heap.size 3 1 (.slice a1 (mn + 1) c1) (mn + 1) ((mod ++ [1]).map (Value.int .i64)) := by simpa using hown1
  have ha1 : a1 ≠ none → w.heap.size ≤ ablk a1 := fun h => (own_ne hown h).1
  obtain ⟨n, hn⟩ : ∃ n, mn + 1 = n := ⟨_, rfl⟩
  have Hn := Lib.hid hn
  have hn9 : n ≤ 9 := by omega
  have hdn' : d + 1 ≤ n := by omega
  obtain ⟨r0, hr0⟩ : ∃ r0, mod ++ [1] = r0 := ⟨_, rfl⟩
  rw [hr0, hn] at hown HDB
  rw [hr0] at HD0
  rw [hr0, hn] at HL0
  have hnv : (((mn + 1 : Nat) : Int)) = n := by omega
  have hnv2 : (mn : Int) + 1 = n := by omega
  have hlw := hl.keep hb4
  have hS : ∀ V, Below w.heap.size w V → Ints V al d low := fun V hV => hl.keep hV
  have HS := Lib.hid hS
  rw [hn]
  clear hown1 hgr1 hap1 hown3 hgr3 hap3 hr0 hn hS hO1 hbe hme hlw
  go_wp2_with fail
  clear hnv hnv2
  go_loopw [9] (fun iv wr => ∃ k t : Nat, t + k + 1 = n ∧ d ≤ t + 1 ∧ iv = .int .i64 t ∧ wr.ownsRow w.heap.size 3 1 (.slice a1 n c1) n ((dvT P low n r0 k).map (Value.int .i64)) ∧ Only a1 w1 wr) (fun iv _ => (intOf iv).toNat)
  case atStart => exact ⟨0, n - 1, by omega, by omega, by have := Hn.out; congr 1; omega, hown, Only.refl _ _⟩
  case round =>
    obtain ⟨k, t, htk, hdt, rfl, hownk, honlyk⟩ := hrel
    have hbk : Below w.heap.size w wr := hb4.trans (honlyk.below ha1 hb4.size)
    by_cases hti : d ≤ t
    · have Htk := Lib.hid htk
      have Hrk : Hid (dvT P low n r0 (k + 1) = (dvJ P low (t - d) (nth (dvT P low n r0 k) t) (dvT P low n r0 k) d).set t 0) := by
        show _ = _; rw [dvT, Hll.out, show n - 1 - k = t by omega]
      have Hrd : Hid (Dig P (dvT P low n r0 k)) := dvT_dig hP low n HD0.out k
      obtain ⟨C2, hC2⟩ : ∃ C2, dvT P low n r0 k = C2 := ⟨_, rfl⟩
      rw [hC2] at hownk Hrk Hrd
      have htn : t < n := by omega
      have hti' : (t : Int) < n := by omega
      obtain ⟨it0, mt0⟩ := Ints.own hownk
      have c0 := it0.cell t htn
      have hp0 := it0.pl
      have b2 := Hrd.out t
      clear hC2 htk
      go_wp2_with fail
      obtain ⟨cc, hcc⟩ : ∃ cc, nth C2 t = cc := ⟨_, rfl⟩
      rw [hcc] at b2 Hrk
      rw [hcc]
      clear hcc c0 it0 mt0
      go_loopw [11] (fun iv wr => ∃ j : Nat, j ≤ d ∧ iv = .int .i64 j ∧ wr.ownsRow w.heap.size 3 1 (.slice a1 n c1) n ((dvJ P low (t - d) cc C2 j).map (Value.int .i64)) ∧ Only a1 w1 wr) (fun iv _ => d - (intOf iv).toNat)
      case atStart => exact ⟨0, Nat.zero_le _, rfl, hownk, honlyk⟩
      case round =>
        obtain ⟨j, hj, rfl, hown2, honly2⟩ := hrel
        have hbr2 : Below w.heap.size w wr := hb4.trans (honly2.below ha1 hb4.size)
        have j1 := HS.out wr hbr2
        by_cases hlt2 : j < d
        · have Hcj : Hid (dvJ P low (t - d) cc C2 (j + 1) = (dvJ P low (t - d) cc C2 j).set (t - d + j) ((nth (dvJ P low (t - d) cc C2 j) (t - d + j) + (P - cc) * nth low j) % P)) := rfl
          have hcd := dvJ_dig hP low (t - d) cc Hrd.out j
          obtain ⟨T, hT⟩ : ∃ T, dvJ P low (t - d) cc C2 j = T := ⟨_, rfl⟩
          rw [hT] at hown2 Hcj hcd
          clear hT
          obtain ⟨it, mt⟩ := Ints.own hown2
          obtain ⟨u, hu⟩ : ∃ u, t - d + j = u := ⟨_, rfl⟩
          have hun : u < n := by omega
          have ct := it.cell u hun
          have cM := j1.cell j hlt2
          have ft := (mt (by omega)).2 u hun
          have hplt := it.pl
          have b1 := hcd u
          have b3 := Hdl.out j
          have hme := mul_bd (show 0 ≤ P - cc by omega) (show P - cc ≤ 256 by omega) b3.1 (show nth low j ≤ 256 by omega)
          have hP0 : P ≠ 0 := by omega
          rw [hu] at Hcj
          obtain ⟨Z, hZ⟩ : ∃ Z, (nth T u + (P - cc) * nth low j) % P = Z := ⟨_, rfl⟩
          have Hcj2 : Hid (dvJ P low (t - d) cc C2 (j + 1) = T.set u Z) := by show _ = _; rw [Hcj.out, hZ]
          obtain ⟨v, hv⟩ : ∃ v, t - d = v := ⟨_, rfl⟩
          have r0' : IntKind.i64.wrap ((t : Int) - d) = (v : Int) := by rw [IntWalk.i64_in _ (by omega)]; omega
          have r1 : IntKind.i64.wrap ((v : Int) + j) = (u : Int) := by rw [IntWalk.i64_in _ (by omega)]; omega
          have r2 : IntKind.i64.wrap (P - cc) = P - cc := IntWalk.i64_in _ (by omega)
          have r3 : IntKind.i64.wrap ((P - cc) * nth low j) = (P - cc) * nth low j := IntWalk.i64_in _ (by omega)
          have r4 : IntKind.i64.wrap (nth T u + (P - cc) * nth low j) = nth T u + (P - cc) * nth low j := IntWalk.i64_in _ (by omega)
          have r5 : (nth T u + (P - cc) * nth low j).tmod P = Z := by rw [← hZ]; exact IntWalk.rem_in _ _ (by omega)
          have q1 : (0 : Int) ≤ u := by omega
          have q2 : (u : Int) < n := by omega
          have q4 : (j : Int) < d := by omega
          clear hZ hu hv Hcj
          go_wp2_with fail
          go_still_tail 26, (by kernel_rfl)
          change wpList _ _ _ _ _ wr.drew
          generalize hwd : wr.drew = wd
          have fd : wd.frozen? ⟨ablk a1, aoff a1 + u, none⟩ = false := by rw [← hwd]; exact ft
          have cd : wd.cell? ⟨ablk a1, aoff a1 + u, none⟩ = some (.int .i64 (nth T u)) := by rw [← hwd]; exact ct
          have Hwd := Lib.hid hwd
          clear hwd r0' r1 r2 r3 r4 r5
          go_wp2_with fail
          go_roundw
          case rel =>
            obtain rfl := Hwd.out
            have hdr : Drawn wr wr.drew := (Drawn.refl wr).drew
            refine ⟨j + 1, by omega, by go_num, ?_, honly2.trans ((Only.drawn hdr).trans (Only.set _ u _ (by intro e; have := hplt (by omega); rw [e] at this; cases this)))⟩
            have h1 := own_set (w := wr.drew) hown2 u hun (.int .i64 Z)
            rw [← List.map_set, ← Hcj2.out] at h1
            exact h1
          case measure => simp [intOf] <;> omega
        · obtain rfl : j = d := by omega
          obtain ⟨it, mt⟩ := Ints.own hown2
          have ct := it.cell t htn
          have ft := (mt (by omega)).2 t htn
          have hplt := it.pl
          go_wp2_with fail
          go_roundw
          case rel =>
            have h1 := own_set hown2 t htn (.int .i64 0)
            rw [← List.map_set, ← Hrk.out] at h1
            exact ⟨k + 1, t - 1, by have := Htk.out; omega, by omega, by congr 1; omega, h1, honly2.trans (Only.set _ t _ (by intro e; have := hplt (by omega); rw [e] at this; cases this))⟩
          case measure => simp [intOf] <;> omega
    · have hkf : k = n - d := by omega
      have Hfin : Hid (dvB P low mod = (dvT P low n r0 k).all fun x => x == 0) := by show _ = _; rw [HDB.out, hkf]
      have HlT : Hid ((dvT P low n r0 k).length = n) := by show _ = _; rw [dvT_len]; exact HL0.out
      obtain ⟨C2, hC2⟩ : ∃ C2, dvT P low n r0 k = C2 := ⟨_, rfl⟩
      rw [hC2] at hownk Hfin HlT
      have iC := (Ints.own hownk).1
      have hpC := iC.pl
      clear hC2 htk hkf hownk
      go_wp2_with fail
      go_loop [12] (fun iv => ∃ j : Nat, j ≤ n ∧ iv = .int .i64 j ∧ Hid ((C2.take j).all (fun x => x == 0) = true)) (fun iv => n - (intOf iv).toNat)
      case atStart => exact ⟨0, Nat.zero_le _, rfl, by show _ = _; simp⟩
      case round =>
        obtain ⟨j, hj, rfl, hall⟩ := hrel
        by_cases hlt : j < n
        · have cj := iC.cell j hlt
          have hjl : j < C2.length := by rw [HlT.out]; exact hlt
          by_cases hz : nth C2 j = 0
          · have hz' : (nth C2 j != 0) = false := by simpa using hz
            have Hs : Hid ((C2.take (j + 1)).all (fun x => x == 0) = true) := all_take_succ hjl hall.out (by rw [← nth_getElem hjl, hz]; rfl)
            clear hz
            go_wp2_with fail
            go_round
            case rel => exact ⟨j + 1, by omega, by go_num, Hs.out⟩
            case measure => simp [intOf] <;> omega
          · have hz' : (nth C2 j != 0) = true := by simpa using hz
            have Hs : Hid (dvB P low mod = false) := by show _ = _; rw [Hfin.out]; exact all_false_at hjl (by rw [← nth_getElem hjl]; simpa using hz)
            clear hz
            go_wp2_with fail
            go_ret
            exact ⟨ret_bool Hs.out.symm, hbk⟩
        · obtain rfl : j = n := by omega
          have Hs : Hid (dvB P low mod = true) := by
            have := hall.out
            rw [List.take_of_length_le (by rw [HlT.out]; exact Nat.le_refl _)] at this
            show _ = _; rw [Hfin.out, this]
          go_wp2_with fail
          go_ret
          exact ⟨ret_bool Hs.out.symm, hbk⟩

/-- no monic polynomial of a degree from 1 to half of its own divides the one with the low coefficients mod -/
def irD (P : Int) (mod : List Int) (d q : Nat) : Bool := (List.range q).all fun v => !dvB P (digs v P d) mod
def irTo (P : Int) (mod : List Int) (k : Nat) : Bool := (List.range k).all fun d => irD P mod (d + 1) (P ^ (d + 1)).toNat
def irrB (P : Int) (mod : List Int) : Bool := irTo P mod (mod.length / 2)

theorem range_all_succ {p : Nat → Bool} {k : Nat} (h : (List.range k).all p = true) (hk : p k = true) : (List.range (k + 1)).all p = true := by
  rw [List.range_succ, List.all_append, h]; simp [hk]
theorem range_all_no {p : Nat → Bool} {k n : Nat} (hk : k < n) (h : p k = false) : (List.range n).all p = false := by
  rw [List.all_eq_false]; exact ⟨k, List.mem_range.2 hk, by simp [h]⟩

set_option maxRecDepth 100000 in
set_option maxHeartbeats 4000000 in
theorem rIrreducible_any (am : Option Addr) (mn cm : Nat) (mod : List Int) (P : Int) (w : World) (hm : Ints w am mn mod) (hp2 : 2 ≤ P) (hp256 : P ≤ 256) (hdm : Dig P mod) (hmn : mn ≤ 8) (hpw : P ^ mn ≤ 256) :
    Calls Tryz.prog 140 #[.slice am mn cm, .int .i64 P] w fun e w' => e = .returned (.bool (irrB P mod)) ∧ Below w.heap.size w w' := by
  have Hml := Lib.hid hm.len
  have Hdm := Lib.hid hdm
  have HP : Hid (∀ k, k ≤ mn → 1 ≤ P ^ k ∧ P ^ k ≤ 256) := fun k hk => ⟨by have := pow_mono (show 1 ≤ P by omega) (Nat.zero_le k); rwa [Int.pow_zero] at this, Int.le_trans (pow_mono (show 1 ≤ P by omega) hk) hpw⟩
  have HI : Hid (irrB P mod = irTo P mod (mn / 2)) := by show _ = _; rw [irrB, hm.len]
  clear hdm hpw
  go_enter Tryz.func140, Tryz.ntmps140
  go_wp2_with fail
  go_loopw [5, 6] (fun cv dv wr => ∃ d : Nat, 1 ≤ d ∧ 2 * d ≤ mn + 2 ∧ dv = .int .i64 d ∧ cv = .int .i64 (P ^ (d - 1)) ∧ Hid (irTo P mod (d - 1) = true) ∧ Below w.heap.size w wr) (fun _ dv _ => mn + 2 - (intOf dv).toNat)
  case atStart => exact ⟨1, by omega, by omega, rfl, by simp, by show _ = _; simp [irTo], Below.refl _ _⟩
  case round =>
    obtain ⟨d, hd1, hd2, rfl, rfl, hir, hbr⟩ := hrel
    by_cases hlt : 2 * d ≤ mn
    · have hpe := HP.out (d - 1) (by omega)
      have hpe1 := HP.out d (by omega)
      have hps : P ^ d = P ^ (d - 1) * P := by
        have h1 := Int.pow_succ P (d - 1)
        have h2 : (d - 1).succ = d := Nat.sub_add_cancel hd1
        rwa [h2] at h1
      obtain ⟨q, hq⟩ : ∃ q : Nat, P ^ d = q := ⟨(P ^ d).toNat, by omega⟩
      have HQ : Hid (irTo P mod d = (irTo P mod (d - 1) && irD P mod d q)) := by
        have e1 : irTo P mod d = (List.range ((d - 1) + 1)).all fun d => irD P mod (d + 1) (P ^ (d + 1)).toNat := by rw [Nat.sub_add_cancel hd1]; rfl
        show _ = _; rw [e1, List.range_succ, List.all_append]
        simp only [List.all_cons, List.all_nil, Bool.and_true]
        rw [Nat.sub_add_cancel hd1, hq]; rfl
      have Hps : Hid (P ^ (d - 1) * P = (q : Int)) := by show _ = _; rw [← hps, hq]
      have hq256 : q ≤ 256 := by omega
      have Hq := Lib.hid hq
      have Hlen : Hid (∀ v : Nat, (digs v P d).length = d) := fun v => digs_length _ _ _
      have Hdd : Hid (∀ v : Nat, Dig P (digs v P d)) := fun v => Dig.digs (by omega) _ _
      have Hf0 : Hid (∀ v : Nat, v < q → dvB P (digs v P d) mod = true → irrB P mod = false) := fun v hv hd => by
        rw [HI.out]
        refine range_all_no (k := d - 1) (by omega) ?_
        rw [Nat.sub_add_cancel hd1, hq, Int.toNat_natCast]
        exact range_all_no hv (by rw [hd]; rfl)
      clear hps hpe1 hq
      obtain ⟨pe, hpe'⟩ : ∃ pe, P ^ (d - 1) = pe := ⟨_, rfl⟩
      rw [hpe'] at Hps hpe
      rw [hpe']
      have hps2 := Hps.out
      have hltd : decide (2 * (d : Int) ≤ mn) = true := by simp; omega
      have hltn : decide (2 * d ≤ mn) = true := by simp; omega
      clear hpe'
      go_wp2_with fail
      clear hps2
      go_loopw [7] (fun vv wx => ∃ v : Nat, v ≤ q ∧ vv = .int .i64 v ∧ Hid ((List.range v).all (fun v => !dvB P (digs v P d) mod) = true) ∧ Below w.heap.size w wx) (fun vv _ => q - (intOf vv).toNat)
      case atStart => exact ⟨0, Nat.zero_le _, rfl, by show _ = _; simp, hbr⟩
      case round =>
        obtain ⟨v, hv, rfl, hall, hbx⟩ := hrel
        by_cases hvq : v < q
        · obtain ⟨D, hD⟩ : ∃ D, digs v P d = D := ⟨_, rfl⟩
          have Hl := Lib.hid (Hlen.out v)
          have Hg := Lib.hid (Hdd.out v)
          have Hf := Lib.hid (Hf0.out v hvq)
          have HDg := Lib.hid (rdigits_any v P d wr (by omega) (by omega) (by omega) (by omega))
          rw [hD] at Hl Hg Hf HDg
          have HD := Lib.hid hD
          clear hD
          go_wp2_with fail
          refine HDg.out.mono ?_
          rintro e1 w1 ⟨a1, c1, rfl, hown1, hb1⟩
          rw [Hl.out] at hown1 ⊢
          have hi1 := (Ints.own hown1).1
          have hbx1 := Below.next hbx hb1
          clear hown1
          go_wp2_with fail
          refine (rDivides_any a1 d c1 D am mn cm mod P w1 hi1 (hm.keep hbx1) hp2 hp256 Hg.out Hdm.out hd1 (by omega) hmn).mono ?_
          rintro e2 w2 ⟨rfl, hb2⟩
          have hbx2 := Below.next hbx1 hb2
          by_cases hdv : dvB P D mod = true
          · have Hf2 := Lib.hid (Hf.out hdv)
            rw [hdv]
            clear hdv
            go_wp2_with fail
            go_ret
            exact ⟨ret_bool Hf2.out.symm, hbx2⟩
          · have hdv' : dvB P D mod = false := by simpa using hdv
            have Hs : Hid ((List.range (v + 1)).all (fun v => !dvB P (digs v P d) mod) = true) := range_all_succ hall.out (by rw [HD.out, hdv']; rfl)
            rw [hdv']
            clear hdv hdv'
            go_wp2_with fail
            go_roundw
            case rel => exact ⟨v + 1, by omega, by go_num, Hs.out, hbx2⟩
            case measure => simp [intOf] <;> omega
        · obtain rfl : v = q := by omega
          have Hs : Hid (irTo P mod d = true) := by show _ = _; rw [HQ.out, hir.out, irD, hall.out]; rfl
          go_wp2_with fail
          go_roundw
          case rel => exact ⟨d + 1, by omega, by omega, by go_num, by rw [Nat.add_sub_cancel, Hq.out], Hs.out, hbx⟩
          case measure => simp [intOf] <;> omega
    · have Hs : Hid (irrB P mod = true) := by show _ = _; rw [HI.out, show mn / 2 = d - 1 by omega]; exact hir.out
      go_wp2_with fail
      go_ret
      exact ⟨ret_bool Hs.out.symm, hbr⟩
end

end Go.Proofs.YtcflcogbpnmjeaaGreat
