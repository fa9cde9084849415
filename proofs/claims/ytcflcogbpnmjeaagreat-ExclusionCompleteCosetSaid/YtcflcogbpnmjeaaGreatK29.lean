/- Sorting by insertion (plain law). -/
import Derived.Test.YtcflcogbpnmjeaaGreatK28
import Derived.Deep.RegionHeld3
import Derived.Test.YtcflcogbpnmjeaaGreatK20
import Derived.Test.YtcflcogbpnmjeaaGreatK21
import Derived.Test.YtcflcogbpnmjeaaGreatK19
namespace Go.Proofs.YtcflcogbpnmjeaaGreat
set_option linter.unusedVariables false
set_option linter.unusedSimpArgs false
set_option linter.unusedSectionVars false

/- The walks of CheckRank, BuildRank, CheckDistance, BuildDistance of the package exclusion. -/
section
open Go.RowKit

def chkRE (P M : Int) (mod : List Int) (N : Int) (L : List (List Int)) (mm W : Int) (ts : List (List Int)) : Int :=
  if rkcE P M mod N L mm W = 0 then provS (tblOf P M.toNat mod).ops L N.toNat ⟨mm.toNat, W.toNat, false, []⟩ ts else rkcE P M mod N L mm W
def bldRE (P M : Int) (mod : List Int) (N : Int) (L : List (List Int)) (mm W : Int) : Int × List (List Int) :=
  if rkcE P M mod N L mm W = 0 then treeS (tblOf P M.toNat mod).ops L N.toNat ⟨mm.toNat, W.toNat, false, []⟩ else (rkcE P M mod N L mm W, [])
def ExBldPost (V : Int × List (List Int)) (w : World) (e : Ending) (w' : World) : Prop :=
  Below w.heap.size w w' ∧ ((V.1 ≠ 0 ∧ e = .returned (.tuple #[.agg #[.slice none 0 0], .int .i64 V.1])) ∨
    (V.1 = 0 ∧ ∃ ar cr R, e = .returned (.tuple #[.agg #[.slice ar V.2.length cr], .int .i64 0]) ∧ OMat w' w.heap.size ar V.2.length cr R V.2))

set_option maxRecDepth 100000 in
set_option maxHeartbeats 1600000 in
theorem exCheckRank_any (P M : Int) (am : Option Addr) (mn cm : Nat) (mod : List Int) (N : Int) (a : Option Addr) (n c : Nat) (L : List (List Int)) (mm W : Int) (ax : Option Addr) (nx cx : Nat) (ts : List (List Int)) (w : World)
    (hmod : Ints w am mn mod) (hi : Mat w a n L) (hts : Mat w ax nx ts) :
    Calls Tryz.prog 56 #[.agg #[.int .i64 P, .int .i64 M, .slice am mn cm, .int .i64 N, .slice a n c], .int .i64 mm, .int .i64 W, .agg #[.slice ax nx cx]] w fun e w' => e = .returned (.int .i64 (chkRE P M mod N L mm W ts)) ∧ Below w.heap.size w w' := by
  go_enter Tryz.func56, Tryz.ntmps56
  go_wp2_with fail
  obtain ⟨U, hU⟩ : ∃ U : World, U = (w.alloc (.cells #[.int .i64 P, .int .i64 M, .slice am mn cm, .int .i64 N, .slice a n c] 27)).alloc (.cells #[.slice ax nx cx] 37) := ⟨_, rfl⟩
  rw [← hU]
  have hbU : Below w.heap.size w U := by rw [hU]; exact below2 _ _ _
  have x0 : Box U (w.heap.size + 1) [.slice ax nx cx] := by rw [hU]; exact Box.new _ _ _ (by simp)
  have HX := Lib.hid x0
  clear hU x0
  refine (exRank_any P M am mn cm mod N a n c L mm W U (hmod.keep hbU) (hi.keep hbU)).mono ?_
  rintro e w1 ⟨hb1, ⟨hE, rfl⟩ | ⟨hE, pb, rfl, hCl⟩⟩
  · have HE : Hid (chkRE P M mod N L mm W ts = rkcE P M mod N L mm W) := if_neg hE
    have hE1 : (rkcE P M mod N L mm W == 0) = false := by simpa using hE
    have hE2 : (rkcE P M mod N L mm W != 0) = true := by simpa using hE
    have hbF := Below.next hbU hb1
    clear hE
    go_wp2_with fail
    go_ret
    exact ⟨by rw [HE.out]; rfl, hbF⟩
  · have HE : Hid (chkRE P M mod N L mm W ts = provS (tblOf P M.toNat mod).ops L N.toNat ⟨mm.toNat, W.toNat, false, []⟩ ts) := if_pos hE
    have x1 := HX.out.keep hb1
    have c0 := x1.cell 0 rfl
    obtain ⟨b, w2, rfl, hb2, hPE, hb3, hB⟩ := hCl
    have HPr := Lib.hid (exProves_any w2.heap.size P M am mn cm c 0 ax nx cx ts hPE ((hts.keep hbU).keep hb2) (Nat.le_refl _) hb3 hB)
    have hbw2 := Below.next hbU hb2
    clear x1 hB hPE hE
    go_wp2_with fail
    refine HPr.out.mono ?_
    rintro e w3 ⟨rfl, hb4⟩
    have hbF := Below.next hbw2 hb4
    go_wp2_with fail
    go_ret
    exact ⟨by rw [HE.out]; rfl, hbF⟩

set_option maxRecDepth 100000 in
set_option maxHeartbeats 1600000 in
theorem exBuildRank_any (P M : Int) (am : Option Addr) (mn cm : Nat) (mod : List Int) (N : Int) (a : Option Addr) (n c : Nat) (L : List (List Int)) (mm W : Int) (w : World)
    (hmod : Ints w am mn mod) (hi : Mat w a n L) :
    Calls Tryz.prog 54 #[.agg #[.int .i64 P, .int .i64 M, .slice am mn cm, .int .i64 N, .slice a n c], .int .i64 mm, .int .i64 W] w (ExBldPost (bldRE P M mod N L mm W) w) := by
  obtain ⟨V, hV⟩ : ∃ V, bldRE P M mod N L mm W = V := ⟨_, rfl⟩
  rw [hV]
  have HV := Lib.hid hV
  clear hV
  go_enter Tryz.func54, Tryz.ntmps54
  go_wp2_with fail
  obtain ⟨U, hU⟩ : ∃ U : World, U = (w.alloc (.cells #[.int .i64 P, .int .i64 M, .slice am mn cm, .int .i64 N, .slice a n c] 27)).alloc (.cells #[.slice none 0 0] 37) := ⟨_, rfl⟩
  rw [← hU]
  have hbU : Below w.heap.size w U := by rw [hU]; exact below2 _ _ _
  have hsU : U.heap.size = w.heap.size + 2 := by rw [hU]; simp
  have x0 : Box U (w.heap.size + 1) [.slice none 0 0] := by rw [hU]; exact Box.new _ _ _ (by simp)
  have HX := Lib.hid x0
  clear hU x0
  refine (exRank_any P M am mn cm mod N a n c L mm W U (hmod.keep hbU) (hi.keep hbU)).mono ?_
  rintro e w1 ⟨hb1, ⟨hE, rfl⟩ | ⟨hE, pb, rfl, hCl⟩⟩
  · have HE : Hid (V = (rkcE P M mod N L mm W, [])) := by show _ = _; rw [← HV.out]; exact if_neg hE
    have hE1 : (rkcE P M mod N L mm W == 0) = false := by simpa using hE
    have hE2 : (rkcE P M mod N L mm W != 0) = true := by simpa using hE
    have Hne := Lib.hid hE
    have x1 := HX.out.keep hb1
    have z0 := x1.cell 0 rfl
    have f0 := x1.frozen 0
    have HF := Lib.hid (fun v : Value => (Below.next hbU hb1).setCell (p := ⟨w.heap.size + 1, 0, none⟩) (by simp) v)
    clear hE x1
    generalize rkcE P M mod N L mm W = er at *
    go_wp2_with fail
    have z1 : (w1.setCell ⟨w.heap.size + 1, 0, none⟩ (.slice none 0 0)).cell? ⟨w.heap.size + 1, 0, none⟩ = some (.slice none 0 0) := World.cell?_setCell_same _ _ _ z0
    exact bodyPost_ret (v := .tuple #[.agg #[.slice none 0 0], .int .i64 er]) (by simp [results, Tryz.results54, go_sem, z0, z1]) rfl ⟨HF.out _, .inl ⟨by rw [HE.out]; exact Hne.out, by rw [HE.out]⟩⟩
  · have HE : Hid (treeS (tblOf P M.toNat mod).ops L N.toNat ⟨mm.toNat, W.toNat, false, []⟩ = V) := by show _ = _; rw [← HV.out]; exact (if_pos hE).symm
    have x1 := HX.out.keep hb1
    obtain ⟨b, w2, rfl, hb2, hPE, hb3, hB⟩ := hCl
    have HPr := exTree_any w2.heap.size P M am mn cm c 0 hPE (Nat.le_refl _) hb3 hB
    rw [HE.out] at HPr
    have HTr := Lib.hid HPr
    have hbw2 := Below.next hbU hb2
    have x2 := HX.out.keep hb2
    have hs2 : w.heap.size + 1 < w2.heap.size := x2.1
    clear x1 hB hPE hE HPr
    go_wp2_with fail
    refine HTr.out.mono ?_
    rintro e w3 ⟨hb4, ⟨hv, rfl⟩ | ⟨hv, ar, cr, R, rfl, hO⟩⟩
    · have x3 := x2.keep hb4
      have z0 := x3.cell 0 rfl
      have f0 := x3.frozen 0
      have HF := Lib.hid (fun v : Value => (Below.next hbw2 hb4).setCell (p := ⟨w.heap.size + 1, 0, none⟩) (by simp) v)
      have Hne := Lib.hid hv
      obtain ⟨ve, vt⟩ := V
      dsimp only at Hne ⊢
      clear x3 hv
      go_wp2_with fail
      have z1 : (w3.setCell ⟨w.heap.size + 1, 0, none⟩ (.slice none 0 0)).cell? ⟨w.heap.size + 1, 0, none⟩ = some (.slice none 0 0) := World.cell?_setCell_same _ _ _ z0
      exact bodyPost_ret (v := .tuple #[.agg #[.slice none 0 0], .int .i64 ve]) (by simp [results, Tryz.results54, go_sem, z0, z1]) rfl ⟨HF.out _, .inl ⟨Hne.out, rfl⟩⟩
    · have x3 := x2.keep hb4
      have z0 := x3.cell 0 rfl
      have f0 := x3.frozen 0
      have hF : ∀ v : Value, Below w.heap.size w (w3.setCell ⟨w.heap.size + 1, 0, none⟩ v) ∧ OMat (w3.setCell ⟨w.heap.size + 1, 0, none⟩ v) w.heap.size ar V.2.length cr R V.2 := fun v => by
        refine ⟨(Below.next hbw2 hb4).setCell (by simp) v, ?_⟩
        refine (OMat.mono hO hbw2.size).of_blocks fun x hx => Below.heap_setCell _ _ _ _ fun e => ?_
        have h1 := (hO.lt x hx).1
        have e' : x = w.heap.size + 1 := e
        omega
      have HF := Lib.hid hF
      obtain ⟨ve, vt⟩ := V
      dsimp only at hv HF ⊢
      subst hv
      clear x3 hO hF
      go_wp2_with fail
      have z1 : (w3.setCell ⟨w.heap.size + 1, 0, none⟩ (.slice ar vt.length cr)).cell? ⟨w.heap.size + 1, 0, none⟩ = some (.slice ar vt.length cr) := World.cell?_setCell_same _ _ _ z0
      exact bodyPost_ret (v := .tuple #[.agg #[.slice ar vt.length cr], .int .i64 0]) (by simp [results, Tryz.results54, go_sem, z0, z1]) rfl ⟨(HF.out _).1, .inr ⟨rfl, ar, cr, R, rfl, (HF.out _).2⟩⟩
end

/- The walks of CheckDistance and BuildDistance of the package exclusion. -/
section
open Go.RowKit

theorem rkc_wt {P M : Int} {mod : List Int} {N : Int} {L : List (List Int)} {d z : Int} (hz : 1 ≤ N → N ≤ 64 → z = wtD N d) (mm : Int) : rkcE P M mod N L mm z = rkcE P M mod N L mm (wtD N d) := by
  unfold rkcE
  by_cases hE : codeE P M mod N L = 0
  · obtain ⟨_, h1, h2, _⟩ := codeE_zero hE
    rw [hz h1 h2]
  · rw [if_neg hE, if_neg hE]
theorem rkc_code {P M : Int} {mod : List Int} {N : Int} {L : List (List Int)} {mm z : Int} (h : rkcE P M mod N L mm z = 0) : codeE P M mod N L = 0 := by
  unfold rkcE at h
  by_cases hE : codeE P M mod N L = 0
  · exact hE
  · rw [if_neg hE] at h; exact h
theorem chk_wt {P M : Int} {mod : List Int} {N : Int} {L : List (List Int)} {d z : Int} (hz : 1 ≤ N → N ≤ 64 → z = wtD N d) (mm : Int) (ts : List (List Int)) : chkRE P M mod N L mm z ts = chkRE P M mod N L mm (wtD N d) ts := by
  by_cases hE : codeE P M mod N L = 0
  · obtain ⟨_, h1, h2, _⟩ := codeE_zero hE
    rw [hz h1 h2]
  · unfold chkRE
    rw [rkc_wt hz, if_neg (fun h => hE (rkc_code h)), if_neg (fun h => hE (rkc_code h))]
theorem bld_wt {P M : Int} {mod : List Int} {N : Int} {L : List (List Int)} {d z : Int} (hz : 1 ≤ N → N ≤ 64 → z = wtD N d) (mm : Int) : bldRE P M mod N L mm z = bldRE P M mod N L mm (wtD N d) := by
  by_cases hE : codeE P M mod N L = 0
  · obtain ⟨_, h1, h2, _⟩ := codeE_zero hE
    rw [hz h1 h2]
  · unfold bldRE
    rw [rkc_wt hz, if_neg (fun h => hE (rkc_code h)), if_neg (fun h => hE (rkc_code h))]

set_option maxRecDepth 100000 in
set_option maxHeartbeats 1600000 in
theorem exCheckDistance_any (P M : Int) (am : Option Addr) (mn cm : Nat) (mod : List Int) (N : Int) (a : Option Addr) (n c : Nat) (L : List (List Int)) (d : Int) (ax : Option Addr) (nx cx : Nat) (ts : List (List Int)) (w : World)
    (hmod : Ints w am mn mod) (hi : Mat w a n L) (hts : Mat w ax nx ts) :
    Calls Tryz.prog 21 #[.agg #[.int .i64 P, .int .i64 M, .slice am mn cm, .int .i64 N, .slice a n c], .int .i64 d, .agg #[.slice ax nx cx]] w fun e w' => e = .returned (.int .i64 (chkRE P M mod N L n (wtD N d) ts)) ∧ Below w.heap.size w w' := by
  obtain ⟨V, hV⟩ : ∃ V, chkRE P M mod N L n (wtD N d) ts = V := ⟨_, rfl⟩
  rw [hV]
  have HCk : Hid (∀ (W : World) (z : Int), Below w.heap.size w W → (1 ≤ N → N ≤ 64 → z = wtD N d) → Calls Tryz.prog 56 #[.agg #[.int .i64 P, .int .i64 M, .slice am mn cm, .int .i64 N, .slice a n c], .int .i64 n, .int .i64 z, .agg #[.slice ax nx cx]] W
      fun e w' => e = .returned (.int .i64 V) ∧ Below W.heap.size W w') := fun W z hW hz => by
    have h1 := exCheckRank_any P M am mn cm mod N a n c L n z ax nx cx ts W (hmod.keep hW) (hi.keep hW) (hts.keep hW)
    rw [chk_wt hz, hV] at h1
    exact h1
  clear hmod hi hts hV
  go_enter Tryz.func21, Tryz.ntmps21
  go_upto_region 1 with fail
  obtain ⟨U, hU⟩ : ∃ U : World, U = (w.alloc (.cells #[.int .i64 P, .int .i64 M, .slice am mn cm, .int .i64 N, .slice a n c] 27)).alloc (.cells #[.slice ax nx cx] 37) := ⟨_, rfl⟩
  rw [← hU]
  have hbU : Below w.heap.size w U := by rw [hU]; exact below2 _ _ _
  have x0 : Box U w.heap.size [.int .i64 P, .int .i64 M, .slice am mn cm, .int .i64 N, .slice a n c] := by rw [hU]; exact (Box.new _ _ _ rfl).alloc _
  have y0 : Box U (w.heap.size + 1) [.slice ax nx cx] := by rw [hU]; exact Box.new _ _ _ (by simp)
  have HS : Hid (∀ V, Below U.heap.size U V → V.cell? ⟨w.heap.size, 0, none⟩ = some (.int .i64 P) ∧ V.cell? ⟨w.heap.size, 1, none⟩ = some (.int .i64 M) ∧ V.cell? ⟨w.heap.size, 2, none⟩ = some (.slice am mn cm) ∧ V.cell? ⟨w.heap.size, 3, none⟩ = some (.int .i64 N) ∧ V.cell? ⟨w.heap.size, 4, none⟩ = some (.slice a n c) ∧
      V.cell? ⟨w.heap.size + 1, 0, none⟩ = some (.slice ax nx cx) ∧ Below U.heap.size U V) := fun V hV => by
    have x1 := x0.keep hV
    exact ⟨x1.cell 0 rfl, x1.cell 1 rfl, x1.cell 2 rfl, x1.cell 3 rfl, x1.cell 4 rfl, (y0.keep hV).cell 0 rfl, hV⟩
  have HbU := Lib.hid hbU
  clear hU hbU x0 y0
  go_cut [6] (fun v wx => v = .int .i64 V ∧ Below U.heap.size U wx)
  case first =>
    go_region_held3 (fun V => V.cell? ⟨w.heap.size, 0, none⟩ = some (.int .i64 P) ∧ V.cell? ⟨w.heap.size, 1, none⟩ = some (.int .i64 M) ∧ V.cell? ⟨w.heap.size, 2, none⟩ = some (.slice am mn cm) ∧ V.cell? ⟨w.heap.size, 3, none⟩ = some (.int .i64 N) ∧ V.cell? ⟨w.heap.size, 4, none⟩ = some (.slice a n c) ∧
        V.cell? ⟨w.heap.size + 1, 0, none⟩ = some (.slice ax nx cx) ∧ Below U.heap.size U V)
      ((refine HS.out _ ?_; first | exact hb5w | exact hb3w | exact (Below.refl _ _).drew | assumption | (go_split_ands; assumption)))
      (first
      | (go_at_call 61; ((with_reducible refine (exWeight_any P M am mn cm N a n c d _).mono ?_); rintro e w3 ⟨⟨z, rfl, hz⟩, hb3⟩; have hb3w : Below U.heap.size U w3 := (by go_split_ands; exact Below.next (by assumption) hb3)))
      | (go_at_call 56; ((with_reducible refine (HCk.out _ z (Below.next HbU.out (by go_split_ands; assumption)) hz).mono ?_); rintro e w5 ⟨rfl, hb5⟩; have hb5w : Below U.heap.size U w5 := (by go_split_ands; exact Below.next (by assumption) hb5))))
    all_goals (go_wp2_with fail; go_meet; exact ⟨rfl, hb5w⟩)
  obtain ⟨rfl, hb5w⟩ := hcut
  have hF := Below.next HbU.out hb5w
  go_wp2_with fail
  go_ret
  exact ⟨rfl, hF⟩

set_option maxRecDepth 100000 in
set_option maxHeartbeats 1600000 in
theorem exBuildDistance_any (P M : Int) (am : Option Addr) (mn cm : Nat) (mod : List Int) (N : Int) (a : Option Addr) (n c : Nat) (L : List (List Int)) (d : Int) (w : World)
    (hmod : Ints w am mn mod) (hi : Mat w a n L) :
    Calls Tryz.prog 20 #[.agg #[.int .i64 P, .int .i64 M, .slice am mn cm, .int .i64 N, .slice a n c], .int .i64 d] w (ExBldPost (bldRE P M mod N L n (wtD N d)) w) := by
  obtain ⟨V, hV⟩ : ∃ V, bldRE P M mod N L n (wtD N d) = V := ⟨_, rfl⟩
  rw [hV]
  have HCk : Hid (∀ (W : World) (z : Int), Below w.heap.size w W → (1 ≤ N → N ≤ 64 → z = wtD N d) → Calls Tryz.prog 54 #[.agg #[.int .i64 P, .int .i64 M, .slice am mn cm, .int .i64 N, .slice a n c], .int .i64 n, .int .i64 z] W
      fun e w' => ∃ av nv cv, e = .returned (.tuple #[.agg #[.slice av nv cv], .int .i64 V.1]) ∧ Below W.heap.size W w' ∧ ((V.1 ≠ 0 ∧ av = none ∧ nv = 0 ∧ cv = 0) ∨ (V.1 = 0 ∧ nv = V.2.length ∧ ∃ R, OMat w' W.heap.size av V.2.length cv R V.2))) := fun W z hW hz => by
    have h1 := exBuildRank_any P M am mn cm mod N a n c L n z W (hmod.keep hW) (hi.keep hW)
    rw [bld_wt hz, hV] at h1
    refine h1.mono ?_
    rintro e w' ⟨hb, ⟨h2, rfl⟩ | ⟨h2, ar, cr, R, rfl, hO⟩⟩
    · exact ⟨none, 0, 0, rfl, hb, .inl ⟨h2, rfl, rfl, rfl⟩⟩
    · exact ⟨ar, _, cr, by rw [h2], hb, .inr ⟨h2, rfl, R, hO⟩⟩
  clear hmod hi hV
  go_enter Tryz.func20, Tryz.ntmps20
  go_upto_region 1 with fail
  obtain ⟨U, hU⟩ : ∃ U : World, U = (w.alloc (.cells #[.int .i64 P, .int .i64 M, .slice am mn cm, .int .i64 N, .slice a n c] 27)).alloc (.cells #[.slice none 0 0] 37) := ⟨_, rfl⟩
  rw [← hU]
  have hbU : Below w.heap.size w U := by rw [hU]; exact below2 _ _ _
  have x0 : Box U w.heap.size [.int .i64 P, .int .i64 M, .slice am mn cm, .int .i64 N, .slice a n c] := by rw [hU]; exact (Box.new _ _ _ rfl).alloc _
  have y0 : Box U (w.heap.size + 1) [.slice none 0 0] := by rw [hU]; exact Box.new _ _ _ (by simp)
  have HS : Hid (∀ V, Below U.heap.size U V → V.cell? ⟨w.heap.size, 0, none⟩ = some (.int .i64 P) ∧ V.cell? ⟨w.heap.size, 1, none⟩ = some (.int .i64 M) ∧ V.cell? ⟨w.heap.size, 2, none⟩ = some (.slice am mn cm) ∧ V.cell? ⟨w.heap.size, 3, none⟩ = some (.int .i64 N) ∧ V.cell? ⟨w.heap.size, 4, none⟩ = some (.slice a n c) ∧
      V.cell? ⟨w.heap.size + 1, 0, none⟩ = some (.slice none 0 0) ∧ V.frozen? ⟨w.heap.size + 1, 0, none⟩ = false) := fun V hV => by
    have x1 := x0.keep hV
    exact ⟨x1.cell 0 rfl, x1.cell 1 rfl, x1.cell 2 rfl, x1.cell 3 rfl, x1.cell 4 rfl, (y0.keep hV).cell 0 rfl, (y0.keep hV).frozen 0⟩
  have HbU := Lib.hid hbU
  have hy1 := y0.1
  obtain ⟨c0, c1, c2, c3, c4, c5, c6⟩ := HS.out U (Below.refl _ _)
  clear hU hbU x0 y0
  go_region_law ((first
    | (go_simp; go_at_call 61; ((with_reducible refine (exWeight_any P M am mn cm N a n c d _).mono ?_); rintro e w3 ⟨⟨z, rfl, hz⟩, hb3⟩; have hb3w : Below U.heap.size U w3 := Below.next (Below.refl _ _).drew hb3; obtain ⟨d0, d1, d2, d3, d4, d5, d6⟩ := HS.out w3 hb3w))
    | (go_simp; go_at_call 54; ((with_reducible refine (HCk.out _ z (Below.next HbU.out hb3w) hz).mono ?_); rintro e w5 ⟨av, nv, cv, rfl, hb5, hV5⟩; have hb5w : Below U.heap.size U w5 := Below.next hb3w hb5; obtain ⟨e0, e1, e2, e3, e4, e5, e6⟩ := HS.out w5 hb5w))))
  all_goals (
    have hF : Below w.heap.size w (w5.setCell ⟨w.heap.size + 1, 0, none⟩ (.slice av nv cv)) := (Below.next HbU.out hb5w).setCell (by simp) _
    have HV5 : Hid (ExBldPost V w (.returned (.tuple #[.agg #[.slice av nv cv], .int .i64 V.1])) (w5.setCell ⟨w.heap.size + 1, 0, none⟩ (.slice av nv cv))) := by
      refine ⟨hF, ?_⟩
      rcases hV5 with ⟨h1, rfl, rfl, rfl⟩ | ⟨h1, rfl, R, hO⟩
      · exact .inl ⟨h1, rfl⟩
      · refine .inr ⟨h1, av, cv, R, by rw [h1], ?_⟩
        have hs3 := hb3w.size
        have hsU := HbU.out.size
        refine (OMat.mono hO (Nat.le_trans hsU hs3)).of_blocks fun x hx => Below.heap_setCell _ _ _ _ fun e => ?_
        have h2 := (hO.lt x hx).1
        have e' : x = w.heap.size + 1 := e
        omega
    clear hV5 hF c0 c1 c2 c3 c4 c5 c6 d0 d1 d2 d3 d4 d5 d6
    go_wp2_with fail
    have z1 : (w5.setCell ⟨w.heap.size + 1, 0, none⟩ (.slice av nv cv)).cell? ⟨w.heap.size + 1, 0, none⟩ = some (.slice av nv cv) := World.cell?_setCell_same _ _ _ e5
    exact bodyPost_ret (v := .tuple #[.agg #[.slice av nv cv], .int .i64 V.1]) (by simp [results, Tryz.results20, go_sem, e5, z1]) rfl HV5.out)
end

/- Plain: what an accepted tree proves of ranks and of weights. -/
section
section
variable {O : FOps} {El : Int → Prop} {m : Nat} {L : List (List Int)} {C : Clm}
/-- an accepted rank claim -/
theorem prov_rank (F : Fld O El) (hL : Rws El m L) (hc : C.cos = false) {ts : List (List Int)} (h : provS O L m C ts = 0) {T Q : List Int} (hT : T.length ≤ C.W) (hQ : ∀ x : Int, 0 ≤ x → x < m → ¬ x ∈ T → x ∈ Q) : C.M ≤ rkQ O L Q := by
  obtain ⟨s', t, hr, hn, hs, ht⟩ := prov_node h T hT
  have h1 := right_len hr
  have h2 := right_ok hr
  have h3 : t.length = C.M := by
    have h4 := h1.1
    unfold sizK at h4
    rw [if_neg (by rw [hc]; decide)] at h4
    exact h4
  have h4 := rkQ_mono F hL (Q := t) (Q' := Q) fun x hx => by
    obtain ⟨q, hq, rfl⟩ := List.mem_iff_getElem.1 hx
    have h5 := okSet_rng h2.1 q hq
    rw [nth_getElem hq] at h5
    exact hQ _ h5.1 h5.2 (ht _ hx)
  omega
end

/-- the positions where a word is not 0 -/
def supp (x : List Int) (m : Nat) : List Int := ((List.range m).filter fun j => decide (nth x j ≠ 0)).map Int.ofNat
theorem mem_supp {x : List Int} {m : Nat} {y : Int} : y ∈ supp x m ↔ ∃ j : Nat, j < m ∧ nth x j ≠ 0 ∧ y = j := by
  unfold supp
  rw [List.mem_map]
  constructor
  · rintro ⟨j, hj, rfl⟩
    rw [List.mem_filter, List.mem_range] at hj
    exact ⟨j, hj.1, by simpa using hj.2, rfl⟩
  · rintro ⟨j, h1, h2, rfl⟩
    exact ⟨j, by rw [List.mem_filter, List.mem_range]; exact ⟨h1, by simpa using h2⟩, rfl⟩
theorem supp_len {x : List Int} {m : Nat} (h : x.length = m) : (supp x m).length = wtL x := by
  have e : x = (List.range m).map (nth x) := by
    refine List.ext_getElem (by simp [h]) fun i h1 h2 => ?_
    rw [List.getElem_map, List.getElem_range, nth_getElem h1]
  unfold supp wtL
  rw [List.length_map, ← List.countP_eq_length_filter]
  conv => rhs; rw [e, List.countP_map]
  rfl
theorem wtL_zero {x : List Int} : wtL x = 0 ↔ ∀ k, k < x.length → nth x k = 0 := by
  unfold wtL
  rw [List.countP_eq_zero]
  constructor
  · intro h k hk
    have h1 := h _ (nth_mem hk)
    simpa using h1
  · intro h y hy
    obtain ⟨k, hk, rfl⟩ := List.mem_iff_getElem.1 hy
    have h1 := h k hk
    rw [nth_getElem hk] at h1
    simp [h1]

section
variable {P M : Int} {mod : List Int} {m : Nat} {L : List (List Int)}
theorem code_piv (hE : codeE P M mod m L = 0) : ∃ p : List Int, Piv L p m ∧ L.length = p.length := by
  obtain ⟨N', e, hm1, hm64, F, hR⟩ := codeE_fld hE
  obtain rfl : m = N' := by omega
  have h6 := (spaceE_zero (codeE_zero hE).2.2.2).2
  rw [Int.toNat_natCast] at h6
  have hcan : canO (tblOf P M.toNat mod).ops m L = L := h6
  obtain ⟨hPv, hLd⟩ := canO_piv F hR
  have hcl := canO_len F hR
  rw [hcan] at hPv hcl
  exact ⟨_, hPv, hcl⟩
/-- columns of full rank determine every column -/
theorem full_clo (hE : codeE P M mod m L = 0) {Q : List Int} (hr : L.length ≤ rkQ (tblOf P M.toNat mod).ops L Q) (hQ : ∀ x ∈ Q, 0 ≤ x ∧ x < (m : Int)) {x : Nat} (hx : x < m) : clV (tblOf P M.toNat mod).ops (tblOf P M.toNat mod).El L.length (colS L) (gA Q) x := by
  obtain ⟨N', e, hm1, hm64, F, hR⟩ := codeE_fld hE
  obtain rfl : m = N' := by omega
  have hfull := code_full hE
  refine Classical.byContradiction fun hn => ?_
  have h1 := rkQ_out F hR (Q := Q) (x := (x : Int)) (by simpa using hn)
  have h2 := Rk.le (col_clo F hR) (rkQ_rk F hR (Q ++ [(x : Int)])) hfull fun y hy => by
    refine (col_clo F hR).mem _ _ ?_
    rw [List.mem_range]
    obtain ⟨z, hz, rfl⟩ := mem_gA.1 hy
    rcases List.mem_append.1 hz with hz | hz
    · have := hQ z hz
      omega
    · rw [List.mem_singleton] at hz; subst hz; simpa using hx
  omega
/-- the entries of a combination at the pivots -/
theorem cmb_piv (hE : codeE P M mod m L = 0) {p : List Int} (hp : Piv L p m) (hl : L.length = p.length) {v : List Int} (hv : ∀ k, k < L.length → (tblOf P M.toNat mod).El (nth v k)) {k : Nat} (hk : k < L.length) :
    nth (cmbTo (tblOf P M.toNat mod).ops m v L L.length) (nth p k).toNat = nth v k := by
  obtain ⟨N', e, hm1, hm64, F, hR⟩ := codeE_fld hE
  obtain rfl : m = N' := by omega
  have hpk := hp.lt k (by omega)
  rw [cmb_dot F hR hv (by omega) _ (Nat.le_refl _)]
  have hone : ∀ t, t < L.length → nth (nthR L t) (nth p k).toNat = if t = k then 1 else 0 := fun t ht => hp.one k t (by omega) ht
  have hvj := hv k hk
  rw [dotN_one F (x := k) (by
    show (tblOf P M.toNat mod).El ((tblOf P M.toNat mod).ops.mul (nth v k) (nth (nthR L k) (nth p k).toNat))
    rw [hone k hk, if_pos rfl, F.mone hvj]; exact hvj) L.length (fun q hq hqk => by
    show (tblOf P M.toNat mod).ops.mul (nth v q) (nth (nthR L q) (nth p k).toNat) = 0
    rw [hone q hq, if_neg hqk, F.mzero (hv q hq)]), if_pos hk]
  show (tblOf P M.toNat mod).ops.mul (nth v k) (nth (nthR L k) (nth p k).toNat) = _
  rw [hone k hk, if_pos rfl, F.mone hvj]
/-- a combination that is 0 where the columns have full rank has the message 0 -/
theorem zero_msg (hE : codeE P M mod m L = 0) {Q : List Int} (hr : L.length ≤ rkQ (tblOf P M.toNat mod).ops L Q) (hQ : ∀ x ∈ Q, 0 ≤ x ∧ x < (m : Int)) {v : List Int} (hv : ∀ k, k < L.length → (tblOf P M.toNat mod).El (nth v k))
    (h0 : ∀ x ∈ Q, nth (cmbTo (tblOf P M.toNat mod).ops m v L L.length) x.toNat = 0) : ∀ k, k < L.length → nth v k = 0 := fun k hk => by
  obtain ⟨N', e, hm1, hm64, F, hR⟩ := codeE_fld hE
  obtain rfl : m = N' := by omega
  obtain ⟨p, hp, hl⟩ := code_piv hE
  obtain ⟨c1, f, hf, c2⟩ := cmb_rs F hR hv L.length (Nat.le_refl _)
  have hpk := hp.lt k (by omega)
  rw [← cmb_piv hE hp hl hv hk]
  have h1 : nth (cmbTo (tblOf P M.toNat mod).ops m v L L.length) (nth p k).toNat = f (colS L (nth p k).toNat) := c2 _ (by omega)
  rw [h1]
  refine full_clo hE hr hQ (x := (nth p k).toNat) (by omega) f hf fun y hy => ?_
  obtain ⟨z, hz, rfl⟩ := mem_gA.1 hy
  have h2 := hQ z hz
  have h3 : nth (cmbTo (tblOf P M.toNat mod).ops m v L L.length) z.toNat = f (colS L z.toNat) := c2 _ (by omega)
  rw [← h3]
  exact h0 z hz

theorem chk_prov {mm W : Int} {ts : List (List Int)} (h : chkRE P M mod m L mm W ts = 0) : codeE P M mod m L = 0 ∧ 0 ≤ mm ∧ mm ≤ L.length ∧ 0 ≤ W ∧ W ≤ m ∧ provS (tblOf P M.toNat mod).ops L m ⟨mm.toNat, W.toNat, false, []⟩ ts = 0 := by
  unfold chkRE at h
  by_cases h0 : rkcE P M mod m L mm W = 0
  · rw [if_pos h0, Int.toNat_natCast] at h
    unfold rkcE at h0
    by_cases hE : codeE P M mod m L = 0
    · rw [if_pos hE] at h0
      by_cases hx : mm < 0 ∨ (L.length : Int) < mm ∨ W < 0 ∨ (m : Int) < W
      · rw [if_pos hx] at h0; cases h0
      · exact ⟨hE, by omega, by omega, by omega, by omega, h⟩
    · rw [if_neg hE] at h0; exact absurd h0 hE
  · rw [if_neg h0] at h; exact absurd h h0
theorem rank_law {mm W : Int} {ts : List (List Int)} (h : chkRE P M mod m L mm W ts = 0) {T Q : List Int} (hT : (T.length : Int) ≤ W) (hQ : ∀ x : Int, 0 ≤ x → x < m → ¬ x ∈ T → x ∈ Q) : mm ≤ (grS (tblOf P M.toNat mod).ops L Q).length := by
  obtain ⟨hE, h1, h2, h3, h4, h5⟩ := chk_prov h
  obtain ⟨N', e, hm1, hm64, F, hR⟩ := codeE_fld hE
  obtain rfl : m = N' := by omega
  have h6 := prov_rank F hR rfl h5 (T := T) (Q := Q) (by show T.length ≤ W.toNat; omega) hQ
  have h7 : mm.toNat ≤ (grS (tblOf P M.toNat mod).ops L Q).length := h6
  omega
theorem dist_law {d : Int} {ts : List (List Int)} (h : chkRE P M mod m L L.length (wtD m d) ts = 0) {v : List Int} (hvl : v.length = L.length) (hv : ∀ k, k < L.length → (tblOf P M.toNat mod).El (nth v k)) :
    wtL v = 0 ∨ d ≤ (wtL (cmbTo (tblOf P M.toNat mod).ops m v L L.length) : Int) := by
  obtain ⟨hE, h1, h2, h3, h4, h5⟩ := chk_prov h
  obtain ⟨N', e, hm1, hm64, F, hR⟩ := codeE_fld hE
  obtain rfl : m = N' := by omega
  obtain ⟨c1, _⟩ := cmb_rs F hR hv L.length (Nat.le_refl _)
  have hd : wtD m d = d - 1 := by
    unfold wtD at h3 ⊢
    split
    · rename_i hh; rw [if_pos hh] at h3; omega
    · rfl
  by_cases hw : d ≤ (wtL (cmbTo (tblOf P M.toNat mod).ops m v L L.length) : Int)
  · exact .inr hw
  · refine .inl (wtL_zero.2 fun k hk => ?_)
    have hs := supp_len c1.1
    have h6 := rank_law h (T := supp (cmbTo (tblOf P M.toNat mod).ops m v L L.length) m) (Q := frTo false (supp (cmbTo (tblOf P M.toNat mod).ops m v L L.length) m) m) (by omega) fun x hx0 hxm hxT => by
      exact (mem_frTo m).2 ⟨x.toNat, by omega, by omega, by rw [Int.toNat_of_nonneg hx0]; simpa using hxT⟩
    refine zero_msg hE (Q := frTo false (supp (cmbTo (tblOf P M.toNat mod).ops m v L L.length) m) m) (by unfold rkQ; omega) (fun x hx => ?_) hv (fun x hx => ?_) k (by omega)
    · obtain ⟨j, hj, rfl, _⟩ := (mem_frTo m).1 hx
      omega
    · obtain ⟨j, hj, rfl, hdj⟩ := (mem_frTo m).1 hx
      refine Classical.byContradiction fun hne => ?_
      have hn : ¬ (j : Int) ∈ supp (cmbTo (tblOf P M.toNat mod).ops m v L L.length) m := by simpa using hdj
      exact hn (mem_supp.2 ⟨j, hj, by simpa using hne, rfl⟩)
end
end

/- Plain: a tree for a distance is built exactly if no word is lighter. -/
section
def Err3 (x : Int) : Prop := x = 0 ∨ x = 8 ∨ x = 11
theorem kbld_err {B : List Int → List Int → List (List Int) → Int × List (List Int)} (hB : ∀ s z T, Err3 (B s z T).1) (s : List Int) : ∀ (ks z : List Int) (T : List (List Int)), Err3 (kbld B s z ks T).1
  | [], z, T => .inl rfl
  | k :: ks, z, T => by
    rw [kbld]
    split
    · exact kbld_err hB s ks _ _
    · exact hB _ _ _
theorem bld_err (O : FOps) (L : List (List Int)) (m : Nat) (C : Clm) : ∀ (d : Nat) (s z : List Int) (T : List (List Int)), Err3 (bldS O L m C d s z T).1
  | 0, s, z, T => by
    rw [bldS]
    split
    · split
      · exact .inr (.inl rfl)
      · exact .inl rfl
    · exact .inr (.inr rfl)
  | d + 1, s, z, T => by
    rw [bldS]
    split
    · split
      · exact .inr (.inl rfl)
      · exact kbld_err (bld_err O L m C d) _ _ _ _
    · exact .inr (.inr rfl)

variable {P M : Int} {mod : List Int} {m : Nat} {L : List (List Int)}
/-- columns that have not the full rank: a word other than 0 that is 0 there -/
theorem low_word (hE : codeE P M mod m L = 0) {Q : List Int} (hr : rkQ (tblOf P M.toNat mod).ops L Q < L.length) (hQ : ∀ x ∈ Q, 0 ≤ x ∧ x < (m : Int)) :
    ∃ v : List Int, v.length = L.length ∧ (∀ x ∈ v, (tblOf P M.toNat mod).El x) ∧ wtL v ≠ 0 ∧ ∀ x ∈ Q, nth (cmbTo (tblOf P M.toNat mod).ops m v L L.length) x.toNat = 0 := by
  obtain ⟨N', e, hm1, hm64, F, hR⟩ := codeE_fld hE
  obtain rfl : m = N' := by omega
  obtain ⟨y, hy, hn⟩ : ∃ y, y < m ∧ ¬ clV (tblOf P M.toNat mod).ops (tblOf P M.toNat mod).El L.length (colS L) (gA Q) y := by
    refine Classical.byContradiction fun hno => ?_
    have h1 := Rk.le (col_clo F hR) (code_full hE) (rkQ_rk F hR Q) fun y hy => by
      refine Classical.byContradiction fun hn => hno ⟨y, List.mem_range.1 hy, hn⟩
    omega
  obtain ⟨φ, hφ, h0, h1⟩ : ∃ φ, Lin (tblOf P M.toNat mod).ops (tblOf P M.toNat mod).El L.length φ ∧ (∀ z ∈ gA Q, φ (colS L z) = 0) ∧ φ (colS L y) ≠ 0 := by
    refine Classical.byContradiction fun hno => hn fun φ hφ h0 => ?_
    refine Classical.byContradiction fun h1 => hno ⟨φ, hφ, h0, h1⟩
  obtain ⟨v, hv⟩ : ∃ v, v = (List.range L.length).map fun t => φ (unitR L.length t) := ⟨_, rfl⟩
  have hvl : v.length = L.length := by rw [hv]; simp
  have hvn : ∀ t, t < L.length → nth v t = φ (unitR L.length t) := fun t ht => by
    rw [nth_getElem (by omega)]; simp [hv]
  have hve : ∀ x ∈ v, (tblOf P M.toNat mod).El x := fun x hx => by
    rw [hv] at hx
    obtain ⟨t, _, rfl⟩ := List.mem_map.1 hx
    exact hφ.el _ (unitR_vc F _ _)
  have hval : ∀ z, z < m → nth (cmbTo (tblOf P M.toNat mod).ops m v L L.length) z = φ (colS L z) := fun z hz => by
    rw [cmb_dot F hR (fun k hk => hve _ (nth_mem (by omega))) hz _ (Nat.le_refl _), form_unit F hφ (colS_vc hR F.zero z)]
    exact dotN_congr _ fun p hp => ⟨hvn p hp, (nth_colS L z p hp).symm⟩
  refine ⟨v, hvl, hve, fun hz => h1 ?_, fun x hx => ?_⟩
  · rw [form_unit F hφ (colS_vc hR F.zero y)]
    refine dotN_zero F _ fun p hp => ?_
    rw [← hvn p hp, wtL_zero.1 hz p (by omega)]
    exact F.zmul (by rw [nth_colS L y p hp]; exact (hR _ (nthR_mem hp)).2 _ (nth_mem (by rw [(hR _ (nthR_mem hp)).1]; exact hy)))
  · have := hQ x hx
    rw [hval _ (by omega)]
    exact h0 _ (mem_gA.2 ⟨x, hx, rfl⟩)

theorem complete_law (hE : codeE P M mod m L = 0) {d : Int} (h1 : 1 ≤ d) (h2 : d ≤ (m : Int) + 1) (hb : bn L.length (d - 1).toNat ≤ 65536) :
    ((bldRE P M mod m L L.length (wtD m d)).1 = 0 ∨ (bldRE P M mod m L L.length (wtD m d)).1 = 11) ∧
    ((bldRE P M mod m L L.length (wtD m d)).1 = 0 ↔ ∀ v : List Int, v.length = L.length → (∀ x ∈ v, (tblOf P M.toNat mod).El x) → wtL v = 0 ∨ d ≤ (wtL (cmbTo (tblOf P M.toNat mod).ops m v L L.length) : Int)) := by
  obtain ⟨N', e, hm1, hm64, F, hR⟩ := codeE_fld hE
  obtain rfl : m = N' := by omega
  have hwt : wtD m d = d - 1 := by unfold wtD; rw [if_neg (by omega)]
  have hrk : rkcE P M mod m L L.length (wtD m d) = 0 := by
    unfold rkcE; rw [if_pos hE, if_neg (by rw [hwt]; omega)]
  have hbl : bldRE P M mod m L L.length (wtD m d) = treeS (tblOf P M.toNat mod).ops L m ⟨L.length, (d - 1).toNat, false, []⟩ := by
    unfold bldRE; rw [if_pos hrk, hwt]; simp
  have hcnt := bld_cnt F hR (C := ⟨L.length, (d - 1).toNat, false, []⟩) (d - 1).toNat [] [] [] L.length NodeOk.root (by simp) (by unfold sizK; simp) (by simpa using hb)
  have herr := bld_err (tblOf P M.toNat mod).ops L m ⟨L.length, (d - 1).toNat, false, []⟩ (d - 1).toNat [] [] []
  rw [hbl]
  change ((treeS _ L m _).1 ≠ 8 ∧ _) at hcnt
  change Err3 (treeS _ L m _).1 at herr
  have h011 : (treeS (tblOf P M.toNat mod).ops L m ⟨L.length, (d - 1).toNat, false, []⟩).1 = 0 ∨ (treeS (tblOf P M.toNat mod).ops L m ⟨L.length, (d - 1).toNat, false, []⟩).1 = 11 := by
    rcases herr with h | h | h
    · exact .inl h
    · exact absurd h hcnt.1
    · exact .inr h
  refine ⟨h011, fun h0 v hvl hve => ?_, fun hcl => h011.resolve_right (hcnt.2.2 fun s z hn hs => ?_)⟩
  · have hp := tree_prov (T := (treeS (tblOf P M.toNat mod).ops L m ⟨L.length, (d - 1).toNat, false, []⟩).2) (by rw [← h0])
    refine dist_law (d := d) (ts := (treeS (tblOf P M.toNat mod).ops L m ⟨L.length, (d - 1).toNat, false, []⟩).2) ?_ hvl fun k hk => hve _ (nth_mem (by omega))
    unfold chkRE
    rw [if_pos hrk, hwt]
    simpa using hp
  · rw [cset_right F hR hn]
    rw [if_neg (by simp)]
    refine Classical.byContradiction fun hlow => ?_
    change ¬ (L.length ≤ _) at hlow
    obtain ⟨v, hvl, hve, hv0, hz⟩ := low_word hE (Q := frTo false s m) (by show rkQ _ L _ < L.length; omega) fun x hx => by
      obtain ⟨j, hj, rfl, _⟩ := (mem_frTo m).1 hx; omega
    have hw := (hcl v hvl hve).resolve_left hv0
    have hc := (cmb_rs F hR (x := v) (fun k hk => hve _ (nth_mem (by omega))) L.length (Nat.le_refl _)).1
    have hsup := supp_len hc.1
    have hsub : (supp (cmbTo (tblOf P M.toNat mod).ops m v L L.length) m).length ≤ s.length := by
      have hnd : (supp (cmbTo (tblOf P M.toNat mod).ops m v L L.length) m).Nodup := by
        unfold supp List.Nodup
        rw [List.pairwise_map]
        exact List.Pairwise.imp (fun h e => h (Int.ofNat.inj e)) (List.Pairwise.filter _ (List.nodup_range (n := m)))
      have hp := (rest_perm hn.sn hnd fun x hx => ?_).length_eq
      · rw [List.length_append] at hp; omega
      · obtain ⟨j, hj, hjn, rfl⟩ := mem_supp.1 hx
        refine Classical.byContradiction fun hns => hjn ?_
        have := hz (j : Int) ((mem_frTo m).2 ⟨j, hj, rfl, by simpa using hns⟩)
        simpa using this
    have hs' : s.length ≤ (d - 1).toNat := hs
    omega
end

/- Sorting by insertion (plain law). -/
section
def swp (X : List Int) (j : Nat) : List Int := (X.set j (nth X (j - 1))).set (j - 1) (nth X j)
theorem swp_nth {X : List Int} {j : Nat} (h0 : 0 < j) (hj : j < X.length) (i : Nat) : nth (swp X j) i = if i = j - 1 then nth X j else if i = j then nth X (j - 1) else nth X i := by
  unfold swp
  rw [nth_set _ _ _ _ (by simp; omega), nth_set _ _ _ _ hj]
/-- the first k are in order -/
def SrtK (X : List Int) (k : Nat) : Prop := ∀ p q, p < q → q < k → nth X p ≤ nth X q
/-- the first i + 1 are in order but for the entry at j -/
def SrtJ (X : List Int) (i j : Nat) : Prop := ∀ p q, p < q → q ≤ i → q ≠ j → nth X p ≤ nth X q
theorem SrtK.start {X : List Int} {i : Nat} (h : SrtK X i) : SrtJ X i i := fun p q h1 h2 h3 => h p q h1 (by omega)
theorem SrtJ.step {X : List Int} {i j : Nat} (h : SrtJ X i j) (h0 : 0 < j) (hji : j ≤ i) (hj : j < X.length) (hlt : nth X j < nth X (j - 1)) : SrtJ (swp X j) i (j - 1) := fun p q h1 h2 h3 => by
  rw [swp_nth h0 hj, swp_nth h0 hj]
  by_cases e1 : q = j
  · subst e1
    rw [if_neg h3, if_pos rfl]
    by_cases e2 : p = q - 1
    · rw [if_pos e2]; omega
    · rw [if_neg e2, if_neg (by omega)]
      exact h p (q - 1) (by omega) (by omega) (by omega)
  · rw [if_neg h3, if_neg e1]
    by_cases e2 : p = j - 1
    · rw [if_pos e2]
      exact h j q (by omega) h2 e1
    · rw [if_neg e2]
      by_cases e3 : p = j
      · rw [if_pos e3]
        exact h (j - 1) q (by omega) h2 e1
      · rw [if_neg e3]
        exact h p q h1 h2 e1
theorem SrtJ.done {X : List Int} {i j : Nat} (h : SrtJ X i j) (hji : j ≤ i) (hd : j = 0 ∨ nth X (j - 1) ≤ nth X j) : SrtK X (i + 1) := fun p q h1 h2 => by
  by_cases e : q = j
  · subst e
    rcases hd with hd | hd
    · omega
    · by_cases e2 : p = q - 1
      · rw [e2]; exact hd
      · exact Int.le_trans (h p (q - 1) (by omega) (by omega) (by omega)) hd
  · exact h p q h1 (by omega) e
theorem SrtK.sort {X Q : List Int} {k : Nat} (h : SrtK X k) (hk : X.length ≤ k) (hp : X.Perm Q) : X = sortL Q := by
  refine sortL_unique ?_ hp
  rw [List.pairwise_iff_getElem]
  intro i j hi hj hij
  have := h i j hij (by omega)
  rwa [nth_getElem hi, nth_getElem hj] at this
end

end Go.Proofs.YtcflcogbpnmjeaaGreat
