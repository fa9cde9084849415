/- The walks of coset, CheckCoset, BuildCoset of the package exclusion. -/
import Derived.Test.YtapjcccpokhhhaaGreatG27
import Derived.Deep.RegionHeld3
import Derived.Test.YtapjcccpokhhhaaGreatG7
import Derived.Test.YtapjcccpokhhhaaGreatG19
import Derived.Test.YtapjcccpokhhhaaGreatG5
import Derived.Test.YtapjcccpokhhhaaGreatG10
import Derived.Test.YtapjcccpokhhhaaGreatG20
import Derived.Test.YtapjcccpokhhhaaGreatG8
import Derived.Test.YtapjcccpokhhhaaGreatG16
import Derived.Test.YtapjcccpokhhhaaGreatG21
import Derived.Test.YtapjcccpokhhhaaGreatG11
namespace Go.Proofs.YtapjcccpokhhhaaGreat
set_option linter.unusedVariables false
set_option linter.unusedSimpArgs false
set_option linter.unusedSectionVars false

/- The walks of CheckRank, BuildRank, CheckDistance, BuildDistance of the package exclusion. -/
section
open Go.RowKit

def chkRE (P M : Int) (mod : List Int) (N : Int) (L : List (List Int)) (mm W : Int) (ts : List (List Int)) : Int :=
  if rkcE P M mod N L mm W = 0 then provS (tblOf P M.toNat mod).ops L N.toNat ⟨mm.toNat, W.toNat, false, []⟩ ts else rkcE P M mod N L mm W
def bldRE (P M : Int) (mod : List Int) (N : Int) (L : List (List Int)) (mm W : Int) : Int × List (List Int) :=
  if rkcE P M mod N L mm W = 0 then treeS (tblOf P M.toNat mod).ops L N.toNat ⟨mm.toNat, W.toNat, false, []⟩ else (rkcE P M mod N L mm W, [])
def ExBldPost (V : Int × List (List Int)) (w : World) (e : Ending) (w' : World) : Prop :=
  Below w.heap.size w w' ∧ ((V.1 ≠ 0 ∧ e = .returned (.tuple #[.agg #[.slice none 0 0], .int .i64 V.1])) ∨
    (V.1 = 0 ∧ ∃ ar cr R, e = .returned (.tuple #[.agg #[.slice ar V.2.length cr], .int .i64 0]) ∧ OMat w' w.heap.size ar V.2.length cr R V.2))

set_option maxRecDepth 100000 in
set_option maxHeartbeats 1600000 in
theorem exCheckRank_any (P M : Int) (am : Option Addr) (mn cm : Nat) (mod : List Int) (N : Int) (a : Option Addr) (n c : Nat) (L : List (List Int)) (mm W : Int) (ax : Option Addr) (nx cx : Nat) (ts : List (List Int)) (w : World)
    (hmod : Ints w am mn mod) (hi : Mat w a n L) (hts : Mat w ax nx ts) :
    Calls Tryz.prog 17 #[.agg #[.int .i64 P, .int .i64 M, .slice am mn cm, .int .i64 N, .slice a n c], .int .i64 mm, .int .i64 W, .agg #[.slice ax nx cx]] w fun e w' => e = .returned (.int .i64 (chkRE P M mod N L mm W ts)) ∧ Below w.heap.size w w' := by
  go_enter Tryz.func17, Tryz.ntmps17
  go_wp2_with fail
  obtain ⟨U, hU⟩ : ∃ U : World, U = (w.alloc (.cells #[.int .i64 P, .int .i64 M, .slice am mn cm, .int .i64 N, .slice a n c] 27)).alloc (.cells #[.slice ax nx cx] 30) := ⟨_, rfl⟩
  rw [← hU]
  have hbU : Below w.heap.size w U := by rw [hU]; exact below2 _ _ _
  have x0 : Box U (w.heap.size + 1) [.slice ax nx cx] := by rw [hU]; exact Box.new _ _ _ (by simp)
  have HX := Lib.hid x0
  clear hU x0
  refine (exRank_any P M am mn cm mod N a n c L mm W U (hmod.keep hbU) (hi.keep hbU)).mono ?_
  rintro e w1 ⟨hb1, ⟨hE, rfl⟩ | ⟨hE, pb, rfl, hCl⟩⟩
  · have HE : Hid (chkRE P M mod N L mm W ts = rkcE P M mod N L mm W) := if_neg hE
    have hE1 : (rkcE P M mod N L mm W == 0) = false := by simpa using hE
    have hE2 : (rkcE P M mod N L mm W != 0) = true := by simpa using hE
    have hbF := Below.next hbU hb1
    clear hE
    go_wp2_with fail
    go_ret
    exact ⟨by rw [HE.out]; rfl, hbF⟩
  · have HE : Hid (chkRE P M mod N L mm W ts = provS (tblOf P M.toNat mod).ops L N.toNat ⟨mm.toNat, W.toNat, false, []⟩ ts) := if_pos hE
    have x1 := HX.out.keep hb1
    have c0 := x1.cell 0 rfl
    obtain ⟨b, w2, rfl, hb2, hPE, hb3, hB⟩ := hCl
    have HPr := Lib.hid (exProves_any w2.heap.size P M am mn cm c 0 ax nx cx ts hPE ((hts.keep hbU).keep hb2) (Nat.le_refl _) hb3 hB)
    have hbw2 := Below.next hbU hb2
    clear x1 hB hPE hE
    go_wp2_with fail
    refine HPr.out.mono ?_
    rintro e w3 ⟨rfl, hb4⟩
    have hbF := Below.next hbw2 hb4
    go_wp2_with fail
    go_ret
    exact ⟨by rw [HE.out]; rfl, hbF⟩

set_option maxRecDepth 100000 in
set_option maxHeartbeats 1600000 in
theorem exBuildRank_any (P M : Int) (am : Option Addr) (mn cm : Nat) (mod : List Int) (N : Int) (a : Option Addr) (n c : Nat) (L : List (List Int)) (mm W : Int) (w : World)
    (hmod : Ints w am mn mod) (hi : Mat w a n L) :
    Calls Tryz.prog 20 #[.agg #[.int .i64 P, .int .i64 M, .slice am mn cm, .int .i64 N, .slice a n c], .int .i64 mm, .int .i64 W] w (ExBldPost (bldRE P M mod N L mm W) w) := by
  obtain ⟨V, hV⟩ : ∃ V, bldRE P M mod N L mm W = V := ⟨_, rfl⟩
  rw [hV]
  have HV := Lib.hid hV
  clear hV
  go_enter Tryz.func20, Tryz.ntmps20
  go_wp2_with fail
  obtain ⟨U, hU⟩ : ∃ U : World, U = (w.alloc (.cells #[.int .i64 P, .int .i64 M, .slice am mn cm, .int .i64 N, .slice a n c] 27)).alloc (.cells #[.slice none 0 0] 30) := ⟨_, rfl⟩
  rw [← hU]
  have hbU : Below w.heap.size w U := by rw [hU]; exact below2 _ _ _
  have hsU : U.heap.size = w.heap.size + 2 := by rw [hU]; simp
  have x0 : Box U (w.heap.size + 1) [.slice none 0 0] := by rw [hU]; exact Box.new _ _ _ (by simp)
  have HX := Lib.hid x0
  clear hU x0
  refine (exRank_any P M am mn cm mod N a n c L mm W U (hmod.keep hbU) (hi.keep hbU)).mono ?_
  rintro e w1 ⟨hb1, ⟨hE, rfl⟩ | ⟨hE, pb, rfl, hCl⟩⟩
  · have HE : Hid (V = (rkcE P M mod N L mm W, [])) := by show _ = _; rw [← HV.out]; exact if_neg hE
    have hE1 : (rkcE P M mod N L mm W == 0) = false := by simpa using hE
    have hE2 : (rkcE P M mod N L mm W != 0) = true := by simpa using hE
    have Hne := Lib.hid hE
    have x1 := HX.out.keep hb1
    have z0 := x1.cell 0 rfl
    have f0 := x1.frozen 0
    have HF := Lib.hid (fun v : Value => (Below.next hbU hb1).setCell (p := ⟨w.heap.size + 1, 0, none⟩) (by simp) v)
    clear hE x1
    generalize rkcE P M mod N L mm W = er at *
    go_wp2_with fail
    have z1 : (w1.setCell ⟨w.heap.size + 1, 0, none⟩ (.slice none 0 0)).cell? ⟨w.heap.size + 1, 0, none⟩ = some (.slice none 0 0) := World.cell?_setCell_same _ _ _ z0
    exact bodyPost_ret (v := .tuple #[.agg #[.slice none 0 0], .int .i64 er]) (by simp [results, Tryz.results20, go_sem, z0, z1]) rfl ⟨HF.out _, .inl ⟨by rw [HE.out]; exact Hne.out, by rw [HE.out]⟩⟩
  · have HE : Hid (treeS (tblOf P M.toNat mod).ops L N.toNat ⟨mm.toNat, W.toNat, false, []⟩ = V) := by show _ = _; rw [← HV.out]; exact (if_pos hE).symm
    have x1 := HX.out.keep hb1
    obtain ⟨b, w2, rfl, hb2, hPE, hb3, hB⟩ := hCl
    have HPr := exTree_any w2.heap.size P M am mn cm c 0 hPE (Nat.le_refl _) hb3 hB
    rw [HE.out] at HPr
    have HTr := Lib.hid HPr
    have hbw2 := Below.next hbU hb2
    have x2 := HX.out.keep hb2
    have hs2 : w.heap.size + 1 < w2.heap.size := x2.1
    clear x1 hB hPE hE HPr
    go_wp2_with fail
    refine HTr.out.mono ?_
    rintro e w3 ⟨hb4, ⟨hv, rfl⟩ | ⟨hv, ar, cr, R, rfl, hO⟩⟩
    · have x3 := x2.keep hb4
      have z0 := x3.cell 0 rfl
      have f0 := x3.frozen 0
      have HF := Lib.hid (fun v : Value => (Below.next hbw2 hb4).setCell (p := ⟨w.heap.size + 1, 0, none⟩) (by simp) v)
      have Hne := Lib.hid hv
      obtain ⟨ve, vt⟩ := V
      dsimp only at Hne ⊢
      clear x3 hv
      go_wp2_with fail
      have z1 : (w3.setCell ⟨w.heap.size + 1, 0, none⟩ (.slice none 0 0)).cell? ⟨w.heap.size + 1, 0, none⟩ = some (.slice none 0 0) := World.cell?_setCell_same _ _ _ z0
      exact bodyPost_ret (v := .tuple #[.agg #[.slice none 0 0], .int .i64 ve]) (by simp [results, Tryz.results20, go_sem, z0, z1]) rfl ⟨HF.out _, .inl ⟨Hne.out, rfl⟩⟩
    · have x3 := x2.keep hb4
      have z0 := x3.cell 0 rfl
      have f0 := x3.frozen 0
      have hF : ∀ v : Value, Below w.heap.size w (w3.setCell ⟨w.heap.size + 1, 0, none⟩ v) ∧ OMat (w3.setCell ⟨w.heap.size + 1, 0, none⟩ v) w.heap.size ar V.2.length cr R V.2 := fun v => by
        refine ⟨(Below.next hbw2 hb4).setCell (by simp) v, ?_⟩
        refine (OMat.mono hO hbw2.size).of_blocks fun x hx => Below.heap_setCell _ _ _ _ fun e => ?_
        have h1 := (hO.lt x hx).1
        have e' : x = w.heap.size + 1 := e
        omega
      have HF := Lib.hid hF
      obtain ⟨ve, vt⟩ := V
      dsimp only at hv HF ⊢
      subst hv
      clear x3 hO hF
      go_wp2_with fail
      have z1 : (w3.setCell ⟨w.heap.size + 1, 0, none⟩ (.slice ar vt.length cr)).cell? ⟨w.heap.size + 1, 0, none⟩ = some (.slice ar vt.length cr) := World.cell?_setCell_same _ _ _ z0
      exact bodyPost_ret (v := .tuple #[.agg #[.slice ar vt.length cr], .int .i64 0]) (by simp [results, Tryz.results20, go_sem, z0, z1]) rfl ⟨(HF.out _).1, .inr ⟨rfl, ar, cr, R, rfl, (HF.out _).2⟩⟩
end

/- The walks of CheckDistance and BuildDistance of the package exclusion. -/
section
open Go.RowKit

theorem rkc_wt {P M : Int} {mod : List Int} {N : Int} {L : List (List Int)} {d z : Int} (hz : 1 ≤ N → N ≤ 64 → z = wtD N d) (mm : Int) : rkcE P M mod N L mm z = rkcE P M mod N L mm (wtD N d) := by
  unfold rkcE
  by_cases hE : codeE P M mod N L = 0
  · obtain ⟨_, h1, h2, _⟩ := codeE_zero hE
    rw [hz h1 h2]
  · rw [if_neg hE, if_neg hE]
theorem rkc_code {P M : Int} {mod : List Int} {N : Int} {L : List (List Int)} {mm z : Int} (h : rkcE P M mod N L mm z = 0) : codeE P M mod N L = 0 := by
  unfold rkcE at h
  by_cases hE : codeE P M mod N L = 0
  · exact hE
  · rw [if_neg hE] at h; exact h
theorem chk_wt {P M : Int} {mod : List Int} {N : Int} {L : List (List Int)} {d z : Int} (hz : 1 ≤ N → N ≤ 64 → z = wtD N d) (mm : Int) (ts : List (List Int)) : chkRE P M mod N L mm z ts = chkRE P M mod N L mm (wtD N d) ts := by
  by_cases hE : codeE P M mod N L = 0
  · obtain ⟨_, h1, h2, _⟩ := codeE_zero hE
    rw [hz h1 h2]
  · unfold chkRE
    rw [rkc_wt hz, if_neg (fun h => hE (rkc_code h)), if_neg (fun h => hE (rkc_code h))]
theorem bld_wt {P M : Int} {mod : List Int} {N : Int} {L : List (List Int)} {d z : Int} (hz : 1 ≤ N → N ≤ 64 → z = wtD N d) (mm : Int) : bldRE P M mod N L mm z = bldRE P M mod N L mm (wtD N d) := by
  by_cases hE : codeE P M mod N L = 0
  · obtain ⟨_, h1, h2, _⟩ := codeE_zero hE
    rw [hz h1 h2]
  · unfold bldRE
    rw [rkc_wt hz, if_neg (fun h => hE (rkc_code h)), if_neg (fun h => hE (rkc_code h))]

set_option maxRecDepth 100000 in
set_option maxHeartbeats 1600000 in
theorem exCheckDistance_any (P M : Int) (am : Option Addr) (mn cm : Nat) (mod : List Int) (N : Int) (a : Option Addr) (n c : Nat) (L : List (List Int)) (d : Int) (ax : Option Addr) (nx cx : Nat) (ts : List (List Int)) (w : World)
    (hmod : Ints w am mn mod) (hi : Mat w a n L) (hts : Mat w ax nx ts) :
    Calls Tryz.prog 25 #[.agg #[.int .i64 P, .int .i64 M, .slice am mn cm, .int .i64 N, .slice a n c], .int .i64 d, .agg #[.slice ax nx cx]] w fun e w' => e = .returned (.int .i64 (chkRE P M mod N L n (wtD N d) ts)) ∧ Below w.heap.size w w' := by
  obtain ⟨V, hV⟩ : ∃ V, chkRE P M mod N L n (wtD N d) ts = V := ⟨_, rfl⟩
  rw [hV]
  have HCk : Hid (∀ (W : World) (z : Int), Below w.heap.size w W → (1 ≤ N → N ≤ 64 → z = wtD N d) → Calls Tryz.prog 17 #[.agg #[.int .i64 P, .int .i64 M, .slice am mn cm, .int .i64 N, .slice a n c], .int .i64 n, .int .i64 z, .agg #[.slice ax nx cx]] W
      fun e w' => e = .returned (.int .i64 V) ∧ Below W.heap.size W w') := fun W z hW hz => by
    have h1 := exCheckRank_any P M am mn cm mod N a n c L n z ax nx cx ts W (hmod.keep hW) (hi.keep hW) (hts.keep hW)
    rw [chk_wt hz, hV] at h1
    exact h1
  clear hmod hi hts hV
  go_enter Tryz.func25, Tryz.ntmps25
  go_upto_region 1 with fail
  obtain ⟨U, hU⟩ : ∃ U : World, U = (w.alloc (.cells #[.int .i64 P, .int .i64 M, .slice am mn cm, .int .i64 N, .slice a n c] 27)).alloc (.cells #[.slice ax nx cx] 30) := ⟨_, rfl⟩
  rw [← hU]
  have hbU : Below w.heap.size w U := by rw [hU]; exact below2 _ _ _
  have x0 : Box U w.heap.size [.int .i64 P, .int .i64 M, .slice am mn cm, .int .i64 N, .slice a n c] := by rw [hU]; exact (Box.new _ _ _ rfl).alloc _
  have y0 : Box U (w.heap.size + 1) [.slice ax nx cx] := by rw [hU]; exact Box.new _ _ _ (by simp)
  have HS : Hid (∀ V, Below U.heap.size U V → V.cell? ⟨w.heap.size, 0, none⟩ = some (.int .i64 P) ∧ V.cell? ⟨w.heap.size, 1, none⟩ = some (.int .i64 M) ∧ V.cell? ⟨w.heap.size, 2, none⟩ = some (.slice am mn cm) ∧ V.cell? ⟨w.heap.size, 3, none⟩ = some (.int .i64 N) ∧ V.cell? ⟨w.heap.size, 4, none⟩ = some (.slice a n c) ∧
      V.cell? ⟨w.heap.size + 1, 0, none⟩ = some (.slice ax nx cx) ∧ Below U.heap.size U V) := fun V hV => by
    have x1 := x0.keep hV
    exact ⟨x1.cell 0 rfl, x1.cell 1 rfl, x1.cell 2 rfl, x1.cell 3 rfl, x1.cell 4 rfl, (y0.keep hV).cell 0 rfl, hV⟩
  have HbU := Lib.hid hbU
  clear hU hbU x0 y0
  go_cut [6] (fun v wx => v = .int .i64 V ∧ Below U.heap.size U wx)
  case first =>
    go_region_held3 (fun V => V.cell? ⟨w.heap.size, 0, none⟩ = some (.int .i64 P) ∧ V.cell? ⟨w.heap.size, 1, none⟩ = some (.int .i64 M) ∧ V.cell? ⟨w.heap.size, 2, none⟩ = some (.slice am mn cm) ∧ V.cell? ⟨w.heap.size, 3, none⟩ = some (.int .i64 N) ∧ V.cell? ⟨w.heap.size, 4, none⟩ = some (.slice a n c) ∧
        V.cell? ⟨w.heap.size + 1, 0, none⟩ = some (.slice ax nx cx) ∧ Below U.heap.size U V)
      ((refine HS.out _ ?_; first | exact hb5w | exact hb3w | exact (Below.refl _ _).drew | assumption | (go_split_ands; assumption)))
      (first
      | (go_at_call 58; ((with_reducible refine (exWeight_any P M am mn cm N a n c d _).mono ?_); rintro e w3 ⟨⟨z, rfl, hz⟩, hb3⟩; have hb3w : Below U.heap.size U w3 := (by go_split_ands; exact Below.next (by assumption) hb3)))
      | (go_at_call 17; ((with_reducible refine (HCk.out _ z (Below.next HbU.out (by go_split_ands; assumption)) hz).mono ?_); rintro e w5 ⟨rfl, hb5⟩; have hb5w : Below U.heap.size U w5 := (by go_split_ands; exact Below.next (by assumption) hb5))))
    all_goals (go_wp2_with fail; go_meet; exact ⟨rfl, hb5w⟩)
  obtain ⟨rfl, hb5w⟩ := hcut
  have hF := Below.next HbU.out hb5w
  go_wp2_with fail
  go_ret
  exact ⟨rfl, hF⟩

set_option maxRecDepth 100000 in
set_option maxHeartbeats 1600000 in
theorem exBuildDistance_any (P M : Int) (am : Option Addr) (mn cm : Nat) (mod : List Int) (N : Int) (a : Option Addr) (n c : Nat) (L : List (List Int)) (d : Int) (w : World)
    (hmod : Ints w am mn mod) (hi : Mat w a n L) :
    Calls Tryz.prog 23 #[.agg #[.int .i64 P, .int .i64 M, .slice am mn cm, .int .i64 N, .slice a n c], .int .i64 d] w (ExBldPost (bldRE P M mod N L n (wtD N d)) w) := by
  obtain ⟨V, hV⟩ : ∃ V, bldRE P M mod N L n (wtD N d) = V := ⟨_, rfl⟩
  rw [hV]
  have HCk : Hid (∀ (W : World) (z : Int), Below w.heap.size w W → (1 ≤ N → N ≤ 64 → z = wtD N d) → Calls Tryz.prog 20 #[.agg #[.int .i64 P, .int .i64 M, .slice am mn cm, .int .i64 N, .slice a n c], .int .i64 n, .int .i64 z] W
      fun e w' => ∃ av nv cv, e = .returned (.tuple #[.agg #[.slice av nv cv], .int .i64 V.1]) ∧ Below W.heap.size W w' ∧ ((V.1 ≠ 0 ∧ av = none ∧ nv = 0 ∧ cv = 0) ∨ (V.1 = 0 ∧ nv = V.2.length ∧ ∃ R, OMat w' W.heap.size av V.2.length cv R V.2))) := fun W z hW hz => by
    have h1 := exBuildRank_any P M am mn cm mod N a n c L n z W (hmod.keep hW) (hi.keep hW)
    rw [bld_wt hz, hV] at h1
    refine h1.mono ?_
    rintro e w' ⟨hb, ⟨h2, rfl⟩ | ⟨h2, ar, cr, R, rfl, hO⟩⟩
    · exact ⟨none, 0, 0, rfl, hb, .inl ⟨h2, rfl, rfl, rfl⟩⟩
    · exact ⟨ar, _, cr, by rw [h2], hb, .inr ⟨h2, rfl, R, hO⟩⟩
  clear hmod hi hV
  go_enter Tryz.func23, Tryz.ntmps23
  go_upto_region 1 with fail
  obtain ⟨U, hU⟩ : ∃ U : World, U = (w.alloc (.cells #[.int .i64 P, .int .i64 M, .slice am mn cm, .int .i64 N, .slice a n c] 27)).alloc (.cells #[.slice none 0 0] 30) := ⟨_, rfl⟩
  rw [← hU]
  have hbU : Below w.heap.size w U := by rw [hU]; exact below2 _ _ _
  have x0 : Box U w.heap.size [.int .i64 P, .int .i64 M, .slice am mn cm, .int .i64 N, .slice a n c] := by rw [hU]; exact (Box.new _ _ _ rfl).alloc _
  have y0 : Box U (w.heap.size + 1) [.slice none 0 0] := by rw [hU]; exact Box.new _ _ _ (by simp)
  have HS : Hid (∀ V, Below U.heap.size U V → V.cell? ⟨w.heap.size, 0, none⟩ = some (.int .i64 P) ∧ V.cell? ⟨w.heap.size, 1, none⟩ = some (.int .i64 M) ∧ V.cell? ⟨w.heap.size, 2, none⟩ = some (.slice am mn cm) ∧ V.cell? ⟨w.heap.size, 3, none⟩ = some (.int .i64 N) ∧ V.cell? ⟨w.heap.size, 4, none⟩ = some (.slice a n c) ∧
      V.cell? ⟨w.heap.size + 1, 0, none⟩ = some (.slice none 0 0) ∧ V.frozen? ⟨w.heap.size + 1, 0, none⟩ = false) := fun V hV => by
    have x1 := x0.keep hV
    exact ⟨x1.cell 0 rfl, x1.cell 1 rfl, x1.cell 2 rfl, x1.cell 3 rfl, x1.cell 4 rfl, (y0.keep hV).cell 0 rfl, (y0.keep hV).frozen 0⟩
  have HbU := Lib.hid hbU
  have hy1 := y0.1
  obtain ⟨c0, c1, c2, c3, c4, c5, c6⟩ := HS.out U (Below.refl _ _)
  clear hU hbU x0 y0
  go_region_law ((first
    | (go_simp; go_at_call 58; ((with_reducible refine (exWeight_any P M am mn cm N a n c d _).mono ?_); rintro e w3 ⟨⟨z, rfl, hz⟩, hb3⟩; have hb3w : Below U.heap.size U w3 := Below.next (Below.refl _ _).drew hb3; obtain ⟨d0, d1, d2, d3, d4, d5, d6⟩ := HS.out w3 hb3w))
    | (go_simp; go_at_call 20; ((with_reducible refine (HCk.out _ z (Below.next HbU.out hb3w) hz).mono ?_); rintro e w5 ⟨av, nv, cv, rfl, hb5, hV5⟩; have hb5w : Below U.heap.size U w5 := Below.next hb3w hb5; obtain ⟨e0, e1, e2, e3, e4, e5, e6⟩ := HS.out w5 hb5w))))
  all_goals (
    have hF : Below w.heap.size w (w5.setCell ⟨w.heap.size + 1, 0, none⟩ (.slice av nv cv)) := (Below.next HbU.out hb5w).setCell (by simp) _
    have HV5 : Hid (ExBldPost V w (.returned (.tuple #[.agg #[.slice av nv cv], .int .i64 V.1])) (w5.setCell ⟨w.heap.size + 1, 0, none⟩ (.slice av nv cv))) := by
      refine ⟨hF, ?_⟩
      rcases hV5 with ⟨h1, rfl, rfl, rfl⟩ | ⟨h1, rfl, R, hO⟩
      · exact .inl ⟨h1, rfl⟩
      · refine .inr ⟨h1, av, cv, R, by rw [h1], ?_⟩
        have hs3 := hb3w.size
        have hsU := HbU.out.size
        refine (OMat.mono hO (Nat.le_trans hsU hs3)).of_blocks fun x hx => Below.heap_setCell _ _ _ _ fun e => ?_
        have h2 := (hO.lt x hx).1
        have e' : x = w.heap.size + 1 := e
        omega
    clear hV5 hF c0 c1 c2 c3 c4 c5 c6 d0 d1 d2 d3 d4 d5 d6
    go_wp2_with fail
    have z1 : (w5.setCell ⟨w.heap.size + 1, 0, none⟩ (.slice av nv cv)).cell? ⟨w.heap.size + 1, 0, none⟩ = some (.slice av nv cv) := World.cell?_setCell_same _ _ _ e5
    exact bodyPost_ret (v := .tuple #[.agg #[.slice av nv cv], .int .i64 V.1]) (by simp [results, Tryz.results23, go_sem, e5, z1]) rfl HV5.out)
end

/- Two matrices whose rows go together: 'each' of matrix.eliminate at both. -/
section
open Go.RowKit

theorem nthR_mapf (f : List Int → List Int) (L : List (List Int)) {i : Nat} (h : i < L.length) : nthR (L.map f) i = f (nthR L i) := by
  rw [nthR_getElem (by simpa using h), nthR_getElem h, List.getElem_map]
/-- the blocks of two matrices -/
def I2 (a : Option Addr) (R : List (Option Addr × Nat)) (a2 : Option Addr) (S : List (Option Addr × Nat)) (b : Nat) : Prop := OIn a R b ∨ OIn a2 S b
/-- two own matrices in blocks apart: the beginnings and the ends of the rows J -/
structure OMat2 (w : World) (B : Nat) (a : Option Addr) (n c : Nat) (R : List (Option Addr × Nat)) (a2 : Option Addr) (c2 : Nat) (S : List (Option Addr × Nat)) (len : Nat) (J : List (List Int)) : Prop where
  om1 : OMat w B a n c R (J.map (List.take len))
  om2 : OMat w B a2 n c2 S (J.map (List.drop len))
  dis : ∀ b, OIn a R b → ¬ OIn a2 S b
namespace OMat2
variable {w w' w1 : World} {B : Nat} {a : Option Addr} {n c : Nat} {R R' : List (Option Addr × Nat)} {a2 : Option Addr} {c2 : Nat} {S S' : List (Option Addr × Nat)} {len : Nat} {J J' : List (List Int)}
theorem lt (h : OMat2 w B a n c R a2 c2 S len J) (b : Nat) (hb : I2 a R a2 S b) : B ≤ b ∧ b < w.heap.size := by
  rcases hb with hb | hb
  · exact h.om1.lt b hb
  · exact h.om2.lt b hb
theorem new (h : OMat2 w B a n c R a2 c2 S len J) {b : Nat} (hb : w.heap.size ≤ b) : ¬ I2 a R a2 S b := fun h' => by have := h.lt b h'; omega
theorem keep (h : OMat2 w B a n c R a2 c2 S len J) (hb : Below w.heap.size w w') : OMat2 w' B a n c R a2 c2 S len J := ⟨h.om1.keep hb, h.om2.keep hb, h.dis⟩
theorem ll (h : OMat2 w B a n c R a2 c2 S len J) : J.length = n := by have := h.om1.ll; simpa using this
theorem cell (h : OMat2 w B a n c R a2 c2 S len J) {i : Nat} (hi : i < n) (hl : len ≤ (nthR J i).length) : w.cell? ⟨ablk a, aoff a + i, none⟩ = some (.slice (nthA R i).1 len (nthA R i).2) := by
  have h1 := h.om1.cell hi
  rw [nthR_mapf _ J (by rw [h.ll]; exact hi), List.length_take, Nat.min_eq_left hl] at h1
  exact h1
theorem ints (h : OMat2 w B a n c R a2 c2 S len J) {i : Nat} (hi : i < n) (hl : len ≤ (nthR J i).length) : Ints w (nthA R i).1 len ((nthR J i).take len) := by
  have h1 := h.om1.ints hi
  rw [nthR_mapf _ J (by rw [h.ll]; exact hi), List.length_take, Nat.min_eq_left hl] at h1
  exact h1
end OMat2

variable {w : World} {b : Nat} {G : Tbl}
end

/- The walk of matrix.eliminate with a second matrix. -/
section
open Go.RowKit

variable {w : World} {b : Nat} {G : Tbl}
theorem OMat2.of_blocks {w' : World} {B : Nat} {a : Option Addr} {n c : Nat} {R : List (Option Addr × Nat)} {a2 : Option Addr} {c2 : Nat} {S : List (Option Addr × Nat)} {len : Nat} {J : List (List Int)} (h : OMat2 w B a n c R a2 c2 S len J) (hb : ∀ b, I2 a R a2 S b → w'.heap[b]? = w.heap[b]?) : OMat2 w' B a n c R a2 c2 S len J :=
  ⟨h.om1.of_blocks fun b hb' => hb b (.inl hb'), h.om2.of_blocks fun b hb' => hb b (.inr hb'), h.dis⟩
end

/- The greedy order, as plain Lean functions. -/
section
section
variable {f : Nat → Int} {N : Nat} (hf : ∀ y, f y ≤ N)
include hf
end
end

/- Orders, widths and the table over all sets, as plain Lean functions. -/
section
/-- the least entry at a set with one of its positions below i removed -/
def leastTo (N : Nat) (T : List Int) (s : Nat) : Nat → Int
  | 0 => N
  | i + 1 => if s.testBit i = true then min (leastTo N T s i) (nth T (s - 2 ^ i)) else leastTo N T s i
theorem or_add : ∀ (b x : Nat), x.testBit b = false → x ||| 2 ^ b = x + 2 ^ b
  | 0, x, h => by
    rw [Nat.testBit_zero, decide_eq_false_iff_not] at h
    have h1 : (x ||| 1) / 2 = x / 2 := by rw [Nat.or_div_two]; simp
    have h2 : (x ||| 1) % 2 = 1 := Nat.or_mod_two_eq_one.2 (.inr rfl)
    show x ||| 1 = x + 1
    omega
  | b + 1, x, h => by
    rw [Nat.testBit_succ] at h
    have ih := or_add b (x / 2) h
    have e : 2 ^ (b + 1) / 2 = 2 ^ b := by rw [Nat.pow_succ]; omega
    have h1 : (x ||| 2 ^ (b + 1)) / 2 = x / 2 + 2 ^ b := by rw [Nat.or_div_two, e, ih]
    have h2 : (x ||| 2 ^ (b + 1)) % 2 = 1 ↔ x % 2 = 1 := by
      rw [Nat.or_mod_two_eq_one]
      have : 2 ^ (b + 1) % 2 = 0 := by rw [Nat.pow_succ]; omega
      omega
    have h3 : 2 ^ (b + 1) = 2 * 2 ^ b := by rw [Nat.pow_succ]; omega
    omega
end

/- A code with its positions in another order (plain law). -/
section
section
variable {O : FOps} {El : Int → Prop} {m : Nat}

end

section
variable {P M : Int} {mod : List Int} {m : Nat} {L : List (List Int)} {Q : List Int}
end
end

/- Words of a code: reduced by canonical rows they vanish; combinations of rows (plain law). -/
section
section
variable {O : FOps} {El : Int → Prop} {m : Nat} {R : List (List Int)} {P : List Int}
theorem RS.add (F : Fld O El) {L : List (List Int)} {f g : Nat → Int} (hL : Rws El m L) (hf : RS O El m L f) (hg : RS O El m L g) {s : Int} (hs : El s) : RS O El m L (fun x => O.add (f x) (O.mul (g x) s)) := by
  refine (hf.comb F hg (F.cl.neg s hs)).congr fun x hx => ?_
  obtain ⟨e, he, h⟩ := hg
  have hgx : El (g x) := by rw [h x hx]; exact he.el _ (colS_vc hL F.zero x)
  rw [F.mul_neg hgx hs, F.neg_neg (F.cl.mul _ _ hgx hs)]
/-- the entries of a word of the row space by an order are a word of the picked rows -/
theorem RS.pick {L : List (List Int)} {w Q : List Int} (hQ : Q.length = m) (hI : InN m Q) (h : RS O El m L (fun x => nth w x)) : RS O El m (L.map (pickL Q)) (fun x => nth (pickL Q w) x) := by
  obtain ⟨e, he, h⟩ := h
  refine ⟨e, by rw [List.length_map]; exact he, fun x hx => ?_⟩
  have hq := hI x (by omega)
  have hcol : colS (L.map (pickL Q)) x = colS L (nth Q x).toNat := by
    unfold colS
    rw [List.map_map]
    exact List.map_congr_left fun r _ => nth_pickL Q r (by omega)
  show nth (pickL Q w) x = _
  rw [nth_pickL Q w (by omega), hcol]
  exact h _ (by omega)
end
end

/- The walks of matrix.unit, vec. -/
section
open Go.RowKit

variable {w : World} {b : Nat} {G : Tbl}
end

/- The walks of code.own, code.of, code.Dual. -/
section
open Go.RowKit
end

/- The inverse of an order, and rows whose entries are put at their places (plain law). -/
section
section
variable {m : Nat} {Q : List Int}
end
end

/- The walks of modify.set, code.New. -/
section
open Go.RowKit
end

/- A matrix that is put together row by row, behind a box. -/
section
open Go.RowKit

theorem OMat.setOther {w : World} {B : Nat} {a : Option Addr} {n c : Nat} {R : List (Option Addr × Nat)} {L : List (List Int)} (h : OMat w B a n c R L) {p : Addr} (hp : p.block < B) (v : Value) : OMat (w.setCell p v) B a n c R L :=
  h.of_blocks fun b hb => Below.heap_setCell _ _ _ _ (by have := (h.lt b hb).1; omega)

/-- a box of two cells, the second a matrix whose blocks are behind the box -/
structure MOut (w : World) (g : Nat) (x : Value) (a : Option Addr) (k c : Nat) (R : List (Option Addr × Nat)) (L : List (List Int)) : Prop where
  lt : g < w.heap.size
  c0 : w.cell? ⟨g, 0, none⟩ = some x
  c1 : w.cell? ⟨g, 1, none⟩ = some (.slice a k c)
  fr : ∀ i, w.frozen? ⟨g, i, none⟩ = false
  om : OMat w (g + 1) a k c R L
namespace MOut
variable {w w' w4 w5 : World} {g : Nat} {x : Value} {a : Option Addr} {k c : Nat} {R : List (Option Addr × Nat)} {L : List (List Int)}
theorem keep (h : MOut w g x a k c R L) (hb : Below w.heap.size w w') : MOut w' g x a k c R L :=
  ⟨Nat.lt_of_lt_of_le h.lt hb.size, cell_keep hb h.c0, cell_keep hb h.c1, fun i => frozen_keep hb h.lt (h.fr i), h.om.keep hb⟩
theorem apt (h : MOut w g x a k c R L) : Apt a g := by
  by_cases ha : a = none
  · exact .inl ha
  · exact .inr fun e => by have := (own_ne h.om.own ha).1; omega
theorem push {a4 a5 : Option Addr} {n4 c4 c5 : Nat} {N : List Int} {o : Obj} (h : MOut w4 g x a k c R L) (hn4 : N.length = n4)
    (hown4 : w4.ownsRow (g + 1) 3 1 (.slice a4 n4 c4) n4 (N.map (Value.int .i64))) (hra : a4 ≠ none → ¬ OIn a R (ablk a4))
    (hown5 : w5.ownsRow (g + 1) 22 1 (.slice a5 (k + 1) c5) (k + 1) (List.zipWith rowV R L ++ [.slice a4 n4 c4])) (hgr5 : (w4.alloc o).grownBy w5 (Value.slice a k c).ownBlock)
    (hap5 : ∀ x, x < (w4.alloc o).heap.size → Apt a x → Apt a5 x) :
    MOut (w5.setCell ⟨g, 1, none⟩ (.slice a5 (k + 1) c5)) g x a5 (k + 1) c5 (R ++ [(a4, c4)]) (L ++ [N]) ∧ Below g w4 (w5.setCell ⟨g, 1, none⟩ (.slice a5 (k + 1) c5)) := by
  subst hn4
  have hb1 := below1 w4 o
  have hO := h.om.keep hb1
  have hr := own_keep hown4 hb1
  have hP := OMat.push hO hr hra hown5 hgr5 hap5
  have hlt := h.lt
  have hs1 := hb1.size
  have hB5 : Below (g + 1) w4 w5 := Below.app (hb1.mono (by omega)) hO.own hgr5 (Nat.le_refl _) (by omega)
  have hs := hB5.size
  have k0 := cell_grownApt hgr5 (cell_box h.c0 o) h.apt
  have k1 := cell_grownApt hgr5 (cell_box h.c1 o) h.apt
  refine ⟨⟨by simp; omega, ?_, World.cell?_setCell_same _ _ _ k1, fun i => ?_, hP.setOther (by simp) _⟩, (hB5.mono (by omega)).setCell (by simp) _⟩
  · rw [World.cell?_setCell_other _ _ _ _ (by simp)]; exact k0
  · rw [World.frozen?_setCell]
    exact (World.frozen?_of_block (w := w4.alloc o) (a := ⟨g, i, none⟩) (hgr5.block g (by omega) fun e => h.apt.own k c e.symm)).trans (frozen_box h.lt (h.fr i) _)
theorem start {U : World} {g : Nat} {x : Value} (hU : Box U g [x, .slice none 0 0]) : MOut U g x none 0 0 [] [] :=
  ⟨hU.1, hU.cell 0 rfl, hU.cell 1 rfl, hU.frozen, OMat.empty _ _⟩
end MOut

theorem Box.two (w : World) (x0 y0 x y : Value) (e : TypeId) : Box (((w.alloc (.cells #[x0, y0] e)).setCell ⟨w.heap.size, 0, none⟩ x).setCell ⟨w.heap.size, 1, none⟩ y) w.heap.size [x, y] := by
  have h : Box (w.alloc (.cells #[x0, y0] e)) w.heap.size [x0, y0] := Box.new w [x0, y0] e rfl
  have k0 := h.cell 0 rfl
  have k1 := h.cell 1 rfl
  refine ⟨by simp, fun i v hv => ?_, fun i => by rw [World.frozen?_setCell, World.frozen?_setCell]; exact h.frozen i⟩
  match i, hv with
  | 0, hv =>
    obtain rfl : x = v := by simpa using hv
    rw [World.cell?_setCell_other _ _ _ _ (by simp)]
    exact World.cell?_setCell_same _ _ _ k0
  | 1, hv =>
    obtain rfl : y = v := by simpa using hv
    exact World.cell?_setCell_same _ _ _ (by rw [World.cell?_setCell_other _ _ _ _ (by simp)]; exact k1)
  | i + 2, hv => simp at hv
end

/- The walk of modify.Permute. -/
section
open Go.RowKit
end

/- The walks of ordering.ordered, codewrightref48.IsOrder. -/
section
open Go.RowKit
end

/- Bounds (plain law). -/
section

end

/- The walks of ordering.width, ordering.Width, codewrightref48.Order, Width. -/
section
open Go.RowKit

theorem InN.take {n : Nat} {Q : List Int} (h : InN n Q) {i : Nat} (hi : i ≤ Q.length) : InN n (Q.take i) := fun j hj => by
  rw [List.length_take] at hj
  have e : nth (Q.take i) j = nth Q j := by unfold nth; simp only [List.getD_eq_getElem?_getD, List.getElem?_take]; rw [if_pos (by omega)]
  rw [e]; exact h j (by omega)
end

/- The walk of ordering.Reorder. -/
section
open Go.RowKit
end

/- The walk of matrix.Inverse, at an invertible matrix. -/
section
open Go.RowKit
end

/- The walk of matrix.Mul, at matrices that fit. -/
section
open Go.RowKit
end

/- The walk of matrix.Vec, at valid arguments. -/
section
open Go.RowKit
end

/- The walks of space.view's word, reduce, has; zero; code.list. -/
section
open Go.RowKit
end

/- The walks of code.list, word, space.Has, code.Has, at words of the code. -/
section
open Go.RowKit
end

/- The walks of the references: Combine of layer 09, List and Encode of layer 12. -/
section
open Go.RowKit
end

/- The walk of infoset.Greedy. -/
section
open Go.RowKit
end

/- Information sets are bases (plain laws): greedy sets are information sets, and exchanges exist. -/
section
section
variable {O : FOps} {El : Int → Prop} {m : Nat} {L : List (List Int)}
end
/-- all positions, in some order -/
def PermN (m : Nat) (Q : List Int) : Prop := Q.Perm ((List.range m).map Int.ofNat)
theorem PermN.mem {m : Nat} {Q : List Int} (h : PermN m Q) {x : Int} : x ∈ Q ↔ ∃ j : Nat, j < m ∧ x = j := by
  rw [h.mem_iff, List.mem_map]
  constructor
  · rintro ⟨j, hj, rfl⟩; exact ⟨j, List.mem_range.1 hj, rfl⟩
  · rintro ⟨j, hj, rfl⟩; exact ⟨j, List.mem_range.2 hj, rfl⟩
theorem PermN.len {m : Nat} {Q : List Int} (h : PermN m Q) : Q.length = m := by rw [h.length_eq]; simp
theorem PermN.nodup {m : Nat} {Q : List Int} (h : PermN m Q) : Q.Nodup := by
  refine h.nodup_iff.2 ?_
  rw [List.nodup_iff_pairwise_ne, List.pairwise_map]
  exact List.nodup_range.imp fun h e => h (Int.ofNat.inj e)
theorem PermN.inN {m : Nat} {Q : List Int} (h : PermN m Q) : InN m Q := fun j hj => by
  obtain ⟨i, hi, e⟩ := h.mem.1 (nth_mem hj)
  omega
section
variable {P M : Int} {mod : List Int} {m : Nat} {L : List (List Int)}
end
end

/- The walk of infoset.Floor. -/
section
open Go.RowKit
end

/- The family of a code (plain laws): its members are information sets with new positions, the positions left are zero columns, and the bound for the weight. -/
section
section
variable {O : FOps} {El : Int → Prop} {m : Nat} {L : List (List Int)}
end
end

/- The walks of code.list at any list, code.Encode, codewrightref25.Weight. -/
section
open Go.RowKit

theorem any_els (q : Int) (l : List Int) : l.any (fun x => !(decide (0 ≤ x) && decide (x < q))) = !(elsQ q l) := by
  unfold elsQ
  induction l with
  | nil => rfl
  | cons x l ih =>
    rw [List.any_cons, List.all_cons, ih]
    unfold isQ
    cases (decide (0 ≤ x) && decide (x < q)) <;> simp
end

/- The walks of coset, CheckCoset, BuildCoset of the package exclusion. -/
section
open Go.RowKit

theorem elsQ_els {G : Tbl} {l : List Int} (h : elsQ G.q l = true) : G.Els l := fun x hx => by
  have h1 := List.all_eq_true.1 h x hx
  simpa [isQ, Tbl.El] using h1
theorem exCos1_any {w : World} {b : Nat} {G : Tbl} (q pb : Nat) (x : Int) (hc : w.cell? ⟨q, 0, none⟩ = some (.pointer (some ⟨pb, 0, none⟩))) (hp : w.cell? ⟨pb, 0, none⟩ = some (.pointer (some ⟨b, 0, none⟩))) (h : GFw w b G) :
    Calls Tryz.prog 106 #[.int .i64 x, .pointer (some ⟨q, 0, none⟩)] w fun e w' => e = .returned (.bool (!(decide (0 ≤ x) && decide (x < G.q)))) ∧ w = w' := by
  go_enter Tryz.func106, Tryz.ntmps106
  go_wp2_with fail
  refine (gIs x h).mono ?_
  rintro e w' ⟨rfl, rfl⟩
  obtain ⟨z, hz⟩ : ∃ z, (decide (0 ≤ x) && decide (x < G.q)) = z := ⟨_, rfl⟩
  have Hz := Lib.hid hz
  rw [hz]
  clear hz
  cases z
  · go_wp2_with fail
    go_ret
    exact ⟨ret_bool (by rw [Hz.out]; rfl), rfl⟩
  · go_wp2_with fail
    go_ret
    exact ⟨ret_bool (by rw [Hz.out]; rfl), rfl⟩

set_option maxRecDepth 100000 in
set_option maxHeartbeats 1600000 in
theorem indexCos_any (p : Int → Bool) (q : Nat) (a : Option Addr) (n c : Nat) (l : List Int) (w : World) (hi : Ints w a n l) (hf : ∀ k, k < n → Calls Tryz.prog 106 #[.int .i64 (nth l k), .pointer (some ⟨q, 0, none⟩)] w fun e w' => e = .returned (.bool (p (nth l k))) ∧ w = w') :
    Calls Tryz.prog 158 #[.slice a n c, .func (.func 106) #[] #[.pointer (some ⟨q, 0, none⟩)]] w fun e w' => ∃ z : Int, e = .returned (.int .i64 z) ∧ (0 ≤ z ↔ l.any p = true) ∧ w = w' := by
  have hpl := hi.pl
  have hmax := hi.max
  have HF := Lib.hid hf
  have Hl := Lib.hid hi.len
  unfold maxLen at hmax
  clear hf
  go_enter Tryz.func158, Tryz.ntmps158
  go_wp2_with fail
  go_loop [8] (fun iv => ∃ k : Nat, k ≤ n ∧ iv = .int .i64 k ∧ Hid (∀ j, j < k → p (nth l j) = false)) (fun iv => n - (intOf iv).toNat)
  case atStart => exact ⟨0, Nat.zero_le _, rfl, fun j hj => by omega⟩
  case round =>
    obtain ⟨k, hk, rfl, hno⟩ := hrel
    by_cases hlt : k < n
    · have ck := hi.cell k hlt
      have hfk := HF.out k hlt
      obtain ⟨z, hz⟩ : ∃ z, p (nth l k) = z := ⟨_, rfl⟩
      rw [hz] at hfk
      have Hk := Lib.hid hfk
      cases z
      · have Hn : Hid (∀ j, j < k + 1 → p (nth l j) = false) := fun j hj => by
          by_cases e : j = k
          · subst e; exact hz
          · exact hno.out j (by omega)
        clear hz hfk hno
        go_wp2_with fail
        refine Hk.out.mono ?_
        rintro e w' ⟨rfl, rfl⟩
        go_wp2_with fail
        go_round
        case rel => exact ⟨k + 1, by omega, by go_num, Hn.out⟩
        case measure => simp [intOf] <;> omega
      · have Hy : Hid (l.any p = true) := by
          show _ = _
          rw [List.any_eq_true]
          exact ⟨nth l k, nth_mem (by rw [Hl.out]; exact hlt), hz⟩
        clear hz hfk hno
        go_wp2_with fail
        refine Hk.out.mono ?_
        rintro e w' ⟨rfl, rfl⟩
        go_wp2_with fail
        go_ret
        exact ⟨k, rfl, ⟨fun _ => by first | exact Hy.out | exact List.any_eq_true.1 Hy.out, fun _ => Int.natCast_nonneg _⟩, rfl⟩
    · obtain rfl : k = n := by omega
      have Hy : Hid (l.any p = false) := by
        show _ = _
        rw [List.any_eq_false]
        intro x hx
        obtain ⟨j, hj, rfl⟩ := List.mem_iff_getElem.1 hx
        have := hno.out j (by rw [← Hl.out]; exact hj)
        rw [nth_getElem hj] at this
        rw [this]; decide
      go_wp2_with fail
      go_ret
      exact ⟨-1, rfl, ⟨fun h => absurd h (by omega), fun h => by have h2 : l.any p = true := (by first | exact h | exact List.any_eq_true.2 h); rw [Hy.out] at h2; exact absurd h2 (by decide)⟩, rfl⟩
theorem containsCos_any (p : Int → Bool) (q : Nat) (a : Option Addr) (n c : Nat) (l : List Int) (w : World) (hi : Ints w a n l) (hf : ∀ k, k < n → Calls Tryz.prog 106 #[.int .i64 (nth l k), .pointer (some ⟨q, 0, none⟩)] w fun e w' => e = .returned (.bool (p (nth l k))) ∧ w = w') :
    Calls Tryz.prog 105 #[.slice a n c, .func (.func 106) #[] #[.pointer (some ⟨q, 0, none⟩)]] w fun e w' => e = .returned (.bool (l.any p)) ∧ w = w' := by
  have Hc := Lib.hid (indexCos_any p q a n c l w hi hf)
  clear hf
  go_enter Tryz.func105, Tryz.ntmps105
  go_wp2_with fail
  refine Hc.out.mono ?_
  rintro e w' ⟨z, rfl, hz, rfl⟩
  by_cases h0 : 0 ≤ z
  · have Hz : Hid (l.any p = true) := hz.1 h0
    have h0' : decide (0 ≤ z) = true := by simpa using h0
    clear hz h0
    go_wp2_with fail
    go_ret
    exact ⟨ret_bool Hz.out.symm, rfl⟩
  · have Hz : Hid (l.any p = false) := by
      show _ = _
      cases h : l.any p
      · rfl
      · exact absurd (hz.2 h) h0
    have h0' : decide (0 ≤ z) = false := by simpa using h0
    clear hz h0
    go_wp2_with fail
    go_ret
    exact ⟨ret_bool Hz.out.symm, rfl⟩

def cosE (P M : Int) (mod : List Int) (N : Int) (L : List (List Int)) (y : List Int) (W : Int) : Int :=
  if codeE P M mod N L = 0 then (if (y.length : Int) ≠ N then 4 else if elsQ (tblOf P M.toNat mod).q y = false then 2 else if W < 0 ∨ N < W then 6 else 0) else codeE P M mod N L
def ExCosetPost (P M : Int) (am : Option Addr) (mn cm : Nat) (mod : List Int) (N : Int) (a : Option Addr) (n c : Nat) (L : List (List Int)) (ay : Option Addr) (ny cy : Nat) (y : List Int) (W : Int) (w : World) (e : Ending) (w' : World) : Prop :=
  Below w.heap.size w w' ∧ ((cosE P M mod N L y W ≠ 0 ∧ e = .returned (.tuple #[.pointer none, .int .i64 (cosE P M mod N L y W)])) ∨
  (cosE P M mod N L y W = 0 ∧ ∃ pb, e = .returned (.tuple #[.pointer (some ⟨pb, 0, none⟩), .int .i64 0]) ∧ ExClaim P M am mn cm mod N.toNat a n c L ay ny cy ⟨0, W.toNat, true, y⟩ w w' pb))

set_option maxRecDepth 100000 in
set_option maxHeartbeats 1600000 in
theorem exCoset_any (P M : Int) (am : Option Addr) (mn cm : Nat) (mod : List Int) (N : Int) (a : Option Addr) (n c : Nat) (L : List (List Int)) (ay : Option Addr) (ny cy : Nat) (y : List Int) (W : Int) (w : World) (hmod : Ints w am mn mod) (hi : Mat w a n L) (hy : Ints w ay ny y) :
    Calls Tryz.prog 59 #[.agg #[.int .i64 P, .int .i64 M, .slice am mn cm, .int .i64 N, .slice a n c], .slice ay ny cy, .int .i64 W] w (ExCosetPost P M am mn cm mod N a n c L ay ny cy y W w) := by
  have Hil := Lib.hid hi.len
  have Hyl := Lib.hid hy.len
  go_enter Tryz.func59, Tryz.ntmps59
  go_wp2_with fail
  obtain ⟨U, hU⟩ : ∃ U : World, U = w.alloc (.cells #[.int .i64 P, .int .i64 M, .slice am mn cm, .int .i64 N, .slice a n c] 27) := ⟨_, rfl⟩
  rw [← hU]
  have hbU : Below w.heap.size w U := by rw [hU]; exact below1 _ _
  have x0 : Box U w.heap.size [.int .i64 P, .int .i64 M, .slice am mn cm, .int .i64 N, .slice a n c] := by rw [hU]; exact Box.new _ _ _ rfl
  have HX := Lib.hid x0
  clear hU x0
  refine (exOpen_any P M am mn cm mod N a n c L W U (hmod.keep hbU) (hi.keep hbU)).mono ?_
  rintro e w1 ⟨hb1, ⟨hE, rfl⟩ | ⟨hE, b, w2, rfl, hb2, hG, hb3, hB⟩⟩
  · have HE : Hid (cosE P M mod N L y W = codeE P M mod N L) := if_neg hE
    have Hne := Lib.hid hE
    have hE1 : (codeE P M mod N L == 0) = false := by simpa using hE
    have hE2 : (codeE P M mod N L != 0) = true := by simpa using hE
    have hbF := Below.next (Below.next hbU hb1) (below1 w1 (.cells #[.pointer none] 83))
    clear hE
    go_wp2_with fail
    go_ret2
    exact ⟨hbF, .inl ⟨by rw [HE.out]; exact Hne.out, by rw [HE.out]; rfl⟩⟩
  · have HE : Hid (cosE P M mod N L y W = if (ny : Int) ≠ N then 4 else if elsQ (tblOf P M.toNat mod).q y = false then 2 else if W < 0 ∨ N < W then 6 else 0) := by show _ = _; rw [cosE, if_pos hE, Hyl.out]
    have Hrw := Lib.hid (codeE_rws hE)
    have hbn := below1 w1 (.cells #[.pointer (some ⟨w2.heap.size, 0, none⟩)] 83)
    have hbF := Below.next (Below.next hbU hb1) hbn
    have xq : (w1.alloc (.cells #[.pointer (some ⟨w2.heap.size, 0, none⟩)] 83)).cell? ⟨w1.heap.size, 0, none⟩ = some (.pointer (some ⟨w2.heap.size, 0, none⟩)) := cell_alloc_at _ _ _ rfl 0
    have hB4 := hB.keep hbn
    have hb34 := Below.next hb3 hbn
    have hG4 := hG.keep hb34
    have x4 := (HX.out.keep hb1).keep hbn
    have c3 := x4.cell 3 rfl
    have p0 := hB4.cell 0 rfl
    have hy4 := (hy.keep hbU).keep (Below.next hb1 hbn)
    have HCo := Lib.hid (containsCos_any (fun x => !(decide (0 ≤ x) && decide (x < (tblOf P M.toNat mod).q))) w1.heap.size ay ny cy y _ hy4 fun k hk => exCos1_any w1.heap.size w2.heap.size (nth y k) xq p0 hG4)
    rw [any_els] at HCo
    have HB := Lib.hid hB4
    have HB1 := Lib.hid hB
    have hmf : ∀ (fn : Fn) (first cap : Array Value) (w : World), (Instr.makeFunc fn first cap).run Tryz.prog w = .ok (.func fn first cap) w := fun _ _ _ _ => rfl
    have hsw1 : w2.heap.size ≠ w1.heap.size := by have := hB.1; omega
    clear hB p0 hE hy4 hG4
    by_cases h1 : (ny : Int) ≠ N
    · have HE2 : Hid (cosE P M mod N L y W = 4) := by show _ = _; rw [HE.out, if_pos h1]
      have d1 : ((ny : Int) != N) = true := by simpa using h1
      clear h1
      go_wp2_with fail
      go_ret2
      exact ⟨hbF, .inl ⟨by rw [HE2.out]; decide, by rw [HE2.out]; rfl⟩⟩
    have hny : (ny : Int) = N := Classical.not_not.1 h1
    have d1 : ((ny : Int) != N) = false := by simp [hny]
    have HE1 : Hid (cosE P M mod N L y W = if elsQ (tblOf P M.toNat mod).q y = false then 2 else if W < 0 ∨ N < W then 6 else 0) := by show _ = _; rw [HE.out, if_neg h1]
    have Hny := Lib.hid hny
    clear h1 hny
    obtain ⟨ze, hze⟩ : ∃ ze, elsQ (tblOf P M.toNat mod).q y = ze := ⟨_, rfl⟩
    rw [hze] at HCo HE1
    have Hze := Lib.hid hze
    clear hze
    cases ze
    · have HE2 : Hid (cosE P M mod N L y W = 2) := by show _ = _; rw [HE1.out, if_pos rfl]
      go_wp2_with fail
      refine HCo.out.mono ?_
      rintro e w5 ⟨rfl, rfl⟩
      go_wp2_with fail
      go_ret2
      exact ⟨hbF, .inl ⟨by rw [HE2.out]; decide, by rw [HE2.out]; rfl⟩⟩
    have HE3 : Hid (cosE P M mod N L y W = if W < 0 ∨ N < W then 6 else 0) := by show _ = _; rw [HE1.out, if_neg (by decide)]
    by_cases h3 : W < 0
    · have HE2 : Hid (cosE P M mod N L y W = 6) := by show _ = _; rw [HE3.out, if_pos (.inl h3)]
      have d3 : decide (W < 0) = true := by simpa using h3
      clear h3
      go_wp2_with fail
      refine HCo.out.mono ?_
      rintro e w5 ⟨rfl, rfl⟩
      go_wp2_with fail
      go_ret2
      exact ⟨hbF, .inl ⟨by rw [HE2.out]; decide, by rw [HE2.out]; rfl⟩⟩
    have d3 : decide (W < 0) = false := by simpa using h3
    by_cases h4 : N < W
    · have HE2 : Hid (cosE P M mod N L y W = 6) := by show _ = _; rw [HE3.out, if_pos (.inr h4)]
      have d4 : decide (N < W) = true := by simpa using h4
      clear h3 h4
      go_wp2_with fail
      refine HCo.out.mono ?_
      rintro e w5 ⟨rfl, rfl⟩
      go_wp2_with fail
      go_ret2
      exact ⟨hbF, .inl ⟨by rw [HE2.out]; decide, by rw [HE2.out]; rfl⟩⟩
    have d4 : decide (N < W) = false := by simpa using h4
    have HE2 : Hid (cosE P M mod N L y W = 0) := by
      show _ = _
      rw [HE3.out, if_neg]
      rintro (h | h)
      · exact h3 h
      · exact h4 h
    obtain ⟨m, hm, hm1, hm2, hLl, hRw⟩ := Hrw.out
    have hPE0 : Hid (PEnv w2 b (tblOf P M.toNat mod) a n L N.toNat ay ny ⟨0, W.toNat, true, y⟩) := by
      have hn256 : n ≤ 1000000 := by rw [← Hil.out]; omega
      have hNm : N.toNat = ny := by have := Hny.out; omega
      have hyw2 := (hy.keep hbU).keep hb2
      exact { g := hG, mat := (hi.keep hbU).keep hb2, rws := by rw [hm, Int.toNat_natCast]; exact hRw, n6 := hn256, m6 := by omega, w6 := by show W.toNat ≤ 64; omega, yl := fun _ => hNm.symm, y := fun _ => by rw [hNm]; exact hyw2, ye := fun _ => elsQ_els Hze.out }
    have Hnn := Lib.hid (And.intro (show 0 ≤ N by omega) (show 0 ≤ W by omega))
    go_wp2_with fail
    refine HCo.out.mono ?_
    rintro e w5 ⟨rfl, rfl⟩
    clear HCo
    go_wp2_with fail
    obtain ⟨Y, hY⟩ : ∃ Y : World, Y = w1.alloc (.cells #[.pointer (some ⟨w2.heap.size, 0, none⟩)] 83) := ⟨_, rfl⟩
    rw [← hY] at HB xq hbF hb34 ⊢
    have HF : Hid (∀ Z : World, Z = ((Y.setCell ⟨w2.heap.size, 6, none⟩ (.slice ay ny cy)).setCell ⟨w2.heap.size, 7, none⟩ (.bool true)).drew → ExCosetPost P M am mn cm mod N a n c L ay ny cy y W w (.returned (.tuple #[.pointer (some ⟨w2.heap.size, 0, none⟩), .int .i64 0])) Z) := fun Z hZ => by
      rw [hZ]
      have h5 := ((HB.out.setCell 6 (.slice ay ny cy)).setCell 7 (.bool true)).keep (Below.refl _ _).drew
      refine ⟨((hbF.setCell (p := ⟨w2.heap.size, 6, none⟩) (Nat.le_trans hbU.size hb2.size) _).setCell (p := ⟨w2.heap.size, 7, none⟩) (Nat.le_trans hbU.size hb2.size) _).drew, .inr ⟨HE2.out, w2.heap.size, rfl, b, w2, rfl, Below.next hbU hb2, hPE0.out, ((hb34.setCell (by simp) _).setCell (by simp) _).drew, ?_⟩⟩
      rw [prfL]
      dsimp only
      rw [Int.toNat_of_nonneg Hnn.out.1, Int.toNat_of_nonneg Hnn.out.2]
      exact h5
    have HF2 : Hid (∀ Z : World, Z = ((Y.setCell ⟨w2.heap.size, 6, none⟩ (.slice ay ny cy)).setCell ⟨w2.heap.size, 7, none⟩ (.bool true)) → ExCosetPost P M am mn cm mod N a n c L ay ny cy y W w (.returned (.tuple #[.pointer (some ⟨w2.heap.size, 0, none⟩), .int .i64 0])) Z) := fun Z hZ => by
      rw [hZ]
      have h5 := ((HB.out.setCell 6 (.slice ay ny cy)).setCell 7 (.bool true))
      refine ⟨((hbF.setCell (p := ⟨w2.heap.size, 6, none⟩) (Nat.le_trans hbU.size hb2.size) _).setCell (p := ⟨w2.heap.size, 7, none⟩) (Nat.le_trans hbU.size hb2.size) _), .inr ⟨HE2.out, w2.heap.size, rfl, b, w2, rfl, Below.next hbU hb2, hPE0.out, ((hb34.setCell (by simp) _).setCell (by simp) _), ?_⟩⟩
      rw [prfL]
      dsimp only
      rw [Int.toNat_of_nonneg Hnn.out.1, Int.toNat_of_nonneg Hnn.out.2]
      exact h5
    have f6 := HB.out.frozen 6
    have q6 := HB.out.cell 6 rfl
    have f7 := HB.out.frozen 7
    have q7 := HB.out.cell 7 rfl
    have s7 : (Y.setCell ⟨w2.heap.size, 6, none⟩ (.slice ay ny cy)).cell? ⟨w2.heap.size, 7, none⟩ = some (.bool false) := (HB.out.setCell 6 (.slice ay ny cy)).cell 7 rfl
    have s6 : (Y.setCell ⟨w2.heap.size, 7, none⟩ (.bool true)).cell? ⟨w2.heap.size, 6, none⟩ = some (.slice none 0 0) := (HB.out.setCell 7 (.bool true)).cell 6 rfl
    have x6 : (Y.setCell ⟨w2.heap.size, 6, none⟩ (.slice ay ny cy)).cell? ⟨w1.heap.size, 0, none⟩ = some (.pointer (some ⟨w2.heap.size, 0, none⟩)) := by
      rw [World.cell?_setCell_other _ _ _ _ (by simp <;> omega)]; exact xq
    have x7 : (Y.setCell ⟨w2.heap.size, 7, none⟩ (.bool true)).cell? ⟨w1.heap.size, 0, none⟩ = some (.pointer (some ⟨w2.heap.size, 0, none⟩)) := by
      rw [World.cell?_setCell_other _ _ _ _ (by simp <;> omega)]; exact xq
    have x67 : ((Y.setCell ⟨w2.heap.size, 6, none⟩ (.slice ay ny cy)).setCell ⟨w2.heap.size, 7, none⟩ (.bool true)).cell? ⟨w1.heap.size, 0, none⟩ = some (.pointer (some ⟨w2.heap.size, 0, none⟩)) := by
      rw [World.cell?_setCell_other _ _ _ _ (by simp <;> omega)]; exact x6
    clear h3 h4 hm hm1 hm2 hY hbF hb34
    go_region
    all_goals (
      go_wp2_with fail
      go_ret2
      first | exact HF.out _ rfl | exact HF2.out _ rfl)

def chkCE (P M : Int) (mod : List Int) (N : Int) (L : List (List Int)) (y : List Int) (W : Int) (ts : List (List Int)) : Int :=
  if cosE P M mod N L y W = 0 then provS (tblOf P M.toNat mod).ops L N.toNat ⟨0, W.toNat, true, y⟩ ts else cosE P M mod N L y W
def bldCE (P M : Int) (mod : List Int) (N : Int) (L : List (List Int)) (y : List Int) (W : Int) : Int × List (List Int) :=
  if cosE P M mod N L y W = 0 then treeS (tblOf P M.toNat mod).ops L N.toNat ⟨0, W.toNat, true, y⟩ else (cosE P M mod N L y W, [])

set_option maxRecDepth 100000 in
set_option maxHeartbeats 1600000 in
theorem exCheckCoset_any (P M : Int) (am : Option Addr) (mn cm : Nat) (mod : List Int) (N : Int) (a : Option Addr) (n c : Nat) (L : List (List Int)) (ay : Option Addr) (ny cy : Nat) (y : List Int) (W : Int) (ax : Option Addr) (nx cx : Nat) (ts : List (List Int)) (w : World)
    (hmod : Ints w am mn mod) (hi : Mat w a n L) (hy : Ints w ay ny y) (hts : Mat w ax nx ts) :
    Calls Tryz.prog 27 #[.agg #[.int .i64 P, .int .i64 M, .slice am mn cm, .int .i64 N, .slice a n c], .slice ay ny cy, .int .i64 W, .agg #[.slice ax nx cx]] w fun e w' => e = .returned (.int .i64 (chkCE P M mod N L y W ts)) ∧ Below w.heap.size w w' := by
  go_enter Tryz.func27, Tryz.ntmps27
  go_wp2_with fail
  obtain ⟨U, hU⟩ : ∃ U : World, U = (w.alloc (.cells #[.int .i64 P, .int .i64 M, .slice am mn cm, .int .i64 N, .slice a n c] 27)).alloc (.cells #[.slice ax nx cx] 30) := ⟨_, rfl⟩
  rw [← hU]
  have hbU : Below w.heap.size w U := by rw [hU]; exact below2 _ _ _
  have x0 : Box U (w.heap.size + 1) [.slice ax nx cx] := by rw [hU]; exact Box.new _ _ _ (by simp)
  have HX := Lib.hid x0
  clear hU x0
  refine (exCoset_any P M am mn cm mod N a n c L ay ny cy y W U (hmod.keep hbU) (hi.keep hbU) (hy.keep hbU)).mono ?_
  rintro e w1 ⟨hb1, ⟨hE, rfl⟩ | ⟨hE, pb, rfl, hCl⟩⟩
  · have HE : Hid (chkCE P M mod N L y W ts = cosE P M mod N L y W) := if_neg hE
    have hE1 : (cosE P M mod N L y W == 0) = false := by simpa using hE
    have hE2 : (cosE P M mod N L y W != 0) = true := by simpa using hE
    have hbF := Below.next hbU hb1
    clear hE
    go_wp2_with fail
    go_ret
    exact ⟨by rw [HE.out]; rfl, hbF⟩
  · have HE : Hid (chkCE P M mod N L y W ts = provS (tblOf P M.toNat mod).ops L N.toNat ⟨0, W.toNat, true, y⟩ ts) := if_pos hE
    have x1 := HX.out.keep hb1
    have c0 := x1.cell 0 rfl
    obtain ⟨b, w2, rfl, hb2, hPE, hb3, hB⟩ := hCl
    have HPr := Lib.hid (exProves_any w2.heap.size P M am mn cm c cy ax nx cx ts hPE ((hts.keep hbU).keep hb2) (Nat.le_refl _) hb3 hB)
    have hbw2 := Below.next hbU hb2
    clear x1 hB hPE hE
    go_wp2_with fail
    refine HPr.out.mono ?_
    rintro e w3 ⟨rfl, hb4⟩
    have hbF := Below.next hbw2 hb4
    go_wp2_with fail
    go_ret
    exact ⟨by rw [HE.out]; rfl, hbF⟩

set_option maxRecDepth 100000 in
set_option maxHeartbeats 1600000 in
theorem exBuildCoset_any (P M : Int) (am : Option Addr) (mn cm : Nat) (mod : List Int) (N : Int) (a : Option Addr) (n c : Nat) (L : List (List Int)) (ay : Option Addr) (ny cy : Nat) (y : List Int) (W : Int) (w : World)
    (hmod : Ints w am mn mod) (hi : Mat w a n L) (hy : Ints w ay ny y) :
    Calls Tryz.prog 29 #[.agg #[.int .i64 P, .int .i64 M, .slice am mn cm, .int .i64 N, .slice a n c], .slice ay ny cy, .int .i64 W] w (ExBldPost (bldCE P M mod N L y W) w) := by
  obtain ⟨V, hV⟩ : ∃ V, bldCE P M mod N L y W = V := ⟨_, rfl⟩
  rw [hV]
  have HV := Lib.hid hV
  clear hV
  go_enter Tryz.func29, Tryz.ntmps29
  go_wp2_with fail
  obtain ⟨U, hU⟩ : ∃ U : World, U = (w.alloc (.cells #[.int .i64 P, .int .i64 M, .slice am mn cm, .int .i64 N, .slice a n c] 27)).alloc (.cells #[.slice none 0 0] 30) := ⟨_, rfl⟩
  rw [← hU]
  have hbU : Below w.heap.size w U := by rw [hU]; exact below2 _ _ _
  have hsU : U.heap.size = w.heap.size + 2 := by rw [hU]; simp
  have x0 : Box U (w.heap.size + 1) [.slice none 0 0] := by rw [hU]; exact Box.new _ _ _ (by simp)
  have HX := Lib.hid x0
  clear hU x0
  refine (exCoset_any P M am mn cm mod N a n c L ay ny cy y W U (hmod.keep hbU) (hi.keep hbU) (hy.keep hbU)).mono ?_
  rintro e w1 ⟨hb1, ⟨hE, rfl⟩ | ⟨hE, pb, rfl, hCl⟩⟩
  · have HE : Hid (V = (cosE P M mod N L y W, [])) := by show _ = _; rw [← HV.out]; exact if_neg hE
    have hE1 : (cosE P M mod N L y W == 0) = false := by simpa using hE
    have hE2 : (cosE P M mod N L y W != 0) = true := by simpa using hE
    have Hne := Lib.hid hE
    have x1 := HX.out.keep hb1
    have z0 := x1.cell 0 rfl
    have f0 := x1.frozen 0
    have HF := Lib.hid (fun v : Value => (Below.next hbU hb1).setCell (p := ⟨w.heap.size + 1, 0, none⟩) (by simp) v)
    clear hE x1
    generalize cosE P M mod N L y W = er at *
    go_wp2_with fail
    have z1 : (w1.setCell ⟨w.heap.size + 1, 0, none⟩ (.slice none 0 0)).cell? ⟨w.heap.size + 1, 0, none⟩ = some (.slice none 0 0) := World.cell?_setCell_same _ _ _ z0
    exact bodyPost_ret (v := .tuple #[.agg #[.slice none 0 0], .int .i64 er]) (by simp [results, Tryz.results29, go_sem, z0, z1]) rfl ⟨HF.out _, .inl ⟨by rw [HE.out]; exact Hne.out, by rw [HE.out]⟩⟩
  · have HE : Hid (treeS (tblOf P M.toNat mod).ops L N.toNat ⟨0, W.toNat, true, y⟩ = V) := by show _ = _; rw [← HV.out]; exact (if_pos hE).symm
    have x1 := HX.out.keep hb1
    obtain ⟨b, w2, rfl, hb2, hPE, hb3, hB⟩ := hCl
    have HPr := exTree_any w2.heap.size P M am mn cm c cy hPE (Nat.le_refl _) hb3 hB
    rw [HE.out] at HPr
    have HTr := Lib.hid HPr
    have hbw2 := Below.next hbU hb2
    have x2 := HX.out.keep hb2
    have hs2 : w.heap.size + 1 < w2.heap.size := x2.1
    clear x1 hB hPE hE HPr
    go_wp2_with fail
    refine HTr.out.mono ?_
    rintro e w3 ⟨hb4, ⟨hv, rfl⟩ | ⟨hv, ar, cr, R, rfl, hO⟩⟩
    · have x3 := x2.keep hb4
      have z0 := x3.cell 0 rfl
      have f0 := x3.frozen 0
      have HF := Lib.hid (fun v : Value => (Below.next hbw2 hb4).setCell (p := ⟨w.heap.size + 1, 0, none⟩) (by simp) v)
      have Hne := Lib.hid hv
      obtain ⟨ve, vt⟩ := V
      dsimp only at Hne ⊢
      clear x3 hv
      go_wp2_with fail
      have z1 : (w3.setCell ⟨w.heap.size + 1, 0, none⟩ (.slice none 0 0)).cell? ⟨w.heap.size + 1, 0, none⟩ = some (.slice none 0 0) := World.cell?_setCell_same _ _ _ z0
      exact bodyPost_ret (v := .tuple #[.agg #[.slice none 0 0], .int .i64 ve]) (by simp [results, Tryz.results29, go_sem, z0, z1]) rfl ⟨HF.out _, .inl ⟨Hne.out, rfl⟩⟩
    · have x3 := x2.keep hb4
      have z0 := x3.cell 0 rfl
      have f0 := x3.frozen 0
      have hF : ∀ v : Value, Below w.heap.size w (w3.setCell ⟨w.heap.size + 1, 0, none⟩ v) ∧ OMat (w3.setCell ⟨w.heap.size + 1, 0, none⟩ v) w.heap.size ar V.2.length cr R V.2 := fun v => by
        refine ⟨(Below.next hbw2 hb4).setCell (by simp) v, ?_⟩
        refine (OMat.mono hO hbw2.size).of_blocks fun x hx => Below.heap_setCell _ _ _ _ fun e => ?_
        have h1 := (hO.lt x hx).1
        have e' : x = w.heap.size + 1 := e
        omega
      have HF := Lib.hid hF
      obtain ⟨ve, vt⟩ := V
      dsimp only at hv HF ⊢
      subst hv
      clear x3 hO hF
      go_wp2_with fail
      have z1 : (w3.setCell ⟨w.heap.size + 1, 0, none⟩ (.slice ar vt.length cr)).cell? ⟨w.heap.size + 1, 0, none⟩ = some (.slice ar vt.length cr) := World.cell?_setCell_same _ _ _ z0
      exact bodyPost_ret (v := .tuple #[.agg #[.slice ar vt.length cr], .int .i64 0]) (by simp [results, Tryz.results29, go_sem, z0, z1]) rfl ⟨(HF.out _).1, .inr ⟨rfl, ar, cr, R, rfl, (HF.out _).2⟩⟩
end

end Go.Proofs.YtapjcccpokhhhaaGreat
