/- The family of a code (plain laws): its members are information sets with new positions, the positions left are zero columns, and the bound for the weight. -/
import Derived.Test.YtapjcccpokhhhaaGreatG27
import Derived.Deep.RegionHeld3
import Derived.Test.YtapjcccpokhhhaaGreatG7
import Derived.Test.YtapjcccpokhhhaaGreatG19
import Derived.Test.YtapjcccpokhhhaaGreatG5
import Derived.Test.YtapjcccpokhhhaaGreatG9
import Derived.Test.YtapjcccpokhhhaaGreatG20
import Derived.Test.YtapjcccpokhhhaaGreatG8
import Derived.Test.YtapjcccpokhhhaaGreatG16
import Derived.Test.YtapjcccpokhhhaaGreatG21
import Derived.Test.YtapjcccpokhhhaaGreatG10
namespace Go.Proofs.YtapjcccpokhhhaaGreat
set_option linter.unusedVariables false
set_option linter.unusedSimpArgs false
set_option linter.unusedSectionVars false

/- The walks of CheckRank, BuildRank, CheckDistance, BuildDistance of the package exclusion. -/
section
open Go.RowKit

def chkRE (P M : Int) (mod : List Int) (N : Int) (L : List (List Int)) (mm W : Int) (ts : List (List Int)) : Int :=
  if rkcE P M mod N L mm W = 0 then provS (tblOf P M.toNat mod).ops L N.toNat ⟨mm.toNat, W.toNat, false, []⟩ ts else rkcE P M mod N L mm W
def bldRE (P M : Int) (mod : List Int) (N : Int) (L : List (List Int)) (mm W : Int) : Int × List (List Int) :=
  if rkcE P M mod N L mm W = 0 then treeS (tblOf P M.toNat mod).ops L N.toNat ⟨mm.toNat, W.toNat, false, []⟩ else (rkcE P M mod N L mm W, [])
def ExBldPost (V : Int × List (List Int)) (w : World) (e : Ending) (w' : World) : Prop :=
  Below w.heap.size w w' ∧ ((V.1 ≠ 0 ∧ e = .returned (.tuple #[.agg #[.slice none 0 0], .int .i64 V.1])) ∨
    (V.1 = 0 ∧ ∃ ar cr R, e = .returned (.tuple #[.agg #[.slice ar V.2.length cr], .int .i64 0]) ∧ OMat w' w.heap.size ar V.2.length cr R V.2))

set_option maxRecDepth 100000 in
set_option maxHeartbeats 1600000 in
theorem exCheckRank_any (P M : Int) (am : Option Addr) (mn cm : Nat) (mod : List Int) (N : Int) (a : Option Addr) (n c : Nat) (L : List (List Int)) (mm W : Int) (ax : Option Addr) (nx cx : Nat) (ts : List (List Int)) (w : World)
    (hmod : Ints w am mn mod) (hi : Mat w a n L) (hts : Mat w ax nx ts) :
    Calls Tryz.prog 17 #[.agg #[.int .i64 P, .int .i64 M, .slice am mn cm, .int .i64 N, .slice a n c], .int .i64 mm, .int .i64 W, .agg #[.slice ax nx cx]] w fun e w' => e = .returned (.int .i64 (chkRE P M mod N L mm W ts)) ∧ Below w.heap.size w w' := by
  go_enter Tryz.func17, Tryz.ntmps17
  go_wp2_with fail
  obtain ⟨U, hU⟩ : ∃ U : World, U = (w.alloc (.cells #[.int .i64 P, .int .i64 M, .slice am mn cm, .int .i64 N, .slice a n c] 27)).alloc (.cells #[.slice ax nx cx] 30) := ⟨_, rfl⟩
  rw [← hU]
  have hbU : Below w.heap.size w U := by rw [hU]; exact below2 _ _ _
  have x0 : Box U (w.heap.size + 1) [.slice ax nx cx] := by rw [hU]; exact Box.new _ _ _ (by simp)
  have HX := Lib.hid x0
  clear hU x0
  refine (exRank_any P M am mn cm mod N a n c L mm W U (hmod.keep hbU) (hi.keep hbU)).mono ?_
  rintro e w1 ⟨hb1, ⟨hE, rfl⟩ | ⟨hE, pb, rfl, hCl⟩⟩
  · have HE : Hid (chkRE P M mod N L mm W ts = rkcE P M mod N L mm W) := if_neg hE
    have hE1 : (rkcE P M mod N L mm W == 0) = false := by simpa using hE
    have hE2 : (rkcE P M mod N L mm W != 0) = true := by simpa using hE
    have hbF := Below.next hbU hb1
    clear hE
    go_wp2_with fail
    go_ret
    exact ⟨by rw [HE.out]; rfl, hbF⟩
  · have HE : Hid (chkRE P M mod N L mm W ts = provS (tblOf P M.toNat mod).ops L N.toNat ⟨mm.toNat, W.toNat, false, []⟩ ts) := if_pos hE
    have x1 := HX.out.keep hb1
    have c0 := x1.cell 0 rfl
    obtain ⟨b, w2, rfl, hb2, hPE, hb3, hB⟩ := hCl
    have HPr := Lib.hid (exProves_any w2.heap.size P M am mn cm c 0 ax nx cx ts hPE ((hts.keep hbU).keep hb2) (Nat.le_refl _) hb3 hB)
    have hbw2 := Below.next hbU hb2
    clear x1 hB hPE hE
    go_wp2_with fail
    refine HPr.out.mono ?_
    rintro e w3 ⟨rfl, hb4⟩
    have hbF := Below.next hbw2 hb4
    go_wp2_with fail
    go_ret
    exact ⟨by rw [HE.out]; rfl, hbF⟩

set_option maxRecDepth 100000 in
set_option maxHeartbeats 1600000 in
theorem exBuildRank_any (P M : Int) (am : Option Addr) (mn cm : Nat) (mod : List Int) (N : Int) (a : Option Addr) (n c : Nat) (L : List (List Int)) (mm W : Int) (w : World)
    (hmod : Ints w am mn mod) (hi : Mat w a n L) :
    Calls Tryz.prog 20 #[.agg #[.int .i64 P, .int .i64 M, .slice am mn cm, .int .i64 N, .slice a n c], .int .i64 mm, .int .i64 W] w (ExBldPost (bldRE P M mod N L mm W) w) := by
  obtain ⟨V, hV⟩ : ∃ V, bldRE P M mod N L mm W = V := ⟨_, rfl⟩
  rw [hV]
  have HV := Lib.hid hV
  clear hV
  go_enter Tryz.func20, Tryz.ntmps20
  go_wp2_with fail
  obtain ⟨U, hU⟩ : ∃ U : World, U = (w.alloc (.cells #[.int .i64 P, .int .i64 M, .slice am mn cm, .int .i64 N, .slice a n c] 27)).alloc (.cells #[.slice none 0 0] 30) := ⟨_, rfl⟩
  rw [← hU]
  have hbU : Below w.heap.size w U := by rw [hU]; exact below2 _ _ _
  have hsU : U.heap.size = w.heap.size + 2 := by rw [hU]; simp
  have x0 : Box U (w.heap.size + 1) [.slice none 0 0] := by rw [hU]; exact Box.new _ _ _ (by simp)
  have HX := Lib.hid x0
  clear hU x0
  refine (exRank_any P M am mn cm mod N a n c L mm W U (hmod.keep hbU) (hi.keep hbU)).mono ?_
  rintro e w1 ⟨hb1, ⟨hE, rfl⟩ | ⟨hE, pb, rfl, hCl⟩⟩
  · have HE : Hid (V = (rkcE P M mod N L mm W, [])) := by show _ = _; rw [← HV.out]; exact if_neg hE
    have hE1 : (rkcE P M mod N L mm W == 0) = false := by simpa using hE
    have hE2 : (rkcE P M mod N L mm W != 0) = true := by simpa using hE
    have Hne := Lib.hid hE
    have x1 := HX.out.keep hb1
    have z0 := x1.cell 0 rfl
    have f0 := x1.frozen 0
    have HF := Lib.hid (fun v : Value => (Below.next hbU hb1).setCell (p := ⟨w.heap.size + 1, 0, none⟩) (by simp) v)
    clear hE x1
    generalize rkcE P M mod N L mm W = er at *
    go_wp2_with fail
    have z1 : (w1.setCell ⟨w.heap.size + 1, 0, none⟩ (.slice none 0 0)).cell? ⟨w.heap.size + 1, 0, none⟩ = some (.slice none 0 0) := World.cell?_setCell_same _ _ _ z0
    exact bodyPost_ret (v := .tuple #[.agg #[.slice none 0 0], .int .i64 er]) (by simp [results, Tryz.results20, go_sem, z0, z1]) rfl ⟨HF.out _, .inl ⟨by rw [HE.out]; exact Hne.out, by rw [HE.out]⟩⟩
  · have HE : Hid (treeS (tblOf P M.toNat mod).ops L N.toNat ⟨mm.toNat, W.toNat, false, []⟩ = V) := by show _ = _; rw [← HV.out]; exact (if_pos hE).symm
    have x1 := HX.out.keep hb1
    obtain ⟨b, w2, rfl, hb2, hPE, hb3, hB⟩ := hCl
    have HPr := exTree_any w2.heap.size P M am mn cm c 0 hPE (Nat.le_refl _) hb3 hB
    rw [HE.out] at HPr
    have HTr := Lib.hid HPr
    have hbw2 := Below.next hbU hb2
    have x2 := HX.out.keep hb2
    have hs2 : w.heap.size + 1 < w2.heap.size := x2.1
    clear x1 hB hPE hE HPr
    go_wp2_with fail
    refine HTr.out.mono ?_
    rintro e w3 ⟨hb4, ⟨hv, rfl⟩ | ⟨hv, ar, cr, R, rfl, hO⟩⟩
    · have x3 := x2.keep hb4
      have z0 := x3.cell 0 rfl
      have f0 := x3.frozen 0
      have HF := Lib.hid (fun v : Value => (Below.next hbw2 hb4).setCell (p := ⟨w.heap.size + 1, 0, none⟩) (by simp) v)
      have Hne := Lib.hid hv
      obtain ⟨ve, vt⟩ := V
      dsimp only at Hne ⊢
      clear x3 hv
      go_wp2_with fail
      have z1 : (w3.setCell ⟨w.heap.size + 1, 0, none⟩ (.slice none 0 0)).cell? ⟨w.heap.size + 1, 0, none⟩ = some (.slice none 0 0) := World.cell?_setCell_same _ _ _ z0
      exact bodyPost_ret (v := .tuple #[.agg #[.slice none 0 0], .int .i64 ve]) (by simp [results, Tryz.results20, go_sem, z0, z1]) rfl ⟨HF.out _, .inl ⟨Hne.out, rfl⟩⟩
    · have x3 := x2.keep hb4
      have z0 := x3.cell 0 rfl
      have f0 := x3.frozen 0
      have hF : ∀ v : Value, Below w.heap.size w (w3.setCell ⟨w.heap.size + 1, 0, none⟩ v) ∧ OMat (w3.setCell ⟨w.heap.size + 1, 0, none⟩ v) w.heap.size ar V.2.length cr R V.2 := fun v => by
        refine ⟨(Below.next hbw2 hb4).setCell (by simp) v, ?_⟩
        refine (OMat.mono hO hbw2.size).of_blocks fun x hx => Below.heap_setCell _ _ _ _ fun e => ?_
        have h1 := (hO.lt x hx).1
        have e' : x = w.heap.size + 1 := e
        omega
      have HF := Lib.hid hF
      obtain ⟨ve, vt⟩ := V
      dsimp only at hv HF ⊢
      subst hv
      clear x3 hO hF
      go_wp2_with fail
      have z1 : (w3.setCell ⟨w.heap.size + 1, 0, none⟩ (.slice ar vt.length cr)).cell? ⟨w.heap.size + 1, 0, none⟩ = some (.slice ar vt.length cr) := World.cell?_setCell_same _ _ _ z0
      exact bodyPost_ret (v := .tuple #[.agg #[.slice ar vt.length cr], .int .i64 0]) (by simp [results, Tryz.results20, go_sem, z0, z1]) rfl ⟨(HF.out _).1, .inr ⟨rfl, ar, cr, R, rfl, (HF.out _).2⟩⟩
end

/- The walks of CheckDistance and BuildDistance of the package exclusion. -/
section
open Go.RowKit

theorem rkc_wt {P M : Int} {mod : List Int} {N : Int} {L : List (List Int)} {d z : Int} (hz : 1 ≤ N → N ≤ 64 → z = wtD N d) (mm : Int) : rkcE P M mod N L mm z = rkcE P M mod N L mm (wtD N d) := by
  unfold rkcE
  by_cases hE : codeE P M mod N L = 0
  · obtain ⟨_, h1, h2, _⟩ := codeE_zero hE
    rw [hz h1 h2]
  · rw [if_neg hE, if_neg hE]
theorem rkc_code {P M : Int} {mod : List Int} {N : Int} {L : List (List Int)} {mm z : Int} (h : rkcE P M mod N L mm z = 0) : codeE P M mod N L = 0 := by
  unfold rkcE at h
  by_cases hE : codeE P M mod N L = 0
  · exact hE
  · rw [if_neg hE] at h; exact h
theorem chk_wt {P M : Int} {mod : List Int} {N : Int} {L : List (List Int)} {d z : Int} (hz : 1 ≤ N → N ≤ 64 → z = wtD N d) (mm : Int) (ts : List (List Int)) : chkRE P M mod N L mm z ts = chkRE P M mod N L mm (wtD N d) ts := by
  by_cases hE : codeE P M mod N L = 0
  · obtain ⟨_, h1, h2, _⟩ := codeE_zero hE
    rw [hz h1 h2]
  · unfold chkRE
    rw [rkc_wt hz, if_neg (fun h => hE (rkc_code h)), if_neg (fun h => hE (rkc_code h))]
theorem bld_wt {P M : Int} {mod : List Int} {N : Int} {L : List (List Int)} {d z : Int} (hz : 1 ≤ N → N ≤ 64 → z = wtD N d) (mm : Int) : bldRE P M mod N L mm z = bldRE P M mod N L mm (wtD N d) := by
  by_cases hE : codeE P M mod N L = 0
  · obtain ⟨_, h1, h2, _⟩ := codeE_zero hE
    rw [hz h1 h2]
  · unfold bldRE
    rw [rkc_wt hz, if_neg (fun h => hE (rkc_code h)), if_neg (fun h => hE (rkc_code h))]

set_option maxRecDepth 100000 in
set_option maxHeartbeats 1600000 in
theorem exCheckDistance_any (P M : Int) (am : Option Addr) (mn cm : Nat) (mod : List Int) (N : Int) (a : Option Addr) (n c : Nat) (L : List (List Int)) (d : Int) (ax : Option Addr) (nx cx : Nat) (ts : List (List Int)) (w : World)
    (hmod : Ints w am mn mod) (hi : Mat w a n L) (hts : Mat w ax nx ts) :
    Calls Tryz.prog 25 #[.agg #[.int .i64 P, .int .i64 M, .slice am mn cm, .int .i64 N, .slice a n c], .int .i64 d, .agg #[.slice ax nx cx]] w fun e w' => e = .returned (.int .i64 (chkRE P M mod N L n (wtD N d) ts)) ∧ Below w.heap.size w w' := by
  obtain ⟨V, hV⟩ : ∃ V, chkRE P M mod N L n (wtD N d) ts = V := ⟨_, rfl⟩
  rw [hV]
  have HCk : Hid (∀ (W : World) (z : Int), Below w.heap.size w W → (1 ≤ N → N ≤ 64 → z = wtD N d) → Calls Tryz.prog 17 #[.agg #[.int .i64 P, .int .i64 M, .slice am mn cm, .int .i64 N, .slice a n c], .int .i64 n, .int .i64 z, .agg #[.slice ax nx cx]] W
      fun e w' => e = .returned (.int .i64 V) ∧ Below W.heap.size W w') := fun W z hW hz => by
    have h1 := exCheckRank_any P M am mn cm mod N a n c L n z ax nx cx ts W (hmod.keep hW) (hi.keep hW) (hts.keep hW)
    rw [chk_wt hz, hV] at h1
    exact h1
  clear hmod hi hts hV
  go_enter Tryz.func25, Tryz.ntmps25
  go_upto_region 1 with fail
  obtain ⟨U, hU⟩ : ∃ U : World, U = (w.alloc (.cells #[.int .i64 P, .int .i64 M, .slice am mn cm, .int .i64 N, .slice a n c] 27)).alloc (.cells #[.slice ax nx cx] 30) := ⟨_, rfl⟩
  rw [← hU]
  have hbU : Below w.heap.size w U := by rw [hU]; exact below2 _ _ _
  have x0 : Box U w.heap.size [.int .i64 P, .int .i64 M, .slice am mn cm, .int .i64 N, .slice a n c] := by rw [hU]; exact (Box.new _ _ _ rfl).alloc _
  have y0 : Box U (w.heap.size + 1) [.slice ax nx cx] := by rw [hU]; exact Box.new _ _ _ (by simp)
  have HS : Hid (∀ V, Below U.heap.size U V → V.cell? ⟨w.heap.size, 0, none⟩ = some (.int .i64 P) ∧ V.cell? ⟨w.heap.size, 1, none⟩ = some (.int .i64 M) ∧ V.cell? ⟨w.heap.size, 2, none⟩ = some (.slice am mn cm) ∧ V.cell? ⟨w.heap.size, 3, none⟩ = some (.int .i64 N) ∧ V.cell? ⟨w.heap.size, 4, none⟩ = some (.slice a n c) ∧
      V.cell? ⟨w.heap.size + 1, 0, none⟩ = some (.slice ax nx cx) ∧ Below U.heap.size U V) := fun V hV => by
    have x1 := x0.keep hV
    exact ⟨x1.cell 0 rfl, x1.cell 1 rfl, x1.cell 2 rfl, x1.cell 3 rfl, x1.cell 4 rfl, (y0.keep hV).cell 0 rfl, hV⟩
  have HbU := Lib.hid hbU
  clear hU hbU x0 y0
  go_cut [6] (fun v wx => v = .int .i64 V ∧ Below U.heap.size U wx)
  case first =>
    go_region_held3 (fun V => V.cell? ⟨w.heap.size, 0, none⟩ = some (.int .i64 P) ∧ V.cell? ⟨w.heap.size, 1, none⟩ = some (.int .i64 M) ∧ V.cell? ⟨w.heap.size, 2, none⟩ = some (.slice am mn cm) ∧ V.cell? ⟨w.heap.size, 3, none⟩ = some (.int .i64 N) ∧ V.cell? ⟨w.heap.size, 4, none⟩ = some (.slice a n c) ∧
        V.cell? ⟨w.heap.size + 1, 0, none⟩ = some (.slice ax nx cx) ∧ Below U.heap.size U V)
      ((refine HS.out _ ?_; first | exact hb5w | exact hb3w | exact (Below.refl _ _).drew | assumption | (go_split_ands; assumption)))
      (first
      | (go_at_call 58; ((with_reducible refine (exWeight_any P M am mn cm N a n c d _).mono ?_); rintro e w3 ⟨⟨z, rfl, hz⟩, hb3⟩; have hb3w : Below U.heap.size U w3 := (by go_split_ands; exact Below.next (by assumption) hb3)))
      | (go_at_call 17; ((with_reducible refine (HCk.out _ z (Below.next HbU.out (by go_split_ands; assumption)) hz).mono ?_); rintro e w5 ⟨rfl, hb5⟩; have hb5w : Below U.heap.size U w5 := (by go_split_ands; exact Below.next (by assumption) hb5))))
    all_goals (go_wp2_with fail; go_meet; exact ⟨rfl, hb5w⟩)
  obtain ⟨rfl, hb5w⟩ := hcut
  have hF := Below.next HbU.out hb5w
  go_wp2_with fail
  go_ret
  exact ⟨rfl, hF⟩

set_option maxRecDepth 100000 in
set_option maxHeartbeats 1600000 in
theorem exBuildDistance_any (P M : Int) (am : Option Addr) (mn cm : Nat) (mod : List Int) (N : Int) (a : Option Addr) (n c : Nat) (L : List (List Int)) (d : Int) (w : World)
    (hmod : Ints w am mn mod) (hi : Mat w a n L) :
    Calls Tryz.prog 23 #[.agg #[.int .i64 P, .int .i64 M, .slice am mn cm, .int .i64 N, .slice a n c], .int .i64 d] w (ExBldPost (bldRE P M mod N L n (wtD N d)) w) := by
  obtain ⟨V, hV⟩ : ∃ V, bldRE P M mod N L n (wtD N d) = V := ⟨_, rfl⟩
  rw [hV]
  have HCk : Hid (∀ (W : World) (z : Int), Below w.heap.size w W → (1 ≤ N → N ≤ 64 → z = wtD N d) → Calls Tryz.prog 20 #[.agg #[.int .i64 P, .int .i64 M, .slice am mn cm, .int .i64 N, .slice a n c], .int .i64 n, .int .i64 z] W
      fun e w' => ∃ av nv cv, e = .returned (.tuple #[.agg #[.slice av nv cv], .int .i64 V.1]) ∧ Below W.heap.size W w' ∧ ((V.1 ≠ 0 ∧ av = none ∧ nv = 0 ∧ cv = 0) ∨ (V.1 = 0 ∧ nv = V.2.length ∧ ∃ R, OMat w' W.heap.size av V.2.length cv R V.2))) := fun W z hW hz => by
    have h1 := exBuildRank_any P M am mn cm mod N a n c L n z W (hmod.keep hW) (hi.keep hW)
    rw [bld_wt hz, hV] at h1
    refine h1.mono ?_
    rintro e w' ⟨hb, ⟨h2, rfl⟩ | ⟨h2, ar, cr, R, rfl, hO⟩⟩
    · exact ⟨none, 0, 0, rfl, hb, .inl ⟨h2, rfl, rfl, rfl⟩⟩
    · exact ⟨ar, _, cr, by rw [h2], hb, .inr ⟨h2, rfl, R, hO⟩⟩
  clear hmod hi hV
  go_enter Tryz.func23, Tryz.ntmps23
  go_upto_region 1 with fail
  obtain ⟨U, hU⟩ : ∃ U : World, U = (w.alloc (.cells #[.int .i64 P, .int .i64 M, .slice am mn cm, .int .i64 N, .slice a n c] 27)).alloc (.cells #[.slice none 0 0] 30) := ⟨_, rfl⟩
  rw [← hU]
  have hbU : Below w.heap.size w U := by rw [hU]; exact below2 _ _ _
  have x0 : Box U w.heap.size [.int .i64 P, .int .i64 M, .slice am mn cm, .int .i64 N, .slice a n c] := by rw [hU]; exact (Box.new _ _ _ rfl).alloc _
  have y0 : Box U (w.heap.size + 1) [.slice none 0 0] := by rw [hU]; exact Box.new _ _ _ (by simp)
  have HS : Hid (∀ V, Below U.heap.size U V → V.cell? ⟨w.heap.size, 0, none⟩ = some (.int .i64 P) ∧ V.cell? ⟨w.heap.size, 1, none⟩ = some (.int .i64 M) ∧ V.cell? ⟨w.heap.size, 2, none⟩ = some (.slice am mn cm) ∧ V.cell? ⟨w.heap.size, 3, none⟩ = some (.int .i64 N) ∧ V.cell? ⟨w.heap.size, 4, none⟩ = some (.slice a n c) ∧
      V.cell? ⟨w.heap.size + 1, 0, none⟩ = some (.slice none 0 0) ∧ V.frozen? ⟨w.heap.size + 1, 0, none⟩ = false) := fun V hV => by
    have x1 := x0.keep hV
    exact ⟨x1.cell 0 rfl, x1.cell 1 rfl, x1.cell 2 rfl, x1.cell 3 rfl, x1.cell 4 rfl, (y0.keep hV).cell 0 rfl, (y0.keep hV).frozen 0⟩
  have HbU := Lib.hid hbU
  have hy1 := y0.1
  obtain ⟨c0, c1, c2, c3, c4, c5, c6⟩ := HS.out U (Below.refl _ _)
  clear hU hbU x0 y0
  go_region_law ((first
    | (go_simp; go_at_call 58; ((with_reducible refine (exWeight_any P M am mn cm N a n c d _).mono ?_); rintro e w3 ⟨⟨z, rfl, hz⟩, hb3⟩; have hb3w : Below U.heap.size U w3 := Below.next (Below.refl _ _).drew hb3; obtain ⟨d0, d1, d2, d3, d4, d5, d6⟩ := HS.out w3 hb3w))
    | (go_simp; go_at_call 20; ((with_reducible refine (HCk.out _ z (Below.next HbU.out hb3w) hz).mono ?_); rintro e w5 ⟨av, nv, cv, rfl, hb5, hV5⟩; have hb5w : Below U.heap.size U w5 := Below.next hb3w hb5; obtain ⟨e0, e1, e2, e3, e4, e5, e6⟩ := HS.out w5 hb5w))))
  all_goals (
    have hF : Below w.heap.size w (w5.setCell ⟨w.heap.size + 1, 0, none⟩ (.slice av nv cv)) := (Below.next HbU.out hb5w).setCell (by simp) _
    have HV5 : Hid (ExBldPost V w (.returned (.tuple #[.agg #[.slice av nv cv], .int .i64 V.1])) (w5.setCell ⟨w.heap.size + 1, 0, none⟩ (.slice av nv cv))) := by
      refine ⟨hF, ?_⟩
      rcases hV5 with ⟨h1, rfl, rfl, rfl⟩ | ⟨h1, rfl, R, hO⟩
      · exact .inl ⟨h1, rfl⟩
      · refine .inr ⟨h1, av, cv, R, by rw [h1], ?_⟩
        have hs3 := hb3w.size
        have hsU := HbU.out.size
        refine (OMat.mono hO (Nat.le_trans hsU hs3)).of_blocks fun x hx => Below.heap_setCell _ _ _ _ fun e => ?_
        have h2 := (hO.lt x hx).1
        have e' : x = w.heap.size + 1 := e
        omega
    clear hV5 hF c0 c1 c2 c3 c4 c5 c6 d0 d1 d2 d3 d4 d5 d6
    go_wp2_with fail
    have z1 : (w5.setCell ⟨w.heap.size + 1, 0, none⟩ (.slice av nv cv)).cell? ⟨w.heap.size + 1, 0, none⟩ = some (.slice av nv cv) := World.cell?_setCell_same _ _ _ e5
    exact bodyPost_ret (v := .tuple #[.agg #[.slice av nv cv], .int .i64 V.1]) (by simp [results, Tryz.results23, go_sem, e5, z1]) rfl HV5.out)
end

/- Two matrices whose rows go together: 'each' of matrix.eliminate at both. -/
section
open Go.RowKit

theorem nthR_mapf (f : List Int → List Int) (L : List (List Int)) {i : Nat} (h : i < L.length) : nthR (L.map f) i = f (nthR L i) := by
  rw [nthR_getElem (by simpa using h), nthR_getElem h, List.getElem_map]
/-- the blocks of two matrices -/
def I2 (a : Option Addr) (R : List (Option Addr × Nat)) (a2 : Option Addr) (S : List (Option Addr × Nat)) (b : Nat) : Prop := OIn a R b ∨ OIn a2 S b
/-- two own matrices in blocks apart: the beginnings and the ends of the rows J -/
structure OMat2 (w : World) (B : Nat) (a : Option Addr) (n c : Nat) (R : List (Option Addr × Nat)) (a2 : Option Addr) (c2 : Nat) (S : List (Option Addr × Nat)) (len : Nat) (J : List (List Int)) : Prop where
  om1 : OMat w B a n c R (J.map (List.take len))
  om2 : OMat w B a2 n c2 S (J.map (List.drop len))
  dis : ∀ b, OIn a R b → ¬ OIn a2 S b
namespace OMat2
variable {w w' w1 : World} {B : Nat} {a : Option Addr} {n c : Nat} {R R' : List (Option Addr × Nat)} {a2 : Option Addr} {c2 : Nat} {S S' : List (Option Addr × Nat)} {len : Nat} {J J' : List (List Int)}
theorem lt (h : OMat2 w B a n c R a2 c2 S len J) (b : Nat) (hb : I2 a R a2 S b) : B ≤ b ∧ b < w.heap.size := by
  rcases hb with hb | hb
  · exact h.om1.lt b hb
  · exact h.om2.lt b hb
theorem new (h : OMat2 w B a n c R a2 c2 S len J) {b : Nat} (hb : w.heap.size ≤ b) : ¬ I2 a R a2 S b := fun h' => by have := h.lt b h'; omega
theorem keep (h : OMat2 w B a n c R a2 c2 S len J) (hb : Below w.heap.size w w') : OMat2 w' B a n c R a2 c2 S len J := ⟨h.om1.keep hb, h.om2.keep hb, h.dis⟩
theorem ll (h : OMat2 w B a n c R a2 c2 S len J) : J.length = n := by have := h.om1.ll; simpa using this
theorem cell (h : OMat2 w B a n c R a2 c2 S len J) {i : Nat} (hi : i < n) (hl : len ≤ (nthR J i).length) : w.cell? ⟨ablk a, aoff a + i, none⟩ = some (.slice (nthA R i).1 len (nthA R i).2) := by
  have h1 := h.om1.cell hi
  rw [nthR_mapf _ J (by rw [h.ll]; exact hi), List.length_take, Nat.min_eq_left hl] at h1
  exact h1
theorem ints (h : OMat2 w B a n c R a2 c2 S len J) {i : Nat} (hi : i < n) (hl : len ≤ (nthR J i).length) : Ints w (nthA R i).1 len ((nthR J i).take len) := by
  have h1 := h.om1.ints hi
  rw [nthR_mapf _ J (by rw [h.ll]; exact hi), List.length_take, Nat.min_eq_left hl] at h1
  exact h1
end OMat2

variable {w : World} {b : Nat} {G : Tbl}
end

/- The walk of matrix.eliminate with a second matrix. -/
section
open Go.RowKit

variable {w : World} {b : Nat} {G : Tbl}
theorem OMat2.of_blocks {w' : World} {B : Nat} {a : Option Addr} {n c : Nat} {R : List (Option Addr × Nat)} {a2 : Option Addr} {c2 : Nat} {S : List (Option Addr × Nat)} {len : Nat} {J : List (List Int)} (h : OMat2 w B a n c R a2 c2 S len J) (hb : ∀ b, I2 a R a2 S b → w'.heap[b]? = w.heap[b]?) : OMat2 w' B a n c R a2 c2 S len J :=
  ⟨h.om1.of_blocks fun b hb' => hb b (.inl hb'), h.om2.of_blocks fun b hb' => hb b (.inr hb'), h.dis⟩
end

/- The greedy order, as plain Lean functions. -/
section
section
variable {f : Nat → Int} {N : Nat} (hf : ∀ y, f y ≤ N)
include hf
end
end

/- Orders, widths and the table over all sets, as plain Lean functions. -/
section
/-- the least entry at a set with one of its positions below i removed -/
def leastTo (N : Nat) (T : List Int) (s : Nat) : Nat → Int
  | 0 => N
  | i + 1 => if s.testBit i = true then min (leastTo N T s i) (nth T (s - 2 ^ i)) else leastTo N T s i
theorem or_add : ∀ (b x : Nat), x.testBit b = false → x ||| 2 ^ b = x + 2 ^ b
  | 0, x, h => by
    rw [Nat.testBit_zero, decide_eq_false_iff_not] at h
    have h1 : (x ||| 1) / 2 = x / 2 := by rw [Nat.or_div_two]; simp
    have h2 : (x ||| 1) % 2 = 1 := Nat.or_mod_two_eq_one.2 (.inr rfl)
    show x ||| 1 = x + 1
    omega
  | b + 1, x, h => by
    rw [Nat.testBit_succ] at h
    have ih := or_add b (x / 2) h
    have e : 2 ^ (b + 1) / 2 = 2 ^ b := by rw [Nat.pow_succ]; omega
    have h1 : (x ||| 2 ^ (b + 1)) / 2 = x / 2 + 2 ^ b := by rw [Nat.or_div_two, e, ih]
    have h2 : (x ||| 2 ^ (b + 1)) % 2 = 1 ↔ x % 2 = 1 := by
      rw [Nat.or_mod_two_eq_one]
      have : 2 ^ (b + 1) % 2 = 0 := by rw [Nat.pow_succ]; omega
      omega
    have h3 : 2 ^ (b + 1) = 2 * 2 ^ b := by rw [Nat.pow_succ]; omega
    omega
end

/- A code with its positions in another order (plain law). -/
section
section
variable {O : FOps} {El : Int → Prop} {m : Nat}

end

section
variable {P M : Int} {mod : List Int} {m : Nat} {L : List (List Int)} {Q : List Int}
end
end

/- Words of a code: reduced by canonical rows they vanish; combinations of rows (plain law). -/
section
section
variable {O : FOps} {El : Int → Prop} {m : Nat} {R : List (List Int)} {P : List Int}
/-- the sum of the first k rows, each times its entry -/
def cmbTo (O : FOps) (m : Nat) (x : List Int) (L : List (List Int)) : Nat → List Int
  | 0 => List.replicate m 0
  | k + 1 => if nth x k = 0 then cmbTo O m x L k else addRow O (cmbTo O m x L k) (nth x k) (nthR L k)
theorem RS.add (F : Fld O El) {L : List (List Int)} {f g : Nat → Int} (hL : Rws El m L) (hf : RS O El m L f) (hg : RS O El m L g) {s : Int} (hs : El s) : RS O El m L (fun x => O.add (f x) (O.mul (g x) s)) := by
  refine (hf.comb F hg (F.cl.neg s hs)).congr fun x hx => ?_
  obtain ⟨e, he, h⟩ := hg
  have hgx : El (g x) := by rw [h x hx]; exact he.el _ (colS_vc hL F.zero x)
  rw [F.mul_neg hgx hs, F.neg_neg (F.cl.mul _ _ hgx hs)]
theorem cmb_rs (F : Fld O El) {L : List (List Int)} (hL : Rws El m L) {x : List Int} (hx : ∀ k, k < L.length → El (nth x k)) : ∀ k, k ≤ L.length → Vc El m (cmbTo O m x L k) ∧ RS O El m L (fun i => nth (cmbTo O m x L k) i)
  | 0, _ => by
    have h0 : ∀ i, nth (List.replicate m (0 : Int)) i = 0 := fun i => by
      unfold nth
      simp only [List.getD_eq_getElem?_getD, List.getElem?_replicate]
      split <;> rfl
    exact ⟨⟨by simp [cmbTo], fun y hy => by rw [List.eq_of_mem_replicate hy]; exact F.zero⟩, RS.nul F fun i _ => h0 i⟩
  | k + 1, hk => by
    obtain ⟨h1, h2⟩ := cmb_rs F hL hx k (by omega)
    have hr := hL.row (i := k) (by omega)
    have hs := hx k (by omega)
    rw [cmbTo]
    split
    · exact ⟨h1, h2⟩
    · have hl : (nthR L k).length = (cmbTo O m x L k).length := by rw [hr.1, h1.1]
      refine ⟨⟨by rw [addRow_length _ _ _ _ hl]; exact h1.1, addRow_el F.cl h1.2 hr.2 hs⟩, (RS.add F hL h2 (.row F (i := k) (by omega)) hs).congr fun i hi => ?_⟩
      have hri : El (nth (nthR L k) i) := Vc.at hr hi
      rw [nth_addRow O _ _ _ i hl (by rw [h1.1]; exact hi)]
      split
      · rename_i e0
        rw [e0, F.zmul hs, F.add_zero _ (h1.at hi)]
      · rw [F.mul_comm _ _ hs hri]
/-- the entries of a word of the row space by an order are a word of the picked rows -/
theorem RS.pick {L : List (List Int)} {w Q : List Int} (hQ : Q.length = m) (hI : InN m Q) (h : RS O El m L (fun x => nth w x)) : RS O El m (L.map (pickL Q)) (fun x => nth (pickL Q w) x) := by
  obtain ⟨e, he, h⟩ := h
  refine ⟨e, by rw [List.length_map]; exact he, fun x hx => ?_⟩
  have hq := hI x (by omega)
  have hcol : colS (L.map (pickL Q)) x = colS L (nth Q x).toNat := by
    unfold colS
    rw [List.map_map]
    exact List.map_congr_left fun r _ => nth_pickL Q r (by omega)
  show nth (pickL Q w) x = _
  rw [nth_pickL Q w (by omega), hcol]
  exact h _ (by omega)
end
end

/- The walks of matrix.unit, vec. -/
section
open Go.RowKit

def unitR (n k : Nat) : List Int := (List.replicate n 0).set k 1
theorem unitR_len (n k : Nat) : (unitR n k).length = n := by simp [unitR]
variable {w : World} {b : Nat} {G : Tbl}
set_option maxRecDepth 100000 in
set_option maxHeartbeats 1600000 in
theorem vec_any (ax : Option Addr) (cx : Nat) (x : List Int) (a : Option Addr) (n c : Nat) (L : List (List Int)) (cols : Nat) (h : GFw w b G) (F : Fld G.ops G.El) (hx : Ints w ax n x) (hi : Mat w a n L) (hxe : ∀ k, k < n → G.El (nth x k)) (hR : Rws G.El cols L) (hc1 : 1 ≤ cols) (hc : cols ≤ 1000000) (hn : n ≤ 1000000) :
    Calls Tryz.prog 120 #[.pointer (some ⟨b, 0, none⟩), .slice ax n cx, .slice a n c, .int .i64 cols] w fun e w' =>
      ∃ a1 c1, e = .returned (.slice a1 cols c1) ∧ w'.ownsRow w.heap.size 3 1 (.slice a1 cols c1) cols ((cmbTo G.ops cols x L n).map (Value.int .i64)) ∧ Below w.heap.size w w' := by
  have Hil := Lib.hid hi.len
  have hplx := hx.pl
  have hpla := hi.pl
  have hcm := cmb_rs F hR (x := x) (by rw [hi.len]; exact hxe)
  have Hcm := Lib.hid hcm
  have HR := Lib.hid hR
  have hz : (cmbTo G.ops cols x L 0).map (Value.int .i64) = List.replicate cols (Value.int .i64 0) := by simp [cmbTo]
  have Hz := Lib.hid hz
  clear hcm hR hz F
  go_enter Tryz.func120, Tryz.ntmps120
  go_wp2_with (at_make; refine wpList_mk rfl _ _ 22 3 rfl (.int .i64 0) 8 Tryz.underlying22 infoInt rfl cols rfl rfl (by omega) (by unfold maxLen; omega) ?_; intro a5 w5 hown hbel hge hlt)
  have hown0 : w5.ownsRow w.heap.size 3 1 (.slice a5 cols cols) cols ((cmbTo G.ops cols x L 0).map (Value.int .i64)) := by rw [Hz.out]; exact hown
  clear hown hlt
  go_loopw [16] (fun iv wr => ∃ k : Nat, k ≤ n ∧ iv = .int .i64 k ∧ wr.ownsRow w.heap.size 3 1 (.slice a5 cols cols) cols ((cmbTo G.ops cols x L k).map (Value.int .i64)) ∧ Below w.heap.size w wr) (fun iv _ => n - (intOf iv).toNat)
  case atStart => exact ⟨0, Nat.zero_le _, rfl, hown0, hbel⟩
  case round =>
    clear hown0 hbel
    obtain ⟨k, hk, rfl, hown, hbr⟩ := hrel
    by_cases hlt : k < n
    · have cxk := (hx.keep hbr).cell k hlt
      have hrow := HR.out.row (i := k) (by rw [Hil.out]; exact hlt)
      obtain ⟨ra, rn, rc, er0, ir0⟩ := hi.cell k hlt
      have hrn : rn = cols := by rw [← ir0.len]; exact hrow.1
      rw [hrn] at er0 ir0
      have er := cell_keep hbr er0
      have hra : ablk ra < w.heap.size := World.block_lt_of_cell? w _ (ir0.cell 0 (by omega))
      clear hrn er0
      by_cases h0 : nth x k = 0
      · have h0' : (nth x k != 0) = false := by simpa using h0
        have Hn : Hid (cmbTo G.ops cols x L (k + 1) = cmbTo G.ops cols x L k) := by show _ = _; rw [cmbTo, if_pos h0]
        clear h0
        go_wp2_with fail
        go_roundw
        case rel => exact ⟨k + 1, by omega, by go_num, by rw [Hn.out]; exact hown, hbr⟩
        case measure => simp [intOf] <;> omega
      · have h0' : (nth x k != 0) = true := by simpa using h0
        have Hn : Hid (cmbTo G.ops cols x L (k + 1) = addRow G.ops (cmbTo G.ops cols x L k) (nth x k) (nthR L k)) := by show _ = _; rw [cmbTo, if_neg h0]
        have hvk := (Hcm.out k (by rw [Hil.out]; exact hk)).1
        have Ha := Lib.hid (add_any w a5 cols cols (cmbTo G.ops cols x L k) (nth x k) ra rc (nthR L k) h hbr hown (ir0.keep hbr) (.inr (.inr (by omega))) hvk.2 hrow.2 (hxe k hlt))
        clear h0 hown ir0 hrow hvk
        go_wp2_with fail
        refine Ha.out.mono ?_
        rintro e w4 ⟨rfl, hown4, honly⟩
        have hb4 : Below w.heap.size w w4 := hbr.trans (honly.below (fun _ => hge) hbr.size)
        go_wp2_with fail
        go_roundw
        case rel => exact ⟨k + 1, by omega, by go_num, by rw [Hn.out]; exact hown4, hb4⟩
        case measure => simp [intOf] <;> omega
    · obtain rfl : k = n := by omega
      have HF := Lib.hid hown
      clear hown
      go_wp2_with fail
      go_ret
      exact ⟨a5, cols, rfl, HF.out, hbr⟩
end

/- The walks of code.own, code.of, code.Dual. -/
section
open Go.RowKit
end

/- The inverse of an order, and rows whose entries are put at their places (plain law). -/
section
section
variable {m : Nat} {Q : List Int}
end
end

/- The walks of modify.set, code.New. -/
section
open Go.RowKit
end

/- A matrix that is put together row by row, behind a box. -/
section
open Go.RowKit

theorem OMat.setOther {w : World} {B : Nat} {a : Option Addr} {n c : Nat} {R : List (Option Addr × Nat)} {L : List (List Int)} (h : OMat w B a n c R L) {p : Addr} (hp : p.block < B) (v : Value) : OMat (w.setCell p v) B a n c R L :=
  h.of_blocks fun b hb => Below.heap_setCell _ _ _ _ (by have := (h.lt b hb).1; omega)

/-- a box of two cells, the second a matrix whose blocks are behind the box -/
structure MOut (w : World) (g : Nat) (x : Value) (a : Option Addr) (k c : Nat) (R : List (Option Addr × Nat)) (L : List (List Int)) : Prop where
  lt : g < w.heap.size
  c0 : w.cell? ⟨g, 0, none⟩ = some x
  c1 : w.cell? ⟨g, 1, none⟩ = some (.slice a k c)
  fr : ∀ i, w.frozen? ⟨g, i, none⟩ = false
  om : OMat w (g + 1) a k c R L
namespace MOut
variable {w w' w4 w5 : World} {g : Nat} {x : Value} {a : Option Addr} {k c : Nat} {R : List (Option Addr × Nat)} {L : List (List Int)}
theorem keep (h : MOut w g x a k c R L) (hb : Below w.heap.size w w') : MOut w' g x a k c R L :=
  ⟨Nat.lt_of_lt_of_le h.lt hb.size, cell_keep hb h.c0, cell_keep hb h.c1, fun i => frozen_keep hb h.lt (h.fr i), h.om.keep hb⟩
theorem apt (h : MOut w g x a k c R L) : Apt a g := by
  by_cases ha : a = none
  · exact .inl ha
  · exact .inr fun e => by have := (own_ne h.om.own ha).1; omega
theorem push {a4 a5 : Option Addr} {n4 c4 c5 : Nat} {N : List Int} {o : Obj} (h : MOut w4 g x a k c R L) (hn4 : N.length = n4)
    (hown4 : w4.ownsRow (g + 1) 3 1 (.slice a4 n4 c4) n4 (N.map (Value.int .i64))) (hra : a4 ≠ none → ¬ OIn a R (ablk a4))
    (hown5 : w5.ownsRow (g + 1) 22 1 (.slice a5 (k + 1) c5) (k + 1) (List.zipWith rowV R L ++ [.slice a4 n4 c4])) (hgr5 : (w4.alloc o).grownBy w5 (Value.slice a k c).ownBlock)
    (hap5 : ∀ x, x < (w4.alloc o).heap.size → Apt a x → Apt a5 x) :
    MOut (w5.setCell ⟨g, 1, none⟩ (.slice a5 (k + 1) c5)) g x a5 (k + 1) c5 (R ++ [(a4, c4)]) (L ++ [N]) ∧ Below g w4 (w5.setCell ⟨g, 1, none⟩ (.slice a5 (k + 1) c5)) := by
  subst hn4
  have hb1 := below1 w4 o
  have hO := h.om.keep hb1
  have hr := own_keep hown4 hb1
  have hP := OMat.push hO hr hra hown5 hgr5 hap5
  have hlt := h.lt
  have hs1 := hb1.size
  have hB5 : Below (g + 1) w4 w5 := Below.app (hb1.mono (by omega)) hO.own hgr5 (Nat.le_refl _) (by omega)
  have hs := hB5.size
  have k0 := cell_grownApt hgr5 (cell_box h.c0 o) h.apt
  have k1 := cell_grownApt hgr5 (cell_box h.c1 o) h.apt
  refine ⟨⟨by simp; omega, ?_, World.cell?_setCell_same _ _ _ k1, fun i => ?_, hP.setOther (by simp) _⟩, (hB5.mono (by omega)).setCell (by simp) _⟩
  · rw [World.cell?_setCell_other _ _ _ _ (by simp)]; exact k0
  · rw [World.frozen?_setCell]
    exact (World.frozen?_of_block (w := w4.alloc o) (a := ⟨g, i, none⟩) (hgr5.block g (by omega) fun e => h.apt.own k c e.symm)).trans (frozen_box h.lt (h.fr i) _)
theorem start {U : World} {g : Nat} {x : Value} (hU : Box U g [x, .slice none 0 0]) : MOut U g x none 0 0 [] [] :=
  ⟨hU.1, hU.cell 0 rfl, hU.cell 1 rfl, hU.frozen, OMat.empty _ _⟩
end MOut

theorem Box.two (w : World) (x0 y0 x y : Value) (e : TypeId) : Box (((w.alloc (.cells #[x0, y0] e)).setCell ⟨w.heap.size, 0, none⟩ x).setCell ⟨w.heap.size, 1, none⟩ y) w.heap.size [x, y] := by
  have h : Box (w.alloc (.cells #[x0, y0] e)) w.heap.size [x0, y0] := Box.new w [x0, y0] e rfl
  have k0 := h.cell 0 rfl
  have k1 := h.cell 1 rfl
  refine ⟨by simp, fun i v hv => ?_, fun i => by rw [World.frozen?_setCell, World.frozen?_setCell]; exact h.frozen i⟩
  match i, hv with
  | 0, hv =>
    obtain rfl : x = v := by simpa using hv
    rw [World.cell?_setCell_other _ _ _ _ (by simp)]
    exact World.cell?_setCell_same _ _ _ k0
  | 1, hv =>
    obtain rfl : y = v := by simpa using hv
    exact World.cell?_setCell_same _ _ _ (by rw [World.cell?_setCell_other _ _ _ _ (by simp)]; exact k1)
  | i + 2, hv => simp at hv
end

/- The walk of modify.Permute. -/
section
open Go.RowKit
end

/- The walks of ordering.ordered, codewrightref48.IsOrder. -/
section
open Go.RowKit
end

/- Bounds (plain law). -/
section

end

/- The walks of ordering.width, ordering.Width, codewrightref48.Order, Width. -/
section
open Go.RowKit

theorem InN.take {n : Nat} {Q : List Int} (h : InN n Q) {i : Nat} (hi : i ≤ Q.length) : InN n (Q.take i) := fun j hj => by
  rw [List.length_take] at hj
  have e : nth (Q.take i) j = nth Q j := by unfold nth; simp only [List.getD_eq_getElem?_getD, List.getElem?_take]; rw [if_pos (by omega)]
  rw [e]; exact h j (by omega)
end

/- The walk of ordering.Reorder. -/
section
open Go.RowKit

theorem fmatE_mk {P M : Int} {mod : List Int} {m : Nat} {D : List (List Int)} (hfB : fieldB P M mod = true) (hm : m ≤ 256) (hD : D.length ≤ 256) (hR : Rws (tblOf P M.toNat mod).El m D) : fmatE P M mod m D = 0 := by
  unfold fmatE
  rw [if_pos hfB]
  unfold matE
  rw [if_neg (by omega)]
  have hsh : shapeQ (m : Int) D = true := by
    unfold shapeQ
    rw [List.all_eq_true]
    intro r hr
    have := (hR r hr).1
    simp; omega
  rw [if_neg (by rw [hsh]; decide), if_pos]
  rw [List.all_eq_true]
  intro r hr
  unfold elsQ isQ
  rw [List.all_eq_true]
  intro x hx
  have := (hR r hr).2 x hx
  unfold Tbl.El at this
  simp
  exact this
end

/- The walk of matrix.Inverse, at an invertible matrix. -/
section
open Go.RowKit
end

/- The walk of matrix.Mul, at matrices that fit. -/
section
open Go.RowKit
end

/- The walk of matrix.Vec, at valid arguments. -/
section
open Go.RowKit

set_option maxRecDepth 100000 in
set_option maxHeartbeats 4000000 in
theorem vecM_any (P M : Int) (am : Option Addr) (mn cm : Nat) (mod : List Int) (ax : Option Addr) (cx : Nat) (x : List Int) (m : Nat) (a : Option Addr) (n c : Nat) (L : List (List Int)) (w : World) (hmod : Ints w am mn mod) (hx : Ints w ax n x) (hi : Mat w a n L)
    (hfB : fieldB P M mod = true) (hR : Rws (tblOf P M.toNat mod).El m L) (hxe : ∀ k, k < n → (tblOf P M.toNat mod).El (nth x k)) (hm1 : 1 ≤ m) (hm : m ≤ 64) (hn : n ≤ 256) :
    Calls Tryz.prog 84 #[.agg #[.int .i64 P, .int .i64 M, .slice am mn cm], .slice ax n cx, .agg #[.int .i64 m, .slice a n c]] w
      fun e w' => ∃ a1 c1, e = .returned (.tuple #[.slice a1 m c1, .int .i64 0]) ∧ Ints w' a1 m (cmbTo (tblOf P M.toNat mod).ops m x L n) ∧ Below w.heap.size w w' := by
  have hLl := hi.len
  have F := fieldB_fld hfB
  have hmE1 : matE (tblOf P M.toNat mod).q m L = 0 := (fmatE_zero (fmatE_mk hfB (show m ≤ 256 by omega) (show L.length ≤ 256 by omega) hR)).2
  have hel : elsE (tblOf P M.toNat mod).q x = 0 := by
    unfold elsE
    rw [if_pos]
    unfold elsQ isQ
    rw [List.all_eq_true]
    intro y hy
    obtain ⟨k, hk, rfl⟩ := List.mem_iff_getElem.1 hy
    have h1 := hxe k (by rw [← hx.len]; exact hk)
    rw [nth_getElem hk] at h1
    unfold Tbl.El at h1
    simp
    exact h1
  have hpla := hi.pl
  obtain ⟨G, hGG⟩ : ∃ G, tblOf P M.toNat mod = G := ⟨_, rfl⟩
  rw [hGG] at hR F hmE1 hxe hel ⊢
  have HK := Lib.hid (And.intro hfB (And.intro hR (And.intro hmE1 (And.intro hxe (And.intro F hel)))))
  have HGG := Lib.hid hGG
  clear hfB hR hmE1 hxe F hLl hGG hel
  go_enter Tryz.func84, Tryz.ntmps84
  go_wp2_with fail
  obtain ⟨W, hW⟩ : ∃ W : World, W = ((w.alloc (.cells #[.int .i64 P, .int .i64 M, .slice am mn cm] 24)).alloc (.cells #[.int .i64 m, .slice a n c] 52)).alloc (.cells #[.int .i64 m, .slice a n c] 52) := ⟨_, rfl⟩
  rw [← hW]
  have hbW : Below w.heap.size w W := by rw [hW]; exact below3 _ _ _ _
  have x1 : Box W (w.heap.size + 1) [.int .i64 m, .slice a n c] := by rw [hW]; exact (Box.new _ _ _ (by simp)).alloc _
  have q3 : ∀ i v, [Value.int .i64 m, .slice a n c][i]? = some v → W.cell? ⟨w.heap.size + 1 + 1, i, none⟩ = some v := fun i v hv => by
    have h : Box W (w.heap.size + 1 + 1) [.int .i64 m, .slice a n c] := by rw [hW]; exact Box.new _ _ _ (by simp)
    exact h.cell i hv
  have hMs : Mats W (some ⟨w.heap.size + 1 + 1, 0, none⟩) 1 [((m : Int), L)] := ⟨rfl, fun _ => rfl, by unfold maxLen; omega, fun i hi' => by
    have : i = 0 := by simp at hi'; omega
    subst this
    exact ⟨a, n, c, by simpa using q3 0 _ rfl, by simpa using q3 1 _ rfl, hi.keep hbW⟩⟩
  have HX := Lib.hid x1
  have HbW := Lib.hid hbW
  clear hW x1 q3
  refine (open_any P M am mn cm mod _ 1 1 _ W (hmod.keep hbW) hMs).mono ?_
  rintro e w1 ⟨hb1, hcase⟩
  have hms : matsE (tblOf P M.toNat mod).q [((m : Int), L)] = 0 := by
    rw [HGG.out]
    simp [matsE, HK.out.2.2.1]
  rcases hcase with ⟨hB, _⟩ | ⟨_, er, h0, h1, _⟩ | ⟨_, _, b, rfl, hG, hbl⟩
  · rw [HK.out.1] at hB; exact absurd hB (by decide)
  · rw [hms] at h1; exact absurd h1.symm h0
  rw [HGG.out] at hG
  have hbw1 := Below.next hbW hb1
  have r1 := HX.out.keep hb1
  have m0 := r1.cell 0 rfl
  have m1 := r1.cell 1 rfl
  have hnn : ((n : Int) != n) = false := by simp
  have hx1 := hx.keep hbw1
  have hi1 := hi.keep hbw1
  have he := entries_any ax n cx x hG hx1
  rw [HK.out.2.2.2.2.2] at he
  have He := Lib.hid he
  have Hv := Lib.hid (vec_any ax cx x a n c L m hG HK.out.2.2.2.2.1 hx1 hi1 HK.out.2.2.2.1 HK.out.2.1 hm1 (by omega) (by omega))
  clear hMs hbW r1 hbl hmod hms he hx1 hi1 hG hx hi
  go_wp2_with fail
  refine He.out.mono ?_
  rintro e w2 ⟨rfl, rfl⟩
  go_wp2_with fail
  refine Hv.out.mono ?_
  rintro e w3 ⟨a3, c3, rfl, hown, hb3⟩
  have hF := Lib.hid (And.intro (Ints.own hown).1 (Below.next hbw1 hb3))
  clear hown
  go_wp2_with fail
  go_ret2
  exact ⟨a3, c3, rfl, hF.out.1, hF.out.2⟩
end

/- The walks of space.view's word, reduce, has; zero; code.list. -/
section
open Go.RowKit
end

/- The walks of code.list, word, space.Has, code.Has, at words of the code. -/
section
open Go.RowKit
end

/- The walks of the references: Combine of layer 09, List and Encode of layer 12. -/
section
open Go.RowKit

/-- the error of a list of n elements -/
def lstE (q : Int) (l : List Int) (n : Nat) : Int := if l.length = n then elsE q l else 4

set_option maxHeartbeats 1600000 in
theorem rList12_any (P M : Int) (am : Option Addr) (mn cm : Nat) (a : Option Addr) (n c : Nat) (l : List Int) (k : Nat) (w : World) (hi : Ints w a n l) :
    Calls Tryz.prog 43 #[.agg #[.int .i64 P, .int .i64 M, .slice am mn cm], .slice a n c, .int .i64 k] w fun e w' => e = .returned (.int .i64 (lstE (orderS P M) l k)) ∧ Below w.heap.size w w' := by
  have hl := hi.len
  go_enter Tryz.func43, Tryz.ntmps43
  go_upto_region 1 with fail
  obtain ⟨W, hW⟩ : ∃ W : World, W = w.alloc (.cells #[.int .i64 P, .int .i64 M, .slice am mn cm] 24) := ⟨_, rfl⟩
  rw [← hW]
  have hbW : Below w.heap.size w W := by rw [hW]; exact below1 _ _
  have x0 : Box W w.heap.size [.int .i64 P, .int .i64 M, .slice am mn cm] := by rw [hW]; exact Box.new _ _ _ rfl
  have c0 := x0.cell 0 rfl
  have c1 := x0.cell 1 rfl
  have c2 := x0.cell 2 rfl
  clear hW x0
  by_cases h1 : n = k
  · have HL : Hid (lstE (orderS P M) l k = elsE (orderS P M) l) := by show _ = _; rw [lstE, if_pos (by omega)]
    have Hc := Lib.hid (rEntries_any P M am mn cm a n c l W (hi.keep hbW))
    have h1' : ((n : Int) != k) = false := by rw [show (n : Int) = k by omega]; simp
    clear h1 hl
    generalize elsE (orderS P M) l = er at *
    go_wp2_with fail
    refine Hc.out.mono ?_
    rintro e w1 ⟨rfl, hb1⟩
    have hF := Below.next hbW hb1
    go_wp2_with fail
    go_ret
    exact ⟨ret_int HL.out.symm, hF⟩
  · have HL : Hid (lstE (orderS P M) l k = 4) := by show _ = _; rw [lstE, if_neg (by omega)]
    have h1' : ((n : Int) != k) = true := by simp only [bne_iff_ne, ne_eq]; omega
    clear h1 hl
    go_wp2_with fail
    go_ret
    exact ⟨ret_int HL.out.symm, hbW⟩
end

/- The walk of infoset.Greedy. -/
section
open Go.RowKit
end

/- Information sets are bases (plain laws): greedy sets are information sets, and exchanges exist. -/
section
section
variable {O : FOps} {El : Int → Prop} {m : Nat} {L : List (List Int)}
theorem rkQ_out (F : Fld O El) (hL : Rws El m L) {Q : List Int} {x : Int} (h : ¬ clV O El L.length (colS L) (gA Q) x.toNat) : rkQ O L (Q ++ [x]) = rkQ O L Q + 1 := by
  have h1 := rkQ_rk F hL (Q ++ [x])
  rw [gA_snoc] at h1
  exact h1.uniq (Rk.ind _ h (rkQ_rk F hL Q))
end
/-- all positions, in some order -/
def PermN (m : Nat) (Q : List Int) : Prop := Q.Perm ((List.range m).map Int.ofNat)
theorem PermN.mem {m : Nat} {Q : List Int} (h : PermN m Q) {x : Int} : x ∈ Q ↔ ∃ j : Nat, j < m ∧ x = j := by
  rw [h.mem_iff, List.mem_map]
  constructor
  · rintro ⟨j, hj, rfl⟩; exact ⟨j, List.mem_range.1 hj, rfl⟩
  · rintro ⟨j, hj, rfl⟩; exact ⟨j, List.mem_range.2 hj, rfl⟩
theorem PermN.len {m : Nat} {Q : List Int} (h : PermN m Q) : Q.length = m := by rw [h.length_eq]; simp
theorem PermN.nodup {m : Nat} {Q : List Int} (h : PermN m Q) : Q.Nodup := by
  refine h.nodup_iff.2 ?_
  rw [List.nodup_iff_pairwise_ne, List.pairwise_map]
  exact List.nodup_range.imp fun h e => h (Int.ofNat.inj e)
theorem PermN.inN {m : Nat} {Q : List Int} (h : PermN m Q) : InN m Q := fun j hj => by
  obtain ⟨i, hi, e⟩ := h.mem.1 (nth_mem hj)
  omega
section
variable {P M : Int} {mod : List Int} {m : Nat} {L : List (List Int)}
end
end

/- The walk of infoset.Floor. -/
section
open Go.RowKit
end

/- The family of a code (plain laws): its members are information sets with new positions, the positions left are zero columns, and the bound for the weight. -/
section
section
variable {O : FOps} {El : Int → Prop} {m : Nat} {L : List (List Int)}
end
/-- weights -/
def wtL (x : List Int) : Nat := x.countP fun y => decide (y ≠ 0)
def wtU (x : List Int) (U : List Int) (m : Nat) : Nat := (List.range m).countP fun j => decide (nth x j ≠ 0 ∧ (j : Int) ∈ U)
theorem countP_point {p p' : Nat → Bool} {s : Nat} (h : ∀ j, j ≠ s → p j = p' j) : ∀ m, (List.range m).countP p' + (if s < m ∧ p s = true then 1 else 0) = (List.range m).countP p + (if s < m ∧ p' s = true then 1 else 0)
  | 0 => by simp
  | m + 1 => by
    have ih := countP_point h m
    rw [List.range_succ, List.countP_append, List.countP_append, List.countP_singleton, List.countP_singleton]
    by_cases e : s = m
    · subst e
      simp at ih
      by_cases h1 : p s = true <;> by_cases h2 : p' s = true <;> simp [h1, h2] <;> omega
    · have h3 := h m (fun e2 => e e2.symm)
      rw [h3]
      by_cases h4 : s < m
      · simp only [h4, show s < m + 1 by omega, true_and] at ih ⊢; omega
      · simp only [h4, show ¬ s < m + 1 by omega, false_and] at ih ⊢; simp at ih ⊢; omega
theorem wtU_one (x U : List Int) (m : Nat) {s : Int} (h0 : 0 ≤ s) (hm : s < m) : wtU x (U ++ [s]) m = wtU x U m + (if nth x s.toNat ≠ 0 ∧ ¬ s ∈ U then 1 else 0) := by
  have h := countP_point (p := fun j => decide (nth x j ≠ 0 ∧ (j : Int) ∈ U)) (p' := fun j => decide (nth x j ≠ 0 ∧ (j : Int) ∈ U ++ [s])) (s := s.toNat) (fun j hj => by
    have : ((j : Int) ∈ U ++ [s]) ↔ ((j : Int) ∈ U) := by
      rw [List.mem_append, List.mem_singleton]
      exact ⟨fun h => h.elim id fun e => absurd (by omega) hj, .inl⟩
    simp [this]) m
  have e : ((s.toNat : Nat) : Int) = s := by omega
  have hlt : s.toNat < m := by omega
  unfold wtU
  simp only [e, hlt, true_and, decide_eq_true_eq, List.mem_append, List.mem_singleton, or_true, and_true] at h
  have h' : (List.range m).countP (fun j => decide (nth x j ≠ 0 ∧ (j : Int) ∈ U ++ [s])) = (List.range m).countP (fun j => decide (nth x j ≠ 0 ∧ ((j : Int) ∈ U ∨ (j : Int) = s))) := by simp
  rw [h']
  by_cases h1 : nth x s.toNat = 0
  · simp [h1] at h ⊢; exact h
  · by_cases h2 : s ∈ U
    · simp [h1, h2] at h ⊢; omega
    · simp [h1, h2] at h ⊢; omega
theorem wtU_add (x : List Int) (m : Nat) : ∀ (S U : List Int), S.Nodup → (∀ s ∈ S, 0 ≤ s ∧ s < (m : Int)) → wtU x (U ++ S) m = wtU x U m + S.countP fun s => decide (nth x s.toNat ≠ 0 ∧ ¬ s ∈ U)
  | [], U, _, _ => by simp
  | s :: S, U, hn, hb => by
    rw [List.nodup_cons] at hn
    have h1 := hb s (List.mem_cons_self ..)
    have ih := wtU_add x m S (U ++ [s]) hn.2 fun y hy => hb y (List.mem_cons_of_mem _ hy)
    rw [List.append_assoc, List.singleton_append] at ih
    rw [ih, wtU_one x U m h1.1 h1.2, List.countP_cons]
    have e : S.countP (fun y => decide (nth x y.toNat ≠ 0 ∧ ¬ y ∈ U ++ [s])) = S.countP (fun y => decide (nth x y.toNat ≠ 0 ∧ ¬ y ∈ U)) := by
      refine List.countP_congr fun y hy => ?_
      have : y ≠ s := fun e => hn.1 (e ▸ hy)
      simp [this]
    rw [e]
    simp only [decide_eq_true_eq]
    omega
end

end Go.Proofs.YtapjcccpokhhhaaGreat
