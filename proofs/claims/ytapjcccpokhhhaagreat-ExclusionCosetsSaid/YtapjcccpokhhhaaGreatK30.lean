/- The walks of code.list at any list, code.Encode, codewrightref25.Weight. -/
import Derived.Test.YtapjcccpokhhhaaGreatK29
import Derived.Deep.RegionHeld3
import Derived.Test.YtapjcccpokhhhaaGreatK21
import Derived.Test.YtapjcccpokhhhaaGreatK24
import Derived.Test.YtapjcccpokhhhaaGreatK8
namespace Go.Proofs.YtapjcccpokhhhaaGreat
set_option linter.unusedVariables false
set_option linter.unusedSimpArgs false
set_option linter.unusedSectionVars false

/- The walks of CheckRank, BuildRank, CheckDistance, BuildDistance of the package exclusion. -/
section
open Go.RowKit

def chkRE (P M : Int) (mod : List Int) (N : Int) (L : List (List Int)) (mm W : Int) (ts : List (List Int)) : Int :=
  if rkcE P M mod N L mm W = 0 then provS (tblOf P M.toNat mod).ops L N.toNat ⟨mm.toNat, W.toNat, false, []⟩ ts else rkcE P M mod N L mm W
def bldRE (P M : Int) (mod : List Int) (N : Int) (L : List (List Int)) (mm W : Int) : Int × List (List Int) :=
  if rkcE P M mod N L mm W = 0 then treeS (tblOf P M.toNat mod).ops L N.toNat ⟨mm.toNat, W.toNat, false, []⟩ else (rkcE P M mod N L mm W, [])
def ExBldPost (V : Int × List (List Int)) (w : World) (e : Ending) (w' : World) : Prop :=
  Below w.heap.size w w' ∧ ((V.1 ≠ 0 ∧ e = .returned (.tuple #[.agg #[.slice none 0 0], .int .i64 V.1])) ∨
    (V.1 = 0 ∧ ∃ ar cr R, e = .returned (.tuple #[.agg #[.slice ar V.2.length cr], .int .i64 0]) ∧ OMat w' w.heap.size ar V.2.length cr R V.2))

set_option maxRecDepth 100000 in
set_option maxHeartbeats 1600000 in
theorem exCheckRank_any (P M : Int) (am : Option Addr) (mn cm : Nat) (mod : List Int) (N : Int) (a : Option Addr) (n c : Nat) (L : List (List Int)) (mm W : Int) (ax : Option Addr) (nx cx : Nat) (ts : List (List Int)) (w : World)
    (hmod : Ints w am mn mod) (hi : Mat w a n L) (hts : Mat w ax nx ts) :
    Calls Tryz.prog 17 #[.agg #[.int .i64 P, .int .i64 M, .slice am mn cm, .int .i64 N, .slice a n c], .int .i64 mm, .int .i64 W, .agg #[.slice ax nx cx]] w fun e w' => e = .returned (.int .i64 (chkRE P M mod N L mm W ts)) ∧ Below w.heap.size w w' := by
  go_enter Tryz.func17, Tryz.ntmps17
  go_wp2_with fail
  obtain ⟨U, hU⟩ : ∃ U : World, U = (w.alloc (.cells #[.int .i64 P, .int .i64 M, .slice am mn cm, .int .i64 N, .slice a n c] 27)).alloc (.cells #[.slice ax nx cx] 30) := ⟨_, rfl⟩
  rw [← hU]
  have hbU : Below w.heap.size w U := by rw [hU]; exact below2 _ _ _
  have x0 : Box U (w.heap.size + 1) [.slice ax nx cx] := by rw [hU]; exact Box.new _ _ _ (by simp)
  have HX := Lib.hid x0
  clear hU x0
  refine (exRank_any P M am mn cm mod N a n c L mm W U (hmod.keep hbU) (hi.keep hbU)).mono ?_
  rintro e w1 ⟨hb1, ⟨hE, rfl⟩ | ⟨hE, pb, rfl, hCl⟩⟩
  · have HE : Hid (chkRE P M mod N L mm W ts = rkcE P M mod N L mm W) := if_neg hE
    have hE1 : (rkcE P M mod N L mm W == 0) = false := by simpa using hE
    have hE2 : (rkcE P M mod N L mm W != 0) = true := by simpa using hE
    have hbF := Below.next hbU hb1
    clear hE
    go_wp2_with fail
    go_ret
    exact ⟨by rw [HE.out]; rfl, hbF⟩
  · have HE : Hid (chkRE P M mod N L mm W ts = provS (tblOf P M.toNat mod).ops L N.toNat ⟨mm.toNat, W.toNat, false, []⟩ ts) := if_pos hE
    have x1 := HX.out.keep hb1
    have c0 := x1.cell 0 rfl
    obtain ⟨b, w2, rfl, hb2, hPE, hb3, hB⟩ := hCl
    have HPr := Lib.hid (exProves_any w2.heap.size P M am mn cm c 0 ax nx cx ts hPE ((hts.keep hbU).keep hb2) (Nat.le_refl _) hb3 hB)
    have hbw2 := Below.next hbU hb2
    clear x1 hB hPE hE
    go_wp2_with fail
    refine HPr.out.mono ?_
    rintro e w3 ⟨rfl, hb4⟩
    have hbF := Below.next hbw2 hb4
    go_wp2_with fail
    go_ret
    exact ⟨by rw [HE.out]; rfl, hbF⟩

set_option maxRecDepth 100000 in
set_option maxHeartbeats 1600000 in
theorem exBuildRank_any (P M : Int) (am : Option Addr) (mn cm : Nat) (mod : List Int) (N : Int) (a : Option Addr) (n c : Nat) (L : List (List Int)) (mm W : Int) (w : World)
    (hmod : Ints w am mn mod) (hi : Mat w a n L) :
    Calls Tryz.prog 20 #[.agg #[.int .i64 P, .int .i64 M, .slice am mn cm, .int .i64 N, .slice a n c], .int .i64 mm, .int .i64 W] w (ExBldPost (bldRE P M mod N L mm W) w) := by
  obtain ⟨V, hV⟩ : ∃ V, bldRE P M mod N L mm W = V := ⟨_, rfl⟩
  rw [hV]
  have HV := Lib.hid hV
  clear hV
  go_enter Tryz.func20, Tryz.ntmps20
  go_wp2_with fail
  obtain ⟨U, hU⟩ : ∃ U : World, U = (w.alloc (.cells #[.int .i64 P, .int .i64 M, .slice am mn cm, .int .i64 N, .slice a n c] 27)).alloc (.cells #[.slice none 0 0] 30) := ⟨_, rfl⟩
  rw [← hU]
  have hbU : Below w.heap.size w U := by rw [hU]; exact below2 _ _ _
  have hsU : U.heap.size = w.heap.size + 2 := by rw [hU]; simp
  have x0 : Box U (w.heap.size + 1) [.slice none 0 0] := by rw [hU]; exact Box.new _ _ _ (by simp)
  have HX := Lib.hid x0
  clear hU x0
  refine (exRank_any P M am mn cm mod N a n c L mm W U (hmod.keep hbU) (hi.keep hbU)).mono ?_
  rintro e w1 ⟨hb1, ⟨hE, rfl⟩ | ⟨hE, pb, rfl, hCl⟩⟩
  · have HE : Hid (V = (rkcE P M mod N L mm W, [])) := by show _ = _; rw [← HV.out]; exact if_neg hE
    have hE1 : (rkcE P M mod N L mm W == 0) = false := by simpa using hE
    have hE2 : (rkcE P M mod N L mm W != 0) = true := by simpa using hE
    have Hne := Lib.hid hE
    have x1 := HX.out.keep hb1
    have z0 := x1.cell 0 rfl
    have f0 := x1.frozen 0
    have HF := Lib.hid (fun v : Value => (Below.next hbU hb1).setCell (p := ⟨w.heap.size + 1, 0, none⟩) (by simp) v)
    clear hE x1
    generalize rkcE P M mod N L mm W = er at *
    go_wp2_with fail
    have z1 : (w1.setCell ⟨w.heap.size + 1, 0, none⟩ (.slice none 0 0)).cell? ⟨w.heap.size + 1, 0, none⟩ = some (.slice none 0 0) := World.cell?_setCell_same _ _ _ z0
    exact bodyPost_ret (v := .tuple #[.agg #[.slice none 0 0], .int .i64 er]) (by simp [results, Tryz.results20, go_sem, z0, z1]) rfl ⟨HF.out _, .inl ⟨by rw [HE.out]; exact Hne.out, by rw [HE.out]⟩⟩
  · have HE : Hid (treeS (tblOf P M.toNat mod).ops L N.toNat ⟨mm.toNat, W.toNat, false, []⟩ = V) := by show _ = _; rw [← HV.out]; exact (if_pos hE).symm
    have x1 := HX.out.keep hb1
    obtain ⟨b, w2, rfl, hb2, hPE, hb3, hB⟩ := hCl
    have HPr := exTree_any w2.heap.size P M am mn cm c 0 hPE (Nat.le_refl _) hb3 hB
    rw [HE.out] at HPr
    have HTr := Lib.hid HPr
    have hbw2 := Below.next hbU hb2
    have x2 := HX.out.keep hb2
    have hs2 : w.heap.size + 1 < w2.heap.size := x2.1
    clear x1 hB hPE hE HPr
    go_wp2_with fail
    refine HTr.out.mono ?_
    rintro e w3 ⟨hb4, ⟨hv, rfl⟩ | ⟨hv, ar, cr, R, rfl, hO⟩⟩
    · have x3 := x2.keep hb4
      have z0 := x3.cell 0 rfl
      have f0 := x3.frozen 0
      have HF := Lib.hid (fun v : Value => (Below.next hbw2 hb4).setCell (p := ⟨w.heap.size + 1, 0, none⟩) (by simp) v)
      have Hne := Lib.hid hv
      obtain ⟨ve, vt⟩ := V
      dsimp only at Hne ⊢
      clear x3 hv
      go_wp2_with fail
      have z1 : (w3.setCell ⟨w.heap.size + 1, 0, none⟩ (.slice none 0 0)).cell? ⟨w.heap.size + 1, 0, none⟩ = some (.slice none 0 0) := World.cell?_setCell_same _ _ _ z0
      exact bodyPost_ret (v := .tuple #[.agg #[.slice none 0 0], .int .i64 ve]) (by simp [results, Tryz.results20, go_sem, z0, z1]) rfl ⟨HF.out _, .inl ⟨Hne.out, rfl⟩⟩
    · have x3 := x2.keep hb4
      have z0 := x3.cell 0 rfl
      have f0 := x3.frozen 0
      have hF : ∀ v : Value, Below w.heap.size w (w3.setCell ⟨w.heap.size + 1, 0, none⟩ v) ∧ OMat (w3.setCell ⟨w.heap.size + 1, 0, none⟩ v) w.heap.size ar V.2.length cr R V.2 := fun v => by
        refine ⟨(Below.next hbw2 hb4).setCell (by simp) v, ?_⟩
        refine (OMat.mono hO hbw2.size).of_blocks fun x hx => Below.heap_setCell _ _ _ _ fun e => ?_
        have h1 := (hO.lt x hx).1
        have e' : x = w.heap.size + 1 := e
        omega
      have HF := Lib.hid hF
      obtain ⟨ve, vt⟩ := V
      dsimp only at hv HF ⊢
      subst hv
      clear x3 hO hF
      go_wp2_with fail
      have z1 : (w3.setCell ⟨w.heap.size + 1, 0, none⟩ (.slice ar vt.length cr)).cell? ⟨w.heap.size + 1, 0, none⟩ = some (.slice ar vt.length cr) := World.cell?_setCell_same _ _ _ z0
      exact bodyPost_ret (v := .tuple #[.agg #[.slice ar vt.length cr], .int .i64 0]) (by simp [results, Tryz.results20, go_sem, z0, z1]) rfl ⟨(HF.out _).1, .inr ⟨rfl, ar, cr, R, rfl, (HF.out _).2⟩⟩
end

/- The walks of CheckDistance and BuildDistance of the package exclusion. -/
section
open Go.RowKit

theorem rkc_wt {P M : Int} {mod : List Int} {N : Int} {L : List (List Int)} {d z : Int} (hz : 1 ≤ N → N ≤ 64 → z = wtD N d) (mm : Int) : rkcE P M mod N L mm z = rkcE P M mod N L mm (wtD N d) := by
  unfold rkcE
  by_cases hE : codeE P M mod N L = 0
  · obtain ⟨_, h1, h2, _⟩ := codeE_zero hE
    rw [hz h1 h2]
  · rw [if_neg hE, if_neg hE]
theorem rkc_code {P M : Int} {mod : List Int} {N : Int} {L : List (List Int)} {mm z : Int} (h : rkcE P M mod N L mm z = 0) : codeE P M mod N L = 0 := by
  unfold rkcE at h
  by_cases hE : codeE P M mod N L = 0
  · exact hE
  · rw [if_neg hE] at h; exact h
theorem chk_wt {P M : Int} {mod : List Int} {N : Int} {L : List (List Int)} {d z : Int} (hz : 1 ≤ N → N ≤ 64 → z = wtD N d) (mm : Int) (ts : List (List Int)) : chkRE P M mod N L mm z ts = chkRE P M mod N L mm (wtD N d) ts := by
  by_cases hE : codeE P M mod N L = 0
  · obtain ⟨_, h1, h2, _⟩ := codeE_zero hE
    rw [hz h1 h2]
  · unfold chkRE
    rw [rkc_wt hz, if_neg (fun h => hE (rkc_code h)), if_neg (fun h => hE (rkc_code h))]
theorem bld_wt {P M : Int} {mod : List Int} {N : Int} {L : List (List Int)} {d z : Int} (hz : 1 ≤ N → N ≤ 64 → z = wtD N d) (mm : Int) : bldRE P M mod N L mm z = bldRE P M mod N L mm (wtD N d) := by
  by_cases hE : codeE P M mod N L = 0
  · obtain ⟨_, h1, h2, _⟩ := codeE_zero hE
    rw [hz h1 h2]
  · unfold bldRE
    rw [rkc_wt hz, if_neg (fun h => hE (rkc_code h)), if_neg (fun h => hE (rkc_code h))]

set_option maxRecDepth 100000 in
set_option maxHeartbeats 1600000 in
theorem exCheckDistance_any (P M : Int) (am : Option Addr) (mn cm : Nat) (mod : List Int) (N : Int) (a : Option Addr) (n c : Nat) (L : List (List Int)) (d : Int) (ax : Option Addr) (nx cx : Nat) (ts : List (List Int)) (w : World)
    (hmod : Ints w am mn mod) (hi : Mat w a n L) (hts : Mat w ax nx ts) :
    Calls Tryz.prog 25 #[.agg #[.int .i64 P, .int .i64 M, .slice am mn cm, .int .i64 N, .slice a n c], .int .i64 d, .agg #[.slice ax nx cx]] w fun e w' => e = .returned (.int .i64 (chkRE P M mod N L n (wtD N d) ts)) ∧ Below w.heap.size w w' := by
  obtain ⟨V, hV⟩ : ∃ V, chkRE P M mod N L n (wtD N d) ts = V := ⟨_, rfl⟩
  rw [hV]
  have HCk : Hid (∀ (W : World) (z : Int), Below w.heap.size w W → (1 ≤ N → N ≤ 64 → z = wtD N d) → Calls Tryz.prog 17 #[.agg #[.int .i64 P, .int .i64 M, .slice am mn cm, .int .i64 N, .slice a n c], .int .i64 n, .int .i64 z, .agg #[.slice ax nx cx]] W
      fun e w' => e = .returned (.int .i64 V) ∧ Below W.heap.size W w') := fun W z hW hz => by
    have h1 := exCheckRank_any P M am mn cm mod N a n c L n z ax nx cx ts W (hmod.keep hW) (hi.keep hW) (hts.keep hW)
    rw [chk_wt hz, hV] at h1
    exact h1
  clear hmod hi hts hV
  go_enter Tryz.func25, Tryz.ntmps25
  go_upto_region 1 with fail
  obtain ⟨U, hU⟩ : ∃ U : World, U = (w.alloc (.cells #[.int .i64 P, .int .i64 M, .slice am mn cm, .int .i64 N, .slice a n c] 27)).alloc (.cells #[.slice ax nx cx] 30) := ⟨_, rfl⟩
  rw [← hU]
  have hbU : Below w.heap.size w U := by rw [hU]; exact below2 _ _ _
  have x0 : Box U w.heap.size [.int .i64 P, .int .i64 M, .slice am mn cm, .int .i64 N, .slice a n c] := by rw [hU]; exact (Box.new _ _ _ rfl).alloc _
  have y0 : Box U (w.heap.size + 1) [.slice ax nx cx] := by rw [hU]; exact Box.new _ _ _ (by simp)
  have HS : Hid (∀ V, Below U.heap.size U V → V.cell? ⟨w.heap.size, 0, none⟩ = some (.int .i64 P) ∧ V.cell? ⟨w.heap.size, 1, none⟩ = some (.int .i64 M) ∧ V.cell? ⟨w.heap.size, 2, none⟩ = some (.slice am mn cm) ∧ V.cell? ⟨w.heap.size, 3, none⟩ = some (.int .i64 N) ∧ V.cell? ⟨w.heap.size, 4, none⟩ = some (.slice a n c) ∧
      V.cell? ⟨w.heap.size + 1, 0, none⟩ = some (.slice ax nx cx) ∧ Below U.heap.size U V) := fun V hV => by
    have x1 := x0.keep hV
    exact ⟨x1.cell 0 rfl, x1.cell 1 rfl, x1.cell 2 rfl, x1.cell 3 rfl, x1.cell 4 rfl, (y0.keep hV).cell 0 rfl, hV⟩
  have HbU := Lib.hid hbU
  clear hU hbU x0 y0
  go_cut [6] (fun v wx => v = .int .i64 V ∧ Below U.heap.size U wx)
  case first =>
    go_region_held3 (fun V => V.cell? ⟨w.heap.size, 0, none⟩ = some (.int .i64 P) ∧ V.cell? ⟨w.heap.size, 1, none⟩ = some (.int .i64 M) ∧ V.cell? ⟨w.heap.size, 2, none⟩ = some (.slice am mn cm) ∧ V.cell? ⟨w.heap.size, 3, none⟩ = some (.int .i64 N) ∧ V.cell? ⟨w.heap.size, 4, none⟩ = some (.slice a n c) ∧
        V.cell? ⟨w.heap.size + 1, 0, none⟩ = some (.slice ax nx cx) ∧ Below U.heap.size U V)
      ((refine HS.out _ ?_; first | exact hb5w | exact hb3w | exact (Below.refl _ _).drew | assumption | (go_split_ands; assumption)))
      (first
      | (go_at_call 58; ((with_reducible refine (exWeight_any P M am mn cm N a n c d _).mono ?_); rintro e w3 ⟨⟨z, rfl, hz⟩, hb3⟩; have hb3w : Below U.heap.size U w3 := (by go_split_ands; exact Below.next (by assumption) hb3)))
      | (go_at_call 17; ((with_reducible refine (HCk.out _ z (Below.next HbU.out (by go_split_ands; assumption)) hz).mono ?_); rintro e w5 ⟨rfl, hb5⟩; have hb5w : Below U.heap.size U w5 := (by go_split_ands; exact Below.next (by assumption) hb5))))
    all_goals (go_wp2_with fail; go_meet; exact ⟨rfl, hb5w⟩)
  obtain ⟨rfl, hb5w⟩ := hcut
  have hF := Below.next HbU.out hb5w
  go_wp2_with fail
  go_ret
  exact ⟨rfl, hF⟩

set_option maxRecDepth 100000 in
set_option maxHeartbeats 1600000 in
theorem exBuildDistance_any (P M : Int) (am : Option Addr) (mn cm : Nat) (mod : List Int) (N : Int) (a : Option Addr) (n c : Nat) (L : List (List Int)) (d : Int) (w : World)
    (hmod : Ints w am mn mod) (hi : Mat w a n L) :
    Calls Tryz.prog 23 #[.agg #[.int .i64 P, .int .i64 M, .slice am mn cm, .int .i64 N, .slice a n c], .int .i64 d] w (ExBldPost (bldRE P M mod N L n (wtD N d)) w) := by
  obtain ⟨V, hV⟩ : ∃ V, bldRE P M mod N L n (wtD N d) = V := ⟨_, rfl⟩
  rw [hV]
  have HCk : Hid (∀ (W : World) (z : Int), Below w.heap.size w W → (1 ≤ N → N ≤ 64 → z = wtD N d) → Calls Tryz.prog 20 #[.agg #[.int .i64 P, .int .i64 M, .slice am mn cm, .int .i64 N, .slice a n c], .int .i64 n, .int .i64 z] W
      fun e w' => ∃ av nv cv, e = .returned (.tuple #[.agg #[.slice av nv cv], .int .i64 V.1]) ∧ Below W.heap.size W w' ∧ ((V.1 ≠ 0 ∧ av = none ∧ nv = 0 ∧ cv = 0) ∨ (V.1 = 0 ∧ nv = V.2.length ∧ ∃ R, OMat w' W.heap.size av V.2.length cv R V.2))) := fun W z hW hz => by
    have h1 := exBuildRank_any P M am mn cm mod N a n c L n z W (hmod.keep hW) (hi.keep hW)
    rw [bld_wt hz, hV] at h1
    refine h1.mono ?_
    rintro e w' ⟨hb, ⟨h2, rfl⟩ | ⟨h2, ar, cr, R, rfl, hO⟩⟩
    · exact ⟨none, 0, 0, rfl, hb, .inl ⟨h2, rfl, rfl, rfl⟩⟩
    · exact ⟨ar, _, cr, by rw [h2], hb, .inr ⟨h2, rfl, R, hO⟩⟩
  clear hmod hi hV
  go_enter Tryz.func23, Tryz.ntmps23
  go_upto_region 1 with fail
  obtain ⟨U, hU⟩ : ∃ U : World, U = (w.alloc (.cells #[.int .i64 P, .int .i64 M, .slice am mn cm, .int .i64 N, .slice a n c] 27)).alloc (.cells #[.slice none 0 0] 30) := ⟨_, rfl⟩
  rw [← hU]
  have hbU : Below w.heap.size w U := by rw [hU]; exact below2 _ _ _
  have x0 : Box U w.heap.size [.int .i64 P, .int .i64 M, .slice am mn cm, .int .i64 N, .slice a n c] := by rw [hU]; exact (Box.new _ _ _ rfl).alloc _
  have y0 : Box U (w.heap.size + 1) [.slice none 0 0] := by rw [hU]; exact Box.new _ _ _ (by simp)
  have HS : Hid (∀ V, Below U.heap.size U V → V.cell? ⟨w.heap.size, 0, none⟩ = some (.int .i64 P) ∧ V.cell? ⟨w.heap.size, 1, none⟩ = some (.int .i64 M) ∧ V.cell? ⟨w.heap.size, 2, none⟩ = some (.slice am mn cm) ∧ V.cell? ⟨w.heap.size, 3, none⟩ = some (.int .i64 N) ∧ V.cell? ⟨w.heap.size, 4, none⟩ = some (.slice a n c) ∧
      V.cell? ⟨w.heap.size + 1, 0, none⟩ = some (.slice none 0 0) ∧ V.frozen? ⟨w.heap.size + 1, 0, none⟩ = false) := fun V hV => by
    have x1 := x0.keep hV
    exact ⟨x1.cell 0 rfl, x1.cell 1 rfl, x1.cell 2 rfl, x1.cell 3 rfl, x1.cell 4 rfl, (y0.keep hV).cell 0 rfl, (y0.keep hV).frozen 0⟩
  have HbU := Lib.hid hbU
  have hy1 := y0.1
  obtain ⟨c0, c1, c2, c3, c4, c5, c6⟩ := HS.out U (Below.refl _ _)
  clear hU hbU x0 y0
  go_region_law ((first
    | (go_simp; go_at_call 58; ((with_reducible refine (exWeight_any P M am mn cm N a n c d _).mono ?_); rintro e w3 ⟨⟨z, rfl, hz⟩, hb3⟩; have hb3w : Below U.heap.size U w3 := Below.next (Below.refl _ _).drew hb3; obtain ⟨d0, d1, d2, d3, d4, d5, d6⟩ := HS.out w3 hb3w))
    | (go_simp; go_at_call 20; ((with_reducible refine (HCk.out _ z (Below.next HbU.out hb3w) hz).mono ?_); rintro e w5 ⟨av, nv, cv, rfl, hb5, hV5⟩; have hb5w : Below U.heap.size U w5 := Below.next hb3w hb5; obtain ⟨e0, e1, e2, e3, e4, e5, e6⟩ := HS.out w5 hb5w))))
  all_goals (
    have hF : Below w.heap.size w (w5.setCell ⟨w.heap.size + 1, 0, none⟩ (.slice av nv cv)) := (Below.next HbU.out hb5w).setCell (by simp) _
    have HV5 : Hid (ExBldPost V w (.returned (.tuple #[.agg #[.slice av nv cv], .int .i64 V.1])) (w5.setCell ⟨w.heap.size + 1, 0, none⟩ (.slice av nv cv))) := by
      refine ⟨hF, ?_⟩
      rcases hV5 with ⟨h1, rfl, rfl, rfl⟩ | ⟨h1, rfl, R, hO⟩
      · exact .inl ⟨h1, rfl⟩
      · refine .inr ⟨h1, av, cv, R, by rw [h1], ?_⟩
        have hs3 := hb3w.size
        have hsU := HbU.out.size
        refine (OMat.mono hO (Nat.le_trans hsU hs3)).of_blocks fun x hx => Below.heap_setCell _ _ _ _ fun e => ?_
        have h2 := (hO.lt x hx).1
        have e' : x = w.heap.size + 1 := e
        omega
    clear hV5 hF c0 c1 c2 c3 c4 c5 c6 d0 d1 d2 d3 d4 d5 d6
    go_wp2_with fail
    have z1 : (w5.setCell ⟨w.heap.size + 1, 0, none⟩ (.slice av nv cv)).cell? ⟨w.heap.size + 1, 0, none⟩ = some (.slice av nv cv) := World.cell?_setCell_same _ _ _ e5
    exact bodyPost_ret (v := .tuple #[.agg #[.slice av nv cv], .int .i64 V.1]) (by simp [results, Tryz.results23, go_sem, e5, z1]) rfl HV5.out)
end

/- Plain: what an accepted tree proves of ranks and of weights. -/
section
section
variable {O : FOps} {El : Int → Prop} {m : Nat} {L : List (List Int)} {C : Clm}
end

section
variable {P M : Int} {mod : List Int} {m : Nat} {L : List (List Int)}
end
end

/- Plain: what light counts, and what an accepted tree proves of a coset. -/
section
open Go.RowKit

variable {O : FOps} {El : Int → Prop} {m : Nat} {L : List (List Int)}

/-- entries of a cleared row -/
theorem nth_clrV (F : Fld O El) {v r : List Int} {i x : Nat} (hv : Vc El m v) (hr : Vc El m r) (hi : i < m) (hx : x < m) : nth (clrS O v i r) x = O.add (nth v x) (O.neg (O.mul (nth r x) (nth v i))) := by
  by_cases h0 : nth v i = 0
  · have e : clrS O v i r = v := by unfold clrS; rw [if_pos h0]
    rw [e, h0, F.mzero (hr.at hx), F.nzero, F.add_zero _ (hv.at hx)]
  · rw [nth_clrS O v i r x (by rw [hr.1, hv.1]) (by rw [hv.1]; exact hx) h0]
    split
    · rename_i h1
      rw [h1, F.zmul (hv.at hi), F.nzero, F.add_zero _ (hv.at hx)]
    · rw [F.mul_comm _ _ (hv.at hi) (hr.at hx)]
theorem clr_vc (F : Fld O El) {v r : List Int} {i : Nat} (hv : Vc El m v) (hr : Vc El m r) (hi : i < m) : Vc El m (clrS O v i r) :=
  ⟨by rw [clrS_length _ _ _ _ (by rw [hr.1, hv.1])]; exact hv.1, clrS_el F.cl hv.2 hr.2 (by rw [hr.1, hv.1]) (by rw [hv.1]; exact hi)⟩
theorem nthR_clr (O : FOps) (t i : Nat) (L : List (List Int)) : ∀ l, l ≤ L.length → ∀ j, nthR (clrTo O t i L l) j = if j < l ∧ t < j then clrS O (nthR L j) i (nthR L t) else nthR L j
  | 0, _, j => by rw [clrTo, if_neg (by omega)]
  | l + 1, hl, j => by
    have ih := nthR_clr O t i L l (by omega)
    rw [clrTo]
    by_cases htl : t < l
    · rw [if_pos htl, nthR_set _ _ _ _ (by rw [clrTo_length]; omega)]
      by_cases e : j = l
      · subst e; rw [if_pos rfl, ih j, ih t, if_neg (by omega), if_neg (by omega), if_pos ⟨by omega, htl⟩]
      · rw [if_neg e, ih j]
        by_cases h : j < l ∧ t < j
        · rw [if_pos h, if_pos ⟨by omega, h.2⟩]
        · rw [if_neg h, if_neg fun hh => h ⟨by omega, hh.2⟩]
    · rw [if_neg htl, ih j]
      by_cases h : j < l ∧ t < j
      · rw [if_pos h, if_pos ⟨by omega, h.2⟩]
      · rw [if_neg h, if_neg fun hh => h ⟨by omega, hh.2⟩]
/-- the rows behind a step -/
theorem nthR_lgt (O : FOps) {L : List (List Int)} {t k : Nat} (i : Nat) (ht : t < L.length) (hk : k < L.length) (htk : t ≤ k) {j : Nat} (hj : j < L.length) :
    nthR (lgtPiv O L t k i) j = if t < j then clrS O (nthR L (flipN t k j)) i ((nthR L k).map (O.mul (O.inv (nth (nthR L k) i)))) else if j = t then (nthR L k).map (O.mul (O.inv (nth (nthR L k) i))) else nthR L j := by
  have hft : flipN t k t = k := by
    unfold flipN
    by_cases e : t = k
    · rw [if_pos e]; exact e
    · rw [if_neg e, if_pos rfl]
  unfold lgtPiv
  rw [nthR_swap _ _ _ _ ht hk, hft, nthR_clr _ _ _ _ _ (by rw [List.length_set, swapRow_length]; exact Nat.le_refl _)]
  rw [nthR_set _ _ _ _ (by rw [swapRow_length]; exact ht), nthR_set _ _ _ _ (by rw [swapRow_length]; exact ht), if_pos rfl, nthR_swap _ _ _ _ ht hk]
  by_cases h : t < j
  · rw [if_pos ⟨hj, h⟩, if_pos h, if_neg (by omega)]
  · rw [if_neg fun hh => h hh.2, if_neg h]
    by_cases e : j = t
    · rw [if_pos e, if_pos e]
    · rw [if_neg e, if_neg e]
      have hf : flipN t k j = j := by unfold flipN; rw [if_neg (by omega), if_neg e]
      rw [hf]
structure LInv (O : FOps) (El : Int → Prop) (m : Nat) (L : List (List Int)) (y t : List Int) (k : Nat) (st : LS) : Prop where
  rws : Rws El m st.rows
  len : st.rows.length = L.length
  vc : Vc El m st.sum
  top : st.top = k
  kl : k ≤ L.length
  sup : RSub O El m L st.rows
  sub : RSub O El m st.rows L
  cos : ∃ f, RS O El m L f ∧ (∀ x, x < m → El (f x)) ∧ ∀ x, x < m → nth st.sum x = O.add (nth y x) (f x)
  one : ∀ i, i < k → nth (nthR st.rows i) (nth t i).toNat = 1
  zero : ∀ j i, j < k → j < i → i < L.length → nth (nthR st.rows i) (nth t j).toNat = 0
  sz : ∀ j, j < k → nth st.sum (nth t j).toNat = 0

/-- a column that is 0 from the k-th row on depends on the columns ahead -/
theorem tri_clo (F : Fld O El) {R : List (List Int)} {t : List Int} {k : Nat} (hR : Rws El m R) (hk : k ≤ R.length) (hone : ∀ i, i < k → nth (nthR R i) (nth t i).toNat = 1) (hzero : ∀ j i, j < k → j < i → i < R.length → nth (nthR R i) (nth t j).toNat = 0)
    {x : Nat} (hx : ∀ i, k ≤ i → i < R.length → nth (nthR R i) x = 0) : clV O El R.length (colS R) (grL t k) x := by
  intro φ hφ h0
  have hc := colS_vc hR F.zero
  have hu : ∀ j, j < k → φ (unitR R.length j) = 0 := by
    intro j
    induction j using Nat.strongRecOn with
    | ind j ih =>
      intro hj
      have h1 := h0 (nth t j).toNat ((mem_grL t _ k).2 ⟨j, hj, rfl⟩)
      rw [form_unit F hφ (hc _)] at h1
      have hel := hφ.el _ (unitR_vc F R.length j)
      have h2 : ∀ p, p < R.length → nth (colS R (nth t j).toNat) p = nth (nthR R p) (nth t j).toNat := fun p hp => nth_colS R _ p hp
      rw [dotN_one F (x := j) (by
        show El (O.mul (φ (unitR R.length j)) (nth (colS R (nth t j).toNat) j))
        rw [h2 j (by omega), hone j hj, F.mone hel]; exact hel) R.length (fun p hp hpj => by
        show O.mul (φ (unitR R.length p)) (nth (colS R (nth t j).toNat) p) = 0
        rw [h2 p hp]
        by_cases e : p < j
        · rw [ih p e (by omega), ← h2 p hp, F.zmul ((hc _).at hp)]
        · rw [hzero j p hj (by omega) hp, F.mzero (hφ.el _ (unitR_vc F _ p))]), if_pos (by omega)] at h1
      have h3 : O.mul (φ (unitR R.length j)) (nth (colS R (nth t j).toNat) j) = 0 := h1
      rw [h2 j (by omega), hone j hj, F.mone hel] at h3
      exact h3
  rw [form_unit F hφ (hc _)]
  refine dotN_zero F _ fun p hp => ?_
  show O.mul (φ (unitR R.length p)) (nth (colS R x) p) = 0
  by_cases e : p < k
  · rw [hu p e, F.zmul ((hc _).at hp)]
  · rw [nth_colS R _ p hp, hx p (by omega) hp, F.mzero (hφ.el _ (unitR_vc F _ p))]

theorem gA_take {t : List Int} {k : Nat} (hk : k ≤ t.length) {y : Nat} (h : y ∈ grL t k) : y ∈ gA (t.take k) := by
  obtain ⟨j, hj, rfl⟩ := (mem_grL t _ k).1 h
  refine mem_gA.2 ⟨nth t j, ?_, rfl⟩
  rw [nth_getElem (show j < t.length by omega)]
  rw [List.mem_take_iff_getElem]
  exact ⟨j, by omega, rfl⟩
/-- no entry of an independent list depends on those ahead -/
theorem ind_step (F : Fld O El) (hL : Rws El m L) {t : List Int} (ht : rkQ O L t = t.length) {k : Nat} (hk : k < t.length) : ¬ clV O El L.length (colS L) (gA (t.take k)) (nth t k).toNat := fun hc => by
  have h1 : rkQ O L (t.take (k + 1)) = (t.take (k + 1)).length := ind_left F hL (A := t.drop (k + 1)) (by rw [List.take_append_drop]; exact ht)
  have h2 := rkQ_le O L (t.take k)
  have h3 := rkQ_rk F hL (t.take k ++ [nth t k])
  rw [gA_snoc] at h3
  have h4 := h3.uniq (Rk.dep _ hc (rkQ_rk F hL (t.take k)))
  have e : t.take (k + 1) = t.take k ++ [nth t k] := by rw [List.take_succ_eq_append_getElem hk, nth_getElem hk]
  rw [e] at h1
  rw [List.length_append, List.length_take, List.length_singleton] at h1
  rw [List.length_take] at h2
  omega

theorem lgt_next (F : Fld O El) (hL : Rws El m L) {y t : List Int} (hT : InN m t) (ht : rkQ O L t = t.length) {k : Nat} (hk : k < t.length) {st : LS} (h : LInv O El m L y t k st) (hy : Vc El m y) : LInv O El m L y t (k + 1) (lgtStep O st (nth t k).toNat) := by
  have hi0 := hT k hk
  have hi : (nth t k).toNat < m := by omega
  obtain ⟨i, hie⟩ : ∃ i, (nth t k).toNat = i := ⟨_, rfl⟩
  have htop := h.top
  have hlen := h.len
  have hkl : k ≤ st.rows.length := by rw [hlen]; exact h.kl
  have hfound : findRow st.rows i st.top ≠ st.rows.length := fun hf => by
    refine ind_step F hL ht hk ?_
    have h1 : clV O El st.rows.length (colS st.rows) (grL t k) i := tri_clo F h.rws hkl h.one (fun j i' h1 h2 h3 => h.zero j i' h1 h2 (by omega)) fun p hp hpl => by
      refine findTo_zero st.rows i (st.rows.length - st.top) st.top p (by omega) ?_
      unfold findRow at hf
      omega
    have h2 := RSub.cl h.sup (fun z hz => by
      obtain ⟨j, hj, rfl⟩ := (mem_grL t _ k).1 hz
      have := hT j (by omega)
      omega) (by omega) h1
    rw [hie]
    exact (col_clo F hL).sub (fun z hz => gA_take (by omega) hz) h2
  obtain ⟨a1, a2, a3⟩ := find_lt (by omega) hfound
  have hq : ∃ q, findRow st.rows i st.top = q := ⟨_, rfl⟩
  obtain ⟨q, hqe⟩ := hq
  rw [hqe] at a1 a2 a3 hfound
  have hkn : k < st.rows.length := by omega
  rw [hie] at hi ⊢
  have hstep : lgtStep O st i = ⟨lgtPiv O st.rows st.top q i, clrS O st.sum i (nthR (lgtPiv O st.rows st.top q i) st.top), st.top + 1⟩ := by
    unfold lgtStep
    rw [hqe, if_neg hfound]
  rw [hstep, htop]
  rw [htop] at a1
  -- the new row
  have hrq := h.rws.row (i := q) a2
  have hp : El (nth (nthR st.rows q) i) := Vc.at hrq hi
  have hpi := F.cl.inv _ hp a3
  obtain ⟨N, hN⟩ : ∃ N, (nthR st.rows q).map (O.mul (O.inv (nth (nthR st.rows q) i))) = N := ⟨_, rfl⟩
  have hNv : Vc El m N := by rw [← hN]; exact Vc.scl F hrq hpi
  have hNx : ∀ x, x < m → nth N x = O.mul (O.inv (nth (nthR st.rows q) i)) (nth (nthR st.rows q) x) := fun x hx => by rw [← hN]; exact nth_scl O _ _ (by rw [hrq.1]; exact hx)
  have hNi : nth N i = 1 := by rw [hNx i hi, F.mul_comm _ _ hpi hp, F.mul_inv _ hp a3]
  obtain ⟨R', hR'⟩ : ∃ R', lgtPiv O st.rows k q i = R' := ⟨_, rfl⟩
  have hrow : ∀ j, j < st.rows.length → nthR R' j = if k < j then clrS O (nthR st.rows (flipN k q j)) i N else if j = k then N else nthR st.rows j := fun j hj => by
    rw [← hR', nthR_lgt O i hkn a2 a1 hj, hN]
  have hR'l : R'.length = st.rows.length := by rw [← hR', lgtPiv_length]
  have hR'r : Rws El m R' := by rw [← hR']; exact lgtPiv_rws F.cl h.rws hkn a2 hi a3
  have hrk : nthR R' k = N := by rw [hrow k hkn, if_neg (by omega), if_pos rfl]
  have hfl : ∀ j, j < st.rows.length → flipN k q j < st.rows.length := fun j hj => flipN_lt hkn a2 hj
  have hclx : ∀ j x, j < st.rows.length → k < j → x < m → nth (nthR R' j) x = O.add (nth (nthR st.rows (flipN k q j)) x) (O.neg (O.mul (nth N x) (nth (nthR st.rows (flipN k q j)) i))) := fun j x hj hkj hx => by
    rw [hrow j hj, if_pos hkj]
    exact nth_clrV F (h.rws.row (hfl j hj)) hNv hi hx
  have hNrs : RS O El m st.rows (fun x => nth N x) := ((RS.row F a2).smul F hpi).congr fun x hx => hNx x hx
  have hsub' : RSub O El m R' st.rows := fun j hj => by
    rw [hR'l] at hj
    by_cases h1 : k < j
    · exact ((RS.row F (hfl j hj)).comb F hNrs (Vc.at (h.rws.row (hfl j hj)) hi)).congr fun x hx => hclx j x hj h1 hx
    · by_cases h2 : j = k
      · subst h2
        rw [hrk]; exact hNrs
      · rw [hrow j hj, if_neg h1, if_neg h2]
        exact RS.row F hj
  have hkR : k < R'.length := by omega
  have hsup' : RSub O El m st.rows R' := fun j hj => by
    by_cases h1 : j < k
    · refine (RS.row F (i := j) (by omega)).congr fun x hx => ?_
      rw [hrow j hj, if_neg (by omega), if_neg (by omega)]
    · by_cases h2 : j = q
      · subst h2
        refine ((RS.row F hkR).smul F hp).congr fun x hx => ?_
        have hx1 : El (nth (nthR st.rows j) x) := Vc.at hrq hx
        rw [hrk, hNx x hx, ← F.mul_assoc _ _ _ hp hpi hx1, F.mul_inv _ hp a3, F.one_mul _ hx1]
      · obtain ⟨j', hj', hkj, hfj⟩ : ∃ j', j' < st.rows.length ∧ k < j' ∧ flipN k q j' = j := by
          by_cases h3 : j = k
          · refine ⟨q, a2, by omega, ?_⟩
            unfold flipN
            rw [if_pos rfl, h3]
          · refine ⟨j, hj, by omega, ?_⟩
            unfold flipN
            rw [if_neg h2, if_neg h3]
        have hs : El (nth (nthR st.rows j) i) := Vc.at (h.rws.row hj) hi
        refine ((RS.row F (i := j') (by omega)).comb F (RS.row F hkR) (F.cl.neg _ hs)).congr fun x hx => ?_
        have hx2 : El (nth (nthR st.rows j) x) := Vc.at (h.rws.row hj) hx
        have hq := F.cl.mul _ _ (hNv.at hx) hs
        rw [hclx j' x hj' hkj hx, hfj, hrk, F.mul_neg (hNv.at hx) hs, F.neg_neg hq, F.add_assoc _ _ _ hx2 (F.cl.neg _ hq) hq, F.negadd hq, F.add_zero _ hx2]
  rw [hR', hrk]
  -- zeros of the rows from k on
  have hlow : ∀ j p, j < k → k ≤ p → p < st.rows.length → nth (nthR st.rows p) (nth t j).toNat = 0 := fun j p h1 h2 h3 => h.zero j p h1 (by omega) (by omega)
  have hNj : ∀ j, j < k → nth N (nth t j).toNat = 0 := fun j hj => by
    have := hT j (by omega)
    rw [hNx _ (by omega), hlow j q hj a1 a2, F.mzero hpi]
  refine ⟨hR'r, (show R'.length = L.length by omega), clr_vc F h.vc hNv hi, rfl, by omega, h.sup.trans hsup', hsub'.trans h.sub, ?_, ?_, ?_, ?_⟩
  · obtain ⟨f, hf, hfe, hfx⟩ := h.cos
    have hs := h.vc.at hi
    refine ⟨_, hf.comb F (h.sub.rs hNrs) hs, fun x hx => F.cl.add _ _ (hfe x hx) (F.cl.neg _ (F.cl.mul _ _ (hNv.at hx) hs)), fun x hx => ?_⟩
    have hq := F.cl.neg _ (F.cl.mul _ _ (hNv.at hx) hs)
    show nth (clrS O st.sum i N) x = _
    rw [nth_clrV F h.vc hNv hi hx, hfx x hx, F.add_assoc _ _ _ (hy.at hx) (hfe x hx) hq]
  · intro i' hi'
    show nth (nthR R' i') _ = 1
    by_cases e : i' = k
    · subst e
      rw [hrk, hie]; exact hNi
    · rw [hrow i' (by omega), if_neg (by omega), if_neg e]
      exact h.one i' (by omega)
  · intro j i' hj hji hil
    show nth (nthR R' i') _ = 0
    have htj := hT j (by omega)
    by_cases e : j = k
    · subst e
      rw [hie, hclx i' i (by omega) hji hi, hNi]
      have hv : El (nth (nthR st.rows (flipN j q i')) i) := Vc.at (h.rws.row (hfl i' (by omega))) hi
      rw [F.one_mul _ hv, F.add_neg _ hv]
    · by_cases e2 : k < i'
      · rw [hclx i' _ (by omega) e2 (by omega), hNj j (by omega)]
        have hv : El (nth (nthR st.rows (flipN k q i')) i) := Vc.at (h.rws.row (hfl i' (by omega))) hi
        have hfk : k ≤ flipN k q i' := by unfold flipN; split <;> (try split) <;> omega
        rw [hlow j _ (by omega) hfk (hfl i' (by omega)), F.zmul hv, F.nzero, F.add_zero _ F.zero]
      · by_cases e3 : i' = k
        · subst e3
          rw [hrk]; exact hNj j (by omega)
        · rw [hrow i' (by omega), if_neg e2, if_neg e3]
          exact h.zero j i' (by omega) hji hil
  · intro j hj
    show nth (clrS O st.sum i N) _ = 0
    have htj := hT j (by omega)
    have hs := h.vc.at hi
    by_cases e : j = k
    · subst e
      rw [hie, nth_clrV F h.vc hNv hi hi, hNi, F.one_mul _ hs, F.add_neg _ hs]
    · rw [nth_clrV F h.vc hNv hi (by omega), hNj j (by omega), h.sz j (by omega), F.zmul hs, F.nzero, F.add_zero _ F.zero]
theorem lgt_inv (F : Fld O El) (hL : Rws El m L) {y t : List Int} (hT : InN m t) (ht : rkQ O L t = t.length) (hy : Vc El m y) : ∀ k, k ≤ t.length → LInv O El m L y t k (lgtTo O L y t k)
  | 0, _ => by
    refine ⟨hL, rfl, hy, rfl, Nat.zero_le _, RSub.refl F L, RSub.refl F L, ?_, fun i hi => by omega, fun j i hj => by omega, fun j hj => by omega⟩
    refine ⟨fun _ => 0, ?_, fun x _ => F.zero, fun x hx => by show nth y x = _; rw [F.add_zero _ (hy.at hx)]⟩
    exact RS.nul F fun _ _ => rfl
  | k + 1, hk => by
    rw [lgtTo]
    exact lgt_next F hL hT ht (by omega) (lgt_inv F hL hT ht hy k (by omega)) hy

/-- a word of the coset of y -/
def Cos (O : FOps) (El : Int → Prop) (m : Nat) (L : List (List Int)) (y X : List Int) : Prop := Vc El m X ∧ ∃ f, RS O El m L f ∧ (∀ x, x < m → El (f x)) ∧ ∀ x, x < m → nth X x = O.add (nth y x) (f x)
/-- words of a coset that are 0 at columns which span are equal there -/
theorem cos_uniq (F : Fld O El) (hL : Rws El m L) {y X X' t Q : List Int} (hy : Vc El m y) (hX : Cos O El m L y X) (hX' : Cos O El m L y X') (hT : InN m t) (ht : rkQ O L Q ≤ rkQ O L t) (hQ : ∀ x ∈ t, x ∈ Q)
    (h0 : ∀ x ∈ t, nth X x.toNat = 0) (h0' : ∀ x ∈ t, nth X' x.toNat = 0) {x : Int} (hx : x ∈ Q) (hxm : x.toNat < m) : nth X x.toNat = nth X' x.toNat := by
  obtain ⟨hXv, f, ⟨e, he, hfe⟩, hfel, hfx⟩ := hX
  obtain ⟨hXv', f', ⟨e', he', hfe'⟩, hfel', hfx'⟩ := hX'
  have hone := F.one
  have hc : clV O El L.length (colS L) (gA t) x.toNat := by
    refine Classical.byContradiction fun hn => ?_
    have h1 := rkQ_out F hL (Q := t) (x := x) hn
    have h2 := rkQ_mono F hL (Q := t ++ [x]) (Q' := Q) fun z hz => by
      rcases List.mem_append.1 hz with hz | hz
      · exact hQ z hz
      · rw [List.mem_singleton.1 hz]; exact hx
    omega
  have hd := hc _ (he.comb F he' hone) fun z hz => by
    obtain ⟨p, hp, rfl⟩ := mem_gA.1 hz
    obtain ⟨j, hj, rfl⟩ := List.mem_iff_getElem.1 hp
    have hb := hT j hj
    rw [nth_getElem hj] at hb
    show O.add (e (colS L (t[j]).toNat)) (O.neg (O.mul (e' (colS L (t[j]).toNat)) 1)) = 0
    have k1 := h0 _ hp
    have k2 := h0' _ hp
    rw [hfx _ (by omega)] at k1
    rw [hfx' _ (by omega)] at k2
    have yv := hy.at (i := (t[j]).toNat) (by omega)
    have q1 := F.neg_of yv (hfel _ (by omega)) k1
    have q2 := F.neg_of yv (hfel' _ (by omega)) k2
    rw [← hfe _ (by omega), ← hfe' _ (by omega), q1, q2, F.mone (F.cl.neg _ yv), F.add_neg _ (F.cl.neg _ yv)]
  have hd' : O.add (e (colS L x.toNat)) (O.neg (O.mul (e' (colS L x.toNat)) 1)) = 0 := hd
  rw [← hfe _ hxm, ← hfe' _ hxm, F.mone (hfel' _ hxm)] at hd'
  have q := F.neg_of (hfel _ hxm) (F.cl.neg _ (hfel' _ hxm)) hd'
  have q2 := congrArg O.neg q
  rw [F.neg_neg (hfel' _ hxm), F.neg_neg (hfel _ hxm)] at q2
  rw [hfx _ hxm, hfx' _ hxm, q2]

/-! ### weights -/
theorem cntTo_congr {s v v' : List Int} : ∀ k : Nat, (∀ j : Nat, j < k → ¬ (j : Int) ∈ s → nth v j = nth v' j) → cntTo s v k = cntTo s v' k
  | 0, _ => rfl
  | k + 1, h => by
    have ih := cntTo_congr k fun j hj => h j (by omega)
    rw [cntTo, cntTo, ih]
    by_cases h2 : (k : Int) ∈ s
    · rw [if_neg fun hh => hh.2 h2, if_neg fun hh => hh.2 h2]
    · rw [h k (by omega) h2]
/-- what light counts: any word of the coset that is 0 at the set -/
theorem light_cnt (F : Fld O El) (hL : Rws El m L) {y s t X : List Int} (hy : Vc El m y) (hT : InN m t) (ht : rkQ O L t = t.length) (hr : rkQ O L (frTo false s m) = t.length) (hts : ∀ x ∈ t, ¬ x ∈ s) (hX : Cos O El m L y X) (h0 : ∀ x ∈ t, nth X x.toNat = 0) :
    lightS O L y s t = cntTo s X m := by
  have h := lgt_inv F hL hT ht hy t.length (Nat.le_refl _)
  unfold lightS
  rw [h.vc.1]
  refine cntTo_congr m fun j hj hjs => ?_
  have hZ : Cos O El m L y (lgtTo O L y t t.length).sum := ⟨h.vc, h.cos⟩
  refine cos_uniq F hL hy hZ hX hT (Q := frTo false s m) (by omega) (fun x hx => ?_) (fun x hx => ?_) h0 (x := (j : Int)) ((mem_frTo m).2 ⟨j, hj, rfl, by simpa using hjs⟩) (by simpa using hj)
  · obtain ⟨q, hq, rfl⟩ := List.mem_iff_getElem.1 hx
    have hb := hT q hq
    rw [nth_getElem hq] at hb
    exact (mem_frTo m).2 ⟨(t[q]).toNat, by omega, by omega, by rw [Int.toNat_of_nonneg hb.1]; simpa using hts _ hx⟩
  · obtain ⟨q, hq, rfl⟩ := List.mem_iff_getElem.1 hx
    have := h.sz q hq
    rwa [nth_getElem hq] at this
end

/- The walk of matrix.Vec, at valid arguments. -/
section
open Go.RowKit
end

/- The walks of space.view's word, reduce, has; zero; code.list. -/
section
open Go.RowKit
end

/- The walks of code.list, word, space.Has, code.Has, at words of the code. -/
section
open Go.RowKit
end

/- The walks of code.list at any list, code.Encode, codewrightref25.Weight. -/
section
open Go.RowKit

theorem any_els (q : Int) (l : List Int) : l.any (fun x => !(decide (0 ≤ x) && decide (x < q))) = !(elsQ q l) := by
  unfold elsQ
  induction l with
  | nil => rfl
  | cons x l ih =>
    rw [List.any_cons, List.all_cons, ih]
    unfold isQ
    cases (decide (0 ≤ x) && decide (x < q)) <;> simp

set_option maxRecDepth 100000 in
set_option maxHeartbeats 1600000 in
theorem rWeight25_any (a : Option Addr) (n c : Nat) (l : List Int) (w : World) (h : Ints w a n l) :
    Calls Tryz.prog 44 #[.slice a n c] w fun e w' => e = .returned (.int .i64 (wtL l)) ∧ w' = w := by
  have Hl := Lib.hid h.len
  have hpl := h.pl
  have hmax := h.max
  unfold maxLen at hmax
  have hle : ∀ k, k ≤ n → (wtL (l.take k) : Int) ≤ k := fun k hk => by
    have h1 : wtL (l.take k) ≤ (l.take k).length := List.countP_le_length
    rw [List.length_take] at h1
    omega
  have Hle := Lib.hid hle
  have HT : Hid (wtL (l.take n) = wtL l) := by show _ = _; rw [List.take_of_length_le (by rw [Hl.out]; exact Nat.le_refl _)]
  clear hle
  go_enter Tryz.func44, Tryz.ntmps44
  go_wp2_with fail
  go_loopw [3, 4] (fun cv iv wr => ∃ k : Nat, k ≤ n ∧ iv = .int .i64 k ∧ cv = .int .i64 (wtL (l.take k)) ∧ wr = w) (fun _ iv _ => n - (intOf iv).toNat)
  case atStart => exact ⟨0, Nat.zero_le _, rfl, by simp [wtL], rfl⟩
  case round =>
    obtain ⟨k, hk, rfl, rfl, rfl⟩ := hrel
    by_cases hlt : k < n
    · have ck := h.cell k hlt
      have hkl : k < l.length := by rw [Hl.out]; exact hlt
      have hst : wtL (l.take (k + 1)) = wtL (l.take k) + (if nth l k ≠ 0 then 1 else 0) := by
        unfold wtL
        rw [List.take_succ_eq_append_getElem hkl, List.countP_append, List.countP_singleton, nth_getElem hkl]
        simp
      have hb := Hle.out k hk
      obtain ⟨t, ht⟩ : ∃ t, wtL (l.take k) = t := ⟨_, rfl⟩
      obtain ⟨y, hy⟩ : ∃ y, nth l k = y := ⟨_, rfl⟩
      rw [ht] at hst hb ⊢
      rw [hy] at hst ck
      clear ht hy hkl
      by_cases h0 : y = 0
      · have hd : (y != 0) = false := by simpa using h0
        have Hst : Hid (wtL (l.take (k + 1)) = t) := by show _ = _; rw [hst, if_neg (by simpa using h0)]; rfl
        clear h0 hst
        go_wp2_with fail
        go_roundw
        case rel => exact ⟨k + 1, by omega, by go_num, by rw [Hst.out], by simp⟩
        case measure => simp [intOf] <;> omega
      · have hd : (y != 0) = true := by simpa using h0
        have Hst : Hid (wtL (l.take (k + 1)) = t + 1) := by show _ = _; rw [hst, if_pos h0]
        clear h0 hst
        go_wp2_with fail
        go_roundw
        case rel => exact ⟨k + 1, by omega, by go_num, by rw [Hst.out]; go_num, by simp⟩
        case measure => simp [intOf] <;> omega
    · obtain rfl : k = n := by omega
      rw [HT.out]
      go_wp2_with fail
      go_ret
      exact ⟨rfl, rfl⟩
end

end Go.Proofs.YtapjcccpokhhhaaGreat
