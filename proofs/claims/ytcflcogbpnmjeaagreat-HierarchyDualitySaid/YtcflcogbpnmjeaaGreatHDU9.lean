/-  -/
import Derived.Test.YtcflcogbpnmjeaaGreatK17
import Derived.Test.YtcflcogbpnmjeaaGreatHDU8
import Derived.Test.YtcflcogbpnmjeaaGreatK21
namespace Go.Proofs.YtcflcogbpnmjeaaGreat
set_option linter.unusedVariables false
set_option linter.unusedSimpArgs false
set_option linter.unusedSectionVars false

section
open Go.RowKit
def DualPost (P M : Int) (mod : List Int) (m : Nat) (L : List (List Int)) (w : World) (e : Ending) (w' : World) : Prop :=
 ∃ a1 c1 a2 c2,e = .returned (.tuple #[.agg #[.int .i64 P,.int .i64 M,.slice a1 mod.length c1,.int .i64 m,.slice a2 (dualL (tblOf P M.toNat mod) L m).length c2],.int .i64 0])∧IntsN w.heap.size w' a1 mod.length mod ∧
  MatN w.heap.size w' a2 (dualL (tblOf P M.toNat mod) L m).length (dualL (tblOf P M.toNat mod) L m)∧Below w.heap.size w w'
theorem set_two {w : World} {g : Nat} {x y u v : Value} (h0 : w.cell? ⟨g,0,none⟩=some x) (h1 : w.cell? ⟨g,1,none⟩=some y) :
  ((w.setCell ⟨g,0,none⟩ u).setCell ⟨g,1,none⟩ v).cell? ⟨g,0,none⟩=some u∧((w.setCell ⟨g,0,none⟩ u).setCell ⟨g,1,none⟩ v).cell? ⟨g,1,none⟩=some v:=by
 have e1 : (w.setCell ⟨g,0,none⟩ u).cell? ⟨g,0,none⟩=some u:=World.cell?_setCell_same w _ _ h0
 have e2 : (w.setCell ⟨g,0,none⟩ u).cell? ⟨g,1,none⟩=some y:=by rw [World.cell?_setCell_other _ _ _ _ (by simp)];exact h1
 exact ⟨by rw [World.cell?_setCell_other _ _ _ _ (by simp)];exact e1,World.cell?_setCell_same _ _ _ e2⟩
set_option maxRecDepth 100000 in
set_option maxHeartbeats 4000000 in
theorem dual_any (P M : Int) (am : Option Addr) (mn cm : Nat) (mod : List Int) (m : Nat) (a : Option Addr) (n c : Nat) (L : List (List Int)) (w : World) (hmod : Ints w am mn mod) (hi : Mat w a n L) (hE : codeE P M mod m L=0) (hmn : mn≤1000000) :
  Calls Tryz.prog 49 #[.agg #[.int .i64 P,.int .i64 M,.slice am mn cm,.int .i64 m,.slice a n c]] w (DualPost P M mod m L w):=by
 go_enter Tryz.func49,Tryz.ntmps49
 go_wp2_with fail
 obtain ⟨W,hW⟩ : ∃ W : World,W=(w.alloc (.cells #[.int .i64 P,.int .i64 M,.slice am mn cm,.int .i64 m,.slice a n c] 27)).alloc (.cells #[.int .i64 0,.int .i64 0,.slice none 0 0,.int .i64 0,.slice none 0 0] 27):=⟨_,rfl⟩
 rw [← hW]
 have hbW : Below w.heap.size w W:=by rw [hW];exact below2 _ _ _
 have hsW : W.heap.size=w.heap.size+2:=by rw [hW];simp
 have x0 : Box W w.heap.size [.int .i64 P,.int .i64 M,.slice am mn cm,.int .i64 m,.slice a n c]:=by rw [hW];exact (Box.new _ _ _ rfl).alloc _
 have z0 : Box W (w.heap.size+1) [.int .i64 0,.int .i64 0,.slice none 0 0,.int .i64 0,.slice none 0 0]:=by rw [hW];exact Box.new _ _ _ (by simp)
 clear hW
 refine (codeCheck_any P M am mn cm mod m a n c L W (hmod.keep hbW) (hi.keep hbW)).mono ?_
 rintro e w1 ⟨rfl,hb1⟩
 have hbw1:=Below.next hbW hb1
 have HK : Hid (∀ V,Below w1.heap.size w1 V→Calls Tryz.prog 94 #[.agg #[.int .i64 P,.int .i64 M,.slice am mn cm],.agg #[.int .i64 m,.slice a n c]] V (KerPost (tblOf P M.toNat mod) L m V)):=fun V hV =>
  kernel_any P M am mn cm mod m a n c L V (hmod.keep (Below.next hbw1 hV)) (hi.keep (Below.next hbw1 hV)) hE
 have HO : Hid (∀ V a5 k5 c5,Below w1.heap.size w1 V→Calls Tryz.prog 96 #[.agg #[.int .i64 P,.int .i64 M,.slice am mn cm],.agg #[.int .i64 m,.slice a5 k5 c5],.int .i64 0] V (OfPost P M mod m a5 k5 c5 V)):=fun V a5 k5 c5 hV =>
  of_any P M am mn cm mod m a5 k5 c5 V (hmod.keep (Below.next hbw1 hV)) hmn
 have HPost : Hid (∀ a1 c1 a2 c2 w',IntsN w.heap.size w' a1 mod.length mod→MatN w.heap.size w' a2 (dualL (tblOf P M.toNat mod) L m).length (dualL (tblOf P M.toNat mod) L m)→Below w.heap.size w w' →
   DualPost P M mod m L w (.returned (.tuple #[.agg #[.int .i64 P,.int .i64 M,.slice a1 mod.length c1,.int .i64 m,.slice a2 (dualL (tblOf P M.toNat mod) L m).length c2],.int .i64 0])) w'):=fun a1 c1 a2 c2 w' h1 h2 h3=>⟨a1,c1,a2,c2,rfl,h1,h2,h3⟩
 rw [hE]
 unfold KerPost at HK
 obtain ⟨KM,hKM⟩ : ∃ KM,dualL (tblOf P M.toNat mod) L m=KM:=⟨_,rfl⟩
 rw [hKM] at HK HPost
 have hS : ∀ V,Below w1.heap.size w1 V→V.cell? ⟨w.heap.size,0,none⟩=some (.int .i64 P)∧V.cell? ⟨w.heap.size,1,none⟩=some (.int .i64 M)∧V.cell? ⟨w.heap.size,2,none⟩=some (.slice am mn cm)∧V.cell? ⟨w.heap.size,3,none⟩=some (.int .i64 m)∧V.cell? ⟨w.heap.size,4,none⟩=some (.slice a n c) ∧
   Box V (w.heap.size+1) [.int .i64 0,.int .i64 0,.slice none 0 0,.int .i64 0,.slice none 0 0]:=fun V hV=>by
  have x1:=(x0.keep hb1).keep hV
  exact ⟨x1.cell 0 rfl,x1.cell 1 rfl,x1.cell 2 rfl,x1.cell 3 rfl,x1.cell 4 rfl,(z0.keep hb1).keep hV⟩
 have HS:=Lib.hid hS
 have Hbw1:=Lib.hid hbw1
 have HsW : Hid (w.heap.size+2≤w1.heap.size):=by show _≤_;rw [← hsW];exact hb1.size
 obtain ⟨c0,c1,c2,c3,c4,_⟩:=HS.out w1 (Below.refl _ _)
 obtain ⟨q,hq⟩ : ∃ q,KM.length=q:=⟨_,rfl⟩
 rw [hq] at HK HPost
 clear hE hKM hS x0 z0 hbW hsW hmod hi hb1 hbw1 hq
 go_wp2_with fail
 go_cut [5,6] (fun v5 v6 wx=>∃ g a5 c5,v5 = .pointer (some ⟨g,0,none⟩)∧v6 = .int .i64 0∧wx.cell? ⟨g,0,none⟩=some (.int .i64 m)∧wx.cell? ⟨g,1,none⟩=some (.slice a5 q c5)∧MatN w1.heap.size wx a5 q KM∧Below w1.heap.size w1 wx)
 case first =>
  obtain ⟨b0,b1,b2,b3,b4,_⟩:=HS.out (w1.alloc (.cells #[.int .i64 0,.slice none 0 0] 73)) (below1 _ _)
  go_region_law ((first
   | (go_simp;go_at_call 95;((with_reducible refine (gen_any P M am mn cm m a n c _).mono ?_);rintro e w4 ⟨rfl,hb4⟩;have hb04 : Below w1.heap.size w1 w4:=(by first | exact Below.next (Below.refl _ _).drew hb4 | exact Below.next (below1 _ (.cells #[.int .i64 0,.slice none 0 0] 73)).drew hb4 | exact Below.next (Below.allocN (Below.refl _ _).drew _) hb4);obtain ⟨c0,c1,c2,c3,c4,_⟩:=HS.out w4 hb04;obtain ⟨d0,d1,d2,d3,d4,_⟩:=HS.out (w4.alloc (.cells #[.int .i64 0,.slice none 0 0] 73)) (Below.allocN hb04 _);(first | (have gz0:=cell_keep hb4 (cell_alloc_at (g:=w1.heap.size) w1 #[.int .i64 0,.slice none 0 0] 73 rfl 0);have gz1:=cell_keep hb4 (cell_alloc_at (g:=w1.heap.size) w1 #[.int .i64 0,.slice none 0 0] 73 rfl 1);have gf0:=frozen_keep hb4 (by simp) (frozen_at (g:=w1.heap.size) w1 #[.int .i64 0,.slice none 0 0] 73 rfl 0);have gf1:=frozen_keep hb4 (by simp) (frozen_at (g:=w1.heap.size) w1 #[.int .i64 0,.slice none 0 0] 73 rfl 1)) | skip)))
   | (go_simp;go_at_call 94;((with_reducible refine (HK.out _ (by first | exact hb04 | exact Below.allocN hb04 _)).mono ?_);rintro e w5 ⟨a5,c5,rfl,hN5,hb5⟩;have hb05 : Below w1.heap.size w1 w5:=(by first | exact Below.next hb04 hb5 | exact Below.next (Below.allocN hb04 _) hb5);(first | (have gy0:=cell_keep hb5 gz0;have gy1:=cell_keep hb5 gz1;have gh0:=frozen_keep hb5 (World.block_lt_of_cell? _ _ gz0) gf0;have gh1:=frozen_keep hb5 (World.block_lt_of_cell? _ _ gz1) gf1) | (have gy0:=cell_keep hb5 (cell_alloc_at w4 #[.int .i64 0,.slice none 0 0] 73 rfl 0);have gy1:=cell_keep hb5 (cell_alloc_at w4 #[.int .i64 0,.slice none 0 0] 73 rfl 1);have gh0:=frozen_keep hb5 (by simp) (frozen_at w4 #[.int .i64 0,.slice none 0 0] 73 rfl 0);have gh1:=frozen_keep hb5 (by simp) (frozen_at w4 #[.int .i64 0,.slice none 0 0] 73 rfl 1)) | skip)))))
  all_goals (go_wp2_with fail;go_meet)
  all_goals (first
   | exact ⟨w5.heap.size,a5,c5,rfl,rfl,cell_alloc_at _ _ _ rfl 0,cell_alloc_at _ _ _ rfl 1,(hN5.keep (below1 _ _)).mono (by first | exact hb04.size | exact (Below.allocN hb04 _).size),Below.allocN hb05 _⟩
   | exact ⟨w1.heap.size,a5,c5,rfl,rfl,(set_two gy0 gy1).1,(set_two gy0 gy1).2,((hN5.setCell (p:=⟨w1.heap.size,0,none⟩) (World.block_lt_of_cell? _ _ gz0) _).setCell (p:=⟨w1.heap.size,1,none⟩) (World.block_lt_of_cell? _ _ gz1) _).mono hb04.size,(hb05.setCell (p:=⟨w1.heap.size,0,none⟩) (Nat.le_refl _) _).setCell (p:=⟨w1.heap.size,1,none⟩) (Nat.le_refl _) _⟩
   | exact ⟨w4.heap.size,a5,c5,rfl,rfl,(set_two gy0 gy1).1,(set_two gy0 gy1).2,((hN5.setCell (p:=⟨w4.heap.size,0,none⟩) (by simp) _).setCell (p:=⟨w4.heap.size,1,none⟩) (by simp) _).mono (Below.allocN hb04 _).size,(hb05.setCell (p:=⟨w4.heap.size,0,none⟩) hb04.size _).setCell (p:=⟨w4.heap.size,1,none⟩) hb04.size _⟩)
 obtain ⟨g,a5,c5,rfl,rfl,g0,g1,hN5,hb5⟩:=hcut
 generalize wc=V at *
 obtain ⟨c0,c1,c2,c3,c4,zz⟩:=HS.out V hb5
 have HOV:=Lib.hid (HO.out V a5 q c5 hb5)
 clear HK HO
 go_wp2_with fail
 refine HOV.out.mono ?_
 rintro e w6 ⟨a6,c6,rfl,hN6,hb6⟩
 obtain ⟨_,_,_,_,_,zz6⟩:=HS.out w6 (Below.next hb5 hb6)
 have z0:=zz6.cell 0 rfl
 have z1:=zz6.cell 1 rfl
 have z2:=zz6.cell 2 rfl
 have z3:=zz6.cell 3 rfl
 have z4:=zz6.cell 4 rfl
 have f0:=zz6.frozen 0
 have f1:=zz6.frozen 1
 have f2:=zz6.frozen 2
 have f3:=zz6.frozen 3
 have f4:=zz6.frozen 4
 have hbF:=Below.next Hbw1.out (Below.next hb5 hb6)
 have hs:=HsW.out
 have hs2:=hb5.size
 have hM6:=hN5.keep hb6
 have hFin:=HPost.out a6 c6 a5 c5 (((((w6.setCell ⟨w.heap.size+1,0,none⟩ (.int .i64 P)).setCell ⟨w.heap.size+1,1,none⟩ (.int .i64 M)).setCell ⟨w.heap.size+1,2,none⟩ (.slice a6 mod.length c6)).setCell ⟨w.heap.size+1,3,none⟩ (.int .i64 m)).setCell ⟨w.heap.size+1,4,none⟩ (.slice a5 q c5))
  ((((((hN6.setCell (p:=⟨w.heap.size+1,0,none⟩) (by simp;omega) _).setCell (p:=⟨w.heap.size+1,1,none⟩) (by simp;omega) _).setCell (p:=⟨w.heap.size+1,2,none⟩) (by simp;omega) _).setCell (p:=⟨w.heap.size+1,3,none⟩) (by simp;omega) _).setCell (p:=⟨w.heap.size+1,4,none⟩) (by simp;omega) _).mono (by omega))
  ((((((hM6.setCell (p:=⟨w.heap.size+1,0,none⟩) (by simp;omega) _).setCell (p:=⟨w.heap.size+1,1,none⟩) (by simp;omega) _).setCell (p:=⟨w.heap.size+1,2,none⟩) (by simp;omega) _).setCell (p:=⟨w.heap.size+1,3,none⟩) (by simp;omega) _).setCell (p:=⟨w.heap.size+1,4,none⟩) (by simp;omega) _).mono (by omega))
  (((((hbF.setCell (p:=⟨w.heap.size+1,0,none⟩) (by simp) _).setCell (p:=⟨w.heap.size+1,1,none⟩) (by simp) _).setCell (p:=⟨w.heap.size+1,2,none⟩) (by simp) _).setCell (p:=⟨w.heap.size+1,3,none⟩) (by simp) _).setCell (p:=⟨w.heap.size+1,4,none⟩) (by simp) _)
 have HFin:=Lib.hid hFin
 clear hFin hM6 hN5 hN6 HOV zz zz6
 go_wp2_with fail
 exact bodyPost_ret (v:=.tuple #[.agg #[.int .i64 P,.int .i64 M,.slice a6 mod.length c6,.int .i64 m,.slice a5 q c5],.int .i64 0]) (by simp [results,Tryz.results49,go_sem,z0,z1,z2,z3,z4]) rfl HFin.out
end

end Go.Proofs.YtcflcogbpnmjeaaGreat
