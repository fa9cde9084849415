/-  -/
import Derived.Test.YtcflcogbpnmjeaaGreatK15
import Derived.Test.YtcflcogbpnmjeaaGreatHWI8
import Derived.Test.YtcflcogbpnmjeaaGreatK9
import Derived.Test.YtcflcogbpnmjeaaGreatHWI5
import Derived.Test.YtcflcogbpnmjeaaGreatK19
namespace Go.Proofs.YtcflcogbpnmjeaaGreat
set_option linter.unusedVariables false
set_option linter.unusedSimpArgs false
set_option linter.unusedSectionVars false

section
open Go.RowKit
def FieldPost (P M : Int) (mod : List Int) (w : World) (e : Ending) (w' : World) : Prop :=
 ∃ a1 c1,e = .returned (.agg #[.int .i64 P,.int .i64 M,.slice a1 mod.length c1])∧IntsN w.heap.size w' a1 mod.length mod∧Below w.heap.size w w'
set_option maxRecDepth 100000 in
set_option maxHeartbeats 4000000 in
theorem rField12_any (P M : Int) (am : Option Addr) (mn cm : Nat) (mod : List Int) (w : World) (hmod : Ints w am mn mod) (hmn : mn≤1000000) :
  Calls Tryz.prog 133 #[.agg #[.int .i64 P,.int .i64 M,.slice am mn cm]] w (FieldPost P M mod w):=by
 obtain rfl : mod.length=mn:=hmod.len
 go_enter Tryz.func133,Tryz.ntmps133
 go_wp2_with fail
 obtain ⟨W,hW⟩ : ∃ W : World,W=(w.alloc (.cells #[.int .i64 P,.int .i64 M,.slice am mod.length cm] 24)).alloc (.cells #[.int .i64 0,.int .i64 0,.slice none 0 0] 24):=⟨_,rfl⟩
 rw [← hW]
 have hbW : Below w.heap.size w W:=by rw [hW];exact below2 _ _ _
 have hsW : W.heap.size=w.heap.size+2:=by rw [hW];simp
 have x0 : Box W w.heap.size [.int .i64 P,.int .i64 M,.slice am mod.length cm]:=by rw [hW];exact (Box.new _ _ _ rfl).alloc _
 have y0 : Box W (w.heap.size+1) [.int .i64 0,.int .i64 0,.slice none 0 0]:=by rw [hW];exact Box.new _ _ _ (by simp)
 have hmodW:=hmod.keep hbW
 have hS : ∀ V,Below W.heap.size W V→V.cell? ⟨w.heap.size,0,none⟩=some (.int .i64 P)∧V.cell? ⟨w.heap.size,1,none⟩=some (.int .i64 M)∧V.cell? ⟨w.heap.size,2,none⟩=some (.slice am mod.length cm)∧Ints V am mod.length mod ∧
   Box V (w.heap.size+1) [.int .i64 0,.int .i64 0,.slice none 0 0]∧Below W.heap.size W V:=fun V hV=>by
  have x1:=x0.keep hV
  exact ⟨x1.cell 0 rfl,x1.cell 1 rfl,x1.cell 2 rfl,hmodW.keep hV,y0.keep hV,hV⟩
 have HS:=Lib.hid hS
 have HbW:=Lib.hid hbW
 have HsW:=Lib.hid hsW
 clear hW x0 y0 hS
 have HP : Hid (∀ (w4 : World) (a4 : Option Addr) (c4 : Nat),IntsN W.heap.size w4 a4 mod.length mod→Below W.heap.size W w4 →
   FieldPost P M mod w (.returned (.agg #[.int .i64 P,.int .i64 M,.slice a4 mod.length c4])) (((w4.setCell ⟨w.heap.size+1,0,none⟩ (.int .i64 P)).setCell ⟨w.heap.size+1,1,none⟩ (.int .i64 M)).setCell ⟨w.heap.size+1,2,none⟩ (.slice a4 mod.length c4))):=fun w4 a4 c4 h1 h2=>by
  have hb:=Below.next hbW h2
  have hs:=HsW.out
  refine ⟨a4,c4,rfl,?_,?_⟩
  ·exact (((h1.setCell (p:=⟨w.heap.size+1,0,none⟩) (by simp;omega) _).setCell (p:=⟨w.heap.size+1,1,none⟩) (by simp;omega) _).setCell (p:=⟨w.heap.size+1,2,none⟩) (by simp;omega) _).mono (by omega)
  ·exact ((hb.setCell (p:=⟨w.heap.size+1,0,none⟩) (by simp) _).setCell (p:=⟨w.heap.size+1,1,none⟩) (by simp) _).setCell (p:=⟨w.heap.size+1,2,none⟩) (by simp) _
 have hplm:=hmod.pl
 have hbA : Below W.heap.size W (W.alloc (.cells #[] 3)).drew:=(below1 W _).drew
 have HbA:=Lib.hid hbA
 obtain ⟨c0,c1,c2,_⟩:=HS.out W (Below.refl _ _)
 obtain ⟨d0,d1,d2,_⟩:=HS.out _ (below1 W (.cells #[] 3))
 clear hbA hsW hbW hmod
 go_region_law (
  (refine step_appAll (by rfl) (.tmp 7) (.tmp 9) 22 3 (by rfl) (.int .i64 0) 8 Tryz.underlying22 infoInt (by rfl) W.heap.size _ 0 0 [] (by rfl) (show (W.alloc (.cells #[] 3)).drew.ownsRow W.heap.size 3 1 (.slice (some ⟨W.heap.size,0,none⟩) 0 0) 0 [] from own_emp W 3) am mod.length cm (mod.map (Value.int .i64)) (by rfl) hplm (by simp) (Ints.news (hmodW.keep HbA.out)) (ints_oneCell _ _) (by omega) (by unfold maxLen;omega) (by simp) ?_;intro a3 c3 w3 hown3 hgr3 hap3;obtain ⟨_,_,_,_,zz,hb3⟩:=HS.out w3 (Below.app (B:=W.heap.size) HbA.out (show (W.alloc (.cells #[] 3)).drew.ownsRow W.heap.size 3 1 (.slice (some ⟨W.heap.size,0,none⟩) 0 0) 0 [] from own_emp W 3) hgr3 (Nat.le_refl _) (by simp));have z0:=zz.cell 0 rfl;have z1:=zz.cell 1 rfl;have z2:=zz.cell 2 rfl;have f0:=zz.frozen 0;have f1:=zz.frozen 1;have f2:=zz.frozen 2))
 all_goals (
  have hN3 : IntsN W.heap.size w3 a3 mod.length mod:=IntsN.own (by simpa using hown3)
  have HP4:=Lib.hid (HP.out w3 a3 c3 hN3 hb3)
  clear hN3 hb3 hown3 hgr3 hap3 HP HS
  go_wp2_with fail
  exact bodyPost_ret (v:=.agg #[.int .i64 P,.int .i64 M,.slice a3 mod.length c3]) (by simp [results,Tryz.results133,go_sem,z0,z1,z2]) rfl HP4.out)
def MakePost (P M : Int) (mod : List Int) (m : Nat) (L : List (List Int)) (w : World) (e : Ending) (w' : World) : Prop :=
 ∃ a1 c1 a2 c2,e = .returned (.agg #[.int .i64 P,.int .i64 M,.slice a1 mod.length c1,.int .i64 m,.slice a2 (canS (tblOf P M.toNat mod) L m).length c2])∧IntsN w.heap.size w' a1 mod.length mod ∧
  MatN w.heap.size w' a2 (canS (tblOf P M.toNat mod) L m).length (canS (tblOf P M.toNat mod) L m)∧Below w.heap.size w w'
set_option maxRecDepth 100000 in
set_option maxHeartbeats 4000000 in
theorem rMake12_any (P M : Int) (am : Option Addr) (mn cm : Nat) (mod : List Int) (m : Nat) (a : Option Addr) (n c : Nat) (L : List (List Int)) (w : World) (hmod : Ints w am mn mod) (hi : Mat w a n L)
  (hB : fieldB P M mod=true) (hR : Rws (tblOf P M.toNat mod).El m L) (hm : m≤1000000) (hn : n≤1000000) (hmn : mn≤1000000) :
  Calls Tryz.prog 80 #[.agg #[.int .i64 P,.int .i64 M,.slice am mn cm],.slice a n c,.int .i64 m] w (MakePost P M mod m L w):=by
 have hcan:=canR_eq hB hR
 have hinv:=hinv_all (P:=P) (M:=M) (mod:=mod) (by rw [fieldRB_eq];exact hB)
 obtain ⟨k,rfl,hel,_,hF,hA,_⟩:=eq_ops hB
 obtain ⟨k',e2,hrf,hmods⟩:=fieldRB_rf (by rw [fieldRB_eq];exact hB)
 obtain rfl : k=k':=by omega
 rw [Int.toNat_natCast] at hcan hR hinv
 rw [← hel] at hR
 have HC : Hid (∀ V,Below w.heap.size w V→Calls Tryz.prog 132 #[.agg #[.int .i64 P,.int .i64 k,.slice am mn cm],.slice a n c,.int .i64 m] V fun e w' =>
   ∃ a2 c2 v2,e = .returned (.tuple #[.slice a2 (canS (tblOf P k mod) L m).length c2,v2])∧MatN V.heap.size w' a2 (canS (tblOf P k mod) L m).length (canS (tblOf P k mod) L m)∧Below V.heap.size V w'):=fun V hV=>by
  refine (rCanon_any P k am mn cm mod a n c m L V ⟨hrf,hmods V am mn (hmod.keep hV)⟩ (hi.keep hV) hR hm hn hinv).mono ?_
  rintro e w' ⟨a4,c4,ap,cp,rfl,hM4,_,hb4⟩
  have hk:=hM4.mat.len
  rw [hcan] at hM4 hk
  rw [← hk] at hM4
  exact ⟨a4,c4,_,by rw [hk],hM4,hb4⟩
 have HFd : Hid (∀ V,Below w.heap.size w V→Calls Tryz.prog 133 #[.agg #[.int .i64 P,.int .i64 k,.slice am mn cm]] V (FieldPost P k mod V)):=fun V hV=>rField12_any P k am mn cm mod V (hmod.keep hV) hmn
 unfold MakePost
 rw [Int.toNat_natCast]
 obtain ⟨D,hD⟩ : ∃ D,canS (tblOf P k mod) L m=D:=⟨_,rfl⟩
 rw [hD] at HC ⊢
 clear hcan hinv hel hF hA hrf hmods e2 hR hB hD
 obtain ⟨q,hq⟩ : ∃ q,D.length=q:=⟨_,rfl⟩
 rw [hq] at HC ⊢
 clear hq
 go_enter Tryz.func80,Tryz.ntmps80
 go_wp2_with fail
 obtain ⟨W,hW⟩ : ∃ W : World,W=(w.alloc (.cells #[.int .i64 P,.int .i64 k,.slice am mn cm] 24)).alloc (.cells #[.int .i64 0,.int .i64 0,.slice none 0 0,.int .i64 0,.slice none 0 0] 27):=⟨_,rfl⟩
 rw [← hW]
 have hbW : Below w.heap.size w W:=by rw [hW];exact below2 _ _ _
 have hsW : W.heap.size=w.heap.size+2:=by rw [hW];simp
 have x0 : Box W w.heap.size [.int .i64 P,.int .i64 k,.slice am mn cm]:=by rw [hW];exact (Box.new _ _ _ rfl).alloc _
 have z0 : Box W (w.heap.size+1) [.int .i64 0,.int .i64 0,.slice none 0 0,.int .i64 0,.slice none 0 0]:=by rw [hW];exact Box.new _ _ _ (by simp)
 have hS : ∀ V,Below W.heap.size W V→V.cell? ⟨w.heap.size,0,none⟩=some (.int .i64 P)∧V.cell? ⟨w.heap.size,1,none⟩=some (.int .i64 k)∧V.cell? ⟨w.heap.size,2,none⟩=some (.slice am mn cm) ∧
   Box V (w.heap.size+1) [.int .i64 0,.int .i64 0,.slice none 0 0,.int .i64 0,.slice none 0 0]:=fun V hV=>by
  have x1:=x0.keep hV
  exact ⟨x1.cell 0 rfl,x1.cell 1 rfl,x1.cell 2 rfl,z0.keep hV⟩
 have HS:=Lib.hid hS
 have HbW:=Lib.hid hbW
 have HsW:=Lib.hid hsW
 clear hW x0 z0 hS
 obtain ⟨c0,c1,c2,_⟩:=HS.out W (Below.refl _ _)
 go_wp2_with fail
 refine (HC.out W hbW).mono ?_
 rintro e w1 ⟨a2,c2',v2,rfl,hM1,hb1⟩
 clear c0 c1 c2
 obtain ⟨c0,c1,c2,_⟩:=HS.out w1 hb1
 have HF2:=Lib.hid (HFd.out w1 (Below.next hbW hb1))
 clear HC HFd hbW hsW
 go_wp2_with fail
 refine HF2.out.mono ?_
 rintro e w2 ⟨a3,c3,rfl,hN3,hb2⟩
 obtain ⟨_,_,_,zz6⟩:=HS.out w2 (Below.next hb1 hb2)
 have z0:=zz6.cell 0 rfl
 have z1:=zz6.cell 1 rfl
 have z2:=zz6.cell 2 rfl
 have z3:=zz6.cell 3 rfl
 have z4:=zz6.cell 4 rfl
 have f0:=zz6.frozen 0
 have f1:=zz6.frozen 1
 have f2:=zz6.frozen 2
 have f3:=zz6.frozen 3
 have f4:=zz6.frozen 4
 have hs:=HsW.out
 have hs2:=hb1.size
 have hM2:=hM1.keep hb2
 have hbF:=Below.next HbW.out (Below.next hb1 hb2)
 have hFin : ∃ a1 c1 a2' c2'', (Ending.returned (.agg #[.int .i64 P, .int .i64 k, .slice a3 mod.length c3, .int .i64 m, .slice a2 q c2'])) = .returned (.agg #[.int .i64 P, .int .i64 k, .slice a1 mod.length c1, .int .i64 m, .slice a2' q c2'']) ∧
   IntsN w.heap.size (((((w2.setCell ⟨w.heap.size+1,0,none⟩ (.int .i64 P)).setCell ⟨w.heap.size+1,1,none⟩ (.int .i64 k)).setCell ⟨w.heap.size+1,2,none⟩ (.slice a3 mod.length c3)).setCell ⟨w.heap.size+1,3,none⟩ (.int .i64 m)).setCell ⟨w.heap.size+1,4,none⟩ (.slice a2 q c2')) a1 mod.length mod ∧
   MatN w.heap.size (((((w2.setCell ⟨w.heap.size+1,0,none⟩ (.int .i64 P)).setCell ⟨w.heap.size+1,1,none⟩ (.int .i64 k)).setCell ⟨w.heap.size+1,2,none⟩ (.slice a3 mod.length c3)).setCell ⟨w.heap.size+1,3,none⟩ (.int .i64 m)).setCell ⟨w.heap.size+1,4,none⟩ (.slice a2 q c2')) a2' q D ∧
   Below w.heap.size w (((((w2.setCell ⟨w.heap.size+1,0,none⟩ (.int .i64 P)).setCell ⟨w.heap.size+1,1,none⟩ (.int .i64 k)).setCell ⟨w.heap.size+1,2,none⟩ (.slice a3 mod.length c3)).setCell ⟨w.heap.size+1,3,none⟩ (.int .i64 m)).setCell ⟨w.heap.size+1,4,none⟩ (.slice a2 q c2')):=by
  refine ⟨a3,c3,a2,c2',rfl,?_,?_,(((((hbF.setCell (p:=⟨w.heap.size+1,0,none⟩) (by simp) _).setCell (p:=⟨w.heap.size+1,1,none⟩) (by simp) _).setCell (p:=⟨w.heap.size+1,2,none⟩) (by simp) _).setCell (p:=⟨w.heap.size+1,3,none⟩) (by simp) _).setCell (p:=⟨w.heap.size+1,4,none⟩) (by simp) _)⟩
  ·exact (((((hN3.setCell (p:=⟨w.heap.size+1,0,none⟩) (by simp;omega) _).setCell (p:=⟨w.heap.size+1,1,none⟩) (by simp;omega) _).setCell (p:=⟨w.heap.size+1,2,none⟩) (by simp;omega) _).setCell (p:=⟨w.heap.size+1,3,none⟩) (by simp;omega) _).setCell (p:=⟨w.heap.size+1,4,none⟩) (by simp;omega) _).mono (by omega)
  ·exact (((((hM2.setCell (p:=⟨w.heap.size+1,0,none⟩) (by simp;omega) _).setCell (p:=⟨w.heap.size+1,1,none⟩) (by simp;omega) _).setCell (p:=⟨w.heap.size+1,2,none⟩) (by simp;omega) _).setCell (p:=⟨w.heap.size+1,3,none⟩) (by simp;omega) _).setCell (p:=⟨w.heap.size+1,4,none⟩) (by simp;omega) _).mono (by omega)
 have HFin:=Lib.hid hFin
 clear hFin hM1 hM2 hN3 zz6 HS HF2
 go_wp2_with fail
 exact bodyPost_ret (v:=.agg #[.int .i64 P,.int .i64 k,.slice a3 mod.length c3,.int .i64 m,.slice a2 q c2']) (by simp [results,Tryz.results80,go_sem,z0,z1,z2,z3,z4]) rfl HFin.out
end

end Go.Proofs.YtcflcogbpnmjeaaGreat
