/-  -/
import Derived.Test.YtcflcogbpnmjeaaGreatK35
import Derived.Test.YtcflcogbpnmjeaaGreatHWI11
import Derived.Test.YtcflcogbpnmjeaaGreatHWI1
import Derived.Test.YtcflcogbpnmjeaaGreatHWI8
import Derived.Test.YtcflcogbpnmjeaaGreatHWI5
import Derived.Test.YtcflcogbpnmjeaaGreatHWI10
import Derived.Test.YtcflcogbpnmjeaaGreatHWI4
import Derived.Test.YtcflcogbpnmjeaaGreatHWI2
import Derived.Test.YtcflcogbpnmjeaaGreatK9
namespace Go.Proofs.YtcflcogbpnmjeaaGreat
set_option linter.unusedVariables false
set_option linter.unusedSimpArgs false
set_option linter.unusedSectionVars false

section
open Go.RowKit
def ifZ (er x : Int) : Int:=if er=0 then x else 0
def ifL {α : Type} (er : Int) (x : List α) : List α:=if er=0 then x else []
def CodeU (er P M : Int) (X : List Int) (N : Int) (Y : List (List Int)) (w : World) (e : Ending) (w' : World) : Prop :=
 Below w.heap.size w w'∧∃ a1 n1 c1 a2 n2 c2,e = .returned (.tuple #[.agg #[.int .i64 P,.int .i64 M,.slice a1 n1 c1,.int .i64 N,.slice a2 n2 c2],.int .i64 er])∧Ints w' a1 n1 X∧Mat w' a2 n2 Y
theorem sup_u {P M : Int} {mod : List Int} {N : Int} {L : List (List Int)} {S : List Int} {w w' : World} {e : Ending} (h : SuPost P M mod N L S w e w') :
  CodeU (suE P M mod N L S) (ifZ (suE P M mod N L S) P) (ifZ (suE P M mod N L S) M) (ifL (suE P M mod N L S) mod) (ifZ (suE P M mod N L S) N) (ifL (suE P M mod N L S) (supS (tblOf P M.toNat mod) N.toNat L S)) w e w':=by
 obtain ⟨hb,⟨h0,rfl⟩ | ⟨h0,a1,c1,a2,c2,rfl,h1,h2⟩⟩:=h
 ·simp only [ifZ,ifL,if_neg h0]
  exact ⟨hb,none,0,0,none,0,0,rfl,Ints.nil _ _,Mat.none0 _ 0⟩
 ·simp only [ifZ,ifL,if_pos h0]
  exact ⟨hb,a1,_,c1,a2,_,c2,by rw [h0],h1.ints,h2.mat⟩
set_option maxRecDepth 100000 in
set_option maxHeartbeats 4000000 in
theorem hLawWitness_any (P M : Int) (am : Option Addr) (mn cm : Nat) (mod : List Int) (N : Int) (a : Option Addr) (n c : Nat) (L : List (List Int)) (r : Int) (as' : Option Addr) (ns cs : Nat) (S : List Int) (w : World) (hmod : Ints w am mn mod) (hi : Mat w a n L) (hs : Ints w as' ns S) :
  Calls Tryz.prog 6 #[.agg #[.int .i64 P,.int .i64 M,.slice am mn cm,.int .i64 N,.slice a n c],.int .i64 r,.slice as' ns cs] w fun e w'=>e = .returned (.bool true)∧Below w.heap.size w w':=by
 have HSm : Hid (∀ V,Below w.heap.size w V→Calls Tryz.prog 27 #[.agg #[.int .i64 P,.int .i64 M,.slice am mn cm,.int .i64 N,.slice a n c]] V (SomeBool V)):=fun V hV=>rSmall29_any P M am mn cm mod N a n c L V (hmod.keep hV) (hi.keep hV)
 have H1 : Hid (∀ V,Below w.heap.size w V→Calls Tryz.prog 33 #[.agg #[.int .i64 P,.int .i64 M,.slice am mn cm,.int .i64 N,.slice a n c],.int .i64 r] V (PairU (witnE P M mod N L r) (witX P M mod N L r) V)):=fun V hV=>witness_u P M am mn cm mod N a n c L V r (hmod.keep hV) (hi.keep hV)
 have H2 : Hid (∀ V,Below w.heap.size w V→Calls Tryz.prog 34 #[.agg #[.int .i64 P,.int .i64 M,.slice am mn cm,.int .i64 N,.slice a n c],.int .i64 r] V (PairU (witnE P M mod N L r) (witX P M mod N L r) V)):=fun V hV=>rWitness_u P M am mn cm mod N a n c L V r (hmod.keep hV) (hi.keep hV)
 have H3:=Lib.hid (fun V (hV : Below w.heap.size w V)=>(hSupported_any P M am mn cm mod N a n c L as' ns cs S V (hmod.keep hV) (hi.keep hV) (hs.keep hV)).mono fun _ _ h=>sup_u h)
 have H4:=Lib.hid (fun V (hV : Below w.heap.size w V)=>(rSupported29_any P M am mn cm mod N a n c L as' ns cs S V (hmod.keep hV) (hi.keep hV) (hs.keep hV)).mono fun _ _ h=>sup_u h)
 generalize witnE P M mod N L r=er at *
 generalize witX P M mod N L r=X at *
 generalize suE P M mod N L S=es at *
 generalize ifZ es P=p at *
 generalize ifZ es M=mm at *
 generalize ifZ es N=nn at *
 generalize ifL es mod=Y at *
 generalize ifL es _=Z at *
 clear hmod hi hs
 go_enter Tryz.func6,Tryz.ntmps6
 go_wp2_with fail
 obtain ⟨W,hW⟩ : ∃ W : World,W=w.alloc (.cells #[.int .i64 P,.int .i64 M,.slice am mn cm,.int .i64 N,.slice a n c] 27):=⟨_,rfl⟩
 rw [← hW]
 have hbW : Below w.heap.size w W:=by rw [hW];exact below1 _ _
 have x0 : Box W w.heap.size [.int .i64 P,.int .i64 M,.slice am mn cm,.int .i64 N,.slice a n c]:=by rw [hW];exact Box.new _ _ _ rfl
 have HS : Hid (∀ V,Below W.heap.size W V→V.cell? ⟨w.heap.size,0,none⟩=some (.int .i64 P)∧V.cell? ⟨w.heap.size,1,none⟩=some (.int .i64 M)∧V.cell? ⟨w.heap.size,2,none⟩=some (.slice am mn cm)∧V.cell? ⟨w.heap.size,3,none⟩=some (.int .i64 N)∧V.cell? ⟨w.heap.size,4,none⟩=some (.slice a n c)):=fun V hV=>by
  have x1:=x0.keep hV
  exact ⟨x1.cell 0 rfl,x1.cell 1 rfl,x1.cell 2 rfl,x1.cell 3 rfl,x1.cell 4 rfl⟩
 have HbW:=Lib.hid hbW
 clear hW x0 hbW
 refine (awake29_any W).mono ?_
 rintro e w1 ⟨rfl,hb1⟩
 obtain ⟨c0,c1,c2,c3,c4⟩:=HS.out w1 hb1
 go_wp2_with fail
 refine (HSm.out w1 (Below.next HbW.out hb1)).mono ?_
 rintro e w2 ⟨z,rfl,hb2⟩
 have hB2:=Below.next hb1 hb2
 clear c0 c1 c2 c3 c4
 cases z
 ·go_wp2_with fail
  refine (awake29_any w2).mono ?_
  rintro e w3 ⟨rfl,hb3⟩
  have hF:=Below.next HbW.out (Below.next hB2 hb3)
  go_wp2_with fail
  go_ret
  exact ⟨rfl,hF⟩
 by_cases hn : 100<ns
 ·have hn' : (100 : Int)<(ns : Int):=by omega
  have d1 : decide ((100 : Int)<(ns : Int))=true:=by simpa using hn'
  clear hn hn'
  go_wp2_with fail
  refine (awake29_any w2).mono ?_
  rintro e w3 ⟨rfl,hb3⟩
  have hF:=Below.next HbW.out (Below.next hB2 hb3)
  go_wp2_with fail
  go_ret
  exact ⟨rfl,hF⟩
 have hn' : ¬ (100 : Int)<(ns : Int):=by omega
 have d1 : decide ((100 : Int)<(ns : Int))=false:=by simpa using hn'
 clear hn hn'
 obtain ⟨c0,c1,c2,c3,c4⟩:=HS.out w2 hB2
 go_wp2_with fail
 refine (H1.out w2 (Below.next HbW.out hB2)).mono ?_
 rintro e w3 ⟨hb3,a1,n1,k1,rfl,h1⟩
 have hB3:=Below.next hB2 hb3
 clear c0 c1 c2 c3 c4
 obtain ⟨c0,c1,c2,c3,c4⟩:=HS.out w3 hB3
 go_wp2_with fail
 refine (H2.out w3 (Below.next HbW.out hB3)).mono ?_
 rintro e w4 ⟨hb4,a2,n2,k2,rfl,h2⟩
 have hB4:=Below.next hB3 hb4
 clear c0 c1 c2 c3 c4
 obtain ⟨c0,c1,c2,c3,c4⟩:=HS.out w4 hB4
 go_wp2_with fail
 refine (H3.out w4 (Below.next HbW.out hB4)).mono ?_
 rintro e w5 ⟨hb5,a3,n3,k3,a4,n4,k4,rfl,h3,h4⟩
 have t5:=below1 w5 (.cells #[.int .i64 p,.int .i64 mm,.slice a3 n3 k3,.int .i64 nn,.slice a4 n4 k4] 27)
 have y5 : Box (w5.alloc (.cells #[.int .i64 p,.int .i64 mm,.slice a3 n3 k3,.int .i64 nn,.slice a4 n4 k4] 27)) w5.heap.size [.int .i64 p,.int .i64 mm,.slice a3 n3 k3,.int .i64 nn,.slice a4 n4 k4]:=Box.new _ _ _ rfl
 have HY5:=Lib.hid y5
 have hB5:=Below.next hB4 (Below.next hb5 t5)
 clear c0 c1 c2 c3 c4 y5
 obtain ⟨c0,c1,c2,c3,c4⟩:=HS.out _ hB5
 go_wp2_with fail
 refine (H4.out _ (Below.next HbW.out hB5)).mono ?_
 rintro e w6 ⟨hb6,a5,n5,k5,a6,n6,k6,rfl,h5,h6⟩
 have t6:=below1 w6 (.cells #[.int .i64 p,.int .i64 mm,.slice a5 n5 k5,.int .i64 nn,.slice a6 n6 k6] 27)
 have y6 : Box (w6.alloc (.cells #[.int .i64 p,.int .i64 mm,.slice a5 n5 k5,.int .i64 nn,.slice a6 n6 k6] 27)) w6.heap.size [.int .i64 p,.int .i64 mm,.slice a5 n5 k5,.int .i64 nn,.slice a6 n6 k6]:=Box.new _ _ _ rfl
 have hB6:=Below.next hB5 (Below.next hb6 t6)
 have f6:=Below.next hb6 t6
 have f5:=Below.next t5 f6
 have HP : Hid (∀ V,Below (w6.alloc (.cells #[.int .i64 p,.int .i64 mm,.slice a5 n5 k5,.int .i64 nn,.slice a6 n6 k6] 27)).heap.size (w6.alloc (.cells #[.int .i64 p,.int .i64 mm,.slice a5 n5 k5,.int .i64 nn,.slice a6 n6 k6] 27)) V →
   (Box V w5.heap.size [.int .i64 p,.int .i64 mm,.slice a3 n3 k3,.int .i64 nn,.slice a4 n4 k4]∧Box V w6.heap.size [.int .i64 p,.int .i64 mm,.slice a5 n5 k5,.int .i64 nn,.slice a6 n6 k6])∧Calls Tryz.prog 37 #[.agg #[.int .i64 p,.int .i64 mm,.slice a3 n3 k3,.int .i64 nn,.slice a4 n4 k4],.agg #[.int .i64 p,.int .i64 mm,.slice a5 n5 k5,.int .i64 nn,.slice a6 n6 k6]] V fun e w'=>e = .returned (.bool true)∧Below V.heap.size V w'):=fun V hV =>
  ⟨⟨(HY5.out.keep f6).keep hV,y6.keep hV⟩,rSame12_any p mm a3 n3 k3 Y a5 n5 k5 nn a4 n4 k4 Z a6 n6 k6 V ((h3.keep f5).keep hV) ((h5.keep t6).keep hV) ((h4.keep f5).keep hV) ((h6.keep t6).keep hV)⟩
 have Hc:=Lib.hid (sameInts_t a1 n1 k1 X a2 n2 k2 (h1.keep (Below.next hb4 (Below.next hb5 f5))) (h2.keep (Below.next hb5 f5)))
 have hF:=Below.next HbW.out hB6
 clear c0 c1 c2 c3 c4 h1 h2 h3 h4 h5 h6 y6 f5 f6 t5 t6
 go_wp2_with fail
 refine Hc.out.mono ?_
 rintro e w7 ⟨rfl,r7⟩
 have hF7:=Below.next hF r7.below
 obtain ⟨⟨x5,x6⟩,hsame⟩:=HP.out w7 r7.below
 have c0:=x5.cell 0 rfl
 have c1:=x5.cell 1 rfl
 have c2:=x5.cell 2 rfl
 have c3:=x5.cell 3 rfl
 have c4:=x5.cell 4 rfl
 have g0:=x6.cell 0 rfl
 have g1:=x6.cell 1 rfl
 have g2:=x6.cell 2 rfl
 have g3:=x6.cell 3 rfl
 have g4:=x6.cell 4 rfl
 have Hd:=Lib.hid hsame
 clear HP x5 x6 hsame
 go_wp2_with fail
 refine Hd.out.mono ?_
 rintro e w8 ⟨rfl,hb8⟩
 have hF8:=Below.next hF7 hb8
 go_wp2_with fail
 go_ret
 exact ⟨rfl,hF8⟩
end

end Go.Proofs.YtcflcogbpnmjeaaGreat
