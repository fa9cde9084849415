/-  -/
import Derived.Test.YtcflcogbpnmjeaaGreatK35
import Derived.Test.YtcflcogbpnmjeaaGreatHCK10
import Derived.Test.YtcflcogbpnmjeaaGreatHCK5
import Derived.Test.YtcflcogbpnmjeaaGreatK32
import Derived.Test.YtcflcogbpnmjeaaGreatHCK1
import Derived.Test.YtcflcogbpnmjeaaGreatHCK8
import Derived.Test.YtcflcogbpnmjeaaGreatHCK2
namespace Go.Proofs.YtcflcogbpnmjeaaGreat
set_option linter.unusedVariables false
set_option linter.unusedSimpArgs false
set_option linter.unusedSectionVars false

section
open Go.RowKit
set_option maxRecDepth 100000 in
set_option maxHeartbeats 4000000 in
theorem rFew29_any (as' : Option Addr) (ns cs : Nat) (SS : List (List Int)) (at' : Option Addr) (nt ct : Nat) (TT : List (List (List Int))) (w : World) (h1 : Mat w as' ns SS) (h2 : Trees w at' nt TT) :
  Calls Tryz.prog 45 #[.agg #[.slice as' ns cs,.slice at' nt ct]] w (SomeBool w):=by
 have hpl:=h2.pl
 have hmax:=h2.max
 unfold maxLen at hmax
 have HR : Hid (∀ V,Below w.heap.size w V→Calls Tryz.prog 87 #[.agg #[.int .i64 0,.slice as' ns cs],.int .i64 2000] V (SomeBool V)):=fun V hV=>rFew9_any as' ns cs 2000 SS V (h1.keep hV) (by omega)
 have HT : Hid (∀ k,k<nt→∃ b1 m1 c1,∀ V,Below w.heap.size w V→V.cell? ⟨ablk at',aoff at'+k,none⟩=some (.slice b1 m1 c1) ∧
   Calls Tryz.prog 87 #[.agg #[.int .i64 0,.slice b1 m1 c1],.int .i64 4000] V (SomeBool V)):=fun k hk=>by
  obtain ⟨b1,m1,c1,x1,x2,_⟩:=h2.cell k hk
  exact ⟨b1,m1,c1,fun V hV=>⟨cell_keep hV x1,rFew9_any b1 m1 c1 4000 _ V (x2.keep hV) (by omega)⟩⟩
 clear h1 h2
 go_enter Tryz.func45,Tryz.ntmps45
 go_upto_region 1 with fail
 obtain ⟨W,hW⟩ : ∃ W : World,W=w.alloc (.cells #[.slice as' ns cs,.slice at' nt ct] 59):=⟨_,rfl⟩
 rw [← hW]
 have hbW : Below w.heap.size w W:=by rw [hW];exact below1 _ _
 have x0 : Box W w.heap.size [.slice as' ns cs,.slice at' nt ct]:=by rw [hW];exact Box.new _ _ _ rfl
 have HS : Hid (∀ V,Below W.heap.size W V→V.cell? ⟨w.heap.size,0,none⟩=some (.slice as' ns cs)∧V.cell? ⟨w.heap.size,1,none⟩=some (.slice at' nt ct)):=fun V hV=>by
  have x1:=x0.keep hV
  exact ⟨x1.cell 0 rfl,x1.cell 1 rfl⟩
 have HbW:=Lib.hid hbW
 clear hW x0
 have Hc:=Lib.hid (HR.out W hbW)
 obtain ⟨c0,c1⟩:=HS.out W (Below.refl _ _)
 clear hbW HR
 go_wp2_with fail
 refine Hc.out.mono ?_
 rintro e w1 ⟨z,rfl,hb1⟩
 clear c0 c1 Hc
 obtain ⟨c0,c1⟩:=HS.out w1 hb1
 have hF1:=Below.next HbW.out hb1
 cases z
 ·go_wp2_with fail
  go_ret
  exact ⟨_,rfl,hF1⟩
 by_cases h100 : 100<nt
 ·have h100' : (100 : Int)<(nt : Int):=by omega
  have d1 : decide ((100 : Int)<(nt : Int))=true:=by simpa using h100'
  clear h100 h100'
  go_wp2_with fail
  go_ret
  exact ⟨_,rfl,hF1⟩
 have h100' : ¬ (100 : Int)<(nt : Int):=by omega
 have d1 : decide ((100 : Int)<(nt : Int))=false:=by simpa using h100'
 clear h100 h100'
 go_wp2_with fail
 go_loopw [3] (fun iv wr=>∃ k : Nat,k≤nt∧iv = .int .i64 k∧Below W.heap.size W wr) (fun i _=>nt - (intOf i).toNat)
 case atStart=>exact ⟨0,Nat.zero_le _,rfl,hb1⟩
 case round =>
  obtain ⟨k,hk,rfl,hbr⟩:=hrel
  clear c0 c1
  obtain ⟨c0,c1⟩:=HS.out wr hbr
  by_cases hlt : k<nt
  ·obtain ⟨b1,m1,d2,hk2⟩:=HT.out k hlt
   obtain ⟨q0,hca⟩:=hk2 wr (Below.next HbW.out hbr)
   have Hca:=Lib.hid hca
   clear hk2 hca
   go_wp2_with fail
   refine Hca.out.mono ?_
   rintro e w6 ⟨z,rfl,hb6⟩
   have hbV:=Below.next hbr hb6
   have hF:=Below.next HbW.out hbV
   clear q0 c0 c1
   cases z
   ·go_wp2_with fail
    go_ret
    exact ⟨_,rfl,hF⟩
   go_wp2_with fail
   go_roundw
   case rel=>exact ⟨k+1,by omega,by go_num,hbV⟩
   case measure=>simp [intOf] <;> omega
  ·obtain rfl : k=nt:=by omega
   have hF:=Below.next HbW.out hbr
   go_wp2_with fail
   go_ret
   exact ⟨_,rfl,hF⟩
set_option maxRecDepth 100000 in
set_option maxHeartbeats 4000000 in
theorem hLawChecks_any (P M : Int) (am : Option Addr) (mn cm : Nat) (mod : List Int) (N : Int) (a : Option Addr) (n c : Nat) (L : List (List Int)) (as' : Option Addr) (ns cs : Nat) (SS : List (List Int)) (at' : Option Addr) (nt ct : Nat) (TT : List (List (List Int))) (w : World)
  (hmod : Ints w am mn mod) (hi : Mat w a n L) (hSS : Mat w as' ns SS) (hTT : Trees w at' nt TT) :
  Calls Tryz.prog 9 #[.agg #[.int .i64 P,.int .i64 M,.slice am mn cm,.int .i64 N,.slice a n c],.agg #[.slice as' ns cs,.slice at' nt ct]] w fun e w'=>e = .returned (.bool true)∧Below w.heap.size w w':=by
 have hln:=hi.len
 have HF1 : Hid (∀ V,Below w.heap.size w V→Calls Tryz.prog 44 #[.agg #[.int .i64 P,.int .i64 M,.slice am mn cm,.int .i64 N,.slice a n c],.int .i64 120] V (SomeBool V)):=fun V hV=>rFew12_any P M am mn cm N a n c 120 L V (hi.keep hV) (by omega)
 have HF2 : Hid (∀ V,Below w.heap.size w V→Calls Tryz.prog 45 #[.agg #[.slice as' ns cs,.slice at' nt ct]] V (SomeBool V)):=fun V hV=>rFew29_any as' ns cs SS at' nt ct TT V (hSS.keep hV) (hTT.keep2 hV)
 have H1:=Lib.hid (fun V (hV : Below w.heap.size w V)=>(hCheck_any P M am mn cm mod N a n c L as' ns cs SS at' nt ct TT V (hmod.keep hV) (hi.keep hV) (hSS.keep hV) (hTT.keep2 hV)).mono fun e w' (h : HChkPost P M mod N n L SS TT V e w')=>hck_u (by rw [hln];exact h))
 have H2:=Lib.hid (fun V (hV : Below w.heap.size w V)=>(rCheck29_any P M am mn cm mod N a n c L as' ns cs SS at' nt ct TT V (hmod.keep hV) (hi.keep hV) (hSS.keep hV) (hTT.keep2 hV)).mono fun e w' (h : HChkPost P M mod N n L SS TT V e w')=>hck_u (by rw [hln];exact h))
 clear hmod hi hln hSS hTT
 generalize hcE P M mod N L SS TT=er at *
 generalize hckX P M mod N L SS TT=X at *
 go_enter Tryz.func9,Tryz.ntmps9
 go_wp2_with fail
 obtain ⟨W,hW⟩ : ∃ W : World,W=(w.alloc (.cells #[.int .i64 P,.int .i64 M,.slice am mn cm,.int .i64 N,.slice a n c] 27)).alloc (.cells #[.slice as' ns cs,.slice at' nt ct] 59):=⟨_,rfl⟩
 rw [← hW]
 have hbW : Below w.heap.size w W:=by rw [hW];exact below2 _ _ _
 have x0 : Box W w.heap.size [.int .i64 P,.int .i64 M,.slice am mn cm,.int .i64 N,.slice a n c]:=by rw [hW];exact (Box.new _ _ _ rfl).alloc _
 have y0 : Box W (w.heap.size+1) [.slice as' ns cs,.slice at' nt ct]:=by rw [hW];exact Box.new _ _ _ (by simp)
 have HS : Hid (∀ V,Below W.heap.size W V→V.cell? ⟨w.heap.size,0,none⟩=some (.int .i64 P)∧V.cell? ⟨w.heap.size,1,none⟩=some (.int .i64 M)∧V.cell? ⟨w.heap.size,2,none⟩=some (.slice am mn cm)∧V.cell? ⟨w.heap.size,3,none⟩=some (.int .i64 N)∧V.cell? ⟨w.heap.size,4,none⟩=some (.slice a n c) ∧
   V.cell? ⟨w.heap.size+1,0,none⟩=some (.slice as' ns cs)∧V.cell? ⟨w.heap.size+1,1,none⟩=some (.slice at' nt ct)):=fun V hV=>by
  have x1:=x0.keep hV
  have y1:=y0.keep hV
  exact ⟨x1.cell 0 rfl,x1.cell 1 rfl,x1.cell 2 rfl,x1.cell 3 rfl,x1.cell 4 rfl,y1.cell 0 rfl,y1.cell 1 rfl⟩
 have HbW:=Lib.hid hbW
 clear hW x0 hbW y0
 refine (awake29_any W).mono ?_
 rintro e w1 ⟨rfl,hb1⟩
 obtain ⟨c0,c1,c2,c3,c4,c5,c6⟩:=HS.out w1 hb1
 go_wp2_with fail
 refine (HF1.out w1 (Below.next HbW.out hb1)).mono ?_
 rintro e w2 ⟨z,rfl,hb2⟩
 have hB2:=Below.next hb1 hb2
 have HBad : Hid (∀ V,Calls Tryz.prog 26 #[] V fun e w'=>e = .returned (.bool true)∧Below V.heap.size V w'):=fun V=>awake29_any V
 clear c0 c1 c2 c3 c4 c5 c6
 cases z
 ·go_wp2_with fail
  refine (HBad.out w2).mono ?_
  rintro e w3 ⟨rfl,hb3⟩
  have hF:=Below.next HbW.out (Below.next hB2 hb3)
  go_wp2_with fail
  go_ret
  exact ⟨rfl,hF⟩
 obtain ⟨c0,c1,c2,c3,c4,c5,c6⟩:=HS.out w2 hB2
 by_cases hbad : 12<N∧N≤64
 ·have d1 : decide (12<N)=true:=by simpa using hbad.1
  have d2 : decide (N≤64)=true:=by simpa using hbad.2
  clear hbad
  go_wp2_with fail
  refine (HBad.out w2).mono ?_
  rintro e w3 ⟨rfl,hb3⟩
  have hF:=Below.next HbW.out (Below.next hB2 hb3)
  go_wp2_with fail
  go_ret
  exact ⟨rfl,hF⟩
 have hgo : decide (12<N)=false∨(decide (12<N)=true∧decide (N≤64)=false):=by
  by_cases h7 : 12<N
  ·exact .inr ⟨by simpa using h7,by simp;omega⟩
  ·exact .inl (by simpa using h7)
 clear hbad
 rcases hgo with d1 | ⟨d1,d2⟩
 all_goals
  go_wp2_with fail
  refine (HF2.out w2 (Below.next HbW.out hB2)).mono ?_
  rintro e w3 ⟨z,rfl,hb3⟩
  have hB3:=Below.next hB2 hb3
  clear c0 c1 c2 c3 c4 c5 c6
  cases z
  ·go_wp2_with fail
   refine (HBad.out w3).mono ?_
   rintro e w4 ⟨rfl,hb4⟩
   have hF:=Below.next HbW.out (Below.next hB3 hb4)
   go_wp2_with fail
   go_ret
   exact ⟨rfl,hF⟩
  obtain ⟨c0,c1,c2,c3,c4,c5,c6⟩:=HS.out w3 hB3
  go_wp2_with fail
  refine (H1.out w3 (Below.next HbW.out hB3)).mono ?_
  rintro e w4 ⟨hb4,a1,n1,k1,rfl,h1⟩
  have hB4:=Below.next hB3 hb4
  clear c0 c1 c2 c3 c4 c5 c6
  obtain ⟨c0,c1,c2,c3,c4,c5,c6⟩:=HS.out w4 hB4
  go_wp2_with fail
  refine (H2.out w4 (Below.next HbW.out hB4)).mono ?_
  rintro e w5 ⟨hb5,a2,n2,k2,rfl,h2⟩
  have hB5:=Below.next hB4 hb5
  clear c0 c1 c2 c3 c4 c5 c6
  have Hc:=Lib.hid (sameInts_t a1 n1 k1 X a2 n2 k2 (h1.keep hb5) h2)
  have hF:=Below.next HbW.out hB5
  clear h1 h2
  go_wp2_with fail
  refine Hc.out.mono ?_
  rintro e w6 ⟨rfl,r6⟩
  have hF6:=Below.next hF r6.below
  go_wp2_with fail
  go_ret
  exact ⟨rfl,hF6⟩
end

section
open Go.ChangeShapes Go.WideShapes Go.ChangeAt Go.RowKit
section
variable {H : Type} {enc : TypeId × Value→H} {W : World} {held : Bool} {fuel : Nat} {cs : List Value} {x : DataW H × List MemPlace}
theorem opened_excl {v0 : Value} (hf : DataW.trod enc Tryz.prog W 0 (fun _=>true) held fuel 37 [v0]=some x) : ∃ (b : Option Addr) (m c : Nat) (ts : List (List Int)),v0 = .slice b m c∧Mat W b m ts∧m≤c:=by
 obtain ⟨xs,n0,_,_,_,hlen,hfs⟩:=DataW.trod_struct Tryz.underlying37 hf
 obtain ⟨y0,rfl⟩ : ∃ y0,xs=[y0]:=by
  match xs,hlen with
  | [y0],_=>exact ⟨y0,rfl⟩
 have k25 : Tryz.prog.cellsOf 25 = 1:=by kernel_rfl
 have g0 : DataW.trod enc Tryz.prog W 0 (fun _=>true) held n0 25 [v0]=some y0:=by simpa [Value.cells,k25] using hfs 0 _ rfl
 obtain ⟨ax,nx,cx,ts,e,hM,hc⟩:=opened_matC g0
 simp at e
 exact ⟨ax,nx,cx,ts,e,hM,hc⟩
theorem opened_trees (h : DataW.trod enc Tryz.prog W 0 (fun _=>true) held fuel 57 cs=some x) : ∃ a n c TT,cs=[.slice a n c]∧Trees W a n TT:=by
 rcases Go.Deep.open_slice1 Tryz.underlying57 (by kernel_rfl) h with ⟨hcs,_⟩ | ⟨a,len,cap,m,n,V,D,Pl',hcs,hb,hl,hm,hmm,_,hx⟩
 ·exact ⟨none,0,0,[],hcs,⟨rfl,fun h0=>by omega,by unfold maxLen;omega,fun i hi=>by omega⟩⟩
 ·simp only [if_true] at hmm
  subst hmm
  have each : ∀ r,r<len→∃ T : List (List Int),∃ b k c,W.cell? (a.add r)=some (.slice b k c)∧Mat W b k T∧k≤c:=fun r hr=>by
   obtain ⟨h1,h2⟩:=hx r (by omega)
   obtain ⟨b,k,c,ts,e,hM,hc⟩:=opened_excl h2
   exact ⟨ts,b,k,c,by rw [h1,e],hM,hc⟩
  obtain ⟨T,hT⟩:=Go.Deep.choose_lt each
  refine ⟨some a,len,m,(List.range len).map T,hcs,⟨by simp,fun h0=>?_,by omega,fun i hi=>?_⟩⟩
  ·obtain ⟨b,k,c,h1,_⟩:=hT 0 h0
   exact congrArg some (plain_of h1)
  ·obtain ⟨b,k,c,h1,h2,h3⟩:=hT i hi
   have e : nthT ((List.range len).map T) i=T i:=by
    rw [nthT_getElem (by simpa using hi)]
    simp
   exact ⟨b,k,c,add_cell h1,by rw [e];exact h2,h3⟩
end
section
variable {H : Type} {enc : TypeId × Value→H} {W : World} {held : Bool} {b0 : Nat} {v : Value} {d : DataW H} {p : List MemPlace}
set_option maxRecDepth 100000 in
theorem arg_hcert (hv : Value.okWide Tryz.prog W .any b0 59 v) (h : DataW.Trod enc Tryz.prog W 0 (fun _=>true) held 59 v d p) :
  ∃ (as' : Option Addr) (ns cs : Nat) (SS : List (List Int)) (at' : Option Addr) (nt ct : Nat) (TT : List (List (List Int))),v = .agg #[.slice as' ns cs,.slice at' nt ct]∧Mat W as' ns SS∧Trees W at' nt TT:=by
 obtain ⟨cs,rfl,hsz⟩:=okWide_struct Tryz.underlying59 hv
 rw [show Tryz.prog.cellsOf 59 = 2 by kernel_rfl] at hsz
 obtain ⟨l⟩:=cs
 match l,hsz with
 | [v0,v1],_ =>
 obtain ⟨fuel,hf⟩:=h
 obtain ⟨xs,n0,_,_,_,hlen,hfs⟩:=DataW.trod_struct Tryz.underlying59 hf
 obtain ⟨y0,y1,rfl⟩ : ∃ y0 y1,xs=[y0,y1]:=by
  match xs,hlen with
  | [y0,y1],_=>exact ⟨y0,y1,rfl⟩
 have k25 : Tryz.prog.cellsOf 25 = 1:=by kernel_rfl
 have k57 : Tryz.prog.cellsOf 57 = 1:=by kernel_rfl
 have g0 : DataW.trod enc Tryz.prog W 0 (fun _=>true) held n0 25 [v0]=some y0:=by simpa [Value.cells,k25] using hfs 0 _ rfl
 have g1 : DataW.trod enc Tryz.prog W 0 (fun _=>true) held n0 57 [v1]=some y1:=by simpa [Value.cells,k25,k57] using hfs 1 _ rfl
 obtain ⟨ax,nx,cx,ts,e,hM⟩:=opened_mat g0
 obtain ⟨ay,ny,cy,TT,e2,hT⟩:=opened_trees g1
 simp at e e2
 subst e e2
 exact ⟨ax,nx,cx,ts,ay,ny,cy,TT,rfl,hM,hT⟩
end
end

end Go.Proofs.YtcflcogbpnmjeaaGreat
