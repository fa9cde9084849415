/-  -/
import Derived.Test.YtcflcogbpnmjeaaGreatK25
import Derived.Test.YtcflcogbpnmjeaaGreatK26
import Derived.Test.YtcflcogbpnmjeaaGreatK20
import Derived.Deep.RegionHeld3
import Derived.Test.YtcflcogbpnmjeaaGreatK17
import Derived.Test.YtcflcogbpnmjeaaGreatK21
import Derived.Test.YtcflcogbpnmjeaaGreatK18
namespace Go.Proofs.YtcflcogbpnmjeaaGreat
set_option linter.unusedVariables false
set_option linter.unusedSimpArgs false
set_option linter.unusedSectionVars false

section
open Go.RowKit
theorem Box.agree {w : World} {b : Nat} {cs ds : List Value} (h : Box w b cs) (e : cs=ds) : Box w b ds:=e ▸ h
set_option maxRecDepth 100000 in
set_option maxHeartbeats 4000000 in
theorem exProves_any {w w0 : World} {b : Nat} {G : Tbl} {a : Option Addr} {n : Nat} {L : List (List Int)} {m : Nat} {ay : Option Addr} {ny : Nat} {C : Clm} (pb : Nat) (P M : Int) (am : Option Addr) (mn cm c cy : Nat)
  (ax : Option Addr) (nx cx : Nat) (ts : List (List Int)) (E : PEnv w0 b G a n L m ay ny C) (hts : Mat w0 ax nx ts) (hpb : w0.heap.size≤pb) (hb : Below w0.heap.size w0 w) (hB : Box w pb (prfL b P M am mn cm m a n c ay ny cy C (.slice none 0 0) 0)) :
  Calls Tryz.prog 67 #[.pointer (some ⟨pb,0,none⟩),.agg #[.slice ax nx cx]] w fun e w'=>e = .returned (.int .i64 (provS G.ops L m C ts))∧Below w0.heap.size w0 w':=by
 have Htl:=Lib.hid hts.len
 obtain ⟨PR,hPR⟩ : ∃ PR,provS G.ops L m C ts=PR:=⟨_,rfl⟩
 rw [hPR]
 have HPR:=Lib.hid hPR
 clear hPR
 have hb1 : Below w.heap.size w (w.alloc (.cells #[.slice ax nx cx] 37)):=below1 _ _
 have hBa:=hB.keep hb1
 have f10:=hBa.frozen 10
 have q10:=hBa.cell 10 rfl
 have hsb : pb<w.heap.size:=hB.1
 go_enter Tryz.func67,Tryz.ntmps67
 go_wp2_with fail
 obtain ⟨Z,hZ⟩ : ∃ Z : World,Z=(w.setCell ⟨pb,10,none⟩ (.slice ax nx cx)).alloc (.cells #[.slice ax nx cx] 37):=⟨_,rfl⟩
 rw [← hZ]
 have hBZ : Box Z pb (prfL b P M am mn cm m a n c ay ny cy C (.slice ax nx cx) 0):=by
  rw [hZ]
  exact (hB.setCell 10 (.slice ax nx cx)).alloc _
 have hbZ : Below w0.heap.size w0 Z:=by
  rw [hZ]
  exact Below.next (hb.setCell hpb _) (below1 _ _)
 clear hZ hBa f10 q10 hB
 refine (exCheck_any pb P M am mn cm c cy ax nx cx ts E hts hpb C.W Z 0 none 0 0 [] none 0 0 [] (by omega) (by omega) (by omega) hbZ hBZ (Ints.nil _ _) (Ints.nil _ _) (fun h=>by omega) (fun h=>by omega) (by simp) (fun x hx=>by simp at hx)).mono ?_
 rintro e w5 ⟨k',g1,g2,g3,he,g5⟩
 have hb5 : Below w0.heap.size w0 w5:=hbZ.trans (g3.below (fun x hx=>by rw [hx];exact hpb) hbZ.size)
 rw [List.drop_zero] at g5 he
 have c10:=g2.cell 10 rfl
 have c11:=g2.cell 11 rfl
 have hP2 : PR=match folS G.ops L m C C.W [] [] ts with | some []=>0 | _=>13:=by rw [← HPR.out];rfl
 cases hf : folS G.ops L m C C.W [] [] ts with
 | none =>
  rw [hf] at hP2 he
  have HP:=Lib.hid hP2
  have he' : e = .returned (.int .i64 13):=he
  subst he'
  clear hf hP2 g5 he
  have hd : ((13 : Int) == 0)=false:=rfl
  go_wp2_with fail
  go_quiet (fail)
  go_wp2_with fail
  go_ret
  exact ⟨by rw [HP.out];rfl,hb5.trans (Below.mono (Drawn.below ⟨_,rfl⟩) hb5.size)⟩
 | some r =>
  rw [hf] at hP2 g5 he
  have he' : e = .returned (.int .i64 0):=he
  subst he'
  clear he
  have g6 : ts.drop k'=r:=g5 rfl
  have hlen : r.length=nx - k':=by rw [← g6,List.length_drop,Htl.out]
  rw [Htl.out] at g1
  by_cases hk : k'<nx
  ·have HP : Hid (PR=13):=by
    show _=_
    rw [hP2]
    cases r with
    | nil=>simp at hlen;omega
    | cons x r=>rfl
   have hd : decide ((k' : Int)<(nx : Int))=true:=by simp;omega
   clear hf hP2 g5 g6 hlen
   go_wp2_with fail
   go_quiet (fail)
   go_wp2_with fail
   go_ret
   exact ⟨by rw [HP.out];rfl,hb5.trans (Below.mono (Drawn.below ⟨_,rfl⟩) hb5.size)⟩
  ·have HP : Hid (PR=0):=by
    show _=_
    rw [hP2]
    cases r with
    | nil=>rfl
    | cons x r=>simp at hlen;omega
   have hd : decide ((k' : Int)<(nx : Int))=false:=by simp;omega
   clear hf hP2 g5 g6 hlen
   go_wp2_with fail
   go_quiet (fail)
   go_wp2_with fail
   go_ret
   exact ⟨by rw [HP.out];rfl,hb5.trans (Below.mono (Drawn.below ⟨_,rfl⟩) hb5.size)⟩
def ExTreePost (w0 : World) (V : Int × List (List Int)) (e : Ending) (w' : World) : Prop :=
 Below w0.heap.size w0 w'∧((V.1 ≠ 0∧e = .returned (.tuple #[.agg #[.slice none 0 0],.int .i64 V.1])) ∨
  (V.1=0∧∃ ar cr R,e = .returned (.tuple #[.agg #[.slice ar V.2.length cr],.int .i64 0])∧OMat w' w0.heap.size ar V.2.length cr R V.2))
set_option maxRecDepth 100000 in
set_option maxHeartbeats 4000000 in
theorem exTree_any {w w0 : World} {b : Nat} {G : Tbl} {a : Option Addr} {n : Nat} {L : List (List Int)} {m : Nat} {ay : Option Addr} {ny : Nat} {C : Clm} (pb : Nat) (P M : Int) (am : Option Addr) (mn cm c cy : Nat)
  (E : PEnv w0 b G a n L m ay ny C) (hpb : w0.heap.size≤pb) (hb : Below w0.heap.size w0 w) (hB : Box w pb (prfL b P M am mn cm m a n c ay ny cy C (.slice none 0 0) 0)) :
  Calls Tryz.prog 66 #[.pointer (some ⟨pb,0,none⟩)] w (ExTreePost w0 (treeS G.ops L m C)):=by
 obtain ⟨V,hV⟩ : ∃ V,treeS G.ops L m C=V:=⟨_,rfl⟩
 rw [hV]
 have HV:=Lib.hid hV
 clear hV
 have hsb : pb<w.heap.size:=hB.1
 go_enter Tryz.func66,Tryz.ntmps66
 go_wp2_with fail
 obtain ⟨U,hU⟩ : ∃ U : World,U=w.alloc (.cells #[.slice none 0 0] 37):=⟨_,rfl⟩
 rw [← hU]
 have hbU : Below w.heap.size w U:=by rw [hU];exact below1 _ _
 have hsU : U.heap.size=w.heap.size+1:=by rw [hU];simp
 have x0 : Box U w.heap.size [.slice none 0 0]:=by rw [hU];exact Box.new _ _ _ rfl
 have hBU:=hB.keep hbU
 have hb0U : Below w0.heap.size w0 U:=hb.trans (hbU.mono hb.size)
 clear hU hB
 have hM0 : BMem U w0.heap.size pb b P M am mn cm m a n c ay ny cy C ⟨none,0,[],[]⟩:=⟨hBU,OMat.empty U _,fun h=>by
  rcases h with ⟨h1,_⟩ | ⟨i,hi,_⟩
  ·exact h1 rfl
  ·simp at hi,by simp⟩
 refine (exBuild_any pb P M am mn cm c cy E hpb C.W U ⟨none,0,[],[]⟩ none 0 0 [] none 0 0 [] (by omega) (by omega) hb0U hM0 (Ints.nil _ _) (Ints.nil _ _) (fun h=>by omega) (fun h=>by omega) (by simp) (fun x hx=>by simp at hx)).mono ?_
 rintro e w5 ⟨σ',g1,g2,g3,g4,rfl,g6⟩
 have hVe : bldS G.ops L m C C.W [] [] []=V:=HV.out
 rw [hVe] at g6 ⊢
 have hgn : ¬ (⟨none,0,[],[]⟩ : BSt).J pb w.heap.size:=fun h=>by
  rcases h with h | ⟨h1,_⟩ | ⟨i,hi,_⟩
  ·omega
  ·exact h1 rfl
  ·simp at hi
 have hb5 : Below w0.heap.size w0 w5:=hb0U.trans (g4.below (fun x hx=>by
  rcases hx with h | ⟨h1,_⟩ | ⟨i,hi,_⟩
  ·rw [h];exact hpb
  ·exact absurd rfl h1
  ·simp at hi) hb0U.size)
 have x5:=x0.moves g4 hgn
 have z0:=x5.cell 0 rfl
 have f0:=x5.frozen 0
 have hgn5 : ¬ OIn σ'.ar σ'.R w.heap.size:=fun h=>g4.not x0.1 hgn (.inr h)
 have hszw:=hb.size
 obtain ⟨ve,vt⟩:=V
 dsimp only at g6 ⊢
 by_cases hve : ve=0
 ·subst hve
  have ht : σ'.T=vt:=g6 rfl
  have hF : ∀ v : Value,Below w0.heap.size w0 (w5.setCell ⟨w.heap.size,0,none⟩ v)∧OMat (w5.setCell ⟨w.heap.size,0,none⟩ v) w0.heap.size σ'.ar vt.length σ'.cr σ'.R vt:=fun v=>by
   refine ⟨hb5.setCell hszw _,?_⟩
   rw [← ht]
   exact g1.om.of_blocks fun x hx=>Below.heap_setCell _ _ _ _ fun e=>hgn5 (by have e' : x=w.heap.size:=e;rw [← e'];exact hx)
  have HF:=Lib.hid hF
  have p10:=g1.box.cell 10 rfl
  rw [ht] at p10
  clear g1 g2 g3 g4 g6 hF ht
  go_wp2_with fail
  have z1 : (w5.setCell ⟨w.heap.size,0,none⟩ (.slice σ'.ar vt.length σ'.cr)).cell? ⟨w.heap.size,0,none⟩=some (.slice σ'.ar vt.length σ'.cr):=World.cell?_setCell_same _ _ _ z0
  exact bodyPost_ret (v:=.tuple #[.agg #[.slice σ'.ar vt.length σ'.cr],.int .i64 0]) (by simp [results,Tryz.results66,go_sem,z0,z1]) rfl ⟨(HF.out _).1,.inr ⟨rfl,σ'.ar,σ'.cr,σ'.R,rfl,(HF.out _).2⟩⟩
 ·have hve' : (ve != 0)=true:=by simpa using hve
  have Hne:=Lib.hid hve
  have HF:=Lib.hid (fun v : Value=>hb5.setCell (p:=⟨w.heap.size,0,none⟩) hszw v)
  clear g1 g2 g3 g4 g6 hve
  go_wp2_with fail
  have z1 : (w5.setCell ⟨w.heap.size,0,none⟩ (.slice none 0 0)).cell? ⟨w.heap.size,0,none⟩=some (.slice none 0 0):=World.cell?_setCell_same _ _ _ z0
  exact bodyPost_ret (v:=.tuple #[.agg #[.slice none 0 0],.int .i64 ve]) (by simp [results,Tryz.results66,go_sem,z0,z1]) rfl ⟨HF.out _,.inl ⟨Hne.out,rfl⟩⟩
end

section
open Go.RowKit
def chkRE (P M : Int) (mod : List Int) (N : Int) (L : List (List Int)) (mm W : Int) (ts : List (List Int)) : Int :=
 if rkcE P M mod N L mm W=0 then provS (tblOf P M.toNat mod).ops L N.toNat ⟨mm.toNat,W.toNat,false,[]⟩ ts else rkcE P M mod N L mm W
def bldRE (P M : Int) (mod : List Int) (N : Int) (L : List (List Int)) (mm W : Int) : Int × List (List Int) :=
 if rkcE P M mod N L mm W=0 then treeS (tblOf P M.toNat mod).ops L N.toNat ⟨mm.toNat,W.toNat,false,[]⟩ else (rkcE P M mod N L mm W,[])
def ExBldPost (V : Int × List (List Int)) (w : World) (e : Ending) (w' : World) : Prop :=
 Below w.heap.size w w'∧((V.1 ≠ 0∧e = .returned (.tuple #[.agg #[.slice none 0 0],.int .i64 V.1])) ∨
  (V.1=0∧∃ ar cr R,e = .returned (.tuple #[.agg #[.slice ar V.2.length cr],.int .i64 0])∧OMat w' w.heap.size ar V.2.length cr R V.2))
set_option maxRecDepth 100000 in
set_option maxHeartbeats 1600000 in
theorem exCheckRank_any (P M : Int) (am : Option Addr) (mn cm : Nat) (mod : List Int) (N : Int) (a : Option Addr) (n c : Nat) (L : List (List Int)) (mm W : Int) (ax : Option Addr) (nx cx : Nat) (ts : List (List Int)) (w : World)
  (hmod : Ints w am mn mod) (hi : Mat w a n L) (hts : Mat w ax nx ts) :
  Calls Tryz.prog 56 #[.agg #[.int .i64 P,.int .i64 M,.slice am mn cm,.int .i64 N,.slice a n c],.int .i64 mm,.int .i64 W,.agg #[.slice ax nx cx]] w fun e w'=>e = .returned (.int .i64 (chkRE P M mod N L mm W ts))∧Below w.heap.size w w':=by
 go_enter Tryz.func56,Tryz.ntmps56
 go_wp2_with fail
 obtain ⟨U,hU⟩ : ∃ U : World,U=(w.alloc (.cells #[.int .i64 P,.int .i64 M,.slice am mn cm,.int .i64 N,.slice a n c] 27)).alloc (.cells #[.slice ax nx cx] 37):=⟨_,rfl⟩
 rw [← hU]
 have hbU : Below w.heap.size w U:=by rw [hU];exact below2 _ _ _
 have x0 : Box U (w.heap.size+1) [.slice ax nx cx]:=by rw [hU];exact Box.new _ _ _ (by simp)
 have HX:=Lib.hid x0
 clear hU x0
 refine (exRank_any P M am mn cm mod N a n c L mm W U (hmod.keep hbU) (hi.keep hbU)).mono ?_
 rintro e w1 ⟨hb1,⟨hE,rfl⟩ | ⟨hE,pb,rfl,hCl⟩⟩
 ·have HE : Hid (chkRE P M mod N L mm W ts=rkcE P M mod N L mm W):=if_neg hE
  have hE1 : (rkcE P M mod N L mm W == 0)=false:=by simpa using hE
  have hE2 : (rkcE P M mod N L mm W != 0)=true:=by simpa using hE
  have hbF:=Below.next hbU hb1
  clear hE
  go_wp2_with fail
  go_ret
  exact ⟨by rw [HE.out];rfl,hbF⟩
 ·have HE : Hid (chkRE P M mod N L mm W ts=provS (tblOf P M.toNat mod).ops L N.toNat ⟨mm.toNat,W.toNat,false,[]⟩ ts):=if_pos hE
  have x1:=HX.out.keep hb1
  have c0:=x1.cell 0 rfl
  obtain ⟨b,w2,rfl,hb2,hPE,hb3,hB⟩:=hCl
  have HPr:=Lib.hid (exProves_any w2.heap.size P M am mn cm c 0 ax nx cx ts hPE ((hts.keep hbU).keep hb2) (Nat.le_refl _) hb3 hB)
  have hbw2:=Below.next hbU hb2
  clear x1 hB hPE hE
  go_wp2_with fail
  refine HPr.out.mono ?_
  rintro e w3 ⟨rfl,hb4⟩
  have hbF:=Below.next hbw2 hb4
  go_wp2_with fail
  go_ret
  exact ⟨by rw [HE.out];rfl,hbF⟩
set_option maxRecDepth 100000 in
set_option maxHeartbeats 1600000 in
theorem exBuildRank_any (P M : Int) (am : Option Addr) (mn cm : Nat) (mod : List Int) (N : Int) (a : Option Addr) (n c : Nat) (L : List (List Int)) (mm W : Int) (w : World)
  (hmod : Ints w am mn mod) (hi : Mat w a n L) :
  Calls Tryz.prog 54 #[.agg #[.int .i64 P,.int .i64 M,.slice am mn cm,.int .i64 N,.slice a n c],.int .i64 mm,.int .i64 W] w (ExBldPost (bldRE P M mod N L mm W) w):=by
 obtain ⟨V,hV⟩ : ∃ V,bldRE P M mod N L mm W=V:=⟨_,rfl⟩
 rw [hV]
 have HV:=Lib.hid hV
 clear hV
 go_enter Tryz.func54,Tryz.ntmps54
 go_wp2_with fail
 obtain ⟨U,hU⟩ : ∃ U : World,U=(w.alloc (.cells #[.int .i64 P,.int .i64 M,.slice am mn cm,.int .i64 N,.slice a n c] 27)).alloc (.cells #[.slice none 0 0] 37):=⟨_,rfl⟩
 rw [← hU]
 have hbU : Below w.heap.size w U:=by rw [hU];exact below2 _ _ _
 have hsU : U.heap.size=w.heap.size+2:=by rw [hU];simp
 have x0 : Box U (w.heap.size+1) [.slice none 0 0]:=by rw [hU];exact Box.new _ _ _ (by simp)
 have HX:=Lib.hid x0
 clear hU x0
 refine (exRank_any P M am mn cm mod N a n c L mm W U (hmod.keep hbU) (hi.keep hbU)).mono ?_
 rintro e w1 ⟨hb1,⟨hE,rfl⟩ | ⟨hE,pb,rfl,hCl⟩⟩
 ·have HE : Hid (V=(rkcE P M mod N L mm W,[])):=by show _=_;rw [← HV.out];exact if_neg hE
  have hE1 : (rkcE P M mod N L mm W == 0)=false:=by simpa using hE
  have hE2 : (rkcE P M mod N L mm W != 0)=true:=by simpa using hE
  have Hne:=Lib.hid hE
  have x1:=HX.out.keep hb1
  have z0:=x1.cell 0 rfl
  have f0:=x1.frozen 0
  have HF:=Lib.hid (fun v : Value=>(Below.next hbU hb1).setCell (p:=⟨w.heap.size+1,0,none⟩) (by simp) v)
  clear hE x1
  generalize rkcE P M mod N L mm W=er at *
  go_wp2_with fail
  have z1 : (w1.setCell ⟨w.heap.size+1,0,none⟩ (.slice none 0 0)).cell? ⟨w.heap.size+1,0,none⟩=some (.slice none 0 0):=World.cell?_setCell_same _ _ _ z0
  exact bodyPost_ret (v:=.tuple #[.agg #[.slice none 0 0],.int .i64 er]) (by simp [results,Tryz.results54,go_sem,z0,z1]) rfl ⟨HF.out _,.inl ⟨by rw [HE.out];exact Hne.out,by rw [HE.out]⟩⟩
 ·have HE : Hid (treeS (tblOf P M.toNat mod).ops L N.toNat ⟨mm.toNat,W.toNat,false,[]⟩=V):=by show _=_;rw [← HV.out];exact (if_pos hE).symm
  have x1:=HX.out.keep hb1
  obtain ⟨b,w2,rfl,hb2,hPE,hb3,hB⟩:=hCl
  have HPr:=exTree_any w2.heap.size P M am mn cm c 0 hPE (Nat.le_refl _) hb3 hB
  rw [HE.out] at HPr
  have HTr:=Lib.hid HPr
  have hbw2:=Below.next hbU hb2
  have x2:=HX.out.keep hb2
  have hs2 : w.heap.size+1<w2.heap.size:=x2.1
  clear x1 hB hPE hE HPr
  go_wp2_with fail
  refine HTr.out.mono ?_
  rintro e w3 ⟨hb4,⟨hv,rfl⟩ | ⟨hv,ar,cr,R,rfl,hO⟩⟩
  ·have x3:=x2.keep hb4
   have z0:=x3.cell 0 rfl
   have f0:=x3.frozen 0
   have HF:=Lib.hid (fun v : Value=>(Below.next hbw2 hb4).setCell (p:=⟨w.heap.size+1,0,none⟩) (by simp) v)
   have Hne:=Lib.hid hv
   obtain ⟨ve,vt⟩:=V
   dsimp only at Hne ⊢
   clear x3 hv
   go_wp2_with fail
   have z1 : (w3.setCell ⟨w.heap.size+1,0,none⟩ (.slice none 0 0)).cell? ⟨w.heap.size+1,0,none⟩=some (.slice none 0 0):=World.cell?_setCell_same _ _ _ z0
   exact bodyPost_ret (v:=.tuple #[.agg #[.slice none 0 0],.int .i64 ve]) (by simp [results,Tryz.results54,go_sem,z0,z1]) rfl ⟨HF.out _,.inl ⟨Hne.out,rfl⟩⟩
  ·have x3:=x2.keep hb4
   have z0:=x3.cell 0 rfl
   have f0:=x3.frozen 0
   have hF : ∀ v : Value,Below w.heap.size w (w3.setCell ⟨w.heap.size+1,0,none⟩ v)∧OMat (w3.setCell ⟨w.heap.size+1,0,none⟩ v) w.heap.size ar V.2.length cr R V.2:=fun v=>by
    refine ⟨(Below.next hbw2 hb4).setCell (by simp) v,?_⟩
    refine (OMat.mono hO hbw2.size).of_blocks fun x hx=>Below.heap_setCell _ _ _ _ fun e=>?_
    have h1:=(hO.lt x hx).1
    have e' : x=w.heap.size+1:=e
    omega
   have HF:=Lib.hid hF
   obtain ⟨ve,vt⟩:=V
   dsimp only at hv HF ⊢
   subst hv
   clear x3 hO hF
   go_wp2_with fail
   have z1 : (w3.setCell ⟨w.heap.size+1,0,none⟩ (.slice ar vt.length cr)).cell? ⟨w.heap.size+1,0,none⟩=some (.slice ar vt.length cr):=World.cell?_setCell_same _ _ _ z0
   exact bodyPost_ret (v:=.tuple #[.agg #[.slice ar vt.length cr],.int .i64 0]) (by simp [results,Tryz.results54,go_sem,z0,z1]) rfl ⟨(HF.out _).1,.inr ⟨rfl,ar,cr,R,rfl,(HF.out _).2⟩⟩
end

section
open Go.RowKit
end

section
open Go.RowKit
end

section
def insS (x : Int) : List Int→List Int
 | []=>[x]
 | y :: l=>if x≤y then x :: y :: l else y :: insS x l
def isort : List Int→List Int
 | []=>[]
 | x :: l=>insS x (isort l)
theorem insS_perm (x : Int) : ∀ l,(insS x l).Perm (x :: l)
 | []=>List.Perm.refl _
 | y :: l=>by
  rw [insS]
  split
  ·exact List.Perm.refl _
  ·exact ((insS_perm x l).cons y).trans (List.Perm.swap x y l)
theorem insS_pair (x : Int) : ∀ {l : List Int},l.Pairwise (fun a b=>a≤b)→(insS x l).Pairwise (fun a b=>a≤b)
 | [],_=>by simp [insS]
 | y :: l,h=>by
  rw [insS]
  rw [List.pairwise_cons] at h
  split
  ·rename_i hxy
   rw [List.pairwise_cons,List.pairwise_cons]
   refine ⟨fun a ha=>?_,h.1,h.2⟩
   rcases List.mem_cons.1 ha with rfl | ha
   ·exact hxy
   ·have:=h.1 a ha;omega
  ·rename_i hxy
   rw [List.pairwise_cons]
   refine ⟨fun a ha=>?_,insS_pair x h.2⟩
   rcases List.mem_cons.1 ((insS_perm x l).mem_iff.1 ha) with rfl | ha
   ·omega
   ·exact h.1 a ha
theorem isort_perm : ∀ l,(isort l).Perm l
 | []=>List.Perm.refl _
 | x :: l=>(insS_perm x (isort l)).trans ((isort_perm l).cons x)
theorem isort_pair : ∀ l,(isort l).Pairwise (fun a b=>a≤b)
 | []=>by simp [isort]
 | x :: l=>insS_pair x (isort_pair l)
theorem sortL_isort (l : List Int) : sortL l=isort l:=(sortL_unique (isort_pair l) (isort_perm l)).symm
def csetI (O : FOps) (L : List (List Int)) (m : Nat) (C : Clm) (s z : List Int) : List Int:=isort (grM O L (isort z ++ frTo false (s ++ z) m) (if C.cos=true then m else C.M))
theorem csetI_eq (O : FOps) (L : List (List Int)) (m : Nat) (C : Clm) (s z : List Int) : csetS O L m C s z=csetI O L m C s z:=by
 unfold csetS csetI outS
 rw [sortL_isort,sortL_isort]
def bldI (O : FOps) (L : List (List Int)) (m : Nat) (C : Clm) : Nat→List Int→List Int→List (List Int)→Int × List (List Int)
 | 0,s,z,T=>if rightS O L m C s (csetI O L m C s z)=true then if T.length=65536 then (8,[]) else (0,T ++ [csetI O L m C s z]) else (11,[])
 | d+1,s,z,T=>if rightS O L m C s (csetI O L m C s z)=true then if T.length=65536 then (8,[]) else kbld (bldI O L m C d) s z (kidsS C s z (csetI O L m C s z)) (T ++ [csetI O L m C s z]) else (11,[])
theorem bldI_eq (O : FOps) (L : List (List Int)) (m : Nat) (C : Clm) : ∀ d,bldS O L m C d=bldI O L m C d
 | 0=>by
  funext s z T
  rw [bldS,bldI,csetI_eq]
 | d+1=>by
  funext s z T
  rw [bldS,bldI,csetI_eq,bldI_eq O L m C d]
theorem treeI (O : FOps) (L : List (List Int)) (m : Nat) (C : Clm) : treeS O L m C=bldI O L m C C.W [] [] []:=by rw [treeS,bldI_eq]
def awG26 : List (List Int):=[[1,0,1,0],[0,1,1,1]]
theorem aw26_r21 : rkcE 2 1 [] 4 awG26 2 1=0:=by decide +kernel
theorem aw26_b2 : bldRE 2 1 [] 4 awG26 2 1=(0,[[0,1],[1,2],[0,2]]):=by rw [bldRE,if_pos aw26_r21,treeI];decide +kernel
end

section
section
variable {O : FOps} {El : Int→Prop} {m : Nat} {L : List (List Int)} {C : Clm}
end
section
variable {P M : Int} {mod : List Int} {m : Nat} {L : List (List Int)}
end
end

section
open Go.RowKit
variable {O : FOps} {El : Int→Prop} {m : Nat} {L : List (List Int)}
structure LInv (O : FOps) (El : Int→Prop) (m : Nat) (L : List (List Int)) (y t : List Int) (k : Nat) (st : LS) : Prop where
 rws : Rws El m st.rows
 len : st.rows.length=L.length
 vc : Vc El m st.sum
 top : st.top=k
 kl : k≤L.length
 sup : RSub O El m L st.rows
 sub : RSub O El m st.rows L
 cos : ∃ f,RS O El m L f∧(∀ x,x<m→El (f x))∧∀ x,x<m→nth st.sum x=O.add (nth y x) (f x)
 one : ∀ i,i<k→nth (nthR st.rows i) (nth t i).toNat=1
 zero : ∀ j i,j<k→j<i→i<L.length→nth (nthR st.rows i) (nth t j).toNat=0
 sz : ∀ j,j<k→nth st.sum (nth t j).toNat=0
end

end Go.Proofs.YtcflcogbpnmjeaaGreat
