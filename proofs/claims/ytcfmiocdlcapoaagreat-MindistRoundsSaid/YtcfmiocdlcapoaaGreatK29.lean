import Derived.Test.YtcfmiocdlcapoaaGreatK27
import Derived.Test.YtcfmiocdlcapoaaGreatK26
import Derived.Test.YtcfmiocdlcapoaaGreatK25
import Derived.Deep.RegionHeld3
namespace Go.Proofs.YtcfmiocdlcapoaaGreat
set_option linter.unusedVariables false
set_option linter.unusedSimpArgs false
set_option linter.unusedSectionVars false
set_option maxRecDepth 100000
set_option maxHeartbeats 4000000
open Go.RowKit
theorem ye {w w0 : World} {b : Nat} {G : de} {a : OA} {n : Nat} {L : Ll} {m : Nat} {ay : OA} {ny : Nat} {C : lB} (pb : Nat) (P M : Int) (am : OA) (mn cm c cy : Nat)
  (ax : OA) (nx cx : Nat) (ts : Ll) (E : BO w0 b G a n L m ay ny C) (hts : bZ w0 ax nx ts) (hpb : w0.heap.size<=pb) (hb : Below w0.heap.size w0 w) (hB : aV w pb (ou b P M am mn cm m a n c ay ny cy C (.slice none 0 0) 0)) :
  Calls Tryz.prog 188 #[.pointer (some ⟨pb,0,none⟩),.agg #[.slice ax nx cx]] w λe w'=>e = .returned (.int .i64 (Cc G.ops L m C ts))/\Below w0.heap.size w0 w':=by
 have Htl:=Z5 hts.len
 obtain ⟨PR,hPR⟩ : ∃PR,Cc G.ops L m C ts=PR:=⟨_,rfl⟩
 rw [hPR]
 have HPR:=Z5 hPR
 clear hPR
 have hb1 : Below w.heap.size w (w.alloc (.cells #[.slice ax nx cx] 47)):=an _ _
 have hBa:=hB.ah hb1
 have f10:=hBa.frozen 10
 have q10:=hBa.cell 10 rfl
 have hsb : pb<w.heap.size:=hB.1
 go_enter Tryz.func188,Tryz.ntmps188
 go_wp2_with fail
 obtain ⟨Z,hZ⟩ : ∃Z : World,Z=(w.setCell ⟨pb,10,none⟩ (.slice ax nx cx)).alloc (.cells #[.slice ax nx cx] 47):=⟨_,rfl⟩
 rw [<- hZ]
 have hBZ : aV Z pb (ou b P M am mn cm m a n c ay ny cy C (.slice ax nx cx) 0):=by
  rw [hZ]
  exact (hB.setCell 10 (.slice ax nx cx)).alloc _
 have hbZ : Below w0.heap.size w0 Z:=by
  rw [hZ]
  exact Below.next (hb.setCell hpb _) (an _ _)
 clear hZ hBa f10 q10 hB
 refine (rP pb P M am mn cm c cy ax nx cx ts E hts hpb C.W Z 0 none 0 0 [] none 0 0 [] (by omega) (by omega) (by omega) hbZ hBZ (Ints.nil _ _) (Ints.nil _ _) (λh=>by omega) (λh=>by omega) (by simp) (λx hx=>by simp at hx)).mono ?_
 rintro e w5 ⟨k',g1,g2,g3,he,g5⟩
 have hb5 : Below w0.heap.size w0 w5:=hbZ.trans (g3.below (λx hx=>by rw [hx];exact hpb) hbZ.size)
 rw [List.drop_zero] at g5 he
 have c10:=g2.cell 10 rfl
 have c11:=g2.cell 11 rfl
 have hP2 : PR=match folS G.ops L m C C.W [] [] ts with | some []=>0 | _=>13:=by rw [<- HPR.out];rfl
 cases hf : folS G.ops L m C C.W [] [] ts with
 | none =>
  rw [hf] at hP2 he
  have HP:=Z5 hP2
  have he' : e = .returned (.int .i64 13):=he
  subst he'
  clear hf hP2 g5 he
  have hd : ((13 : Int) == 0)=false:=rfl
  go_wp2_with fail
  go_quiet (fail)
  go_wp2_with fail
  go_ret
  exact ⟨by rw [HP.out];rfl,hb5.trans (Below.mono (bd.below ⟨_,rfl⟩) hb5.size)⟩
 | some r =>
  rw [hf] at hP2 g5 he
  have he' : e = .returned (.int .i64 0):=he
  subst he'
  clear he
  have g6 : ts.drop k'=r:=g5 rfl
  have hlen : r.length=nx - k':=by rw [<- g6,List.length_drop,Htl.out]
  rw [Htl.out] at g1
  by_cases hk : k'<nx
  ·have HP : Hid (PR=13):=by
    show _=_
    rw [hP2]
    cases r with
    | nil=>simp at hlen;omega
    | cons x r=>rfl
   have hd : decide ((k' : Int)<(nx : Int))=true:=by simp;omega
   clear hf hP2 g5 g6 hlen
   go_wp2_with fail
   go_quiet (fail)
   go_wp2_with fail
   go_ret
   exact ⟨by rw [HP.out];rfl,hb5.trans (Below.mono (bd.below ⟨_,rfl⟩) hb5.size)⟩
  ·have HP : Hid (PR=0):=by
    show _=_
    rw [hP2]
    cases r with
    | nil=>rfl
    | cons x r=>simp at hlen;omega
   have hd : decide ((k' : Int)<(nx : Int))=false:=by simp;omega
   clear hf hP2 g5 g6 hlen
   go_wp2_with fail
   go_quiet (fail)
   go_wp2_with fail
   go_ret
   exact ⟨by rw [HP.out];rfl,hb5.trans (Below.mono (bd.below ⟨_,rfl⟩) hb5.size)⟩
def AZ (w0 : World) (V : Int × Ll) (e : Ending) (w' : World) : Prop :=
 Below w0.heap.size w0 w'/\((V.1 ≠ 0/\e = .returned (.tuple #[.agg #[.slice none 0 0],.int .i64 V.1])) \/
  (V.1=0/\∃ar cr R,e = .returned (.tuple #[.agg #[.slice ar V.2.length cr],.int .i64 0])/\aU w' w0.heap.size ar V.2.length cr R V.2))
theorem AT {w w0 : World} {b : Nat} {G : de} {a : OA} {n : Nat} {L : Ll} {m : Nat} {ay : OA} {ny : Nat} {C : lB} (pb : Nat) (P M : Int) (am : OA) (mn cm c cy : Nat)
  (E : BO w0 b G a n L m ay ny C) (hpb : w0.heap.size<=pb) (hb : Below w0.heap.size w0 w) (hB : aV w pb (ou b P M am mn cm m a n c ay ny cy C (.slice none 0 0) 0)) :
  Calls Tryz.prog 185 #[.pointer (some ⟨pb,0,none⟩)] w (AZ w0 (vj G.ops L m C)):=by
 obtain ⟨V,hV⟩ : ∃V,vj G.ops L m C=V:=⟨_,rfl⟩
 rw [hV]
 have HV:=Z5 hV
 clear hV
 have hsb : pb<w.heap.size:=hB.1
 go_enter Tryz.func185,Tryz.ntmps185
 go_wp2_with fail
 obtain ⟨U,hU⟩ : ∃U : World,U=w.alloc (.cells #[.slice none 0 0] 47):=⟨_,rfl⟩
 rw [<- hU]
 have hbU : Below w.heap.size w U:=by rw [hU];exact an _ _
 have hsU : U.heap.size=w.heap.size+1:=by rw [hU];simp
 have x0 : aV U w.heap.size [.slice none 0 0]:=by rw [hU];exact aV.new _ _ _ rfl
 have hBU:=hB.ah hbU
 have hb0U : Below w0.heap.size w0 U:=hb.trans (hbU.mono hb.size)
 clear hU hB
 have hM0 : mb U w0.heap.size pb b P M am mn cm m a n c ay ny cy C ⟨none,0,[],[]⟩:=⟨hBU,aU.empty U _,λh=>by
  rcases h with ⟨h1,_⟩ | ⟨i,hi,_⟩
  ·exact h1 rfl
  ·simp at hi,by simp⟩
 refine (rp pb P M am mn cm c cy E hpb C.W U ⟨none,0,[],[]⟩ none 0 0 [] none 0 0 [] (by omega) (by omega) hb0U hM0 (Ints.nil _ _) (Ints.nil _ _) (λh=>by omega) (λh=>by omega) (by simp) (λx hx=>by simp at hx)).mono ?_
 rintro e w5 ⟨σ',g1,g2,g3,g4,rfl,g6⟩
 have hVe : kU G.ops L m C C.W [] [] []=V:=HV.out
 rw [hVe] at g6 ⊢
 have hgn : ¬ (⟨none,0,[],[]⟩ : yL).J pb w.heap.size:=λh=>by
  rcases h with h | ⟨h1,_⟩ | ⟨i,hi,_⟩
  ·omega
  ·exact h1 rfl
  ·simp at hi
 have hb5 : Below w0.heap.size w0 w5:=hb0U.trans (g4.below (λx hx=>by
  rcases hx with h | ⟨h1,_⟩ | ⟨i,hi,_⟩
  ·rw [h];exact hpb
  ·exact absurd rfl h1
  ·simp at hi) hb0U.size)
 have x5:=x0.dt g4 hgn
 have z0:=x5.cell 0 rfl
 have f0:=x5.frozen 0
 have hgn5 : ¬ bL σ'.ar σ'.R w.heap.size:=λh=>g4.not x0.1 hgn (.inr h)
 have hszw:=hb.size
 obtain ⟨ve,vt⟩:=V
 dsimp only at g6 ⊢
 by_cases hve : ve=0
 ·subst hve
  have ht : σ'.T=vt:=g6 rfl
  have hF : ∀v : Value,Below w0.heap.size w0 (w5.setCell ⟨w.heap.size,0,none⟩ v)/\aU (w5.setCell ⟨w.heap.size,0,none⟩ v) w0.heap.size σ'.ar vt.length σ'.cr σ'.R vt:=λv=>by
   refine ⟨hb5.setCell hszw _,?_⟩
   rw [<- ht]
   exact g1.om.bz λx hx=>Below.heap_setCell _ _ _ _ λe=>hgn5 (by have e' : x=w.heap.size:=e;rw [<- e'];exact hx)
  have HF:=Z5 hF
  have p10:=g1.box.cell 10 rfl
  rw [ht] at p10
  clear g1 g2 g3 g4 g6 hF ht
  go_wp2_with fail
  have z1 : (w5.setCell ⟨w.heap.size,0,none⟩ (.slice σ'.ar vt.length σ'.cr)).cell? ⟨w.heap.size,0,none⟩=some (.slice σ'.ar vt.length σ'.cr):=World.cell?_setCell_same _ _ _ z0
  exact bodyPost_ret (v:=.tuple #[.agg #[.slice σ'.ar vt.length σ'.cr],.int .i64 0]) (by simp [results,Tryz.results185,go_sem,z0,z1]) rfl ⟨(HF.out _).1,.inr ⟨rfl,σ'.ar,σ'.cr,σ'.R,rfl,(HF.out _).2⟩⟩
 ·have hve' : (ve != 0)=true:=by simpa using hve
  have Hne:=Z5 hve
  have HF:=Z5 (λv : Value=>hb5.setCell (p:=⟨w.heap.size,0,none⟩) hszw v)
  clear g1 g2 g3 g4 g6 hve
  go_wp2_with fail
  have z1 : (w5.setCell ⟨w.heap.size,0,none⟩ (.slice none 0 0)).cell? ⟨w.heap.size,0,none⟩=some (.slice none 0 0):=World.cell?_setCell_same _ _ _ z0
  exact bodyPost_ret (v:=.tuple #[.agg #[.slice none 0 0],.int .i64 ve]) (by simp [results,Tryz.results185,go_sem,z0,z1]) rfl ⟨HF.out _,.inl ⟨Hne.out,rfl⟩⟩
def n7 (P M : Int) (mod : Lz) (N : Int) (L : Ll) (mm W : Int) (ts : Ll) : Int :=
 if ij P M mod N L mm W=0 then Cc (aa P M.toNat mod).ops L N.toNat ⟨mm.toNat,W.toNat,false,[]⟩ ts else ij P M mod N L mm W
def kF (P M : Int) (mod : Lz) (N : Int) (L : Ll) (mm W : Int) : Int × Ll :=
 if ij P M mod N L mm W=0 then vj (aa P M.toNat mod).ops L N.toNat ⟨mm.toNat,W.toNat,false,[]⟩ else (ij P M mod N L mm W,[])
def qt (V : Int × Ll) (w : World) (e : Ending) (w' : World) : Prop :=
 Below w.heap.size w w'/\((V.1 ≠ 0/\e = .returned (.tuple #[.agg #[.slice none 0 0],.int .i64 V.1])) \/
  (V.1=0/\∃ar cr R,e = .returned (.tuple #[.agg #[.slice ar V.2.length cr],.int .i64 0])/\aU w' w.heap.size ar V.2.length cr R V.2))
theorem rX (P M : Int) (am : OA) (mn cm : Nat) (mod : Lz) (N : Int) (a : OA) (n c : Nat) (L : Ll) (mm W : Int) (ax : OA) (nx cx : Nat) (ts : Ll) (w : World)
  (hmod : Ints w am mn mod) (hi : bZ w a n L) (hts : bZ w ax nx ts) :
  Calls Tryz.prog 127 #[.agg #[.int .i64 P,.int .i64 M,.slice am mn cm,.int .i64 N,.slice a n c],.int .i64 mm,.int .i64 W,.agg #[.slice ax nx cx]] w λe w'=>e = .returned (.int .i64 (n7 P M mod N L mm W ts))/\Below w.heap.size w w':=by
 go_enter Tryz.func127,Tryz.ntmps127
 go_wp2_with fail
 obtain ⟨U,hU⟩ : ∃U : World,U=(w.alloc (.cells #[.int .i64 P,.int .i64 M,.slice am mn cm,.int .i64 N,.slice a n c] 27)).alloc (.cells #[.slice ax nx cx] 47):=⟨_,rfl⟩
 rw [<- hU]
 have hbU : Below w.heap.size w U:=by rw [hU];exact dH _ _ _
 have x0 : aV U (w.heap.size+1) [.slice ax nx cx]:=by rw [hU];exact aV.new _ _ _ (by simp)
 have HX:=Z5 x0
 clear hU x0
 refine (uB P M am mn cm mod N a n c L mm W U (hmod.ah hbU) (hi.ah hbU)).mono ?_
 rintro e w1 ⟨hb1,⟨hE,rfl⟩ | ⟨hE,pb,rfl,hCl⟩⟩
 ·have HE : Hid (n7 P M mod N L mm W ts=ij P M mod N L mm W):=if_neg hE
  have hE1 : (ij P M mod N L mm W == 0)=false:=by simpa using hE
  have hE2 : (ij P M mod N L mm W != 0)=true:=by simpa using hE
  have hbF:=Below.next hbU hb1
  clear hE
  go_wp2_with fail
  go_ret
  exact ⟨by rw [HE.out];rfl,hbF⟩
 ·have HE : Hid (n7 P M mod N L mm W ts=Cc (aa P M.toNat mod).ops L N.toNat ⟨mm.toNat,W.toNat,false,[]⟩ ts):=if_pos hE
  have x1:=HX.out.ah hb1
  have c0:=x1.cell 0 rfl
  obtain ⟨b,w2,rfl,hb2,hPE,hb3,hB⟩:=hCl
  have HPr:=Z5 (ye w2.heap.size P M am mn cm c 0 ax nx cx ts hPE ((hts.ah hbU).ah hb2) (Nat.le_refl _) hb3 hB)
  have hbw2:=Below.next hbU hb2
  clear x1 hB hPE hE
  go_wp2_with fail
  refine HPr.out.mono ?_
  rintro e w3 ⟨rfl,hb4⟩
  have hbF:=Below.next hbw2 hb4
  go_wp2_with fail
  go_ret
  exact ⟨by rw [HE.out];rfl,hbF⟩
theorem rY (P M : Int) (am : OA) (mn cm : Nat) (mod : Lz) (N : Int) (a : OA) (n c : Nat) (L : Ll) (mm W : Int) (w : World)
  (hmod : Ints w am mn mod) (hi : bZ w a n L) :
  Calls Tryz.prog 121 #[.agg #[.int .i64 P,.int .i64 M,.slice am mn cm,.int .i64 N,.slice a n c],.int .i64 mm,.int .i64 W] w (qt (kF P M mod N L mm W) w):=by
 obtain ⟨V,hV⟩ : ∃V,kF P M mod N L mm W=V:=⟨_,rfl⟩
 rw [hV]
 have HV:=Z5 hV
 clear hV
 go_enter Tryz.func121,Tryz.ntmps121
 go_wp2_with fail
 obtain ⟨U,hU⟩ : ∃U : World,U=(w.alloc (.cells #[.int .i64 P,.int .i64 M,.slice am mn cm,.int .i64 N,.slice a n c] 27)).alloc (.cells #[.slice none 0 0] 47):=⟨_,rfl⟩
 rw [<- hU]
 have hbU : Below w.heap.size w U:=by rw [hU];exact dH _ _ _
 have hsU : U.heap.size=w.heap.size+2:=by rw [hU];simp
 have x0 : aV U (w.heap.size+1) [.slice none 0 0]:=by rw [hU];exact aV.new _ _ _ (by simp)
 have HX:=Z5 x0
 clear hU x0
 refine (uB P M am mn cm mod N a n c L mm W U (hmod.ah hbU) (hi.ah hbU)).mono ?_
 rintro e w1 ⟨hb1,⟨hE,rfl⟩ | ⟨hE,pb,rfl,hCl⟩⟩
 ·have HE : Hid (V=(ij P M mod N L mm W,[])):=by show _=_;rw [<- HV.out];exact if_neg hE
  have hE1 : (ij P M mod N L mm W == 0)=false:=by simpa using hE
  have hE2 : (ij P M mod N L mm W != 0)=true:=by simpa using hE
  have Hne:=Z5 hE
  have x1:=HX.out.ah hb1
  have z0:=x1.cell 0 rfl
  have f0:=x1.frozen 0
  have HF:=Z5 (λv : Value=>(Below.next hbU hb1).setCell (p:=⟨w.heap.size+1,0,none⟩) (by simp) v)
  clear hE x1
  generalize ij P M mod N L mm W=er at *
  go_wp2_with fail
  have z1 : (w1.setCell ⟨w.heap.size+1,0,none⟩ (.slice none 0 0)).cell? ⟨w.heap.size+1,0,none⟩=some (.slice none 0 0):=World.cell?_setCell_same _ _ _ z0
  exact bodyPost_ret (v:=.tuple #[.agg #[.slice none 0 0],.int .i64 er]) (by simp [results,Tryz.results121,go_sem,z0,z1]) rfl ⟨HF.out _,.inl ⟨by rw [HE.out];exact Hne.out,by rw [HE.out]⟩⟩
 ·have HE : Hid (vj (aa P M.toNat mod).ops L N.toNat ⟨mm.toNat,W.toNat,false,[]⟩=V):=by show _=_;rw [<- HV.out];exact (if_pos hE).symm
  have x1:=HX.out.ah hb1
  obtain ⟨b,w2,rfl,hb2,hPE,hb3,hB⟩:=hCl
  have HPr:=AT w2.heap.size P M am mn cm c 0 hPE (Nat.le_refl _) hb3 hB
  rw [HE.out] at HPr
  have HTr:=Z5 HPr
  have hbw2:=Below.next hbU hb2
  have x2:=HX.out.ah hb2
  have hs2 : w.heap.size+1<w2.heap.size:=x2.1
  clear x1 hB hPE hE HPr
  go_wp2_with fail
  refine HTr.out.mono ?_
  rintro e w3 ⟨hb4,⟨hv,rfl⟩ | ⟨hv,ar,cr,R,rfl,hO⟩⟩
  ·have x3:=x2.ah hb4
   have z0:=x3.cell 0 rfl
   have f0:=x3.frozen 0
   have HF:=Z5 (λv : Value=>(Below.next hbw2 hb4).setCell (p:=⟨w.heap.size+1,0,none⟩) (by simp) v)
   have Hne:=Z5 hv
   obtain ⟨ve,vt⟩:=V
   dsimp only at Hne ⊢
   clear x3 hv
   go_wp2_with fail
   have z1 : (w3.setCell ⟨w.heap.size+1,0,none⟩ (.slice none 0 0)).cell? ⟨w.heap.size+1,0,none⟩=some (.slice none 0 0):=World.cell?_setCell_same _ _ _ z0
   exact bodyPost_ret (v:=.tuple #[.agg #[.slice none 0 0],.int .i64 ve]) (by simp [results,Tryz.results121,go_sem,z0,z1]) rfl ⟨HF.out _,.inl ⟨Hne.out,rfl⟩⟩
  ·have x3:=x2.ah hb4
   have z0:=x3.cell 0 rfl
   have f0:=x3.frozen 0
   have hF : ∀v : Value,Below w.heap.size w (w3.setCell ⟨w.heap.size+1,0,none⟩ v)/\aU (w3.setCell ⟨w.heap.size+1,0,none⟩ v) w.heap.size ar V.2.length cr R V.2:=λv=>by
    refine ⟨(Below.next hbw2 hb4).setCell (by simp) v,?_⟩
    refine (aU.mono hO hbw2.size).bz λx hx=>Below.heap_setCell _ _ _ _ λe=>?_
    have h1:=(hO.lt x hx).1
    have e' : x=w.heap.size+1:=e
    omega
   have HF:=Z5 hF
   obtain ⟨ve,vt⟩:=V
   dsimp only at hv HF ⊢
   subst hv
   clear x3 hO hF
   go_wp2_with fail
   have z1 : (w3.setCell ⟨w.heap.size+1,0,none⟩ (.slice ar vt.length cr)).cell? ⟨w.heap.size+1,0,none⟩=some (.slice ar vt.length cr):=World.cell?_setCell_same _ _ _ z0
   exact bodyPost_ret (v:=.tuple #[.agg #[.slice ar vt.length cr],.int .i64 0]) (by simp [results,Tryz.results121,go_sem,z0,z1]) rfl ⟨(HF.out _).1,.inr ⟨rfl,ar,cr,R,rfl,(HF.out _).2⟩⟩
theorem FH {P M : Int} {mod : Lz} {N : Int} {L : Ll} {d z : Int} (hz : 1<=N->N<=64->z=ry N d) (mm : Int) : ij P M mod N L mm z=ij P M mod N L mm (ry N d):=by
 unfold ij
 by_cases hE : aL P M mod N L=0
 ·obtain ⟨_,h1,h2,_⟩:=bh hE
  rw [hz h1 h2]
 ·rw [if_neg hE,if_neg hE]
theorem pF {P M : Int} {mod : Lz} {N : Int} {L : Ll} {mm z : Int} (h : ij P M mod N L mm z=0) : aL P M mod N L=0:=by
 unfold ij at h
 by_cases hE : aL P M mod N L=0
 ·exact hE
 ·rw [if_neg hE] at h;exact h
theorem I0 {P M : Int} {mod : Lz} {N : Int} {L : Ll} {d z : Int} (hz : 1<=N->N<=64->z=ry N d) (mm : Int) (ts : Ll) : n7 P M mod N L mm z ts=n7 P M mod N L mm (ry N d) ts:=by
 by_cases hE : aL P M mod N L=0
 ·obtain ⟨_,h1,h2,_⟩:=bh hE
  rw [hz h1 h2]
 ·unfold n7
  rw [FH hz,if_neg (λh=>hE (pF h)),if_neg (λh=>hE (pF h))]
theorem JC {P M : Int} {mod : Lz} {N : Int} {L : Ll} {d z : Int} (hz : 1<=N->N<=64->z=ry N d) (mm : Int) : kF P M mod N L mm z=kF P M mod N L mm (ry N d):=by
 by_cases hE : aL P M mod N L=0
 ·obtain ⟨_,h1,h2,_⟩:=bh hE
  rw [hz h1 h2]
 ·unfold kF
  rw [FH hz,if_neg (λh=>hE (pF h)),if_neg (λh=>hE (pF h))]
theorem nW (P M : Int) (am : OA) (mn cm : Nat) (mod : Lz) (N : Int) (a : OA) (n c : Nat) (L : Ll) (d : Int) (ax : OA) (nx cx : Nat) (ts : Ll) (w : World)
  (hmod : Ints w am mn mod) (hi : bZ w a n L) (hts : bZ w ax nx ts) :
  Calls Tryz.prog 62 #[.agg #[.int .i64 P,.int .i64 M,.slice am mn cm,.int .i64 N,.slice a n c],.int .i64 d,.agg #[.slice ax nx cx]] w λe w'=>e = .returned (.int .i64 (n7 P M mod N L n (ry N d) ts))/\Below w.heap.size w w':=by
 obtain ⟨V,hV⟩ : ∃V,n7 P M mod N L n (ry N d) ts=V:=⟨_,rfl⟩
 rw [hV]
 have HCk : Hid (∀(W : World) (z : Int),Below w.heap.size w W->(1<=N->N<=64->z=ry N d)->Calls Tryz.prog 127 #[.agg #[.int .i64 P,.int .i64 M,.slice am mn cm,.int .i64 N,.slice a n c],.int .i64 n,.int .i64 z,.agg #[.slice ax nx cx]] W
   λe w'=>e = .returned (.int .i64 V)/\Below W.heap.size W w'):=λW z hW hz=>by
  have h1:=rX P M am mn cm mod N a n c L n z ax nx cx ts W (hmod.ah hW) (hi.ah hW) (hts.ah hW)
  rw [I0 hz,hV] at h1
  exact h1
 clear hmod hi hts hV
 go_enter Tryz.func62,Tryz.ntmps62
 go_upto_region 1 with fail
 obtain ⟨U,hU⟩ : ∃U : World,U=(w.alloc (.cells #[.int .i64 P,.int .i64 M,.slice am mn cm,.int .i64 N,.slice a n c] 27)).alloc (.cells #[.slice ax nx cx] 47):=⟨_,rfl⟩
 rw [<- hU]
 have hbU : Below w.heap.size w U:=by rw [hU];exact dH _ _ _
 have x0 : aV U w.heap.size [.int .i64 P,.int .i64 M,.slice am mn cm,.int .i64 N,.slice a n c]:=by rw [hU];exact (aV.new _ _ _ rfl).alloc _
 have y0 : aV U (w.heap.size+1) [.slice ax nx cx]:=by rw [hU];exact aV.new _ _ _ (by simp)
 have HS : Hid (∀V,Below U.heap.size U V->V.cell? ⟨w.heap.size,0,none⟩=some (.int .i64 P)/\V.cell? ⟨w.heap.size,1,none⟩=some (.int .i64 M)/\V.cell? ⟨w.heap.size,2,none⟩=some (.slice am mn cm)/\V.cell? ⟨w.heap.size,3,none⟩=some (.int .i64 N)/\V.cell? ⟨w.heap.size,4,none⟩=some (.slice a n c) /\
   V.cell? ⟨w.heap.size+1,0,none⟩=some (.slice ax nx cx)/\Below U.heap.size U V):=λV hV=>by
  have x1:=x0.ah hV
  exact ⟨x1.cell 0 rfl,x1.cell 1 rfl,x1.cell 2 rfl,x1.cell 3 rfl,x1.cell 4 rfl,(y0.ah hV).cell 0 rfl,hV⟩
 have HbU:=Z5 hbU
 clear hU hbU x0 y0
 go_cut [6] (λv wx=>v = .int .i64 V/\Below U.heap.size U wx)
 case first =>
  go_region_held3 (λV=>V.cell? ⟨w.heap.size,0,none⟩=some (.int .i64 P)/\V.cell? ⟨w.heap.size,1,none⟩=some (.int .i64 M)/\V.cell? ⟨w.heap.size,2,none⟩=some (.slice am mn cm)/\V.cell? ⟨w.heap.size,3,none⟩=some (.int .i64 N)/\V.cell? ⟨w.heap.size,4,none⟩=some (.slice a n c) /\
    V.cell? ⟨w.heap.size+1,0,none⟩=some (.slice ax nx cx)/\Below U.heap.size U V)
   ((refine HS.out _ ?_;first | exact hb5w | exact hb3w | exact (Below.refl _ _).drew | assumption | (go_split_ands;assumption)))
   (first
   | (go_at_call 122;((with_reducible refine (pa P M am mn cm N a n c d _).mono ?_);rintro e w3 ⟨⟨z,rfl,hz⟩,hb3⟩;have hb3w : Below U.heap.size U w3:=(by go_split_ands;exact Below.next (by assumption) hb3)))
   | (go_at_call 127;((with_reducible refine (HCk.out _ z (Below.next HbU.out (by go_split_ands;assumption)) hz).mono ?_);rintro e w5 ⟨rfl,hb5⟩;have hb5w : Below U.heap.size U w5:=(by go_split_ands;exact Below.next (by assumption) hb5))))
  all_goals (go_wp2_with fail;go_meet;exact ⟨rfl,hb5w⟩)
 obtain ⟨rfl,hb5w⟩:=hcut
 have hF:=Below.next HbU.out hb5w
 go_wp2_with fail
 go_ret
 exact ⟨rfl,hF⟩
theorem nV (P M : Int) (am : OA) (mn cm : Nat) (mod : Lz) (N : Int) (a : OA) (n c : Nat) (L : Ll) (d : Int) (w : World)
  (hmod : Ints w am mn mod) (hi : bZ w a n L) :
  Calls Tryz.prog 59 #[.agg #[.int .i64 P,.int .i64 M,.slice am mn cm,.int .i64 N,.slice a n c],.int .i64 d] w (qt (kF P M mod N L n (ry N d)) w):=by
 obtain ⟨V,hV⟩ : ∃V,kF P M mod N L n (ry N d)=V:=⟨_,rfl⟩
 rw [hV]
 have HCk : Hid (∀(W : World) (z : Int),Below w.heap.size w W->(1<=N->N<=64->z=ry N d)->Calls Tryz.prog 121 #[.agg #[.int .i64 P,.int .i64 M,.slice am mn cm,.int .i64 N,.slice a n c],.int .i64 n,.int .i64 z] W
   λe w'=>∃av nv cv,e = .returned (.tuple #[.agg #[.slice av nv cv],.int .i64 V.1])/\Below W.heap.size W w'/\((V.1 ≠ 0/\av=none/\nv=0/\cv=0)\/(V.1=0/\nv=V.2.length/\∃R,aU w' W.heap.size av V.2.length cv R V.2))):=λW z hW hz=>by
  have h1:=rY P M am mn cm mod N a n c L n z W (hmod.ah hW) (hi.ah hW)
  rw [JC hz,hV] at h1
  refine h1.mono ?_
  rintro e w' ⟨hb,⟨h2,rfl⟩ | ⟨h2,ar,cr,R,rfl,hO⟩⟩
  ·exact ⟨none,0,0,rfl,hb,.inl ⟨h2,rfl,rfl,rfl⟩⟩
  ·exact ⟨ar,_,cr,by rw [h2],hb,.inr ⟨h2,rfl,R,hO⟩⟩
 clear hmod hi hV
 go_enter Tryz.func59,Tryz.ntmps59
 go_upto_region 1 with fail
 obtain ⟨U,hU⟩ : ∃U : World,U=(w.alloc (.cells #[.int .i64 P,.int .i64 M,.slice am mn cm,.int .i64 N,.slice a n c] 27)).alloc (.cells #[.slice none 0 0] 47):=⟨_,rfl⟩
 rw [<- hU]
 have hbU : Below w.heap.size w U:=by rw [hU];exact dH _ _ _
 have x0 : aV U w.heap.size [.int .i64 P,.int .i64 M,.slice am mn cm,.int .i64 N,.slice a n c]:=by rw [hU];exact (aV.new _ _ _ rfl).alloc _
 have y0 : aV U (w.heap.size+1) [.slice none 0 0]:=by rw [hU];exact aV.new _ _ _ (by simp)
 have HS : Hid (∀V,Below U.heap.size U V->V.cell? ⟨w.heap.size,0,none⟩=some (.int .i64 P)/\V.cell? ⟨w.heap.size,1,none⟩=some (.int .i64 M)/\V.cell? ⟨w.heap.size,2,none⟩=some (.slice am mn cm)/\V.cell? ⟨w.heap.size,3,none⟩=some (.int .i64 N)/\V.cell? ⟨w.heap.size,4,none⟩=some (.slice a n c) /\
   V.cell? ⟨w.heap.size+1,0,none⟩=some (.slice none 0 0)/\V.frozen? ⟨w.heap.size+1,0,none⟩=false):=λV hV=>by
  have x1:=x0.ah hV
  exact ⟨x1.cell 0 rfl,x1.cell 1 rfl,x1.cell 2 rfl,x1.cell 3 rfl,x1.cell 4 rfl,(y0.ah hV).cell 0 rfl,(y0.ah hV).frozen 0⟩
 have HbU:=Z5 hbU
 have hy1:=y0.1
 obtain ⟨c0,c1,c2,c3,c4,c5,c6⟩:=HS.out U (Below.refl _ _)
 clear hU hbU x0 y0
 go_region_law ((first
  | (go_simp;go_at_call 122;((with_reducible refine (pa P M am mn cm N a n c d _).mono ?_);rintro e w3 ⟨⟨z,rfl,hz⟩,hb3⟩;have hb3w : Below U.heap.size U w3:=Below.next (Below.refl _ _).drew hb3;obtain ⟨d0,d1,d2,d3,d4,d5,d6⟩:=HS.out w3 hb3w))
  | (go_simp;go_at_call 121;((with_reducible refine (HCk.out _ z (Below.next HbU.out hb3w) hz).mono ?_);rintro e w5 ⟨av,nv,cv,rfl,hb5,hV5⟩;have hb5w : Below U.heap.size U w5:=Below.next hb3w hb5;obtain ⟨e0,e1,e2,e3,e4,e5,e6⟩:=HS.out w5 hb5w))))
 all_goals (
  have hF : Below w.heap.size w (w5.setCell ⟨w.heap.size+1,0,none⟩ (.slice av nv cv)):=(Below.next HbU.out hb5w).setCell (by simp) _
  have HV5 : Hid (qt V w (.returned (.tuple #[.agg #[.slice av nv cv],.int .i64 V.1])) (w5.setCell ⟨w.heap.size+1,0,none⟩ (.slice av nv cv))):=by
   refine ⟨hF,?_⟩
   rcases hV5 with ⟨h1,rfl,rfl,rfl⟩ | ⟨h1,rfl,R,hO⟩
   ·exact .inl ⟨h1,rfl⟩
   ·refine .inr ⟨h1,av,cv,R,by rw [h1],?_⟩
    have hs3:=hb3w.size
    have hsU:=HbU.out.size
    refine (aU.mono hO (Nat.le_trans hsU hs3)).bz λx hx=>Below.heap_setCell _ _ _ _ λe=>?_
    have h2:=(hO.lt x hx).1
    have e' : x=w.heap.size+1:=e
    omega
  clear hV5 hF c0 c1 c2 c3 c4 c5 c6 d0 d1 d2 d3 d4 d5 d6
  go_wp2_with fail
  have z1 : (w5.setCell ⟨w.heap.size+1,0,none⟩ (.slice av nv cv)).cell? ⟨w.heap.size+1,0,none⟩=some (.slice av nv cv):=World.cell?_setCell_same _ _ _ e5
  exact bodyPost_ret (v:=.tuple #[.agg #[.slice av nv cv],.int .i64 V.1]) (by simp [results,Tryz.results59,go_sem,e5,z1]) rfl HV5.out)
end Go.Proofs.YtcfmiocdlcapoaaGreat
