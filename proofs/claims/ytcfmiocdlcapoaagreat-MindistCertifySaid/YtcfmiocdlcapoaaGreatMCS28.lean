import Derived.Test.YtcfmiocdlcapoaaGreatMCS25
import Derived.Test.YtcfmiocdlcapoaaGreatMCS24
import Derived.Test.YtcfmiocdlcapoaaGreatMCS27
namespace Go.Proofs.YtcfmiocdlcapoaaGreat
set_option linter.all false
set_option maxRecDepth 100000
set_option maxHeartbeats 8000000
open Go.RowKit Go.Proofs.Tryz
theorem uU {w w0 : World} {b : Nat} {G : cW} {a : OA} {n : Nat} {L : Ll} {m : Nat} {ay : OA} {ny : Nat} {C : jg} (pb : Nat) (P M : Int) (am : OA) (mn cm c cy : Nat)
  (ax : OA) (nx cx : Nat) (ts : Ll) (E : Ab w0 b G a n L m ay ny C) (hts : ch w0 ax nx ts) (hpb : w0.heap.size<=pb) (hb : NS w0 w) (hB : aZ w pb (mz b P M am mn cm m a n c ay ny cy C (.slice none 0 0) 0)) :
  Calls prog 188 #[.pointer (some ⟨pb,0,none⟩),.agg #[.slice ax nx cx]] w λe w'=>e = .returned (.int .i64 (sV G.ops L m C ts))/\NS w0 w':=by
 have Htl:=Z5 hts.len;obtain ⟨PR,hPR⟩ : ∃PR,sV G.ops L m C ts=PR:=⟨_,rfl⟩
 rw [hPR];have HPR:=Z5 hPR;clear hPR;have hb1 : NS w (w.alloc (.cells #[.slice ax nx cx] 47)):=aw _ _;have hBa:=hB.aa hb1;have f10:=hBa.frozen 10;have q10:=hBa.cell 10 rfl;have hsb : pb<w.heap.size:=hB.1;go_enter func188,ntmps188;go_wp2_with fail;obtain ⟨Z,hZ⟩ : ∃Z : World,Z=(w.setCell ⟨pb,10,none⟩ (.slice ax nx cx)).alloc (.cells #[.slice ax nx cx] 47):=⟨_,rfl⟩
 rw [<- hZ];have hBZ : aZ Z pb (mz b P M am mn cm m a n c ay ny cy C (.slice ax nx cx) 0):=by rw [hZ];exact (hB.setCell 10 (.slice ax nx cx)).alloc _
 have hbZ : NS w0 Z:=by rw [hZ];exact Nh (hb.setCell hpb _) (aw _ _)
 clear hZ hBa f10 q10 hB;refine (o6 pb P M am mn cm c cy ax nx cx ts E hts hpb C.W Z 0 none 0 0 [] none 0 0 [] (by omega) (by omega) (by omega) hbZ hBZ (Nr _ _) (Nr _ _) (λh=>by omega) (λh=>by omega) (by simp) (λx hx=>by simp at hx)).mono ?_;rintro e w5 ⟨k',g1,g2,g3,he,g5⟩;have hb5 : NS w0 w5:=hbZ.trans (g3.below (λx hx=>by rw [hx];exact hpb) hbZ.size);rw [Kx] at g5 he;have c10:=g2.cell 10 rfl;have c11:=g2.cell 11 rfl;have hP2 : PR=match jh G.ops L m C C.W [] [] ts with | some []=>0 | _=>13:=by rw [<- HPR.out];rfl
 cases hf : jh G.ops L m C C.W [] [] ts with
 | none =>
  rw [hf] at hP2 he
  have HP:=Z5 hP2
  have he' : e = .returned (.int .i64 13):=he
  subst he'
  clear hf hP2 g5 he
  have hd : ((13 : Int) == 0)=false:=rfl
  go_wp2_with fail
  go_quiet (fail)
  go_wp2_with fail
  go_ret
  exact ⟨by rw [HP.out];rfl,hb5.trans (Nb (Nq ⟨_,rfl⟩) hb5.size)⟩
 | some r =>
  rw [hf] at hP2 g5 he
  have he' : e = .returned (.int .i64 0):=he
  subst he'
  clear he
  have g6 : ts.drop k'=r:=g5 rfl
  have hlen : r.length=nx - k':=by rw [<- g6,Kg,Htl.out]
  rw [Htl.out] at g1
  by_cases hk : k'<nx
  ·have HP : Hid (PR=13):=by
    show _=_;rw [hP2];cases r with
    | nil=>simp at hlen;omega
    | cons x r=>rfl
   have hd : decide ((k' : Int)<(nx : Int))=true:=by simp;omega
   clear hf hP2 g5 g6 hlen
   go_wp2_with fail
   go_quiet (fail)
   go_wp2_with fail
   go_ret
   exact ⟨by rw [HP.out];rfl,hb5.trans (Nb (Nq ⟨_,rfl⟩) hb5.size)⟩
  ·have HP : Hid (PR=0):=by
    show _=_;rw [hP2];cases r with
    | nil=>rfl
    | cons x r=>simp at hlen;omega
   have hd : decide ((k' : Int)<(nx : Int))=false:=by simp;omega
   clear hf hP2 g5 g6 hlen
   go_wp2_with fail
   go_quiet (fail)
   go_wp2_with fail
   go_ret
   exact ⟨by rw [HP.out];rfl,hb5.trans (Nb (Nq ⟨_,rfl⟩) hb5.size)⟩
def zY (w0 : World) (V : Int × Ll) (e : Ending) (w' : World) : Prop :=
 NS w0 w'/\((V.1 ≠ 0/\e = .returned (.tuple #[.agg #[.slice none 0 0],.int .i64 V.1])) \/
  (V.1=0/\∃ar cr R,e = .returned (.tuple #[.agg #[.slice ar V.2.length cr],.int .i64 0])/\aP w' w0.heap.size ar V.2.length cr R V.2))
theorem yT {w w0 : World} {b : Nat} {G : cW} {a : OA} {n : Nat} {L : Ll} {m : Nat} {ay : OA} {ny : Nat} {C : jg} (pb : Nat) (P M : Int) (am : OA) (mn cm c cy : Nat)
  (E : Ab w0 b G a n L m ay ny C) (hpb : w0.heap.size<=pb) (hb : NS w0 w) (hB : aZ w pb (mz b P M am mn cm m a n c ay ny cy C (.slice none 0 0) 0)) :
  Calls prog 185 #[.pointer (some ⟨pb,0,none⟩)] w (zY w0 (qJ G.ops L m C)):=by
 obtain ⟨V,hV⟩ : ∃V,qJ G.ops L m C=V:=⟨_,rfl⟩
 rw [hV];have HV:=Z5 hV;clear hV;have hsb : pb<w.heap.size:=hB.1;go_enter func185,ntmps185;go_wp2_with fail;obtain ⟨U,hU⟩ : ∃U : World,U=w.alloc (.cells #[.slice none 0 0] 47):=⟨_,rfl⟩
 rw [<- hU];have hbU : NS w U:=by rw [hU];exact aw _ _
 have hsU : U.heap.size=w.heap.size+1:=by rw [hU];simp
 have x0 : aZ U w.heap.size [.slice none 0 0]:=by rw [hU];exact Nj _ _ _ rfl
 have hBU:=hB.aa hbU;have hb0U : NS w0 U:=hb.trans (hbU.mono hb.size);clear hU hB;have hM0 : kc U w0.heap.size pb b P M am mn cm m a n c ay ny cy C ⟨none,0,[],[]⟩:=⟨hBU,NB U _,λh=>by
  rcases h with ⟨h1,_⟩ | ⟨i,hi,_⟩
  ·exact h1 rfl
  ·simp at hi,by simp⟩
 refine (oQ pb P M am mn cm c cy E hpb C.W U ⟨none,0,[],[]⟩ none 0 0 [] none 0 0 [] (by omega) (by omega) hb0U hM0 (Nr _ _) (Nr _ _) (λh=>by omega) (λh=>by omega) (by simp) (λx hx=>by simp at hx)).mono ?_;rintro e w5 ⟨σ',g1,g2,g3,g4,rfl,g6⟩;have hVe : gn G.ops L m C C.W [] [] []=V:=HV.out;rw [hVe] at g6 ⊢;have hgn : ¬ (⟨none,0,[],[]⟩ : lR).J pb w.heap.size:=λh=>by
  rcases h with h | ⟨h1,_⟩ | ⟨i,hi,_⟩
  ·omega
  ·exact h1 rfl
  ·simp at hi
 have hb5 : NS w0 w5:=hb0U.trans (g4.below (λx hx=>by
  rcases hx with h | ⟨h1,_⟩ | ⟨i,hi,_⟩
  ·rw [h];exact hpb
  ·exact absurd rfl h1
  ·simp at hi) hb0U.size)
 have x5:=x0.bQ g4 hgn;have z0:=x5.cell 0 rfl;have f0:=x5.frozen 0;have hgn5 : ¬ bS σ'.ar σ'.R w.heap.size:=λh=>g4.not x0.1 hgn (.inr h);have hszw:=hb.size;obtain ⟨ve,vt⟩:=V;dsimp only at g6 ⊢;by_cases hve : ve=0
 ·subst hve;have ht : σ'.T=vt:=g6 rfl;have hF : ∀v : Value,NS w0 (w5.setCell ⟨w.heap.size,0,none⟩ v)/\aP (w5.setCell ⟨w.heap.size,0,none⟩ v) w0.heap.size σ'.ar vt.length σ'.cr σ'.R vt:=λv=>by refine ⟨hb5.setCell hszw _,?_⟩;rw [<- ht];exact g1.om.bj λx hx=>Jr _ _ _ _ λe=>hgn5 (by have e' : x=w.heap.size:=e;rw [<- e'];exact hx)
  have HF:=Z5 hF;have p10:=g1.box.cell 10 rfl;rw [ht] at p10;clear g1 g2 g3 g4 g6 hF ht;go_wp2_with fail;have z1 : (w5.setCell ⟨w.heap.size,0,none⟩ (.slice σ'.ar vt.length σ'.cr)).cell? ⟨w.heap.size,0,none⟩=some (.slice σ'.ar vt.length σ'.cr):=Jk _ _ _ z0;exact bodyPost_ret (v:=.tuple #[.agg #[.slice σ'.ar vt.length σ'.cr],.int .i64 0]) (by simp [results,results185,go_sem,z0,z1]) rfl ⟨(HF.out _).1,.inr ⟨rfl,σ'.ar,σ'.cr,σ'.R,rfl,(HF.out _).2⟩⟩
 ·have hve' : (ve != 0)=true:=by simpa using hve
  have Hne:=Z5 hve;have HF:=Z5 (λv : Value=>hb5.setCell (p:=⟨w.heap.size,0,none⟩) hszw v);clear g1 g2 g3 g4 g6 hve;go_wp2_with fail;have z1 : (w5.setCell ⟨w.heap.size,0,none⟩ (.slice none 0 0)).cell? ⟨w.heap.size,0,none⟩=some (.slice none 0 0):=Jk _ _ _ z0;exact bodyPost_ret (v:=.tuple #[.agg #[.slice none 0 0],.int .i64 ve]) (by simp [results,results185,go_sem,z0,z1]) rfl ⟨HF.out _,.inl ⟨Hne.out,rfl⟩⟩
def ky (P M : Int) (mod : Lz) (N : Int) (L : Ll) (mm W : Int) (ts : Ll) : Int :=
 if dB P M mod N L mm W=0 then sV (ah P M.toNat mod).ops L N.toNat ⟨mm.toNat,W.toNat,false,[]⟩ ts else dB P M mod N L mm W
def dI (P M : Int) (mod : Lz) (N : Int) (L : Ll) (mm W : Int) : Int × Ll :=
 if dB P M mod N L mm W=0 then qJ (ah P M.toNat mod).ops L N.toNat ⟨mm.toNat,W.toNat,false,[]⟩ else (dB P M mod N L mm W,[])
def fZ (V : Int × Ll) (w : World) (e : Ending) (w' : World) : Prop :=
 NS w w'/\((V.1 ≠ 0/\e = .returned (.tuple #[.agg #[.slice none 0 0],.int .i64 V.1])) \/
  (V.1=0/\∃ar cr R,e = .returned (.tuple #[.agg #[.slice ar V.2.length cr],.int .i64 0])/\aP w' w.heap.size ar V.2.length cr R V.2))
theorem pE (P M : Int) (am : OA) (mn cm : Nat) (mod : Lz) (N : Int) (a : OA) (n c : Nat) (L : Ll) (mm W : Int) (ax : OA) (nx cx : Nat) (ts : Ll) (w : World)
  (hmod : Ints w am mn mod) (hi : ch w a n L) (hts : ch w ax nx ts) :
  Calls prog 127 #[.agg #[.int .i64 P,.int .i64 M,.slice am mn cm,.int .i64 N,.slice a n c],.int .i64 mm,.int .i64 W,.agg #[.slice ax nx cx]] w λe w'=>e = .returned (.int .i64 (ky P M mod N L mm W ts))/\NS w w':=by
 go_enter func127,ntmps127;go_wp2_with fail;obtain ⟨U,hU⟩ : ∃U : World,U=(w.alloc (.cells #[.int .i64 P,.int .i64 M,.slice am mn cm,.int .i64 N,.slice a n c] 27)).alloc (.cells #[.slice ax nx cx] 47):=⟨_,rfl⟩
 rw [<- hU];have hbU : NS w U:=by rw [hU];exact dA _ _ _
 have x0 : aZ U (w.heap.size+1) [.slice ax nx cx]:=by rw [hU];exact Nj _ _ _ (by simp)
 have HX:=Z5 x0;clear hU x0;refine (pW P M am mn cm mod N a n c L mm W U (hmod.aa hbU) (hi.aa hbU)).mono ?_;rintro e w1 ⟨hb1,⟨hE,rfl⟩ | ⟨hE,pb,rfl,hCl⟩⟩
 ·have HE : Hid (ky P M mod N L mm W ts=dB P M mod N L mm W):=I5 hE;have hE1 : (dB P M mod N L mm W == 0)=false:=by simpa using hE
  have hE2 : (dB P M mod N L mm W != 0)=true:=by simpa using hE
  have hbF:=Nh hbU hb1;clear hE;go_wp2_with fail;go_ret;exact ⟨by rw [HE.out];rfl,hbF⟩
 ·have HE : Hid (ky P M mod N L mm W ts=sV (ah P M.toNat mod).ops L N.toNat ⟨mm.toNat,W.toNat,false,[]⟩ ts):=I6 hE;have x1:=HX.out.aa hb1;have c0:=x1.cell 0 rfl;obtain ⟨b,w2,rfl,hb2,hPE,hb3,hB⟩:=hCl;have HPr:=Z5 (uU w2.heap.size P M am mn cm c 0 ax nx cx ts hPE ((hts.aa hbU).aa hb2) (IZ _) hb3 hB);have hbw2:=Nh hbU hb2;clear x1 hB hPE hE;go_wp2_with fail;refine HPr.out.mono ?_;rintro e w3 ⟨rfl,hb4⟩;have hbF:=Nh hbw2 hb4;go_wp2_with fail;go_ret;exact ⟨by rw [HE.out];rfl,hbF⟩
theorem pB (P M : Int) (am : OA) (mn cm : Nat) (mod : Lz) (N : Int) (a : OA) (n c : Nat) (L : Ll) (mm W : Int) (w : World)
  (hmod : Ints w am mn mod) (hi : ch w a n L) :
  Calls prog 121 #[.agg #[.int .i64 P,.int .i64 M,.slice am mn cm,.int .i64 N,.slice a n c],.int .i64 mm,.int .i64 W] w (fZ (dI P M mod N L mm W) w):=by
 obtain ⟨V,hV⟩ : ∃V,dI P M mod N L mm W=V:=⟨_,rfl⟩
 rw [hV];have HV:=Z5 hV;clear hV;go_enter func121,ntmps121;go_wp2_with fail;obtain ⟨U,hU⟩ : ∃U : World,U=(w.alloc (.cells #[.int .i64 P,.int .i64 M,.slice am mn cm,.int .i64 N,.slice a n c] 27)).alloc (.cells #[.slice none 0 0] 47):=⟨_,rfl⟩
 rw [<- hU];have hbU : NS w U:=by rw [hU];exact dA _ _ _
 have hsU : U.heap.size=w.heap.size+2:=by rw [hU];simp
 have x0 : aZ U (w.heap.size+1) [.slice none 0 0]:=by rw [hU];exact Nj _ _ _ (by simp)
 have HX:=Z5 x0;clear hU x0;refine (pW P M am mn cm mod N a n c L mm W U (hmod.aa hbU) (hi.aa hbU)).mono ?_;rintro e w1 ⟨hb1,⟨hE,rfl⟩ | ⟨hE,pb,rfl,hCl⟩⟩
 ·have HE : Hid (V=(dB P M mod N L mm W,[])):=by show _=_;rw [<- HV.out];exact I5 hE
  have hE1 : (dB P M mod N L mm W == 0)=false:=by simpa using hE
  have hE2 : (dB P M mod N L mm W != 0)=true:=by simpa using hE
  have Hne:=Z5 hE;have x1:=HX.out.aa hb1;have z0:=x1.cell 0 rfl;have f0:=x1.frozen 0;have HF:=Z5 (λv : Value=>(Nh hbU hb1).setCell (p:=⟨w.heap.size+1,0,none⟩) (by simp) v);clear hE x1;generalize dB P M mod N L mm W=er at *;go_wp2_with fail;have z1 : (w1.setCell ⟨w.heap.size+1,0,none⟩ (.slice none 0 0)).cell? ⟨w.heap.size+1,0,none⟩=some (.slice none 0 0):=Jk _ _ _ z0;exact bodyPost_ret (v:=.tuple #[.agg #[.slice none 0 0],.int .i64 er]) (by simp [results,results121,go_sem,z0,z1]) rfl ⟨HF.out _,.inl ⟨by rw [HE.out];exact Hne.out,by rw [HE.out]⟩⟩
 ·have HE : Hid (qJ (ah P M.toNat mod).ops L N.toNat ⟨mm.toNat,W.toNat,false,[]⟩=V):=by show _=_;rw [<- HV.out];exact (I6 hE).symm
  have x1:=HX.out.aa hb1;obtain ⟨b,w2,rfl,hb2,hPE,hb3,hB⟩:=hCl;have HPr:=yT w2.heap.size P M am mn cm c 0 hPE (IZ _) hb3 hB;rw [HE.out] at HPr;have HTr:=Z5 HPr;have hbw2:=Nh hbU hb2;have x2:=HX.out.aa hb2;have hs2 : w.heap.size+1<w2.heap.size:=x2.1;clear x1 hB hPE hE HPr;go_wp2_with fail;refine HTr.out.mono ?_;rintro e w3 ⟨hb4,⟨hv,rfl⟩ | ⟨hv,ar,cr,R,rfl,hO⟩⟩
  ·have x3:=x2.aa hb4;have z0:=x3.cell 0 rfl;have f0:=x3.frozen 0;have HF:=Z5 (λv : Value=>(Nh hbw2 hb4).setCell (p:=⟨w.heap.size+1,0,none⟩) (by simp) v);have Hne:=Z5 hv;obtain ⟨ve,vt⟩:=V;dsimp only at Hne ⊢;clear x3 hv;go_wp2_with fail;have z1 : (w3.setCell ⟨w.heap.size+1,0,none⟩ (.slice none 0 0)).cell? ⟨w.heap.size+1,0,none⟩=some (.slice none 0 0):=Jk _ _ _ z0;exact bodyPost_ret (v:=.tuple #[.agg #[.slice none 0 0],.int .i64 ve]) (by simp [results,results121,go_sem,z0,z1]) rfl ⟨HF.out _,.inl ⟨Hne.out,rfl⟩⟩
  ·have x3:=x2.aa hb4;have z0:=x3.cell 0 rfl;have f0:=x3.frozen 0;have hF : ∀v : Value,NS w (w3.setCell ⟨w.heap.size+1,0,none⟩ v)/\aP (w3.setCell ⟨w.heap.size+1,0,none⟩ v) w.heap.size ar V.2.length cr R V.2:=λv=>by refine ⟨(Nh hbw2 hb4).setCell (by simp) v,?_⟩;refine (aP.mono hO hbw2.size).bj λx hx=>Jr _ _ _ _ λe=>?_;have h1:=(hO.lt x hx).1;have e' : x=w.heap.size+1:=e;omega
   have HF:=Z5 hF;obtain ⟨ve,vt⟩:=V;dsimp only at hv HF ⊢;subst hv;clear x3 hO hF;go_wp2_with fail;have z1 : (w3.setCell ⟨w.heap.size+1,0,none⟩ (.slice ar vt.length cr)).cell? ⟨w.heap.size+1,0,none⟩=some (.slice ar vt.length cr):=Jk _ _ _ z0;exact bodyPost_ret (v:=.tuple #[.agg #[.slice ar vt.length cr],.int .i64 0]) (by simp [results,results121,go_sem,z0,z1]) rfl ⟨(HF.out _).1,.inr ⟨rfl,ar,cr,R,rfl,(HF.out _).2⟩⟩
theorem En {P M : Int} {mod : Lz} {N : Int} {L : Ll} {d z : Int} (hz : 1<=N->N<=64->z=jH N d) (mm : Int) : dB P M mod N L mm z=dB P M mod N L mm (jH N d):=by
 unfold dB;by_cases hE : aJ P M mod N L=0
 ·obtain ⟨_,h1,h2,_⟩:=bl hE;rw [hz h1 h2]
 ·rw [I5 hE,I5 hE]
theorem lh {P M : Int} {mod : Lz} {N : Int} {L : Ll} {mm z : Int} (h : dB P M mod N L mm z=0) : aJ P M mod N L=0:=by
 unfold dB at h;by_cases hE : aJ P M mod N L=0
 ·exact hE
 ·rw [I5 hE] at h;exact h
theorem GO {P M : Int} {mod : Lz} {N : Int} {L : Ll} {d z : Int} (hz : 1<=N->N<=64->z=jH N d) (mm : Int) (ts : Ll) : ky P M mod N L mm z ts=ky P M mod N L mm (jH N d) ts:=by
 by_cases hE : aJ P M mod N L=0
 ·obtain ⟨_,h1,h2,_⟩:=bl hE;rw [hz h1 h2]
 ·unfold ky;rw [En hz,I5 (λh=>hE (lh h)),I5 (λh=>hE (lh h))]
theorem GW {P M : Int} {mod : Lz} {N : Int} {L : Ll} {d z : Int} (hz : 1<=N->N<=64->z=jH N d) (mm : Int) : dI P M mod N L mm z=dI P M mod N L mm (jH N d):=by
 by_cases hE : aJ P M mod N L=0
 ·obtain ⟨_,h1,h2,_⟩:=bl hE;rw [hz h1 h2]
 ·unfold dI;rw [En hz,I5 (λh=>hE (lh h)),I5 (λh=>hE (lh h))]
theorem lS (P M : Int) (am : OA) (mn cm : Nat) (mod : Lz) (N : Int) (a : OA) (n c : Nat) (L : Ll) (d : Int) (ax : OA) (nx cx : Nat) (ts : Ll) (w : World)
  (hmod : Ints w am mn mod) (hi : ch w a n L) (hts : ch w ax nx ts) :
  Calls prog 62 #[.agg #[.int .i64 P,.int .i64 M,.slice am mn cm,.int .i64 N,.slice a n c],.int .i64 d,.agg #[.slice ax nx cx]] w λe w'=>e = .returned (.int .i64 (ky P M mod N L n (jH N d) ts))/\NS w w':=by
 obtain ⟨V,hV⟩ : ∃V,ky P M mod N L n (jH N d) ts=V:=⟨_,rfl⟩
 rw [hV];have HCk : Hid (∀(W : World) (z : Int),NS w W->(1<=N->N<=64->z=jH N d)->Calls prog 127 #[.agg #[.int .i64 P,.int .i64 M,.slice am mn cm,.int .i64 N,.slice a n c],.int .i64 n,.int .i64 z,.agg #[.slice ax nx cx]] W
   λe w'=>e = .returned (.int .i64 V)/\NS W w'):=λW z hW hz=>by have h1:=pE P M am mn cm mod N a n c L n z ax nx cx ts W (hmod.aa hW) (hi.aa hW) (hts.aa hW);rw [GO hz,hV] at h1;exact h1
 clear hmod hi hts hV;go_enter func62,ntmps62;go_upto_region 1 with fail;obtain ⟨U,hU⟩ : ∃U : World,U=(w.alloc (.cells #[.int .i64 P,.int .i64 M,.slice am mn cm,.int .i64 N,.slice a n c] 27)).alloc (.cells #[.slice ax nx cx] 47):=⟨_,rfl⟩
 rw [<- hU];have hbU : NS w U:=by rw [hU];exact dA _ _ _
 have x0 : aZ U w.heap.size [.int .i64 P,.int .i64 M,.slice am mn cm,.int .i64 N,.slice a n c]:=by rw [hU];exact (Nj _ _ _ rfl).alloc _
 have y0 : aZ U (w.heap.size+1) [.slice ax nx cx]:=by rw [hU];exact Nj _ _ _ (by simp)
 have HS : Hid (∀V,NS U V->V.cell? ⟨w.heap.size,0,none⟩=some (.int .i64 P)/\V.cell? ⟨w.heap.size,1,none⟩=some (.int .i64 M)/\V.cell? ⟨w.heap.size,2,none⟩=some (.slice am mn cm)/\V.cell? ⟨w.heap.size,3,none⟩=some (.int .i64 N)/\V.cell? ⟨w.heap.size,4,none⟩=some (.slice a n c) /\
   V.cell? ⟨w.heap.size+1,0,none⟩=some (.slice ax nx cx)/\NS U V):=λV hV=>by have x1:=x0.aa hV;exact ⟨x1.cell 0 rfl,x1.cell 1 rfl,x1.cell 2 rfl,x1.cell 3 rfl,x1.cell 4 rfl,(y0.aa hV).cell 0 rfl,hV⟩
 have HbU:=Z5 hbU;clear hU hbU x0 y0;go_cut [6] (λv wx=>v = .int .i64 V/\NS U wx);case first =>
  go_region_held3 (λV=>V.cell? ⟨w.heap.size,0,none⟩=some (.int .i64 P)/\V.cell? ⟨w.heap.size,1,none⟩=some (.int .i64 M)/\V.cell? ⟨w.heap.size,2,none⟩=some (.slice am mn cm)/\V.cell? ⟨w.heap.size,3,none⟩=some (.int .i64 N)/\V.cell? ⟨w.heap.size,4,none⟩=some (.slice a n c) /\
    V.cell? ⟨w.heap.size+1,0,none⟩=some (.slice ax nx cx)/\NS U V)
   ((refine HS.out _ ?_;first | exact hb5w | exact hb3w | exact (I1 _ _).drew | assumption | (go_split_ands;assumption)))
   (first
   | (go_at_call 122;((with_reducible refine (nf P M am mn cm N a n c d _).mono ?_);rintro e w3 ⟨⟨z,rfl,hz⟩,hb3⟩;have hb3w : NS U w3:=(by go_split_ands;exact Nh (by assumption) hb3)))
   | (go_at_call 127;((with_reducible refine (HCk.out _ z (Nh HbU.out (by go_split_ands;assumption)) hz).mono ?_);rintro e w5 ⟨rfl,hb5⟩;have hb5w : NS U w5:=(by go_split_ands;exact Nh (by assumption) hb5))))
  all_goals (go_wp2_with fail;go_meet;exact ⟨rfl,hb5w⟩)
 obtain ⟨rfl,hb5w⟩:=hcut;have hF:=Nh HbU.out hb5w;go_wp2_with fail;go_ret;exact ⟨rfl,hF⟩
theorem lN (P M : Int) (am : OA) (mn cm : Nat) (mod : Lz) (N : Int) (a : OA) (n c : Nat) (L : Ll) (d : Int) (w : World)
  (hmod : Ints w am mn mod) (hi : ch w a n L) :
  Calls prog 59 #[.agg #[.int .i64 P,.int .i64 M,.slice am mn cm,.int .i64 N,.slice a n c],.int .i64 d] w (fZ (dI P M mod N L n (jH N d)) w):=by
 obtain ⟨V,hV⟩ : ∃V,dI P M mod N L n (jH N d)=V:=⟨_,rfl⟩
 rw [hV];have HCk : Hid (∀(W : World) (z : Int),NS w W->(1<=N->N<=64->z=jH N d)->Calls prog 121 #[.agg #[.int .i64 P,.int .i64 M,.slice am mn cm,.int .i64 N,.slice a n c],.int .i64 n,.int .i64 z] W
   λe w'=>∃av nv cv,e = .returned (.tuple #[.agg #[.slice av nv cv],.int .i64 V.1])/\NS W w'/\((V.1 ≠ 0/\av=none/\nv=0/\cv=0)\/(V.1=0/\nv=V.2.length/\∃R,aP w' W.heap.size av V.2.length cv R V.2))):=λW z hW hz=>by
  have h1:=pB P M am mn cm mod N a n c L n z W (hmod.aa hW) (hi.aa hW);rw [GW hz,hV] at h1;refine h1.mono ?_;rintro e w' ⟨hb,⟨h2,rfl⟩ | ⟨h2,ar,cr,R,rfl,hO⟩⟩
  ·exact ⟨none,0,0,rfl,hb,.inl ⟨h2,rfl,rfl,rfl⟩⟩
  ·exact ⟨ar,_,cr,by rw [h2],hb,.inr ⟨h2,rfl,R,hO⟩⟩
 clear hmod hi hV;go_enter func59,ntmps59;go_upto_region 1 with fail;obtain ⟨U,hU⟩ : ∃U : World,U=(w.alloc (.cells #[.int .i64 P,.int .i64 M,.slice am mn cm,.int .i64 N,.slice a n c] 27)).alloc (.cells #[.slice none 0 0] 47):=⟨_,rfl⟩
 rw [<- hU];have hbU : NS w U:=by rw [hU];exact dA _ _ _
 have x0 : aZ U w.heap.size [.int .i64 P,.int .i64 M,.slice am mn cm,.int .i64 N,.slice a n c]:=by rw [hU];exact (Nj _ _ _ rfl).alloc _
 have y0 : aZ U (w.heap.size+1) [.slice none 0 0]:=by rw [hU];exact Nj _ _ _ (by simp)
 have HS : Hid (∀V,NS U V->V.cell? ⟨w.heap.size,0,none⟩=some (.int .i64 P)/\V.cell? ⟨w.heap.size,1,none⟩=some (.int .i64 M)/\V.cell? ⟨w.heap.size,2,none⟩=some (.slice am mn cm)/\V.cell? ⟨w.heap.size,3,none⟩=some (.int .i64 N)/\V.cell? ⟨w.heap.size,4,none⟩=some (.slice a n c) /\
   V.cell? ⟨w.heap.size+1,0,none⟩=some (.slice none 0 0)/\V.frozen? ⟨w.heap.size+1,0,none⟩=false):=λV hV=>by have x1:=x0.aa hV;exact ⟨x1.cell 0 rfl,x1.cell 1 rfl,x1.cell 2 rfl,x1.cell 3 rfl,x1.cell 4 rfl,(y0.aa hV).cell 0 rfl,(y0.aa hV).frozen 0⟩
 have HbU:=Z5 hbU;have hy1:=y0.1;obtain ⟨c0,c1,c2,c3,c4,c5,c6⟩:=HS.out U (I1 _ _);clear hU hbU x0 y0;go_region_law ((first
  | (go_simp;go_at_call 122;((with_reducible refine (nf P M am mn cm N a n c d _).mono ?_);rintro e w3 ⟨⟨z,rfl,hz⟩,hb3⟩;have hb3w : NS U w3:=Nh (I1 _ _).drew hb3;obtain ⟨d0,d1,d2,d3,d4,d5,d6⟩:=HS.out w3 hb3w))
  | (go_simp;go_at_call 121;((with_reducible refine (HCk.out _ z (Nh HbU.out hb3w) hz).mono ?_);rintro e w5 ⟨av,nv,cv,rfl,hb5,hV5⟩;have hb5w : NS U w5:=Nh hb3w hb5;obtain ⟨e0,e1,e2,e3,e4,e5,e6⟩:=HS.out w5 hb5w))))
 all_goals (
  have hF : NS w (w5.setCell ⟨w.heap.size+1,0,none⟩ (.slice av nv cv)):=(Nh HbU.out hb5w).setCell (by simp) _
  have HV5 : Hid (fZ V w (.returned (.tuple #[.agg #[.slice av nv cv],.int .i64 V.1])) (w5.setCell ⟨w.heap.size+1,0,none⟩ (.slice av nv cv))):=by
   refine ⟨hF,?_⟩;rcases hV5 with ⟨h1,rfl,rfl,rfl⟩ | ⟨h1,rfl,R,hO⟩
   ·exact .inl ⟨h1,rfl⟩
   ·refine .inr ⟨h1,av,cv,R,by rw [h1],?_⟩;have hs3:=hb3w.size;have hsU:=HbU.out.size;refine (aP.mono hO (Ji hsU hs3)).bj λx hx=>Jr _ _ _ _ λe=>?_;have h2:=(hO.lt x hx).1;have e' : x=w.heap.size+1:=e;omega
  clear hV5 hF c0 c1 c2 c3 c4 c5 c6 d0 d1 d2 d3 d4 d5 d6
  go_wp2_with fail
  have z1 : (w5.setCell ⟨w.heap.size+1,0,none⟩ (.slice av nv cv)).cell? ⟨w.heap.size+1,0,none⟩=some (.slice av nv cv):=Jk _ _ _ e5
  exact bodyPost_ret (v:=.tuple #[.agg #[.slice av nv cv],.int .i64 V.1]) (by simp [results,results59,go_sem,e5,z1]) rfl HV5.out)
theorem aZ.gv {w : World} {b : Nat} {cs : List Value} (h : aZ w b cs) (i : Nat) (v : Value) : aZ (w.setCell ⟨b,i,none⟩ v) b (cs.set i v):=by
 refine ⟨by simpa using h.1,λj u hu=>?_,λj=>by rw [J8];exact h.2.2 j⟩;by_cases e : j=i
 ·subst e;by_cases hl : j<cs.length
  ·rw [Mi hl] at hu;cases hu
   exact Jk _ _ _ (h.2.1 j cs[j] (JI hl))
  ·rw [KH (by omega),JZ (by omega)] at hu;cases hu
 ·rw [Mu (by omega)] at hu;rw [Jw _ _ _ _ (by simp <;> omega)];exact h.2.1 j u hu
theorem nA (P M : Int) (am : OA) (mn cm : Nat) (mod : Lz) (N : Int) (a : OA) (n c : Nat) (L : Ll) (ao : OA) (no co : Nat) (Q : Lz) (w : World)
  (hMu : ∀(k m : Nat) (a1 c1 : _) (A : Ll) (V : World),Ints V am mn mod->ch V a1 k A->ch V a k L->bp P M mod=true->cw (ah P M.toNat mod).El k A->cw (ah P M.toNat mod).El m L->k<=64->1<=m->m<=64 ->
   Calls prog 114 #[.agg #[.int .i64 P,.int .i64 M,.slice am mn cm],.agg #[.int .i64 k,.slice a1 k c1],.agg #[.int .i64 m,.slice a k c]] V λe w'=>∃a3 c3,e = .returned (.tuple #[.agg #[.int .i64 m,.slice a3 k c3],.int .i64 0])/\cH V.heap.size w' a3 k (yE (ah P M.toNat mod).ops m A L)/\NS V w')
  (hmod : Ints w am mn mod) (hi : ch w a n L) (hq : Ints w ao no Q) :
  Calls prog 50 #[.agg #[.int .i64 P,.int .i64 M,.slice am mn cm,.int .i64 N,.slice a n c],.slice ao no co] w (kd P M mod N L Q w):=by
 have HS1 : Hid (∀V b,NS w V->V.heap.size=b->Calls prog 110 #[.agg #[.int .i64 P,.int .i64 M,.slice am mn cm,.int .i64 N,.slice a n c],.slice (some ⟨b,0,none⟩) 1 1] (V.alloc (.cells #[.slice ao no co] 22)) λe w'=>e = .returned (.int .i64 (dD P M mod N L Q))/\NS V w'):=λV b hV hbb=>by subst hbb;have hb:=Nh hV (aw V (.cells #[.slice ao no co] 22));refine (Cl P M am mn cm mod N a n c L _ 1 1 [Q] _ (hmod.aa hb) (hi.aa hb) (Fe (c:=co) V (hq.aa hV))).mono ?_;rintro e w' ⟨rfl,h1⟩;exact ⟨by rw [BG],Nh (aw _ _) h1⟩
 have Hql:=Z5 hq.len;have Hil:=Z5 hi.len;go_enter func50,ntmps50;go_wp2_with fail;obtain ⟨W,hW⟩ : ∃W : World,W=(w.alloc (.cells #[.int .i64 P,.int .i64 M,.slice am mn cm,.int .i64 N,.slice a n c] 27)).alloc (.cells #[.int .i64 0,.slice none 0 0] 82):=⟨_,rfl⟩
 rw [<- hW];have hbW : NS w W:=by rw [hW];exact dA _ _ _
 have hsW : W.heap.size=w.heap.size+1+1:=by rw [hW];simp
 have x0 : aZ W w.heap.size [.int .i64 P,.int .i64 M,.slice am mn cm,.int .i64 N,.slice a n c]:=by rw [hW];exact (Nj _ _ _ rfl).alloc _
 have z0 : aZ W (w.heap.size+1) [.int .i64 0,.slice none 0 0]:=by rw [hW];exact Nj _ _ _ (by simp)
 have hS : ∀V,NS W V->V.cell? ⟨w.heap.size,0,none⟩=some (.int .i64 P)/\V.cell? ⟨w.heap.size,1,none⟩=some (.int .i64 M)/\V.cell? ⟨w.heap.size,2,none⟩=some (.slice am mn cm)/\V.cell? ⟨w.heap.size,3,none⟩=some (.int .i64 N)/\V.cell? ⟨w.heap.size,4,none⟩=some (.slice a n c) /\
   aZ V (w.heap.size+1) [.int .i64 0,.slice none 0 0]:=λV hV=>by have x1:=x0.aa hV;exact ⟨x1.cell 0 rfl,x1.cell 1 rfl,x1.cell 2 rfl,x1.cell 3 rfl,x1.cell 4 rfl,z0.aa hV⟩
 have HS:=Z5 hS;have HbW:=Z5 hbW;have HsW:=Z5 hsW;obtain ⟨c0,c1,c2,c3,c4,_⟩:=HS.out W (I1 _ _);have H1:=Z5 (HS1.out W _ hbW hsW);clear hW x0 z0 hS HS1 hsW;refine H1.out.mono ?_;rintro e w1 ⟨rfl,hb1⟩;have hbw1:=Nh hbW hb1;have hend : ∀er : Int,jB P M mod N L Q ≠ 0->jB P M mod N L Q=er->kd P M mod N L Q w (.returned (.tuple #[.agg #[.int .i64 0,.slice none 0 0],.int .i64 er])) ((w1.setCell ⟨w.heap.size+1,0,none⟩ (.int .i64 0)).setCell ⟨w.heap.size+1,1,none⟩ (.slice none 0 0)):=λer h0 h1 =>
  ⟨(hbw1.setCell (p:=⟨w.heap.size+1,0,none⟩) (by simp) _).setCell (p:=⟨w.heap.size+1,1,none⟩) (by simp) _,.inl ⟨h0,by rw [h1]⟩⟩
 have Hend:=Z5 hend;have zz:=(HS.out w1 hb1).2.2.2.2.2;have z0:=zz.cell 0 rfl;have z1:=zz.cell 1 rfl;have f0:=zz.frozen 0;have f1:=zz.frozen 1;clear hend zz hbW c0 c1 c2 c3 c4 H1;by_cases hr : dD P M mod N L Q=0;rotate_left
 ·have hs : jB P M mod N L Q=dD P M mod N L Q:=by rw [jB,I6 hr]
  have HF:=Z5 (Hend.out (dD P M mod N L Q) (by rw [hs];exact hr) hs);have hr' : (dD P M mod N L Q != 0)=true:=by simpa using hr
  clear hr hs Hend;generalize dD P M mod N L Q=er at *;go_wp2_with fail;exact bodyPost_ret (v:=.tuple #[.agg #[.int .i64 0,.slice none 0 0],.int .i64 er]) (by simp [results,results50,go_sem,z0,z1]) rfl HF.out
 obtain ⟨hE,hok⟩:=Fk hr;obtain ⟨m,rfl,hm1,hm64,F,hR⟩:=br hE;have hQ : pA m Q:=EV hok;have hqm : (Q.length : Int)<=m:=gE hok (by omega);have hno64 : no<=64:=by rw [<- Hql.out];omega
 have hin:=Ce P M am mn cm mod m a n c L ao no co Q w1 (hmod.aa hbw1) (hi.aa hbw1) (hq.aa hbw1) hE hQ (by omega);have hsv : yC P M mod m L Q=pG (ah P M.toNat mod).ops L Q:=EB hr;by_cases hv : pG (ah P M.toNat mod).ops L Q=true;rotate_left
 ·have hv' : pG (ah P M.toNat mod).ops L Q=false:=by simpa using hv
  have hs : jB P M mod m L Q=9:=by rw [jB,I5 (by simpa using hr),I5 (by rw [hsv];exact hv)]
  rw [hv'] at hin;have Hin:=Z5 hin;have HsE:=Z5 hs;obtain ⟨c0,c1,c2,c3,c4,_⟩:=HS.out w1 hb1;rw [hr];clear hr hs Hend hv hv' hin hsv hE hok F hR hQ hqm z0 z1 f0 f1;go_wp2_with fail;refine Hin.out.mono ?_;rintro e w2 ⟨rfl,hb2⟩;have hb12:=Nh hb1 hb2;have hbw2:=Nh hbw1 hb2;have zz:=(HS.out w2 hb12).2.2.2.2.2;have z0:=zz.cell 0 rfl;have z1:=zz.cell 1 rfl;have f0:=zz.frozen 0;have f1:=zz.frozen 1;have HF : Hid (kd P M mod m L Q w (.returned (.tuple #[.agg #[.int .i64 0,.slice none 0 0],.int .i64 9])) ((w2.setCell ⟨w.heap.size+1,0,none⟩ (.int .i64 0)).setCell ⟨w.heap.size+1,1,none⟩ (.slice none 0 0))) :=
   ⟨(hbw2.setCell (p:=⟨w.heap.size+1,0,none⟩) (by simp) _).setCell (p:=⟨w.heap.size+1,1,none⟩) (by simp) _,.inl ⟨by rw [HsE.out];decide,by rw [HsE.out]⟩⟩
  clear zz c0 c1 c2 c3 c4 Hin;go_wp2_with fail;exact bodyPost_ret (v:=.tuple #[.agg #[.int .i64 0,.slice none 0 0],.int .i64 9]) (by simp [results,results50,go_sem,z0,z1]) rfl HF.out
 have hs0 : jB P M mod m L Q=0:=by rw [jB,I5 (by simpa using hr),I6 (by rw [hsv];exact hv)]
 obtain ⟨hl,hg⟩:=jo.1 hv;have hno : no=n:=by rw [<- Hql.out,hl,Hil.out]
 have hn64 : n<=64:=by omega
 have hDr : cw (ah P M.toNat mod).El n (L.map (aQ Q)):=by have h:=jY hR hQ;rw [Hql.out,hno] at h;exact h
 have hqn : Q.length=n:=by rw [Hql.out];exact hno
 have hpv:=(uo F hR hQ).trans (show (gD (ah P M.toNat mod).ops L Q).length=n from hg.trans hqn);rw [hqn] at hpv;have hfB:=(bl hE).1;have hsyl : dk (ah P M.toNat mod).ops m L Q=yE (ah P M.toNat mod).ops m (jE (ah P M.toNat mod).ops (L.map (aQ Q)) n) L:=by rw [dk,hqn]
 have HKp : Hid (∀V,NS w V->Calls prog 113 #[.slice a n c,.slice ao no co] V λe w'=>NS V w'/\∃a1 c1,e = .returned (.slice a1 n c1)/\ch w' a1 n (L.map (aQ Q))):=λV hV=>by refine (sO m a n c L ao no co Q V (hi.aa hV) (hq.aa hV) (λr hr=>(hR r hr).1) hQ (by omega) (by omega)).mono ?_;rintro e w' ⟨a1,c1,R,rfl,hO,hb⟩;exact ⟨hb,a1,c1,rfl,hO.l7⟩
 have HIv : Hid (∀V a1 c1,NS w V->ch V a1 n (L.map (aQ Q))->∀V2,NS V V2->Calls prog 112 #[.agg #[.int .i64 P,.int .i64 M,.slice am mn cm],.agg #[.int .i64 n,.slice a1 n c1]] V2 λe w' =>
   NS V2 w'/\∃a2 c2,e = .returned (.tuple #[.agg #[.int .i64 n,.slice a2 n c2],.int .i64 0])/\cH V2.heap.size w' a2 n (jE (ah P M.toNat mod).ops (L.map (aQ Q)) n)):=λV a1 c1 hV hM V2 hV2=>by refine (vp P M am mn cm mod n a1 c1 _ V2 (hmod.aa (Nh hV hV2)) (hM.aa hV2) hfB hDr hn64 hpv).mono ?_;rintro e w' ⟨a2,c2,rfl,hN,hb⟩;exact ⟨hb,a2,c2,rfl,hN⟩
 have HMl : Hid (∀V a2 c2,NS w V->ch V a2 n (jE (ah P M.toNat mod).ops (L.map (aQ Q)) n)->Calls prog 114 #[.agg #[.int .i64 P,.int .i64 M,.slice am mn cm],.agg #[.int .i64 n,.slice a2 n c2],.agg #[.int .i64 m,.slice a n c]] V λe w' =>
   ∃a3 c3,e = .returned (.tuple #[.agg #[.int .i64 m,.slice a3 n c3],.int .i64 0])/\cH V.heap.size w' a3 n (dk (ah P M.toNat mod).ops m L Q)/\NS V w'):=λV a2 c2 hV hM=>by rw [hsyl];exact hMu n m a2 c2 _ V (hmod.aa hV) hM (hi.aa hV) hfB (rK F hDr) hR hn64 hm1 hm64
 have Hs0:=Z5 hs0;have HPost : Hid (∀a3 c3 w',NS w w'->cH w.heap.size w' a3 n (dk (ah P M.toNat mod).ops m L Q)->kd P M mod m L Q w (.returned (.tuple #[.agg #[.int .i64 m,.slice a3 n c3],.int .i64 0])) w'):=λa3 c3 w' h1 h2=>by rw [<- Hil.out] at h2 ⊢;exact ⟨h1,.inr ⟨Hs0.out,m,rfl,a3,c3,rfl,h2⟩⟩
 obtain ⟨D,hD⟩ : ∃D,L.map (aQ Q)=D:=⟨_,rfl⟩
 obtain ⟨Iv,hIv⟩ : ∃Iv,jE (ah P M.toNat mod).ops D n=Iv:=⟨_,rfl⟩
 obtain ⟨Sy,hSy⟩ : ∃Sy,dk (ah P M.toNat mod).ops m L Q=Sy:=⟨_,rfl⟩
 rw [hD] at HKp HIv HMl;rw [hIv] at HIv HMl;rw [hSy] at HMl HPost;rw [hv] at hin;have Hin:=Z5 hin;obtain ⟨c0,c1,c2,c3,c4,_⟩:=HS.out w1 hb1;rw [hr];obtain rfl : n=no:=hno.symm;clear hr hs0 Hend hv hin hsv hE hok F hR hQ hqm z0 z1 f0 f1 hl hg hDr hqn hpv hfB hsyl hD hIv hSy hmod hi hq;go_wp2_with fail;refine Hin.out.mono ?_;rintro e w2 ⟨rfl,hb2⟩;have hb12:=Nh hb1 hb2;have HS2 : Hid (∀V,NS w2 V->V.cell? ⟨w.heap.size,0,none⟩=some (.int .i64 P)/\V.cell? ⟨w.heap.size,1,none⟩=some (.int .i64 M)/\V.cell? ⟨w.heap.size,2,none⟩=some (.slice am mn cm)/\V.cell? ⟨w.heap.size,3,none⟩=some (.int .i64 m)/\V.cell? ⟨w.heap.size,4,none⟩=some (.slice a n c)/\NS w2 V):=λV hV=>by obtain ⟨q0,q1,q2,q3,q4,_⟩:=HS.out V (Nh hb12 hV);exact ⟨q0,q1,q2,q3,q4,hV⟩
 have Hbw2:=Z5 (Nh HbW.out hb12);clear c0 c1 c2 c3 c4 Hin;go_wp2_with fail;go_cut [7,8] (λv u wx=>∃g a2 c2,v = .pointer (some ⟨g,0,none⟩)/\u = .int .i64 0/\wx.cell? ⟨g,0,none⟩=some (.int .i64 n)/\wx.cell? ⟨g,1,none⟩=some (.slice a2 n c2)/\ch wx a2 n Iv/\NS w2 wx);case first =>
  refine wp_region_held_drew (S:=(λV=>V.cell? ⟨w.heap.size,0,none⟩=some (.int .i64 P)/\V.cell? ⟨w.heap.size,1,none⟩=some (.int .i64 M)/\V.cell? ⟨w.heap.size,2,none⟩=some (.slice am mn cm)/\V.cell? ⟨w.heap.size,3,none⟩=some (.int .i64 m)/\V.cell? ⟨w.heap.size,4,none⟩=some (.slice a n c)/\NS w2 V)) (by kernel_rfl) ?_ (λhHeld=>?_)
  ·exact HS2.out _ (I1 _ _).drew
  refine wpAnyH_take (i:=0) (v:=?_) (by simp only [Je,I9,Jb];rfl) (by kernel_rfl) (by kernel_rfl) (by kernel_rfl) (by exact λ_ _ _ h=>h) (JC ⟨by rfl,?_⟩) (by assumption) ?_
  rotate_left
  ·(intro w hSw;(try dsimp only at hSw);go_split_ands;go_simp;first | done | with_reducible rfl)
  try simp only [Act.put,I0,I3,I4]
  refine wpAnyH_take (i:=1) (v:=?_) (by simp only [Je,I9,Jb];rfl) (by kernel_rfl) (by kernel_rfl) (by kernel_rfl) (by exact λ_ _ _ h=>h) (JC ⟨by rfl,?_⟩) (by assumption) ?_
  rotate_left
  ·(intro w hSw;(try dsimp only at hSw);go_split_ands;go_simp;first | done | with_reducible rfl)
  try simp only [Act.put,I0,I3,I4]
  refine wpAnyH_take (i:=2) (v:=?_) (by simp only [Je,I9,Jb];rfl) (by kernel_rfl) (by kernel_rfl) (by kernel_rfl) (by exact λ_ _ _ h=>h) (JC ⟨by rfl,?_⟩) (by assumption) ?_
  rotate_left
  ·(intro w hSw;(try dsimp only at hSw);go_split_ands;go_simp;first | done | with_reducible rfl)
  try simp only [Act.put,I0,I3,I4]
  refine wpAnyH_take (i:=3) (v:=?_) (by simp only [Je,I9,Jb];rfl) (by kernel_rfl) (by kernel_rfl) (by kernel_rfl) (by exact λ_ _ _ h=>h) (JC ⟨by rfl,?_⟩) (by assumption) ?_
  rotate_left
  ·(intro w hSw;(try dsimp only at hSw);go_split_ands;go_simp;first | done | with_reducible rfl)
  try simp only [Act.put,I0,I3,I4]
  refine wpAnyH_take (i:=4) (v:=?_) (by simp only [Je,I9,Jb];rfl) (by kernel_rfl) (by kernel_rfl) (by kernel_rfl) (by exact λ_ _ _ h=>h) (JC ⟨by rfl,?_⟩) (by assumption) ?_
  rotate_left
  ·(intro w hSw;(try dsimp only at hSw);go_split_ands;go_simp;first | done | with_reducible rfl)
  try simp only [Act.put,I0,I3,I4]
  refine wpAnyH_take (i:=5) (v:=?_) (by simp only [Je,I9,Jb];rfl) (by kernel_rfl) (by kernel_rfl) (by kernel_rfl) (by exact λ_ _ _ h=>h) (JC ⟨by rfl,?_⟩) (by assumption) ?_
  rotate_left
  ·(intro w hSw;(try dsimp only at hSw);go_split_ands;go_simp;first | done | with_reducible rfl)
  try simp only [Act.put,I0,I3,I4]
  refine wpAnyH_take (i:=6) (v:=?_) (by simp only [Je,I9,Jb];rfl) (by kernel_rfl) (by kernel_rfl) (by kernel_rfl) (by exact λ_ _ _ h=>h) (JC ⟨by rfl,?_⟩) (by assumption) ?_
  rotate_left
  ·(intro w hSw;(try dsimp only at hSw);go_split_ands;go_simp;first | done | with_reducible rfl)
  try simp only [Act.put,I0,I3,I4]
  refine wpAnyH_ready (rs:=[7,13]) (by kernel_rfl) (by simp) ?_
  refine AllReadyH.cons rfl (λK hK=>?_) (AllReadyH.cons rfl (λK hK=>?_) (AllReadyH.nil))
  ·go_simp
   refine (HKp.out _ (Nh Hbw2.out (by first | exact hbZ | exact (I1 _ _).drew))).mono ?_;rintro e w7 ⟨hb7',a7,k7,rfl,hM7⟩
   go_wp2_with fail
   have hb7 : NS w2 w7:=(by first | exact Nh hbZ hb7' | exact Nh (I1 _ _).drew hb7')
   have Hr2:=Z5 (HIv.out w7 a7 k7 (Nh Hbw2.out hb7) hM7)
   clear hM7
   first | have hZb:=hZa.aa hb7' | skip
   refine hK.out _ _ ?_ (λhHeld=>?_)
   ·exact HS2.out _ hb7
   clear hK K
   try simp only [Act.put,I0,I3,I4]
   refine wpAnyH_take (i:=8) (v:=?_) (by simp only [Je,I9,Jb];rfl) (by kernel_rfl) (by kernel_rfl) (by kernel_rfl) (by exact λ_ _ _ h=>h) (JC ⟨by rfl,?_⟩) (by assumption) ?_
   rotate_left
   ·(intro w hSw;(try dsimp only at hSw);go_split_ands;go_simp;first | done | with_reducible rfl)
   try simp only [Act.put,I0,I3,I4]
   refine wpAnyH_ready (rs:=[9,13]) (by kernel_rfl) (by simp) ?_
   refine AllReadyH.cons rfl (λK hK=>?_) (AllReadyH.cons rfl (λK hK=>?_) (AllReadyH.nil))
   ·go_simp
    refine (Hr2.out _ (by first | exact I1 _ _ | exact aw _ _)).mono ?_;rintro e w8 ⟨hb8',a8,k8,rfl,hM8⟩
    go_wp2_with fail
    have hb8 : NS w2 w8:=(by first | exact Nh hb7 hb8' | exact Nh (Nl hb7 _) hb8')
    first | (have hZc:=hZb.aa hb8';have z0:=hZc.cell 0 rfl;have z1:=hZc.cell 1 rfl;have f0:=hZc.frozen 0;have f1:=hZc.frozen 1) | (have hZc:=hZa.aa hb8';have z0:=hZc.cell 0 rfl;have z1:=hZc.cell 1 rfl;have f0:=hZc.frozen 0;have f1:=hZc.frozen 1) | skip
    refine hK.out _ _ ?_ (λhHeld=>?_)
    ·exact HS2.out _ hb8
    clear hK K
    try simp only [Act.put,I0,I3,I4]
    refine wpAnyH_take (i:=10) (v:=?_) (by simp only [Je,I9,Jb];rfl) (by kernel_rfl) (by kernel_rfl) (by kernel_rfl) (by exact λ_ _ _ h=>h) (JC ⟨by rfl,?_⟩) (by assumption) ?_
    rotate_left
    ·(intro w hSw;(try dsimp only at hSw);go_split_ands;go_simp;first | done | with_reducible rfl)
    try simp only [Act.put,I0,I3,I4]
    refine wpAnyH_take (i:=11) (v:=?_) (by simp only [Je,I9,Jb];rfl) (by kernel_rfl) (by kernel_rfl) (by kernel_rfl) (by exact λ_ _ _ h=>h) (JC ⟨by rfl,?_⟩) (by assumption) ?_
    rotate_left
    ·(intro w hSw;(try dsimp only at hSw);go_split_ands;go_simp;first | done | with_reducible rfl)
    try simp only [Act.put,I0,I3,I4]
    refine wpAnyH_take (i:=12) (v:=?_) (by simp only [Je,I9,Jb];rfl) (by kernel_rfl) (by kernel_rfl) (by kernel_rfl) (by exact λ_ _ _ h=>h) (JC ⟨by rfl,?_⟩) (by assumption) ?_
    rotate_left
    ·(intro w hSw;(try dsimp only at hSw);go_split_ands;go_simp;first | done | with_reducible rfl)
    try simp only [Act.put,I0,I3,I4]
    refine wpAnyH_ready (rs:=[13]) (by kernel_rfl) (by simp) ?_
    refine AllReadyH.cons rfl (λK hK=>?_) (AllReadyH.nil)
    ·go_simp
     try go_wp2_with fail
     first | (have hZa:=Nj (g:=w8.heap.size) w8 [.int .i64 0,.slice none 0 0] 82 rfl;have hbZ:=Nl hb8 (.cells #[.int .i64 0,.slice none 0 0] 82)) | (have hZa:=Nj (g:=w7.heap.size) w7 [.int .i64 0,.slice none 0 0] 82 rfl;have hbZ:=Nl hb7 (.cells #[.int .i64 0,.slice none 0 0] 82)) | (have hZa:=Nj (g:=w2.heap.size) w2.drew [.int .i64 0,.slice none 0 0] 82 rfl;have hbZ:=Nl (I1 w2.heap.size w2).drew (.cells #[.int .i64 0,.slice none 0 0] 82))
     have y0:=hZa.cell 0 rfl
     have y1:=hZa.cell 1 rfl
     have g0:=hZa.frozen 0
     have g1:=hZa.frozen 1
     refine hK.out _ _ ?_ (λhHeld=>?_)
     ·exact HS2.out _ hbZ
     clear hK K
     try simp only [Act.put,I0,I3,I4]
     refine wpAnyH_ready (rs:=[14]) (by kernel_rfl) (by simp) ?_
     refine AllReadyH.cons rfl (λK hK=>?_) (AllReadyH.nil)
     ·go_simp
      try go_wp2_with fail
      refine hK.out _ _ ?_ (λhHeld=>?_)
      ·first | exact HS2.out _ hbZ | exact HS2.out _ ((hb8.setCell (IZ _) _).setCell (IZ _) _) | exact HS2.out _ ((hb8.setCell hb7.size _).setCell hb7.size _) | exact HS2.out _ ((hbZ.setCell hb8.size _).setCell hb8.size _) | exact HS2.out _ (Nl hb8 _)
      clear hK K
      try simp only [Act.put,I0,I3,I4]
      refine wpAnyH_take (i:=15) (v:=?_) (by simp only [Je,I9,Jb];rfl) (by kernel_rfl) (by kernel_rfl) (by kernel_rfl) (by exact λ_ _ _ h=>h) (JC ⟨by rfl,?_⟩) (by assumption) ?_
      rotate_left
      ·(intro w hSw;(try dsimp only at hSw);go_split_ands;go_simp;first | done | with_reducible rfl)
      try simp only [Act.put,I0,I3,I4]
      refine wpAnyH_done (by kernel_rfl) ?_ _
      go_wp2_with fail
      go_meet
      first
      | exact ⟨w8.heap.size,a8,k8,rfl,rfl,(Nj (g:=w8.heap.size) w8 [.int .i64 n,.slice a8 n k8] 82 rfl).cell 0 rfl,(Nj (g:=w8.heap.size) w8 [.int .i64 n,.slice a8 n k8] 82 rfl).cell 1 rfl,hM8.l7.aa (aw _ _),Nl hb8 _⟩
      | exact ⟨w2.heap.size,a8,k8,rfl,rfl,((hZc.gv 0 (.int .i64 n)).gv 1 (.slice a8 n k8)).cell 0 rfl,((hZc.gv 0 (.int .i64 n)).gv 1 (.slice a8 n k8)).cell 1 rfl,((hM8.setCell (p:=⟨w2.heap.size,0,none⟩) (by have h1:=hZb.1;simp only [];omega) _).setCell (p:=⟨w2.heap.size,1,none⟩) (by have h1:=hZb.1;simp only [];omega) _).l7,(hb8.setCell (p:=⟨w2.heap.size,0,none⟩) (IZ _) _).setCell (p:=⟨w2.heap.size,1,none⟩) (IZ _) _⟩
      | exact ⟨w7.heap.size,a8,k8,rfl,rfl,((hZc.gv 0 (.int .i64 n)).gv 1 (.slice a8 n k8)).cell 0 rfl,((hZc.gv 0 (.int .i64 n)).gv 1 (.slice a8 n k8)).cell 1 rfl,((hM8.setCell (p:=⟨w7.heap.size,0,none⟩) (by simp) _).setCell (p:=⟨w7.heap.size,1,none⟩) (by simp) _).l7,(hb8.setCell (p:=⟨w7.heap.size,0,none⟩) hb7.size _).setCell (p:=⟨w7.heap.size,1,none⟩) hb7.size _⟩
   ·go_simp
    try go_wp2_with fail
    first | (have hZa:=Nj (g:=w8.heap.size) w8 [.int .i64 0,.slice none 0 0] 82 rfl;have hbZ:=Nl hb8 (.cells #[.int .i64 0,.slice none 0 0] 82)) | (have hZa:=Nj (g:=w7.heap.size) w7 [.int .i64 0,.slice none 0 0] 82 rfl;have hbZ:=Nl hb7 (.cells #[.int .i64 0,.slice none 0 0] 82)) | (have hZa:=Nj (g:=w2.heap.size) w2.drew [.int .i64 0,.slice none 0 0] 82 rfl;have hbZ:=Nl (I1 w2.heap.size w2).drew (.cells #[.int .i64 0,.slice none 0 0] 82))
    have y0:=hZa.cell 0 rfl
    have y1:=hZa.cell 1 rfl
    have g0:=hZa.frozen 0
    have g1:=hZa.frozen 1
    refine hK.out _ _ ?_ (λhHeld=>?_)
    ·exact HS2.out _ hbZ
    clear hK K
    try simp only [Act.put,I0,I3,I4]
    refine wpAnyH_ready (rs:=[9]) (by kernel_rfl) (by simp) ?_
    refine AllReadyH.cons rfl (λK hK=>?_) (AllReadyH.nil)
    ·go_simp
     refine (Hr2.out _ (by first | exact I1 _ _ | exact aw _ _)).mono ?_;rintro e w8 ⟨hb8',a8,k8,rfl,hM8⟩
     go_wp2_with fail
     have hb8 : NS w2 w8:=(by first | exact Nh hb7 hb8' | exact Nh (Nl hb7 _) hb8')
     first | (have hZc:=hZb.aa hb8';have z0:=hZc.cell 0 rfl;have z1:=hZc.cell 1 rfl;have f0:=hZc.frozen 0;have f1:=hZc.frozen 1) | (have hZc:=hZa.aa hb8';have z0:=hZc.cell 0 rfl;have z1:=hZc.cell 1 rfl;have f0:=hZc.frozen 0;have f1:=hZc.frozen 1) | skip
     refine hK.out _ _ ?_ (λhHeld=>?_)
     ·exact HS2.out _ hb8
     clear hK K
     try simp only [Act.put,I0,I3,I4]
     refine wpAnyH_take (i:=10) (v:=?_) (by simp only [Je,I9,Jb];rfl) (by kernel_rfl) (by kernel_rfl) (by kernel_rfl) (by exact λ_ _ _ h=>h) (JC ⟨by rfl,?_⟩) (by assumption) ?_
     rotate_left
     ·(intro w hSw;(try dsimp only at hSw);go_split_ands;go_simp;first | done | with_reducible rfl)
     try simp only [Act.put,I0,I3,I4]
     refine wpAnyH_take (i:=11) (v:=?_) (by simp only [Je,I9,Jb];rfl) (by kernel_rfl) (by kernel_rfl) (by kernel_rfl) (by exact λ_ _ _ h=>h) (JC ⟨by rfl,?_⟩) (by assumption) ?_
     rotate_left
     ·(intro w hSw;(try dsimp only at hSw);go_split_ands;go_simp;first | done | with_reducible rfl)
     try simp only [Act.put,I0,I3,I4]
     refine wpAnyH_take (i:=12) (v:=?_) (by simp only [Je,I9,Jb];rfl) (by kernel_rfl) (by kernel_rfl) (by kernel_rfl) (by exact λ_ _ _ h=>h) (JC ⟨by rfl,?_⟩) (by assumption) ?_
     rotate_left
     ·(intro w hSw;(try dsimp only at hSw);go_split_ands;go_simp;first | done | with_reducible rfl)
     try simp only [Act.put,I0,I3,I4]
     refine wpAnyH_ready (rs:=[14]) (by kernel_rfl) (by simp) ?_
     refine AllReadyH.cons rfl (λK hK=>?_) (AllReadyH.nil)
     ·go_simp
      try go_wp2_with fail
      refine hK.out _ _ ?_ (λhHeld=>?_)
      ·first | exact HS2.out _ hbZ | exact HS2.out _ ((hb8.setCell (IZ _) _).setCell (IZ _) _) | exact HS2.out _ ((hb8.setCell hb7.size _).setCell hb7.size _) | exact HS2.out _ ((hbZ.setCell hb8.size _).setCell hb8.size _) | exact HS2.out _ (Nl hb8 _)
      clear hK K
      try simp only [Act.put,I0,I3,I4]
      refine wpAnyH_take (i:=15) (v:=?_) (by simp only [Je,I9,Jb];rfl) (by kernel_rfl) (by kernel_rfl) (by kernel_rfl) (by exact λ_ _ _ h=>h) (JC ⟨by rfl,?_⟩) (by assumption) ?_
      rotate_left
      ·(intro w hSw;(try dsimp only at hSw);go_split_ands;go_simp;first | done | with_reducible rfl)
      try simp only [Act.put,I0,I3,I4]
      refine wpAnyH_done (by kernel_rfl) ?_ _
      go_wp2_with fail
      go_meet
      first
      | exact ⟨w8.heap.size,a8,k8,rfl,rfl,(Nj (g:=w8.heap.size) w8 [.int .i64 n,.slice a8 n k8] 82 rfl).cell 0 rfl,(Nj (g:=w8.heap.size) w8 [.int .i64 n,.slice a8 n k8] 82 rfl).cell 1 rfl,hM8.l7.aa (aw _ _),Nl hb8 _⟩
      | exact ⟨w2.heap.size,a8,k8,rfl,rfl,((hZc.gv 0 (.int .i64 n)).gv 1 (.slice a8 n k8)).cell 0 rfl,((hZc.gv 0 (.int .i64 n)).gv 1 (.slice a8 n k8)).cell 1 rfl,((hM8.setCell (p:=⟨w2.heap.size,0,none⟩) (by have h1:=hZb.1;simp only [];omega) _).setCell (p:=⟨w2.heap.size,1,none⟩) (by have h1:=hZb.1;simp only [];omega) _).l7,(hb8.setCell (p:=⟨w2.heap.size,0,none⟩) (IZ _) _).setCell (p:=⟨w2.heap.size,1,none⟩) (IZ _) _⟩
      | exact ⟨w7.heap.size,a8,k8,rfl,rfl,((hZc.gv 0 (.int .i64 n)).gv 1 (.slice a8 n k8)).cell 0 rfl,((hZc.gv 0 (.int .i64 n)).gv 1 (.slice a8 n k8)).cell 1 rfl,((hM8.setCell (p:=⟨w7.heap.size,0,none⟩) (by simp) _).setCell (p:=⟨w7.heap.size,1,none⟩) (by simp) _).l7,(hb8.setCell (p:=⟨w7.heap.size,0,none⟩) hb7.size _).setCell (p:=⟨w7.heap.size,1,none⟩) hb7.size _⟩
  ·go_simp
   try go_wp2_with fail
   first | (have hZa:=Nj (g:=w8.heap.size) w8 [.int .i64 0,.slice none 0 0] 82 rfl;have hbZ:=Nl hb8 (.cells #[.int .i64 0,.slice none 0 0] 82)) | (have hZa:=Nj (g:=w7.heap.size) w7 [.int .i64 0,.slice none 0 0] 82 rfl;have hbZ:=Nl hb7 (.cells #[.int .i64 0,.slice none 0 0] 82)) | (have hZa:=Nj (g:=w2.heap.size) w2.drew [.int .i64 0,.slice none 0 0] 82 rfl;have hbZ:=Nl (I1 w2.heap.size w2).drew (.cells #[.int .i64 0,.slice none 0 0] 82))
   have y0:=hZa.cell 0 rfl
   have y1:=hZa.cell 1 rfl
   have g0:=hZa.frozen 0
   have g1:=hZa.frozen 1
   refine hK.out _ _ ?_ (λhHeld=>?_)
   ·exact HS2.out _ hbZ
   clear hK K
   try simp only [Act.put,I0,I3,I4]
   refine wpAnyH_ready (rs:=[7]) (by kernel_rfl) (by simp) ?_
   refine AllReadyH.cons rfl (λK hK=>?_) (AllReadyH.nil)
   ·go_simp
    refine (HKp.out _ (Nh Hbw2.out (by first | exact hbZ | exact (I1 _ _).drew))).mono ?_;rintro e w7 ⟨hb7',a7,k7,rfl,hM7⟩
    go_wp2_with fail
    have hb7 : NS w2 w7:=(by first | exact Nh hbZ hb7' | exact Nh (I1 _ _).drew hb7')
    have Hr2:=Z5 (HIv.out w7 a7 k7 (Nh Hbw2.out hb7) hM7)
    clear hM7
    first | have hZb:=hZa.aa hb7' | skip
    refine hK.out _ _ ?_ (λhHeld=>?_)
    ·exact HS2.out _ hb7
    clear hK K
    try simp only [Act.put,I0,I3,I4]
    refine wpAnyH_take (i:=8) (v:=?_) (by simp only [Je,I9,Jb];rfl) (by kernel_rfl) (by kernel_rfl) (by kernel_rfl) (by exact λ_ _ _ h=>h) (JC ⟨by rfl,?_⟩) (by assumption) ?_
    rotate_left
    ·(intro w hSw;(try dsimp only at hSw);go_split_ands;go_simp;first | done | with_reducible rfl)
    try simp only [Act.put,I0,I3,I4]
    refine wpAnyH_ready (rs:=[9]) (by kernel_rfl) (by simp) ?_
    refine AllReadyH.cons rfl (λK hK=>?_) (AllReadyH.nil)
    ·go_simp
     refine (Hr2.out _ (by first | exact I1 _ _ | exact aw _ _)).mono ?_;rintro e w8 ⟨hb8',a8,k8,rfl,hM8⟩
     go_wp2_with fail
     have hb8 : NS w2 w8:=(by first | exact Nh hb7 hb8' | exact Nh (Nl hb7 _) hb8')
     first | (have hZc:=hZb.aa hb8';have z0:=hZc.cell 0 rfl;have z1:=hZc.cell 1 rfl;have f0:=hZc.frozen 0;have f1:=hZc.frozen 1) | (have hZc:=hZa.aa hb8';have z0:=hZc.cell 0 rfl;have z1:=hZc.cell 1 rfl;have f0:=hZc.frozen 0;have f1:=hZc.frozen 1) | skip
     refine hK.out _ _ ?_ (λhHeld=>?_)
     ·exact HS2.out _ hb8
     clear hK K
     try simp only [Act.put,I0,I3,I4]
     refine wpAnyH_take (i:=10) (v:=?_) (by simp only [Je,I9,Jb];rfl) (by kernel_rfl) (by kernel_rfl) (by kernel_rfl) (by exact λ_ _ _ h=>h) (JC ⟨by rfl,?_⟩) (by assumption) ?_
     rotate_left
     ·(intro w hSw;(try dsimp only at hSw);go_split_ands;go_simp;first | done | with_reducible rfl)
     try simp only [Act.put,I0,I3,I4]
     refine wpAnyH_take (i:=11) (v:=?_) (by simp only [Je,I9,Jb];rfl) (by kernel_rfl) (by kernel_rfl) (by kernel_rfl) (by exact λ_ _ _ h=>h) (JC ⟨by rfl,?_⟩) (by assumption) ?_
     rotate_left
     ·(intro w hSw;(try dsimp only at hSw);go_split_ands;go_simp;first | done | with_reducible rfl)
     try simp only [Act.put,I0,I3,I4]
     refine wpAnyH_take (i:=12) (v:=?_) (by simp only [Je,I9,Jb];rfl) (by kernel_rfl) (by kernel_rfl) (by kernel_rfl) (by exact λ_ _ _ h=>h) (JC ⟨by rfl,?_⟩) (by assumption) ?_
     rotate_left
     ·(intro w hSw;(try dsimp only at hSw);go_split_ands;go_simp;first | done | with_reducible rfl)
     try simp only [Act.put,I0,I3,I4]
     refine wpAnyH_ready (rs:=[14]) (by kernel_rfl) (by simp) ?_
     refine AllReadyH.cons rfl (λK hK=>?_) (AllReadyH.nil)
     ·go_simp
      try go_wp2_with fail
      refine hK.out _ _ ?_ (λhHeld=>?_)
      ·first | exact HS2.out _ hbZ | exact HS2.out _ ((hb8.setCell (IZ _) _).setCell (IZ _) _) | exact HS2.out _ ((hb8.setCell hb7.size _).setCell hb7.size _) | exact HS2.out _ ((hbZ.setCell hb8.size _).setCell hb8.size _) | exact HS2.out _ (Nl hb8 _)
      clear hK K
      try simp only [Act.put,I0,I3,I4]
      refine wpAnyH_take (i:=15) (v:=?_) (by simp only [Je,I9,Jb];rfl) (by kernel_rfl) (by kernel_rfl) (by kernel_rfl) (by exact λ_ _ _ h=>h) (JC ⟨by rfl,?_⟩) (by assumption) ?_
      rotate_left
      ·(intro w hSw;(try dsimp only at hSw);go_split_ands;go_simp;first | done | with_reducible rfl)
      try simp only [Act.put,I0,I3,I4]
      refine wpAnyH_done (by kernel_rfl) ?_ _
      go_wp2_with fail
      go_meet
      first
      | exact ⟨w8.heap.size,a8,k8,rfl,rfl,(Nj (g:=w8.heap.size) w8 [.int .i64 n,.slice a8 n k8] 82 rfl).cell 0 rfl,(Nj (g:=w8.heap.size) w8 [.int .i64 n,.slice a8 n k8] 82 rfl).cell 1 rfl,hM8.l7.aa (aw _ _),Nl hb8 _⟩
      | exact ⟨w2.heap.size,a8,k8,rfl,rfl,((hZc.gv 0 (.int .i64 n)).gv 1 (.slice a8 n k8)).cell 0 rfl,((hZc.gv 0 (.int .i64 n)).gv 1 (.slice a8 n k8)).cell 1 rfl,((hM8.setCell (p:=⟨w2.heap.size,0,none⟩) (by have h1:=hZb.1;simp only [];omega) _).setCell (p:=⟨w2.heap.size,1,none⟩) (by have h1:=hZb.1;simp only [];omega) _).l7,(hb8.setCell (p:=⟨w2.heap.size,0,none⟩) (IZ _) _).setCell (p:=⟨w2.heap.size,1,none⟩) (IZ _) _⟩
      | exact ⟨w7.heap.size,a8,k8,rfl,rfl,((hZc.gv 0 (.int .i64 n)).gv 1 (.slice a8 n k8)).cell 0 rfl,((hZc.gv 0 (.int .i64 n)).gv 1 (.slice a8 n k8)).cell 1 rfl,((hM8.setCell (p:=⟨w7.heap.size,0,none⟩) (by simp) _).setCell (p:=⟨w7.heap.size,1,none⟩) (by simp) _).l7,(hb8.setCell (p:=⟨w7.heap.size,0,none⟩) hb7.size _).setCell (p:=⟨w7.heap.size,1,none⟩) hb7.size _⟩
 obtain ⟨g,a2,c2,rfl,rfl,hg0,hg1,hM2,hb3⟩:=hcut;generalize wc=V6 at *;have hb13:=Nh hb12 hb3;have hbw6:=Nh Hbw2.out hb3;obtain ⟨c0,c1,c2',c3,c4,_⟩:=HS2.out V6 hb3;have hZ:=(HS.out V6 hb13).2.2.2.2.2;have z0:=hZ.cell 0 rfl;have z1:=hZ.cell 1 rfl;have f0:=hZ.frozen 0;have f1:=hZ.frozen 1;have HMl2:=Z5 (HMl.out V6 a2 c2 hbw6 hM2);have hs6:=hZ.1;clear hZ;go_wp2_with fail;refine HMl2.out.mono ?_;rintro e w9 ⟨a3,c3',rfl,hN9,hb9⟩;have hZ9:=(HS.out w9 (Nh hb13 hb9)).2.2.2.2.2;have y0:=hZ9.cell 0 rfl;have y1:=hZ9.cell 1 rfl;have g0:=hZ9.frozen 0;have g1:=hZ9.frozen 1;have HF:=Z5 (HPost.out a3 c3' ((w9.setCell ⟨w.heap.size+1,0,none⟩ (.int .i64 m)).setCell ⟨w.heap.size+1,1,none⟩ (.slice a3 n c3')) (((Nh hbw6 hb9).setCell (p:=⟨w.heap.size+1,0,none⟩) (by simp) _).setCell (p:=⟨w.heap.size+1,1,none⟩) (by simp) _)
  (((hN9.setCell (p:=⟨w.heap.size+1,0,none⟩) (by simp only [];omega) _).setCell (p:=⟨w.heap.size+1,1,none⟩) (by simp only [];omega) _).mono (by have:=hbw6.size;omega)))
 clear hZ9 c0 c1 c2' c3 c4 z0 z1 f0 f1;go_wp2_with fail;exact bodyPost_ret (v:=.tuple #[.agg #[.int .i64 m,.slice a3 n c3'],.int .i64 0]) (by simp [results,results50,go_sem,y0,y1]) rfl HF.out
theorem vG (K : Int) (a : OA) (n c : Nat) (Q : Lz) (X : Int) (w : World) (hi : Ints w a n Q) :
  Calls prog 54 #[.int .i64 K,.slice a n c,.int .i64 X] w λe w'=>e = .returned (.tuple #[.int .i64 (ql K Q X).1,.int .i64 (ql K Q X).2])/\w'=w:=by
 have Hl:=Z5 hi.len;have hpl:=hi.pl;have hmax:=hi.max;unfold maxLen at hmax;go_enter func54,ntmps54;go_upto_region 1 with fail;have bad : Dp K Q X=false->ql K Q X=(0,6):=λh=>by rw [ql,I5 (by rw [h];simp)]
 have Hbad:=Z5 bad;clear bad;have hfl : Dp K Q X=(decide (0<=K) && decide (K<=64) && decide (0<=X) && decide (X<=K) && decide (n<=64)):=by rw [Dp,Hl.out]
 by_cases h1 : K<0
 ·have d1 : decide (K<0)=true:=by simpa using h1
  have HV:=Z5 (Hbad.out (by rw [hfl];simp;omega));clear h1 hfl;go_wp2_with fail;go_ret2;exact ⟨by rw [HV.out];rfl,rfl⟩
 have d1 : decide (K<0)=false:=by simpa using h1
 by_cases h2 : 64<K
 ·have d2 : decide (64<K)=true:=by simpa using h2
  have HV:=Z5 (Hbad.out (by rw [hfl];simp;omega));clear h1 h2 hfl;go_wp2_with fail;go_ret2;exact ⟨by rw [HV.out];rfl,rfl⟩
 have d2 : decide (64<K)=false:=by simpa using h2
 by_cases h3 : X<0
 ·have d3 : decide (X<0)=true:=by simpa using h3
  have HV:=Z5 (Hbad.out (by rw [hfl];simp;omega));clear h1 h2 h3 hfl;go_wp2_with fail;go_ret2;exact ⟨by rw [HV.out];rfl,rfl⟩
 have d3 : decide (X<0)=false:=by simpa using h3
 by_cases h4 : K<X
 ·have d4 : decide (K<X)=true:=by simpa using h4
  have HV:=Z5 (Hbad.out (by rw [hfl];simp;omega));clear h1 h2 h3 h4 hfl;go_wp2_with fail;go_ret2;exact ⟨by rw [HV.out];rfl,rfl⟩
 have d4 : decide (K<X)=false:=by simpa using h4
 by_cases h5 : 64<n
 ·have d5 : decide ((64 : Int)<n)=true:=by simp;omega
  have HV:=Z5 (Hbad.out (by rw [hfl];simp;omega));clear h1 h2 h3 h4 h5 hfl;go_wp2_with fail;go_ret2;exact ⟨by rw [HV.out];rfl,rfl⟩
 have d5 : decide ((64 : Int)<n)=false:=by simp;omega
 have HB : Hid (Dp K Q X=true):=by show _=_;rw [hfl];simp;omega
 have HV2 : Hid (ql K Q X=if Q.all (qw K)=true then (dO K X Q n,0) else (0,6)):=by show _=_;rw [ql,HB.out,Hl.out];simp
 clear hfl;go_wp2_with fail;go_loop [8] (λiv=>∃k : Nat,k<=n/\iv = .int .i64 k/\Hid (∀j,j<k->qw K (nth Q j)=true)) (λiv=>n - (intOf iv).toNat);case atStart=>exact ⟨0,I7 _,rfl,λj hj=>by omega⟩
 case round =>
  obtain ⟨k,hk,rfl,hall⟩:=hrel
  by_cases hlt : k<n
  ·have ck:=hi.cell k hlt
   have Hx : Hid (∀y,nth Q k=y->qw K y=true->∀j,j<k+1->qw K (nth Q j)=true):=λy hy h j hj=>by
    by_cases e : j=k
    ·subst e;rw [hy];exact h
    ·exact hall.out j (by omega)
   have Hno : Hid (qw K (nth Q k)=false->ql K Q X=(0,6)):=λh=>by rw [HV2.out,I5];intro h2;have:=List.all_eq_true.1 h2 _ (aK (i:=k) (by rw [Hl.out];exact hlt));rw [h] at this;exact absurd this (by decide)
   obtain ⟨y,hy⟩ : ∃y,nth Q k=y:=⟨_,rfl⟩
   have Hx2:=λh=>Hx.out y hy h
   rw [hy] at ck Hno
   clear hy Hx
   by_cases q1 : y<0
   ·have e1 : decide (y<0)=true:=by simpa using q1
    have HV:=Z5 (Hno.out (by unfold qw;simp;omega))
    clear q1 Hx2
    go_wp2_with fail
    go_ret2
    exact ⟨by rw [HV.out];rfl,rfl⟩
   have e1 : decide (y<0)=false:=by simpa using q1
   by_cases q2 : K<y
   ·have e2 : decide (K<y)=true:=by simpa using q2
    have HV:=Z5 (Hno.out (by unfold qw;simp;omega))
    clear q1 q2 Hx2
    go_wp2_with fail
    go_ret2
    exact ⟨by rw [HV.out];rfl,rfl⟩
   have e2 : decide (K<y)=false:=by simpa using q2
   have Hx3:=Z5 (Hx2 (by unfold qw;simp;omega))
   clear Hx2
   go_wp2_with fail
   go_round
   case rel=>exact ⟨k+1,by omega,by go_num,Hx3.out⟩
   case measure=>simp [intOf] <;> omega
  ·have hkn : k=n:=by omega
   subst hkn
   have Hall:=Z5 hall.out
   have HV : Hid (ql K Q X=(dO K X Q k,0)):=by show _=_;rw [HV2.out,I6];rw [JO];intro x hx;obtain ⟨j,hj,rfl⟩:=List.mem_iff_getElem.1 hx;have:=hall.out j (by have:=Hl.out;omega);rwa [ai hj] at this
   go_wp2_with fail
   go_loop [9,10] (λsv iv=>∃q : Nat,q<=k/\iv = .int .i64 q/\sv = .int .i64 (dO K X Q q)) (λ_ iv=>k - (intOf iv).toNat)
   case atStart=>exact ⟨0,I7 _,rfl,rfl⟩
   case round =>
    obtain ⟨q,hq,rfl,rfl⟩:=hrel
    have hbd : 0<=dO K X Q q/\dO K X Q q<=200 * q:=vH (K:=K) (W:=X) (Q:=Q) (by omega) (by omega) (by rw [JO];intro x hx;obtain ⟨j,hj,rfl⟩:=List.mem_iff_getElem.1 hx;have:=Hall.out j (by have:=Hl.out;omega);rwa [ai hj] at this) q (by rw [Hl.out];exact hq)
    by_cases hlt2 : q<k
    ·have ck:=hi.cell q hlt2
     have hfq:=Hall.out q hlt2
     have Hst : Hid (dO K X Q (q+1)=dO K X Q q+max 0 (X+1 - (K - nth Q q))):=rfl
     obtain ⟨y,hy⟩ : ∃y,nth Q q=y:=⟨_,rfl⟩
     rw [hy] at ck Hst hfq
     have hyb : 0<=y/\y<=K:=by simpa [qw] using hfq
     clear hy hfq
     have k1 : IntKind.i64.wrap (X+1)=X+1:=Jj _ (by omega)
     have k2 : IntKind.i64.wrap (K - y)=K - y:=Jj _ (by omega)
     have k3 : IntKind.i64.wrap (X+1 - (K - y))=X+1 - (K - y):=Jj _ (by omega)
     have k4 : IntKind.i64.wrap (dO K X Q q+max 0 (X+1 - (K - y)))=dO K X Q q+max 0 (X+1 - (K - y)):=Jj _ (by omega)
     clear hbd hyb
     generalize dO K X Q q=t at *
     go_wp2_with fail
     go_round
     case rel=>exact ⟨q+1,by omega,by go_num,by rw [Hst.out];first | done | exact congrArg (Value.int .i64) ((Lv _).symm.trans k4)⟩
     case measure=>simp [intOf] <;> omega
    ·have hqk : q=k:=by omega
     subst hqk
     clear hbd
     go_wp2_with fail
     go_ret2
     exact ⟨by rw [HV.out];rfl,rfl⟩
def Ep (P M : Int) (mod : Lz) (N : Int) (L : Ll) : Int:=if aJ P M mod N L=0 then lQ (ah P M.toNat mod).q L.length else 0
def F3 (P M : Int) (mod : Lz) (N : Int) (L : Ll) : Int:=if aJ P M mod N L=0 then lO (ah P M.toNat mod).q L.length else aJ P M mod N L
theorem Bm {P M : Int} {mod : Lz} {N : Int} {L : Ll} (hE : aJ P M mod N L=0) : aN P M=((ah P M.toNat mod).q : Nat)/\(2 : Int)<=(ah P M.toNat mod).q/\((ah P M.toNat mod).q : Int)<=256:=by
 obtain ⟨m,hm,_,hq,_⟩:=fU (bl hE).1;subst hm;rw [Jd];rw [hq];have h0 : aN P m ≠ 0:=by intro h0;have h1:=(bl hE).1;unfold bp cB at h1;simp [h0] at h1
 obtain ⟨h1,h2,h3,h4,h5,h6⟩:=iU h0;refine ⟨rfl,?_,by omega⟩;rw [h6];have:=dE (show 1<=P by omega) (show 1<=(m : Int).toNat by omega);have e : P ^ 1=P:=by rw [JP,KE,Ld]
 omega
theorem xG (P M : Int) (am : OA) (mn cm : Nat) (mod : Lz) (N : Int) (a : OA) (k c : Nat) (L : Ll) (w : World) (hmod : Ints w am mn mod) (hi : ch w a k L) :
  Calls prog 56 #[.agg #[.int .i64 P,.int .i64 M,.slice am mn cm,.int .i64 N,.slice a k c]] w λe w' =>
   e = .returned (.tuple #[.int .i64 (Ep P M mod N L),.int .i64 (F3 P M mod N L)])/\NS w w':=by
 have HCk : Hid (∀V,NS w V->Calls prog 22 #[.agg #[.int .i64 P,.int .i64 M,.slice am mn cm,.int .i64 N,.slice a k c]] V λe w'=>e = .returned (.int .i64 (aJ P M mod N L))/\NS V w'):=λV hV=>by have h:=kW P M am mn cm mod N a k c L V (hmod.aa hV) (hi.aa hV) λh=>lj h;rw [tB] at h;exact h
 have hkl : L.length=k:=hi.len;go_enter func56,ntmps56;go_upto_region 1 with fail;obtain ⟨W,hW⟩ : ∃W : World,W=w.alloc (.cells #[.int .i64 P,.int .i64 M,.slice am mn cm,.int .i64 N,.slice a k c] 27):=⟨_,rfl⟩
 rw [<- hW];have hbW : NS w W:=by rw [hW];exact aw _ _
 have x0 : aZ W w.heap.size [.int .i64 P,.int .i64 M,.slice am mn cm,.int .i64 N,.slice a k c]:=by rw [hW];exact Nj _ _ _ rfl
 have HX:=Z5 x0;have c0:=x0.cell 0 rfl;have c1:=x0.cell 1 rfl;have c2:=x0.cell 2 rfl;have c3:=x0.cell 3 rfl;have c4:=x0.cell 4 rfl;clear hW x0;by_cases hE : aJ P M mod N L=0
 ·have hk256 : k<=256:=by rw [<- hkl];exact (dP hE).choose_spec.2.2.2.1
  obtain ⟨ho,hq2,hq256⟩:=Bm hE;have HV : Hid (Ep P M mod N L=lQ (ah P M.toNat mod).q k/\F3 P M mod N L=lO (ah P M.toNat mod).q k):=by show _/\_;unfold Ep F3;rw [I6 hE,I6 hE,hkl];exact ⟨rfl,rfl⟩
  rw [hE] at HCk;have HOr : Hid (∀V,Calls prog 45 #[.agg #[.int .i64 P,.int .i64 M,.slice am mn cm]] V λe w'=>e = .returned (.int .i64 ((ah P M.toNat mod).q : Nat))/\NS V w'):=λV=>by have h:=fW P M am mn cm V;rw [ho] at h;exact h
  generalize (ah P M.toNat mod).q=q at *;clear ho hE hkl;go_wp2_with (go_at_call 22;refine (HCk.out _ hbW).mono ?_;rintro e w3 ⟨rfl,hb3⟩;clear c0 c1 c2 c3 c4);have HS : Hid (∀V,NS w3 V->V.cell? ⟨w.heap.size,0,none⟩=some (.int .i64 P)/\V.cell? ⟨w.heap.size,1,none⟩=some (.int .i64 M)/\V.cell? ⟨w.heap.size,2,none⟩=some (.slice am mn cm)/\V.cell? ⟨w.heap.size,4,none⟩=some (.slice a k c)/\NS w3 V):=λV hV=>by have x3:=(HX.out.aa hb3).aa hV;exact ⟨x3.cell 0 rfl,x3.cell 1 rfl,x3.cell 2 rfl,x3.cell 4 rfl,hV⟩
  go_region_held3 (λV=>V.cell? ⟨w.heap.size,0,none⟩=some (.int .i64 P)/\V.cell? ⟨w.heap.size,1,none⟩=some (.int .i64 M)/\V.cell? ⟨w.heap.size,2,none⟩=some (.slice am mn cm)/\V.cell? ⟨w.heap.size,4,none⟩=some (.slice a k c)/\NS w3 V)
   ((refine HS.out _ ?_;first | exact (I1 _ _).drew | (go_split_ands;assumption) | (go_split_ands;exact Nh (by assumption) (by assumption))))
   (first
    | (go_at_call 45;((with_reducible refine (HOr.out _).mono ?_);rintro e w4 ⟨rfl,hb4⟩))
    | (go_at_call 108;((with_reducible refine (xg (q : Int) k _ hq2 hq256 (by omega)).mono ?_);rintro e w5 ⟨rfl,rfl⟩)))
  all_goals go_wp2_with fail
  all_goals go_ret2
  all_goals exact ⟨cR HV.out.1.symm HV.out.2.symm,Nh (Nh hbW hb3) (by go_split_ands;assumption)⟩
 ·have HV : Hid (Ep P M mod N L=0/\F3 P M mod N L=aJ P M mod N L):=by show _/\_;unfold Ep F3;rw [I5 hE,I5 hE];exact ⟨rfl,rfl⟩
  generalize aJ P M mod N L=z at *;have hz : (z != 0)=true:=by simpa using hE
  clear hE;go_wp2_with (go_at_call 22;refine (HCk.out _ hbW).mono ?_;rintro e w3 ⟨rfl,hb3⟩;clear c0 c1 c2 c3 c4);go_ret2;exact ⟨cR HV.out.1.symm HV.out.2.symm,Nh hbW hb3⟩
def Cv (lim P M : Int) (mod : Lz) (N : Int) (L : Ll) : Int:=if F3 P M mod N L=0/\Ep P M mod N L<=lim then Ep P M mod N L else 0
theorem o8 (lim P M : Int) (am : OA) (mn cm : Nat) (mod : Lz) (N : Int) (a : OA) (k c : Nat) (L : Ll) (w : World) (hmod : Ints w am mn mod) (hi : ch w a k L) :
  Calls prog 21 #[.agg #[.int .i64 P,.int .i64 M,.slice am mn cm,.int .i64 N,.slice a k c],.int .i64 lim] w λe w' =>
   e = .returned (.int .i64 (Cv lim P M mod N L))/\NS w w':=by
 have HSz : Hid (∀V,NS w V->Calls prog 56 #[.agg #[.int .i64 P,.int .i64 M,.slice am mn cm,.int .i64 N,.slice a k c]] V λe w'=>e = .returned (.tuple #[.int .i64 (Ep P M mod N L),.int .i64 (F3 P M mod N L)])/\NS V w'):=λV hV =>
  xG P M am mn cm mod N a k c L V (hmod.aa hV) (hi.aa hV)
 have HC : Hid (Cv lim P M mod N L=if F3 P M mod N L=0/\Ep P M mod N L<=lim then Ep P M mod N L else 0):=rfl;generalize Cv lim P M mod N L=z at *;generalize Ep P M mod N L=v at *;generalize F3 P M mod N L=f at *;go_enter func21,ntmps21;go_upto_region 1 with fail;obtain ⟨W,hW⟩ : ∃W : World,W=w.alloc (.cells #[.int .i64 P,.int .i64 M,.slice am mn cm,.int .i64 N,.slice a k c] 27):=⟨_,rfl⟩
 rw [<- hW];have hbW : NS w W:=by rw [hW];exact aw _ _
 have x0 : aZ W w.heap.size [.int .i64 P,.int .i64 M,.slice am mn cm,.int .i64 N,.slice a k c]:=by rw [hW];exact Nj _ _ _ rfl
 have c0:=x0.cell 0 rfl;have c1:=x0.cell 1 rfl;have c2:=x0.cell 2 rfl;have c3:=x0.cell 3 rfl;have c4:=x0.cell 4 rfl;clear hW x0;by_cases hf : f=0
 ·subst hf;by_cases hv : v<=lim
  ·have Hz : Hid (z=v):=by show _=_;rw [HC.out,I6 ⟨rfl,hv⟩]
   have hv' : decide (v > lim)=false:=by simpa using hv
   clear hv;go_wp2_with (go_at_call 56;refine (HSz.out _ hbW).mono ?_;rintro e w3 ⟨rfl,hb3⟩;clear c0 c1 c2 c3 c4);go_ret;exact ⟨aH Hz.out.symm,Nh hbW hb3⟩
  ·have Hz : Hid (z=0):=by show _=_;rw [HC.out,I5 λh=>hv h.2]
   have hv' : decide (v > lim)=true:=by simpa using hv
   clear hv;go_wp2_with (go_at_call 56;refine (HSz.out _ hbW).mono ?_;rintro e w3 ⟨rfl,hb3⟩;clear c0 c1 c2 c3 c4);go_ret;exact ⟨aH Hz.out.symm,Nh hbW hb3⟩
 ·have Hz : Hid (z=0):=by show _=_;rw [HC.out,I5 λh=>hf h.1]
  have hf' : (f != 0)=true:=by simpa using hf
  clear hf;go_wp2_with (go_at_call 56;refine (HSz.out _ hbW).mono ?_;rintro e w3 ⟨rfl,hb3⟩;clear c0 c1 c2 c3 c4);go_ret;exact ⟨aH Hz.out.symm,Nh hbW hb3⟩
end Go.Proofs.YtcfmiocdlcapoaaGreat
