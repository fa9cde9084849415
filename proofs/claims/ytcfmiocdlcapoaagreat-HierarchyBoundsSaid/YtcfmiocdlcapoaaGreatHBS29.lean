import Derived.Test.YtcfmiocdlcapoaaGreatHBS28
import Derived.Test.YtcfmiocdlcapoaaGreatHBS27
import Derived.Test.YtcfmiocdlcapoaaGreatHBS26
namespace Go.Proofs.YtcfmiocdlcapoaaGreat
set_option linter.all false
set_option maxRecDepth 100000
set_option maxHeartbeats 8000000
open Go.RowKit Go.Proofs.Tryz
theorem bf.agree {w : World} {b : Nat} {cs ds : List Value} (h : bf w b cs) (e : cs=ds) : bf w b ds:=e ▸ h
theorem yd {w w0 : World} {b : Nat} {G : cJ} {a : OA} {n : Nat} {L : ZZ} {m : Nat} {ay : OA} {ny : Nat} {C : la} (pb : Nat) (P M : Int) (am : OA) (mn cm c cy : Nat)
  (ax : OA) (nx cx : Nat) (ts : ZZ) (E : AU w0 b G a n L m ay ny C) (hts : cU w0 ax nx ts) (hpb : w0.heap.size<=pb) (hb : Rs w0 w) (hB : bf w pb (nf b P M am mn cm m a n c ay ny cy C (.slice none 0 0) 0)) :
  Calls prog 188 #[.pointer (some ⟨pb,0,none⟩),.agg #[.slice ax nx cx]] w λe w'=>e = .returned (.int .i64 (CQ G.ops L m C ts))/\Rs w0 w':=by
 have Htl:=Z5 hts.len;obtain ⟨PR,hPR⟩ : ∃PR,CQ G.ops L m C ts=PR:=⟨_,rfl⟩
 rw [hPR];have HPR:=Z5 hPR;clear hPR;have hb1 : Rs w (w.alloc (.cells #[.slice ax nx cx] 47)):=aB _ _;have hBa:=hB.ah hb1;have f10:=hBa.frozen 10;have q10:=hBa.cell 10 rfl;have hsb : pb<w.heap.size:=hB.1;go_enter func188,ntmps188;go_wp2_with fail;obtain ⟨Z,hZ⟩ : ∃Z : World,Z=(w.setCell ⟨pb,10,none⟩ (.slice ax nx cx)).alloc (.cells #[.slice ax nx cx] 47):=⟨_,rfl⟩
 rw [<- hZ];have hBZ : bf Z pb (nf b P M am mn cm m a n c ay ny cy C (.slice ax nx cx) 0):=by rw [hZ];exact (hB.setCell 10 (.slice ax nx cx)).alloc _
 have hbZ : Rs w0 Z:=by rw [hZ];exact QQ (hb.setCell hpb _) (aB _ _)
 clear hZ hBa f10 q10 hB;refine (qA pb P M am mn cm c cy ax nx cx ts E hts hpb C.W Z 0 none 0 0 [] none 0 0 [] (by omega) (by omega) (by omega) hbZ hBZ (QX _ _) (QX _ _) (λh=>by omega) (λh=>by omega) (by simp) (λx hx=>by simp at hx)).mono ?_;rintro e w5 ⟨k',g1,g2,g3,he,g5⟩;have hb5 : Rs w0 w5:=hbZ.trans (g3.below (λx hx=>by rw [hx];exact hpb) hbZ.size);rw [Ps] at g5 he;have c10:=g2.cell 10 rfl;have c11:=g2.cell 11 rfl;have hP2 : PR=match ld G.ops L m C C.W [] [] ts with | some []=>0 | _=>13:=by rw [<- HPR.out];rfl
 cases hf : ld G.ops L m C C.W [] [] ts with
 | none =>
  rw [hf] at hP2 he
  have HP:=Z5 hP2
  have he' : e = .returned (.int .i64 13):=he
  subst he'
  clear hf hP2 g5 he
  have hd : ((13 : Int) == 0)=false:=rfl
  go_wp2_with fail
  go_quiet (fail)
  go_wp2_with fail
  go_ret
  exact ⟨by rw [HP.out];rfl,hb5.trans (QO (Q1 ⟨_,rfl⟩) hb5.size)⟩
 | some r =>
  rw [hf] at hP2 g5 he
  have he' : e = .returned (.int .i64 0):=he
  subst he'
  clear he
  have g6 : ts.drop k'=r:=g5 rfl
  have hlen : r.length=nx - k':=by rw [<- g6,NQ,Htl.out]
  rw [Htl.out] at g1
  by_cases hk : k'<nx
  ·have HP : Hid (PR=13):=by
    show _=_;rw [hP2];cases r with
    | nil=>simp at hlen;omega
    | cons x r=>rfl
   have hd : decide ((k' : Int)<(nx : Int))=true:=by simp;omega
   clear hf hP2 g5 g6 hlen
   go_wp2_with fail
   go_quiet (fail)
   go_wp2_with fail
   go_ret
   exact ⟨by rw [HP.out];rfl,hb5.trans (QO (Q1 ⟨_,rfl⟩) hb5.size)⟩
  ·have HP : Hid (PR=0):=by
    show _=_;rw [hP2];cases r with
    | nil=>rfl
    | cons x r=>simp at hlen;omega
   have hd : decide ((k' : Int)<(nx : Int))=false:=by simp;omega
   clear hf hP2 g5 g6 hlen
   go_wp2_with fail
   go_quiet (fail)
   go_wp2_with fail
   go_ret
   exact ⟨by rw [HP.out];rfl,hb5.trans (QO (Q1 ⟨_,rfl⟩) hb5.size)⟩
def Cx (w0 : World) (V : Int × ZZ) (e : Ending) (w' : World) : Prop :=
 Rs w0 w'/\((V.1 ≠ 0/\e = .returned (.tuple #[.agg #[.slice none 0 0],.int .i64 V.1])) \/
  (V.1=0/\∃ar cr R,e = .returned (.tuple #[.agg #[.slice ar V.2.length cr],.int .i64 0])/\aY w' w0.heap.size ar V.2.length cr R V.2))
theorem A5 {w w0 : World} {b : Nat} {G : cJ} {a : OA} {n : Nat} {L : ZZ} {m : Nat} {ay : OA} {ny : Nat} {C : la} (pb : Nat) (P M : Int) (am : OA) (mn cm c cy : Nat)
  (E : AU w0 b G a n L m ay ny C) (hpb : w0.heap.size<=pb) (hb : Rs w0 w) (hB : bf w pb (nf b P M am mn cm m a n c ay ny cy C (.slice none 0 0) 0)) :
  Calls prog 185 #[.pointer (some ⟨pb,0,none⟩)] w (Cx w0 (uR G.ops L m C)):=by
 obtain ⟨V,hV⟩ : ∃V,uR G.ops L m C=V:=⟨_,rfl⟩
 rw [hV];have HV:=Z5 hV;clear hV;have hsb : pb<w.heap.size:=hB.1;go_enter func185,ntmps185;go_wp2_with fail;obtain ⟨U,hU⟩ : ∃U : World,U=w.alloc (.cells #[.slice none 0 0] 47):=⟨_,rfl⟩
 rw [<- hU];have hbU : Rs w U:=by rw [hU];exact aB _ _
 have hsU : U.heap.size=w.heap.size+1:=by rw [hU];simp
 have x0 : bf U w.heap.size [.slice none 0 0]:=by rw [hU];exact QS _ _ _ rfl
 have hBU:=hB.ah hbU;have hb0U : Rs w0 U:=hb.trans (hbU.mono hb.size);clear hU hB;have hM0 : kX U w0.heap.size pb b P M am mn cm m a n c ay ny cy C ⟨none,0,[],[]⟩:=⟨hBU,aY.empty U _,λh=>by
  rcases h with ⟨h1,_⟩ | ⟨i,hi,_⟩
  ·exact h1 rfl
  ·simp at hi,by simp⟩
 refine (ql pb P M am mn cm c cy E hpb C.W U ⟨none,0,[],[]⟩ none 0 0 [] none 0 0 [] (by omega) (by omega) hb0U hM0 (QX _ _) (QX _ _) (λh=>by omega) (λh=>by omega) (by simp) (λx hx=>by simp at hx)).mono ?_;rintro e w5 ⟨σ',g1,g2,g3,g4,rfl,g6⟩;have hVe : ko G.ops L m C C.W [] [] []=V:=HV.out;rw [hVe] at g6 ⊢;have hgn : ¬ (⟨none,0,[],[]⟩ : pF).J pb w.heap.size:=λh=>by
  rcases h with h | ⟨h1,_⟩ | ⟨i,hi,_⟩
  ·omega
  ·exact h1 rfl
  ·simp at hi
 have hb5 : Rs w0 w5:=hb0U.trans (g4.below (λx hx=>by
  rcases hx with h | ⟨h1,_⟩ | ⟨i,hi,_⟩
  ·rw [h];exact hpb
  ·exact absurd rfl h1
  ·simp at hi) hb0U.size)
 have x5:=x0.cQ g4 hgn;have z0:=x5.cell 0 rfl;have f0:=x5.frozen 0;have hgn5 : ¬ bS σ'.ar σ'.R w.heap.size:=λh=>g4.not x0.1 hgn (.inr h);have hszw:=hb.size;obtain ⟨ve,vt⟩:=V;dsimp only at g6 ⊢;by_cases hve : ve=0
 ·subst hve;have ht : σ'.T=vt:=g6 rfl;have hF : ∀v : Value,Rs w0 (w5.setCell ⟨w.heap.size,0,none⟩ v)/\aY (w5.setCell ⟨w.heap.size,0,none⟩ v) w0.heap.size σ'.ar vt.length σ'.cr σ'.R vt:=λv=>by refine ⟨hb5.setCell hszw _,?_⟩;rw [<- ht];exact g1.om.bu λx hx=>MB _ _ _ _ λe=>hgn5 (by have e' : x=w.heap.size:=e;rw [<- e'];exact hx)
  have HF:=Z5 hF;have p10:=g1.box.cell 10 rfl;rw [ht] at p10;clear g1 g2 g3 g4 g6 hF ht;go_wp2_with fail;have z1 : (w5.setCell ⟨w.heap.size,0,none⟩ (.slice σ'.ar vt.length σ'.cr)).cell? ⟨w.heap.size,0,none⟩=some (.slice σ'.ar vt.length σ'.cr):=Mw _ _ _ z0;exact bodyPost_ret (v:=.tuple #[.agg #[.slice σ'.ar vt.length σ'.cr],.int .i64 0]) (by simp [results,results185,go_sem,z0,z1]) rfl ⟨(HF.out _).1,.inr ⟨rfl,σ'.ar,σ'.cr,σ'.R,rfl,(HF.out _).2⟩⟩
 ·have hve' : (ve != 0)=true:=by simpa using hve
  have Hne:=Z5 hve;have HF:=Z5 (λv : Value=>hb5.setCell (p:=⟨w.heap.size,0,none⟩) hszw v);clear g1 g2 g3 g4 g6 hve;go_wp2_with fail;have z1 : (w5.setCell ⟨w.heap.size,0,none⟩ (.slice none 0 0)).cell? ⟨w.heap.size,0,none⟩=some (.slice none 0 0):=Mw _ _ _ z0;exact bodyPost_ret (v:=.tuple #[.agg #[.slice none 0 0],.int .i64 ve]) (by simp [results,results185,go_sem,z0,z1]) rfl ⟨HF.out _,.inl ⟨Hne.out,rfl⟩⟩
section
open Go.RowKit
end
section
open Go.RowKit
end
def fI (G : cJ) (m : Nat) (L : ZZ) (S : Lz) : ZZ:=sy G.ops m L (aL false S m)
def nm (P M : Int) (mod : Lz) (m : Nat) (L : ZZ) (S : Lz) (w : World) (e : Ending) (w' : World) : Prop :=
 Rs w w'/\((bG m S=false/\e = .returned (.tuple #[.agg #[.int .i64 0,.slice none 0 0],.int .i64 6])) \/
  (bG m S=true/\∃a1 c1,e = .returned (.tuple #[.agg #[.int .i64 m,.slice a1 (fI (aa P M.toNat mod) m L S).length c1],.int .i64 0])/\bX w.heap.size w' a1 (fI (aa P M.toNat mod) m L S).length (fI (aa P M.toNat mod) m L S)))
theorem qV {P M : Int} {mod : Lz} {m : Nat} {L : ZZ} (hB : bQ P M mod=true) (hR : bx (aa P M.toNat mod).El m L) (hm : m<=256) (hL : L.length<=256) : ef P M mod m L=0:=by
 unfold ef;rw [Mg hB];unfold eZ;rw [Mh (by omega)];have h1 : iy m L=true:=by unfold iy;rw [MX];intro r hr;have:=(hR r hr).1;simp;omega
 rw [Mh (by rw [h1];decide)];have h2 : L.all (kD (aa P M.toNat mod).q)=true:=by rw [MX];intro r hr;unfold kD;rw [MX];intro x hx;have:=(hR r hr).2 x hx;have h3 : 0<=x/\x<((aa P M.toNat mod).q : Int):=this;unfold jO;simp;exact h3
 rw [Mg h2]
theorem wh {P M : Int} {mod : Lz} {m : Nat} {L : ZZ} (hE : aH P M mod m L=0) : L.length<=m:=by obtain ⟨_,_,_,h4⟩:=bL hE;obtain ⟨_,h6⟩:=dK h4;rw [Mm] at h6;rw [<- h6,iW];exact (fH _ _ _).1
theorem bf.KD {w : World} {g : Nat} {x y : Value} (h : bf w g [x,y]) (u : Value) : bf (w.setCell ⟨g,0,none⟩ u) g [u,y]:=by
 have hc0:=h.cell 0 rfl;have hc1:=h.cell 1 rfl;refine ⟨by have:=h.1;simpa using this,λi v hv=>?_,λi=>by rw [MW];exact h.2.2 i⟩;match i,hv with
 | 0,hv=>simp at hv;subst hv;exact Mw w _ _ hc0
 | 1,hv=>simp at hv;subst hv;rw [MA _ _ _ _ (by simp)];exact hc1
 | i+2,hv=>simp at hv
theorem bf.Lx {w : World} {g : Nat} {x y : Value} (h : bf w g [x,y]) (u : Value) : bf (w.setCell ⟨g,1,none⟩ u) g [x,u]:=by
 have hc0:=h.cell 0 rfl;have hc1:=h.cell 1 rfl;refine ⟨by have:=h.1;simpa using this,λi v hv=>?_,λi=>by rw [MW];exact h.2.2 i⟩;match i,hv with
 | 0,hv=>simp at hv;subst hv;rw [MA _ _ _ _ (by simp)];exact hc0
 | 1,hv=>simp at hv;subst hv;exact Mw w _ _ hc1
 | i+2,hv=>simp at hv
def n9 (m : Int) (D : ZZ) (w : World) (e : Ending) (w' : World) : Prop :=
 ∃a c,e = .returned (.tuple #[.agg #[.int .i64 m,.slice a D.length c],.int .i64 0])/\bX w.heap.size w' a D.length D/\Rs w w'
theorem uc (P M : Int) (am : OA) (mn cm : Nat) (mod : Lz) (m : Nat) (a : OA) (n c : Nat) (L : ZZ) (as' : OA) (ns cs : Nat) (S : Lz) (w : World) (hmod : Ints w am mn mod) (hi : cU w a n L) (hs : Ints w as' ns S)
  (hE : aH P M mod m L=0) :
  Calls prog 84 #[.agg #[.int .i64 P,.int .i64 M,.slice am mn cm],.agg #[.int .i64 m,.slice a n c],.slice as' ns cs] w (nm P M mod m L S w):=by
 obtain ⟨N',em,hm1,hm64,F,hR⟩:=aS hE;obtain rfl : m=N':=by omega
 obtain ⟨hB,_,_,hE4⟩:=bL hE;have hle:=wh hE;have hnl : L.length=n:=hi.len;have hZl:=fM false S m;have hZm : ∀j,j<(aL false S m).length->0<=nth (aL false S m) j/\nth (aL false S m) j<m:=λj hj=>by obtain ⟨i,h1,h2,_⟩:=(bh m).1 (aN hj);omega
 have hPk : bx (aa P M.toNat mod).El (aL false S m).length (L.map (aO (aL false S m))):=lQ hR hZm;have hT:=mO (Z:=aL false S m) F hR;have hK : bx (aa P M.toNat mod).El L.length (iO (aa P M.toNat mod).ops L.length ((List.range (aL false S m).length).map (aK (L.map (aO (aL false S m)))))):=jn F hT;have hKl : (iO (aa P M.toNat mod).ops L.length ((List.range (aL false S m).length).map (aK (L.map (aO (aL false S m)))))).length<=L.length:=by unfold iO;have h1:=bY F (gU F (dH F hT) (db F hT).1 (bY F hT));have h2:=(fH (aa P M.toNat mod).ops (dO (aa P M.toNat mod).ops L.length (dX (aa P M.toNat mod).ops L.length ((List.range (aL false S m).length).map (aK (L.map (aO (aL false S m)))))) (aC (aa P M.toNat mod).ops ((List.range (aL false S m).length).map (aK (L.map (aO (aL false S m))))) L.length).2 L.length) L.length).1;omega
 have hMr:=my F hR hK;have HC : Hid (∀V ao co,Rs w V->Ints V ao (aL false S m).length (aL false S m)->Calls prog 155 #[.agg #[.int .i64 P,.int .i64 M,.slice am mn cm],.agg #[.int .i64 m,.slice a n c],.slice ao (aL false S m).length co] V (n9 (aL false S m).length (L.map (aO (aL false S m))) V)):=λV ao co hV h1=>by refine (qG P M am mn cm mod m a n c L ao _ co _ V (hmod.ah hV) (hi.ah hV) h1 hE hZm (by omega)).mono ?_;rintro e w' ⟨a1,c1,rfl,h2,h3⟩;exact ⟨a1,c1,by rw [Mx,hnl],by rw [Mx,hnl];exact h2,h3⟩
 have HT : Hid (∀V a1 c1,Rs w V->cU V a1 (L.map (aO (aL false S m))).length (L.map (aO (aL false S m)))->Calls prog 156 #[.agg #[.int .i64 P,.int .i64 M,.slice am mn cm],.agg #[.int .i64 ((aL false S m).length : Nat),.slice a1 (L.map (aO (aL false S m))).length c1]] V (n9 n ((List.range (aL false S m).length).map (aK (L.map (aO (aL false S m))))) V)):=λV a1 c1 hV h1=>by refine (uo P M am mn cm mod _ a1 _ c1 _ V (hmod.ah hV) h1 (qV hB hPk (by omega) (by rw [Mx];omega))).mono ?_;rintro e w' ⟨a2,c2,rfl,h2,h3⟩;exact ⟨a2,c2,by rw [Mx,Mx,OT,hnl],by rw [Mx,OT];exact h2,h3⟩
 have HK : Hid (∀V a1 c1,Rs w V->cU V a1 ((List.range (aL false S m).length).map (aK (L.map (aO (aL false S m))))).length ((List.range (aL false S m).length).map (aK (L.map (aO (aL false S m)))))->Calls prog 77 #[.agg #[.int .i64 P,.int .i64 M,.slice am mn cm],.agg #[.int .i64 n,.slice a1 ((List.range (aL false S m).length).map (aK (L.map (aO (aL false S m))))).length c1]] V (n9 n (iO (aa P M.toNat mod).ops L.length ((List.range (aL false S m).length).map (aK (L.map (aO (aL false S m)))))) V)):=λV a1 c1 hV h1=>by rw [<- hnl];exact yD P M am mn cm mod L.length a1 _ c1 _ V (hmod.ah hV) h1 (qV hB hT (by omega) (by rw [Mx,OT];omega)) (by omega)
 have HM : Hid (∀V a1 c1,Rs w V->cU V a1 (iO (aa P M.toNat mod).ops L.length ((List.range (aL false S m).length).map (aK (L.map (aO (aL false S m)))))).length (iO (aa P M.toNat mod).ops L.length ((List.range (aL false S m).length).map (aK (L.map (aO (aL false S m))))))->Calls prog 157 #[.agg #[.int .i64 P,.int .i64 M,.slice am mn cm],.agg #[.int .i64 n,.slice a1 (iO (aa P M.toNat mod).ops L.length ((List.range (aL false S m).length).map (aK (L.map (aO (aL false S m)))))).length c1],.agg #[.int .i64 m,.slice a n c]] V
   (n9 m (pC (aa P M.toNat mod).ops m (iO (aa P M.toNat mod).ops L.length ((List.range (aL false S m).length).map (aK (L.map (aO (aL false S m)))))) L) V)):=λV a1 c1 hV h1=>by refine (Dg P M am mn cm mod n a1 _ c1 _ m a c L V (hmod.ah hV) h1 (hi.ah hV) hB (by rw [<- hnl];exact hK) hR (by omega) hm1 hm64 (by omega)).mono ?_;rintro e w' ⟨a2,c2,rfl,h2,h3⟩;exact ⟨a2,c2,by simp [pC],by simpa [pC] using h2,h3⟩
 have HN : Hid (∀V a1 c1,Rs w V->cU V a1 (pC (aa P M.toNat mod).ops m (iO (aa P M.toNat mod).ops L.length ((List.range (aL false S m).length).map (aK (L.map (aO (aL false S m)))))) L).length (pC (aa P M.toNat mod).ops m (iO (aa P M.toNat mod).ops L.length ((List.range (aL false S m).length).map (aK (L.map (aO (aL false S m)))))) L) ->
   Calls prog 158 #[.agg #[.int .i64 P,.int .i64 M,.slice am mn cm],.agg #[.int .i64 m,.slice a1 (pC (aa P M.toNat mod).ops m (iO (aa P M.toNat mod).ops L.length ((List.range (aL false S m).length).map (aK (L.map (aO (aL false S m)))))) L).length c1]] V λe w' =>
    ∃a2 c2 ap cp,e = .returned (.tuple #[.agg #[.int .i64 m,.slice a2 (fI (aa P M.toNat mod) m L S).length c2],.slice ap (fI (aa P M.toNat mod) m L S).length cp,.int .i64 0])/\bX V.heap.size w' a2 (fI (aa P M.toNat mod) m L S).length (fI (aa P M.toNat mod) m L S)/\Rs V w'):=λV a1 c1 hV h1=>by
  refine (ki P M am mn cm mod m a1 _ c1 _ V (hmod.ah hV) h1).mono ?_;have hf:=qV hB hMr (by omega) (by simp [pC];omega);rintro e w' ⟨hb1,⟨h0,_⟩ | ⟨_,m',hm',a2,c2,ap,cp,rfl,hN1,_⟩⟩
  ·exact absurd hf h0
  ·obtain rfl : m=m':=by omega
   rw [<- iW] at hN1 ⊢;exact ⟨a2,c2,ap,cp,rfl,hN1,hb1⟩
 have HPost : Hid (∀a1 c1 w',bG m S=true->bX w.heap.size w' a1 (fI (aa P M.toNat mod) m L S).length (fI (aa P M.toNat mod) m L S)->Rs w w'->nm P M mod m L S w (.returned (.tuple #[.agg #[.int .i64 m,.slice a1 (fI (aa P M.toNat mod) m L S).length c1],.int .i64 0])) w'):=λa1 c1 w' h0 h1 h2=>⟨h2,.inr ⟨h0,a1,c1,rfl,h1⟩⟩
 have HErr : Hid (∀w',bG m S=false->Rs w w'->nm P M mod m L S w (.returned (.tuple #[.agg #[.int .i64 0,.slice none 0 0],.int .i64 6])) w'):=λw' h0 h2=>⟨h2,.inl ⟨h0,rfl⟩⟩
 unfold n9 at HC HT HK HM;obtain ⟨D5,hD5⟩ : ∃D,fI (aa P M.toNat mod) m L S=D:=⟨_,rfl⟩
 rw [hD5] at HN HPost;obtain ⟨D4,hD4⟩ : ∃D,pC (aa P M.toNat mod).ops m (iO (aa P M.toNat mod).ops L.length ((List.range (aL false S m).length).map (aK (L.map (aO (aL false S m)))))) L=D:=⟨_,rfl⟩
 rw [hD4] at HM HN;obtain ⟨D3,hD3⟩ : ∃D,iO (aa P M.toNat mod).ops L.length ((List.range (aL false S m).length).map (aK (L.map (aO (aL false S m)))))=D:=⟨_,rfl⟩
 rw [hD3] at HK HM;obtain ⟨D2,hD2⟩ : ∃D,(List.range (aL false S m).length).map (aK (L.map (aO (aL false S m))))=D:=⟨_,rfl⟩
 rw [hD2] at HT HK;obtain ⟨D1,hD1⟩ : ∃D,L.map (aO (aL false S m))=D:=⟨_,rfl⟩
 rw [hD1] at HC HT;have HG1 : Hid (∀k : Nat,decide ((k : Int) ∈ S)=false->aL false S (k+1)=aL false S k ++ [(k : Int)]):=λk h=>by rw [aL,Mg h]
 have HG2 : Hid (∀k : Nat,decide ((k : Int) ∈ S)=true->aL false S (k+1)=aL false S k):=λk h=>by rw [aL,Mh (by rw [h];decide)]
 have HGl : Hid (∀k,(aL false S k).length<=k):=λk=>fM _ _ _;obtain ⟨Z,hZ⟩ : ∃Z,aL false S=Z:=⟨_,rfl⟩
 rw [hZ] at HC HT HG1 HG2 HGl;have HZ0 : Hid (Z 0=[]):=by rw [<- hZ];rfl
 clear hD1 hD2 hD3 hD4 hD5 hZ hMr hKl hK hT hPk hZm hZl hB F hR hE;have Hsl:=Z5 hs.len;have hpls:=hs.pl;have hmaxs:=hs.max;unfold maxLen at hmaxs;go_enter func84,ntmps84;go_wp2_with fail;obtain ⟨W,hW⟩ : ∃W : World,W=((w.alloc (.cells #[.int .i64 P,.int .i64 M,.slice am mn cm] 24)).alloc (.cells #[.int .i64 m,.slice a n c] 82)).alloc (.cells #[.int .i64 0,.slice none 0 0] 82):=⟨_,rfl⟩
 rw [<- hW];have hbW : Rs w W:=by rw [hW];exact tu _ _ _ _
 have hsW : W.heap.size=w.heap.size+3:=by rw [hW];simp
 have x0 : bf W w.heap.size [.int .i64 P,.int .i64 M,.slice am mn cm]:=by rw [hW];exact ((QS _ _ _ rfl).alloc _).alloc _
 have y0 : bf W (w.heap.size+1) [.int .i64 m,.slice a n c]:=by rw [hW];exact (QS _ _ _ (by simp)).alloc _
 have z0 : bf W (w.heap.size+1+1) [.int .i64 0,.slice none 0 0]:=by rw [hW];exact QS _ _ _ (by simp)
 have HS : Hid (∀V,Rs W V->V.cell? ⟨w.heap.size,0,none⟩=some (.int .i64 P)/\V.cell? ⟨w.heap.size,1,none⟩=some (.int .i64 M)/\V.cell? ⟨w.heap.size,2,none⟩=some (.slice am mn cm)/\V.cell? ⟨w.heap.size+1,0,none⟩=some (.int .i64 m)/\V.cell? ⟨w.heap.size+1,1,none⟩=some (.slice a n c) /\
   V.cell? ⟨w.heap.size+1+1,0,none⟩=some (.int .i64 0)/\V.cell? ⟨w.heap.size+1+1,1,none⟩=some (.slice none 0 0)/\V.frozen? ⟨w.heap.size+1+1,0,none⟩=false/\V.frozen? ⟨w.heap.size+1+1,1,none⟩=false):=λV hV=>by have x1:=x0.ah hV;have y1:=y0.ah hV;have z1:=z0.ah hV;exact ⟨x1.cell 0 rfl,x1.cell 1 rfl,x1.cell 2 rfl,y1.cell 0 rfl,y1.cell 1 rfl,z1.cell 0 rfl,z1.cell 1 rfl,z1.frozen 0,z1.frozen 1⟩
 have HbW:=Z5 hbW;have HsW:=Z5 hsW;have HEr2 : Hid (∀V,bG m S=false->Rs W V->nm P M mod m L S w (.returned (.tuple #[.agg #[.int .i64 0,.slice none 0 0],.int .i64 6])) ((V.setCell ⟨w.heap.size+1+1,0,none⟩ (.int .i64 0)).setCell ⟨w.heap.size+1+1,1,none⟩ (.slice none 0 0))):=λV h0 hV=>HErr.out _ h0 (((QQ hbW hV).setCell (p:=⟨w.heap.size+1+1,0,none⟩) (by simp;omega) _).setCell (p:=⟨w.heap.size+1+1,1,none⟩) (by simp;omega) _);clear hW x0 y0 z0;refine (mS P M am mn cm mod m a n c L W (hmod.ah hbW) (hi.ah hbW)).mono ?_;rintro e w1 ⟨hb1,⟨h0,_⟩ | ⟨_,m',b,em',ap,cp,rfl,_,_,_⟩⟩
 ·exact absurd hE4 h0
 obtain rfl : m=m':=by omega
 generalize (ee (aa P M.toNat mod) L m).length=k9 at *;have HEs:=Z5 hE4;clear hE4;go_upto_region 4 with fail;obtain ⟨X,hX⟩ : ∃X,w1.alloc (.cells #[.pointer (some ⟨b,0,none⟩),.int .i64 m,.slice a n c,.slice ap k9 cp] 162)=X:=⟨_,rfl⟩
 rw [hX];have hbX : Rs W X:=by rw [<- hX];exact QQ hb1 (aB _ _)
 clear hX hb1;obtain ⟨q0,q1,q2,q3,q4,z3,z4,f3,f4⟩:=HS.out X hbX;go_wp2_with fail;go_loop [32] (λiv=>∃j : Nat,j<=ns/\iv = .int .i64 j/\Hid (nc m S j=true)) (λiv=>ns - (intOf iv).toNat);case atStart=>exact ⟨0,Mj _,rfl,by show _=_;simp [nc]⟩
 case round =>
  obtain ⟨j,hj,rfl,hok⟩:=hrel
  have hsX:=(hs.ah hbW).ah hbX
  by_cases hlt2 : j<ns
  ·have cj:=hsX.cell j hlt2
   have Hbad : Hid (gq m S j=false->bG m S=false):=λhb=>xM (by rw [Hsl.out];exact hlt2) hb
   by_cases h0 : 0<=nth S j
   ·by_cases h1 : nth S j<m
    ·have d1 : decide (nth S j<0)=false:=by simp;omega
     have d2 : decide ((m : Int)<=nth S j)=false:=by simp;omega
     by_cases hj0 : j=0
     ·subst hj0
      have Hgood : Hid (gq m S 0=true):=by show _=_;unfold gq;simp [h0,h1]
      rw [Pm] at cj
      go_wp2_with fail
      go_round
      case rel=>exact ⟨1,by omega,by go_num,gL hok.out Hgood.out⟩
      case measure=>simp [intOf] <;> omega
     ·have cp':=hsX.cell (j - 1) (by omega)
      have e1 : ((j : Int) - 1).toNat=j - 1:=by omega
      have d3 : decide (0<(j : Int))=true:=by simp;omega
      have d4 : (0 : Int)<=(j : Int) - 1:=by omega
      have d5 : (1 : Int)<=(j : Int):=by omega
      have d6 : (j : Int) - 1<ns:=by omega
      by_cases h2 : nth S (j - 1)<nth S j
      ·have Hgood : Hid (gq m S j=true):=by show _=_;unfold gq;simp [h0,h1,h2]
       have h2' : decide (nth S j<=nth S (j - 1))=false:=by simp;omega
       clear hj0 e1
       go_wp2_with fail
       go_round
       case rel=>exact ⟨j+1,by omega,by go_num,gL hok.out Hgood.out⟩
       case measure=>simp [intOf] <;> omega
      ·have Hb : Hid (bG m S=false):=Hbad.out (by unfold gq;simp [h2,hj0])
       have h2' : decide (nth S j<=nth S (j - 1))=true:=by simp;omega
       clear hj0 e1
       have HR:=Z5 (HEr2.out X Hb.out hbX)
       go_wp2_with fail
       exact bodyPost_ret (v:=.tuple #[.agg #[.int .i64 0,.slice none 0 0],.int .i64 6]) (by simp [results,results84,go_sem,z3,z4]) rfl HR.out
    ·have Hb : Hid (bG m S=false):=Hbad.out (by unfold gq;simp [h1])
     have d1 : decide (nth S j<0)=false:=by simp;omega
     have d2 : decide ((m : Int)<=nth S j)=true:=by simp;omega
     have HR:=Z5 (HEr2.out X Hb.out hbX)
     go_wp2_with fail
     exact bodyPost_ret (v:=.tuple #[.agg #[.int .i64 0,.slice none 0 0],.int .i64 6]) (by simp [results,results84,go_sem,z3,z4]) rfl HR.out
   ·have Hb : Hid (bG m S=false):=Hbad.out (by unfold gq;simp [h0])
    have d1 : decide (nth S j<0)=true:=by simp;omega
    have HR:=Z5 (HEr2.out X Hb.out hbX)
    go_wp2_with fail
    exact bodyPost_ret (v:=.tuple #[.agg #[.int .i64 0,.slice none 0 0],.int .i64 6]) (by simp [results,results84,go_sem,z3,z4]) rfl HR.out
  ·obtain rfl : j=ns:=by omega
   have Hg : Hid (bG m S=true):=by show _=_;rw [bG,Hsl.out];exact hok.out
   have HP2 : Hid (∀a1 c1 w',bX w.heap.size w' a1 D5.length D5->Rs w w'->nm P M mod m L S w (.returned (.tuple #[.agg #[.int .i64 m,.slice a1 D5.length c1],.int .i64 0])) w'):=λa1 c1 w' h1 h2=>HPost.out a1 c1 w' Hg.out h1 h2
   clear HPost HErr HEr2 z3 z4 f3 f4
   go_wp2_with fail
   go_loopw [12,62] (λov iv wr=>∃(k g : Nat) (a1 : OA) (c1 : Nat),k<=m/\iv = .int .i64 k/\Hid ((Z k).length=g)/\ov = .slice a1 g c1/\wr.ownsRow X.heap.size 3 1 (.slice a1 g c1) g ((Z k).map (Value.int .i64))/\Rs X wr) (λ_ iv _=>m - (intOf iv).toNat)
   case atStart=>exact ⟨0,0,none,0,Mj _,rfl,by show _=_;rw [HZ0.out];rfl,rfl,by rw [HZ0.out];exact bP,Mi _ _⟩
   case round =>
    obtain ⟨k,g,a1,c1,hk,rfl,Hg2,rfl,hown,hbr⟩:=hrel
    by_cases hlt : k<m
    ·have hgk : g<=64:=by have h:=HGl.out k;rw [Hg2.out] at h;omega
     have hcont:=bI as' j cs S k wr (hsX.ah hbr)
     have hG1:=HG1.out k
     have hG2:=HG2.out k
     obtain ⟨b2,hb2⟩ : ∃b2,decide ((k : Int) ∈ S)=b2:=⟨_,rfl⟩
     rw [hb2] at hcont hG1 hG2
     have Hcont:=Z5 hcont
     clear hb2 hcont
     cases b2
     ·have Hn:=Z5 (hG1 rfl)
      clear hG1 hG2
      have hsz:=hbr.size
      have hcn:=bm wr (.int .i64 k) 3
      have hbn:=aB wr (.cells #[.int .i64 k] 3)
      go_wp2_with (first | (go_at_call 68;refine Hcont.out.mono ?_;rintro e w3 ⟨rfl,rfl⟩) | (at_builtin;refine bj rfl _ _ 22 3 rfl (.int .i64 0) 8 underlying22 bt rfl X.heap.size a1 g c1 _ rfl (hown.alloc _) ⟨w3.heap.size,0,none⟩ 1 (.int .i64 k) rfl hcn rfl (by omega) (by unfold maxLen;omega) (by simp;omega) ?_;intro a5 c5 w5 hown5 hgr5 hap5))
      go_roundw
      case rel =>
       refine ⟨k+1,g+1,a5,c5,by omega,by go_num,by show _=_;rw [Hn.out,Mp,Hg2.out];rfl,rfl,by rw [Hn.out];simpa using hown5,QT (Q3 hbr _) (hown.alloc _) hgr5 (Mf _) (Q3 hbr _).size⟩
      case measure=>simp [intOf] <;> omega
     ·have Hn:=Z5 (hG2 rfl)
      clear hG1 hG2
      go_wp2_with (go_at_call 68;refine Hcont.out.mono ?_;rintro e w3 ⟨rfl,rfl⟩)
      go_roundw
      case rel=>exact ⟨k+1,g,a1,c1,by omega,by go_num,by show _=_;rw [Hn.out];exact Hg2.out,rfl,by rw [Hn.out];exact hown,hbr⟩
      case measure=>simp [intOf] <;> omega
    ·obtain rfl : k=m:=by omega
     have HCx:=HC.out wr a1 c1 (QQ hbW (QQ hbX hbr)) (by rw [Hg2.out];exact (QR hown).1)
     rw [Hg2.out] at HCx
     have HCX:=Z5 HCx
     rw [Hg2.out] at HT
     have hbXr:=QQ hbX hbr
     have HbXr:=Z5 hbXr
     obtain ⟨q0,q1,q2,q3,q4,z3,z4,f3,f4⟩:=HS.out wr hbXr
     generalize wr=Y at *
     obtain ⟨d1,hd1⟩ : ∃d,D1.length=d:=⟨_,rfl⟩
     obtain ⟨d2,hd2⟩ : ∃d,D2.length=d:=⟨_,rfl⟩
     obtain ⟨d3,hd3⟩ : ∃d,D3.length=d:=⟨_,rfl⟩
     obtain ⟨d4,hd4⟩ : ∃d,D4.length=d:=⟨_,rfl⟩
     obtain ⟨d5,hd5⟩ : ∃d,D5.length=d:=⟨_,rfl⟩
     rw [hd1] at HCX HT
     rw [hd2] at HT HK
     rw [hd3] at HK HM
     rw [hd4] at HM HN
     rw [hd5] at HN HP2
     have HYw : Hid (Rs w Y):=QQ hbW hbXr
     have HYn : Hid (∀V,Rs Y V->V.cell? ⟨w.heap.size,0,none⟩=some (.int .i64 P)/\V.cell? ⟨w.heap.size,1,none⟩=some (.int .i64 M)/\V.cell? ⟨w.heap.size,2,none⟩=some (.slice am mn cm)/\V.cell? ⟨w.heap.size+1,0,none⟩=some (.int .i64 k)/\V.cell? ⟨w.heap.size+1,1,none⟩=some (.slice a n c) /\
       V.cell? ⟨w.heap.size+1+1,0,none⟩=some (.int .i64 0)/\V.cell? ⟨w.heap.size+1+1,1,none⟩=some (.slice none 0 0)/\V.frozen? ⟨w.heap.size+1+1,0,none⟩=false/\V.frozen? ⟨w.heap.size+1+1,1,none⟩=false):=λV hV=>HS.out V (QQ hbXr hV)
     have hsY:=hbXr.size
     clear hown hbr hbXr hd1 hd2 hd3 hd4 hd5 HCx hsX q3 q4 z3 z4 f3 f4 q0 q1 q2 HS hbW HbW hbX
     go_upto_region 17 with fail
     go_cut [14,15] (λv14 v15 wx=>∃(q : Nat) (a5 : OA) (c5 : Nat),v14 = .pointer (some ⟨q,0,none⟩)/\v15 = .int .i64 0/\bf wx q [.int .i64 g,.slice a5 d1 c5]/\bX Y.heap.size wx a5 d1 D1/\Y.heap.size<=q/\Rs Y wx)
     case first =>
      obtain ⟨q0,q1,q2,q3,q4,_⟩:=HYn.out Y (Mi _ _)
      go_wp2_with fail
      refine HCX.out.mono ?_
      rintro e w3 ⟨a5,c5,rfl,hN5,hb5⟩
      clear q0 q1 q2 q3 q4
      go_wp2_with fail
      go_meet
      exact ⟨_,a5,c5,rfl,rfl,QS _ _ _ rfl,hN5.ah (aB _ _),hb5.size,QQ hb5 (aB _ _)⟩
     obtain ⟨q,a5,c5,rfl,rfl,hBq,hN5,hq,hb5⟩:=hcut
     generalize wc=V1 at *
     have HT1:=Z5 (HT.out V1 a5 c5 (QQ HYw.out hb5) hN5.rC)
     clear hN5 HT HC HCX
     go_upto_region 20 with fail
     go_cut [14,15] (λv14 v15 wx=>∃(a5 : OA) (c5 : Nat),v14 = .pointer (some ⟨q,0,none⟩)/\bf wx q [.int .i64 n,.slice a5 d2 c5]/\bX V1.heap.size wx a5 d2 D2/\Rs Y wx)
     case first =>
      obtain ⟨q0,q1,q2,q3,q4,_⟩:=HYn.out V1 hb5
      have g0:=hBq.cell 0 rfl
      have g1:=hBq.cell 1 rfl
      go_wp2_with fail
      refine HT1.out.mono ?_
      rintro e w3 ⟨a6,c6,rfl,hN6,hb6⟩
      clear q0 q1 q2 q3 q4 g0 g1
      have hBq3:=hBq.ah hb6
      have g0:=hBq3.cell 0 rfl
      have g1:=hBq3.cell 1 rfl
      have g2:=hBq3.frozen 0
      have g3:=hBq3.frozen 1
      obtain ⟨q0,q1,q2,q3,q4,_⟩:=HYn.out w3 (QQ hb5 hb6)
      have HF : Hid (bf ((w3.setCell ⟨q,0,none⟩ (.int .i64 n)).setCell ⟨q,1,none⟩ (.slice a6 d2 c6)) q [.int .i64 n,.slice a6 d2 c6]/\bX V1.heap.size ((w3.setCell ⟨q,0,none⟩ (.int .i64 n)).setCell ⟨q,1,none⟩ (.slice a6 d2 c6)) a6 d2 D2/\Rs Y ((w3.setCell ⟨q,0,none⟩ (.int .i64 n)).setCell ⟨q,1,none⟩ (.slice a6 d2 c6))):=by have hqV : q<V1.heap.size:=hBq.1;refine ⟨(hBq3.KD _).Lx _,?_,((QQ hb5 hb6).setCell (p:=⟨q,0,none⟩) hq _).setCell (p:=⟨q,1,none⟩) hq _⟩;exact (hN6.setCell (p:=⟨q,0,none⟩) hqV _).setCell (p:=⟨q,1,none⟩) hqV _
      go_wp2_with fail
      go_meet
      first | exact ⟨a6,c6,rfl,HF.out.1,HF.out.2.1,HF.out.2.2⟩ | exact ⟨a6,c6,rfl,by simpa using HF.out.1,by simpa using HF.out.2.1,by simpa using HF.out.2.2⟩
     have hqV : q<V1.heap.size:=hBq.1
     obtain ⟨a6,c6,rfl,hBq2,hN6,hb6⟩:=hcut
     generalize wc=V2 at *
     have g0:=hBq2.cell 0 rfl
     have g2:=hBq2.frozen 0
     obtain ⟨q0,q1,q2,q3,q4,_⟩:=HYn.out V2 hb6
     have hB3:=hBq2.KD (.int .i64 n)
     have hN3:=(hN6.setCell (p:=⟨q,0,none⟩) hqV (.int .i64 n)).mono hb5.size
     have hb3:=hb6.setCell (p:=⟨q,0,none⟩) hq (.int .i64 n)
     clear hBq hb5 HT1 hN6
     go_upto_region 22 with fail
     clear q0 q1 q2 q3 q4 g0 g2 hBq2 hb6
     obtain ⟨V3,hV3⟩ : ∃V3,V2.setCell ⟨q,0,none⟩ (.int .i64 n)=V3:=⟨_,rfl⟩
     rw [hV3] at hB3 hN3 hb3 ⊢
     clear hV3
     have HK1:=Z5 (HK.out V3 a6 c6 (QQ HYw.out hb3) hN3.rC)
     clear hN3 HK
     go_cut [16,15] (λv16 v15 wx=>∃(q : Nat) (a5 : OA) (c5 : Nat),v16 = .pointer (some ⟨q,0,none⟩)/\v15 = .int .i64 0/\bf wx q [.int .i64 n,.slice a5 d3 c5]/\bX Y.heap.size wx a5 d3 D3/\Y.heap.size<=q/\Rs Y wx)
     case first =>
      obtain ⟨q0,q1,q2,q3,q4,_⟩:=HYn.out V3 hb3
      have g0:=hB3.cell 0 rfl
      have g1:=hB3.cell 1 rfl
      go_wp2_with fail
      refine HK1.out.mono ?_
      rintro e w3 ⟨a5,c5,rfl,hN5,hb5⟩
      clear q0 q1 q2 q3 q4 g0 g1
      go_wp2_with fail
      go_meet
      have hs3:=hb3.size
      exact ⟨_,a5,c5,rfl,rfl,QS _ _ _ rfl,(hN5.ah (aB _ _)).mono hs3,Mt hs3 hb5.size,QQ (QQ hb3 hb5) (aB _ _)⟩
     clear hB3 hb3 HK1
     obtain ⟨qk,ak,ck,rfl,rfl,hBk,hNk,hqk,hbk⟩:=hcut
     generalize wc=V4 at *
     have HM1:=Z5 (HM.out V4 ak ck (QQ HYw.out hbk) hNk.rC)
     clear hNk HM
     go_upto_region 25 with fail
     go_cut [17,15] (λv17 v15 wx=>∃(q : Nat) (a5 : OA) (c5 : Nat),v17 = .pointer (some ⟨q,0,none⟩)/\v15 = .int .i64 0/\bf wx q [.int .i64 k,.slice a5 d4 c5]/\bX Y.heap.size wx a5 d4 D4/\Y.heap.size<=q/\Rs Y wx)
     case first =>
      obtain ⟨q0,q1,q2,q3,q4,_⟩:=HYn.out V4 hbk
      have g0:=hBk.cell 0 rfl
      have g1:=hBk.cell 1 rfl
      go_wp2_with fail
      refine HM1.out.mono ?_
      rintro e w3 ⟨a5,c5,rfl,hN5,hb5⟩
      clear q0 q1 q2 q3 q4 g0 g1
      go_wp2_with fail
      go_meet
      have hs3:=hbk.size
      exact ⟨_,a5,c5,rfl,rfl,QS _ _ _ rfl,(hN5.ah (aB _ _)).mono hs3,Mt hs3 hb5.size,QQ (QQ hbk hb5) (aB _ _)⟩
     clear hBk hbk HM1
     obtain ⟨qm,am',cm',rfl,rfl,hBm,hNm,hqm,hbm⟩:=hcut
     generalize wc=V5 at *
     have HN1:=Z5 (HN.out V5 am' cm' (QQ HYw.out hbm) hNm.rC)
     clear hNm HN
     go_upto_region 28 with fail
     go_cut [18,15] (λv18 v15 wx=>∃(q : Nat) (a5 : OA) (c5 : Nat),v18 = .pointer (some ⟨q,0,none⟩)/\v15 = .int .i64 0/\bf wx q [.int .i64 k,.slice a5 d5 c5]/\bX Y.heap.size wx a5 d5 D5/\Y.heap.size<=q/\Rs Y wx)
     case first =>
      obtain ⟨q0,q1,q2,q3,q4,_⟩:=HYn.out V5 hbm
      have g0:=hBm.cell 0 rfl
      have g1:=hBm.cell 1 rfl
      go_wp2_with fail
      refine HN1.out.mono ?_
      rintro e w3 ⟨a5,c5,apx,cpx,rfl,hN5,hb5⟩
      clear q0 q1 q2 q3 q4 g0 g1
      go_wp2_with fail
      go_meet
      have hs3:=hbm.size
      exact ⟨_,a5,c5,rfl,rfl,QS _ _ _ rfl,(hN5.ah (aB _ _)).mono hs3,Mt hs3 hb5.size,QQ (QQ hbm hb5) (aB _ _)⟩
     clear hBm hbm HN1
     obtain ⟨qc,ac,cc,rfl,rfl,hBc,hNc,hqc,hbc⟩:=hcut
     generalize wc=V6 at *
     have g0:=hBc.cell 0 rfl
     have g1:=hBc.cell 1 rfl
     obtain ⟨q0,q1,q2,q3,q4,z3,z4,f3,f4⟩:=HYn.out V6 hbc
     have hs6:=HsW.out
     have hsY2 : w.heap.size+3<=Y.heap.size:=by omega
     have HF:=Z5 (HP2.out ac cc ((V6.setCell ⟨w.heap.size+1+1,0,none⟩ (.int .i64 k)).setCell ⟨w.heap.size+1+1,1,none⟩ (.slice ac d5 cc))
      (((hNc.setCell (p:=⟨w.heap.size+1+1,0,none⟩) (by simp;omega) _).setCell (p:=⟨w.heap.size+1+1,1,none⟩) (by simp;omega) _).mono (by omega))
      (((QQ HYw.out hbc).setCell (p:=⟨w.heap.size+1+1,0,none⟩) (by simp;omega) _).setCell (p:=⟨w.heap.size+1+1,1,none⟩) (by simp;omega) _))
     clear hNc hBc q0 q1 q2 q3 q4
     go_wp2_with fail
     exact bodyPost_ret (v:=.tuple #[.agg #[.int .i64 k,.slice ac d5 cc],.int .i64 0]) (by simp [results,results84,go_sem,z3,z4]) rfl HF.out
def dJ (l : Lz) (n : Nat) : Nat->Lz
 | 0=>List.replicate (n+1) 0
 | k+1=>(dJ l n k).set (aQ k n).length (max (nth (dJ l n k) (aQ k n).length) (nth l k))
def mh (l : Lz) (n : Nat) : Lz:=dJ l n (2 ^ n)
theorem nQ (l : Lz) (n : Nat) : ∀k,(dJ l n k).length=n+1
 | 0=>by simp [dJ]
 | k+1=>by rw [dJ,M9];exact nQ l n k
def F4 (P M : Int) (mod : Lz) (N : Int) (L : ZZ) (w : World) (e : Ending) (w' : World) : Prop :=
 Rs w w'/\((gh P M mod N L ≠ 0/\e = .returned (.tuple #[.slice none 0 0,.int .i64 (gh P M mod N L)])) \/
  (gh P M mod N L=0/\∃a c,e = .returned (.tuple #[.slice a (N.toNat+1) c,.int .i64 0])/\w'.ownsRow w.heap.size 3 1 (.slice a (N.toNat+1) c) (N.toNat+1) ((mh (fy (aa P M.toNat mod).ops N.toNat L) N.toNat).map (Value.int .i64))))
theorem kL {P M : Int} {mod : Lz} {N : Int} {L : ZZ} (h : gh P M mod N L=0) : aH P M mod N L=0/\1<=N/\N<=16:=by
 unfold gh at h;by_cases hE : aH P M mod N L=0
 ·rw [Mg hE] at h;obtain ⟨m,e,h1,_,_⟩:=aS hE;by_cases h2 : 16<N
  ·rw [Mg h2] at h;cases h
  ·exact ⟨hE,by omega,by omega⟩
 ·rw [Mh hE] at h;exact absurd h hE
theorem qh (P M : Int) (am : OA) (mn cm : Nat) (mod : Lz) (N : Int) (a : OA) (n c : Nat) (L : ZZ) (w : World) (hmod : Ints w am mn mod) (hi : cU w a n L) :
  Calls prog 92 #[.agg #[.int .i64 P,.int .i64 M,.slice am mn cm,.int .i64 N,.slice a n c]] w (F4 P M mod N L w):=by
 go_enter func92,ntmps92;go_wp2_with fail;obtain ⟨U,hU⟩ : ∃U : World,U=w.alloc (.cells #[.int .i64 P,.int .i64 M,.slice am mn cm,.int .i64 N,.slice a n c] 27):=⟨_,rfl⟩
 rw [<- hU];have hbU : Rs w U:=by rw [hU];exact aB _ _
 have x0 : bf U w.heap.size [.int .i64 P,.int .i64 M,.slice am mn cm,.int .i64 N,.slice a n c]:=by rw [hU];exact QS _ _ _ rfl
 have HX:=Z5 x0;clear hU x0;refine (sU P M am mn cm mod N a n c L U (hmod.ah hbU) (hi.ah hbU)).mono ?_;rintro e w1 ⟨hb1,⟨hE,rfl⟩ | ⟨hE,a1,c1,rfl,hown⟩⟩
 ·obtain ⟨er,her⟩ : ∃er,gh P M mod N L=er:=⟨_,rfl⟩
  have Her:=Z5 her;rw [her] at hE ⊢;have Hne:=Z5 hE;have hE' : (er != 0)=true:=by simpa using hE
  have hF:=QQ hbU hb1;clear hE her;go_wp2_with fail;go_ret2;exact ⟨hF,.inl ⟨by rw [Her.out];exact Hne.out,by rw [Her.out];rfl⟩⟩
 obtain ⟨hc0,hN1,hN16⟩:=kL hE;obtain ⟨m,rfl⟩ : ∃m : Nat,N=m:=⟨N.toNat,by omega⟩
 have hm16 : m<=16:=by omega
 have HE:=Z5 hE;rw [Mm] at hown ⊢;obtain ⟨l,hl⟩ : ∃l,fy (aa P M.toNat mod).ops m L=l:=⟨_,rfl⟩
 rw [hl] at hown;have Hl:=Z5 hl;obtain ⟨q,hq⟩ : ∃q,2 ^ m=q:=⟨_,rfl⟩
 have hq17 : q<=65536:=by rw [<- hq];exact Ns (by omega) hm16
 have HL : Hid (∀x,x<q->∀V,Calls prog 165 #[.int .i64 x] V (cX V (aQ x m))):=λx hx V=>vs x m (by rw [hq];exact hx) hm16 V;rw [hq] at hown ⊢;have Hq:=Z5 hq;have x1:=HX.out.ah hb1;have c3:=x1.cell 3 rfl;have hi1:=(QR hown).1;have hpl1:=hi1.pl;have hbw1:=QQ hbU hb1;have Ho:=Z5 hown;clear hE hc0 x1 hl hq hown;obtain ⟨m1,hm1⟩ : ∃m1,m+1=m1:=⟨_,rfl⟩
 have em : (m : Int)+1=(m1 : Int):=by omega
 have Hm1:=Z5 hm1;have hm1b : m1<=17:=by omega
 have hml : m<m1:=by omega
 clear hm1;go_wp2_with (at_make;refine b9 rfl _ _ 22 3 rfl (.int .i64 0) 8 underlying22 bt rfl m1 rfl rfl (by omega) (by unfold maxLen;omega) ?_;intro a4 w4 hown4 hb4 hge4 hlt4);have hb4w : Rs w1 w4:=hb4;have hown4' : w4.ownsRow w1.heap.size 3 1 (.slice a4 m1 m1) m1 (List.replicate m1 (.int .i64 0)):=hown4;clear hown4 hb4;go_loopw [24] (λiv wr=>∃k : Nat,k<=q/\iv = .int .i64 k/\wr.ownsRow w1.heap.size 3 1 (.slice a4 m1 m1) m1 ((dJ l m k).map (Value.int .i64))/\Rs w1 wr) (λiv _=>q - (intOf iv).toNat);case atStart=>exact ⟨0,Mj _,rfl,by rw [dJ,Hm1.out,NR];exact hown4',hb4w⟩
 case round =>
  obtain ⟨k,hk,rfl,hown,hbr⟩:=hrel
  by_cases hlt : k<q
  ·have ck:=(hi1.ah hbr).cell k hlt
   have Hlist:=Z5 (HL.out k hlt wr)
   have hbl:=lk k m
   obtain ⟨s,hs⟩ : ∃s,aQ k m=s:=⟨_,rfl⟩
   have Hst : Hid (dJ l m (k+1)=(dJ l m k).set s.length (max (nth (dJ l m k) s.length) (nth l k))):=by show _=_;rw [dJ,hs]
   rw [hs] at Hlist hbl
   clear hs
   have hsl : s.length<m1:=by omega
   have hsl' : (s.length : Int)<(m1 : Int):=by omega
   generalize dJ l m k=out at *
   have Hown:=Z5 hown
   clear hown
   go_wp2_with (go_at_call 165;refine Hlist.out.mono ?_;rintro e w5 ⟨a5,c5,rfl,hown5,hb5⟩;have hownr:=ba Hown.out hb5;obtain ⟨ir,mr⟩:=QR hownr;have hplr:=ir.pl;have cir:=ir.cell s.length (by omega);have fir:=(mr (by omega)).2 s.length (by omega);have hBr:=(mr (by omega)).1;clear hown5)
   go_roundw
   case rel =>
    refine ⟨k+1,by omega,by go_num,?_,?_⟩
    ·rw [Hst.out,MH]
     have h1:=bN hownr s.length (by omega) (.int .i64 (max (nth out s.length) (nth l k)))
     first | exact h1 | simpa using h1
    ·first | exact (QQ hbr hb5).setCell hBr _ | exact ((QQ hbr hb5).setCell (p:=⟨an a4,aP a4+s.length,none⟩) hBr _)
   case measure=>simp [intOf] <;> omega
  ·obtain rfl : k=q:=by omega
   have hF:=QQ hbw1 hbr
   have Hown:=Z5 hown
   clear hown
   go_wp2_with fail
   go_ret2
   refine ⟨hF,.inr ⟨HE.out,a4,m1,by rw [Mm,Hm1.out];rfl,?_⟩⟩
   rw [Mm,Hl.out,mh,Hq.out,Hm1.out]
   exact bg Hown.out hbw1.size
def oC (P M : Int) (mod : Lz) (N : Int) (L : ZZ) (mm W : Int) (ts : ZZ) : Int :=
 if jg P M mod N L mm W=0 then CQ (aa P M.toNat mod).ops L N.toNat ⟨mm.toNat,W.toNat,false,[]⟩ ts else jg P M mod N L mm W
def kI (P M : Int) (mod : Lz) (N : Int) (L : ZZ) (mm W : Int) : Int × ZZ :=
 if jg P M mod N L mm W=0 then uR (aa P M.toNat mod).ops L N.toNat ⟨mm.toNat,W.toNat,false,[]⟩ else (jg P M mod N L mm W,[])
def pj (V : Int × ZZ) (w : World) (e : Ending) (w' : World) : Prop :=
 Rs w w'/\((V.1 ≠ 0/\e = .returned (.tuple #[.agg #[.slice none 0 0],.int .i64 V.1])) \/
  (V.1=0/\∃ar cr R,e = .returned (.tuple #[.agg #[.slice ar V.2.length cr],.int .i64 0])/\aY w' w.heap.size ar V.2.length cr R V.2))
theorem qK (P M : Int) (am : OA) (mn cm : Nat) (mod : Lz) (N : Int) (a : OA) (n c : Nat) (L : ZZ) (mm W : Int) (ax : OA) (nx cx : Nat) (ts : ZZ) (w : World)
  (hmod : Ints w am mn mod) (hi : cU w a n L) (hts : cU w ax nx ts) :
  Calls prog 127 #[.agg #[.int .i64 P,.int .i64 M,.slice am mn cm,.int .i64 N,.slice a n c],.int .i64 mm,.int .i64 W,.agg #[.slice ax nx cx]] w λe w'=>e = .returned (.int .i64 (oC P M mod N L mm W ts))/\Rs w w':=by
 go_enter func127,ntmps127;go_wp2_with fail;obtain ⟨U,hU⟩ : ∃U : World,U=(w.alloc (.cells #[.int .i64 P,.int .i64 M,.slice am mn cm,.int .i64 N,.slice a n c] 27)).alloc (.cells #[.slice ax nx cx] 47):=⟨_,rfl⟩
 rw [<- hU];have hbU : Rs w U:=by rw [hU];exact iD _ _ _
 have x0 : bf U (w.heap.size+1) [.slice ax nx cx]:=by rw [hU];exact QS _ _ _ (by simp)
 have HX:=Z5 x0;clear hU x0;refine (rH P M am mn cm mod N a n c L mm W U (hmod.ah hbU) (hi.ah hbU)).mono ?_;rintro e w1 ⟨hb1,⟨hE,rfl⟩ | ⟨hE,pb,rfl,hCl⟩⟩
 ·have HE : Hid (oC P M mod N L mm W ts=jg P M mod N L mm W):=Mh hE;have hE1 : (jg P M mod N L mm W == 0)=false:=by simpa using hE
  have hE2 : (jg P M mod N L mm W != 0)=true:=by simpa using hE
  have hbF:=QQ hbU hb1;clear hE;go_wp2_with fail;go_ret;exact ⟨by rw [HE.out];rfl,hbF⟩
 ·have HE : Hid (oC P M mod N L mm W ts=CQ (aa P M.toNat mod).ops L N.toNat ⟨mm.toNat,W.toNat,false,[]⟩ ts):=Mg hE;have x1:=HX.out.ah hb1;have c0:=x1.cell 0 rfl;obtain ⟨b,w2,rfl,hb2,hPE,hb3,hB⟩:=hCl;have HPr:=Z5 (yd w2.heap.size P M am mn cm c 0 ax nx cx ts hPE ((hts.ah hbU).ah hb2) (Mf _) hb3 hB);have hbw2:=QQ hbU hb2;clear x1 hB hPE hE;go_wp2_with fail;refine HPr.out.mono ?_;rintro e w3 ⟨rfl,hb4⟩;have hbF:=QQ hbw2 hb4;go_wp2_with fail;go_ret;exact ⟨by rw [HE.out];rfl,hbF⟩
theorem qQ (P M : Int) (am : OA) (mn cm : Nat) (mod : Lz) (N : Int) (a : OA) (n c : Nat) (L : ZZ) (mm W : Int) (w : World)
  (hmod : Ints w am mn mod) (hi : cU w a n L) :
  Calls prog 121 #[.agg #[.int .i64 P,.int .i64 M,.slice am mn cm,.int .i64 N,.slice a n c],.int .i64 mm,.int .i64 W] w (pj (kI P M mod N L mm W) w):=by
 obtain ⟨V,hV⟩ : ∃V,kI P M mod N L mm W=V:=⟨_,rfl⟩
 rw [hV];have HV:=Z5 hV;clear hV;go_enter func121,ntmps121;go_wp2_with fail;obtain ⟨U,hU⟩ : ∃U : World,U=(w.alloc (.cells #[.int .i64 P,.int .i64 M,.slice am mn cm,.int .i64 N,.slice a n c] 27)).alloc (.cells #[.slice none 0 0] 47):=⟨_,rfl⟩
 rw [<- hU];have hbU : Rs w U:=by rw [hU];exact iD _ _ _
 have hsU : U.heap.size=w.heap.size+2:=by rw [hU];simp
 have x0 : bf U (w.heap.size+1) [.slice none 0 0]:=by rw [hU];exact QS _ _ _ (by simp)
 have HX:=Z5 x0;clear hU x0;refine (rH P M am mn cm mod N a n c L mm W U (hmod.ah hbU) (hi.ah hbU)).mono ?_;rintro e w1 ⟨hb1,⟨hE,rfl⟩ | ⟨hE,pb,rfl,hCl⟩⟩
 ·have HE : Hid (V=(jg P M mod N L mm W,[])):=by show _=_;rw [<- HV.out];exact Mh hE
  have hE1 : (jg P M mod N L mm W == 0)=false:=by simpa using hE
  have hE2 : (jg P M mod N L mm W != 0)=true:=by simpa using hE
  have Hne:=Z5 hE;have x1:=HX.out.ah hb1;have z0:=x1.cell 0 rfl;have f0:=x1.frozen 0;have HF:=Z5 (λv : Value=>(QQ hbU hb1).setCell (p:=⟨w.heap.size+1,0,none⟩) (by simp) v);clear hE x1;generalize jg P M mod N L mm W=er at *;go_wp2_with fail;have z1 : (w1.setCell ⟨w.heap.size+1,0,none⟩ (.slice none 0 0)).cell? ⟨w.heap.size+1,0,none⟩=some (.slice none 0 0):=Mw _ _ _ z0;exact bodyPost_ret (v:=.tuple #[.agg #[.slice none 0 0],.int .i64 er]) (by simp [results,results121,go_sem,z0,z1]) rfl ⟨HF.out _,.inl ⟨by rw [HE.out];exact Hne.out,by rw [HE.out]⟩⟩
 ·have HE : Hid (uR (aa P M.toNat mod).ops L N.toNat ⟨mm.toNat,W.toNat,false,[]⟩=V):=by show _=_;rw [<- HV.out];exact (Mg hE).symm
  have x1:=HX.out.ah hb1;obtain ⟨b,w2,rfl,hb2,hPE,hb3,hB⟩:=hCl;have HPr:=A5 w2.heap.size P M am mn cm c 0 hPE (Mf _) hb3 hB;rw [HE.out] at HPr;have HTr:=Z5 HPr;have hbw2:=QQ hbU hb2;have x2:=HX.out.ah hb2;have hs2 : w.heap.size+1<w2.heap.size:=x2.1;clear x1 hB hPE hE HPr;go_wp2_with fail;refine HTr.out.mono ?_;rintro e w3 ⟨hb4,⟨hv,rfl⟩ | ⟨hv,ar,cr,R,rfl,hO⟩⟩
  ·have x3:=x2.ah hb4;have z0:=x3.cell 0 rfl;have f0:=x3.frozen 0;have HF:=Z5 (λv : Value=>(QQ hbw2 hb4).setCell (p:=⟨w.heap.size+1,0,none⟩) (by simp) v);have Hne:=Z5 hv;obtain ⟨ve,vt⟩:=V;dsimp only at Hne ⊢;clear x3 hv;go_wp2_with fail;have z1 : (w3.setCell ⟨w.heap.size+1,0,none⟩ (.slice none 0 0)).cell? ⟨w.heap.size+1,0,none⟩=some (.slice none 0 0):=Mw _ _ _ z0;exact bodyPost_ret (v:=.tuple #[.agg #[.slice none 0 0],.int .i64 ve]) (by simp [results,results121,go_sem,z0,z1]) rfl ⟨HF.out _,.inl ⟨Hne.out,rfl⟩⟩
  ·have x3:=x2.ah hb4;have z0:=x3.cell 0 rfl;have f0:=x3.frozen 0;have hF : ∀v : Value,Rs w (w3.setCell ⟨w.heap.size+1,0,none⟩ v)/\aY (w3.setCell ⟨w.heap.size+1,0,none⟩ v) w.heap.size ar V.2.length cr R V.2:=λv=>by refine ⟨(QQ hbw2 hb4).setCell (by simp) v,?_⟩;refine (aY.mono hO hbw2.size).bu λx hx=>MB _ _ _ _ λe=>?_;have h1:=(hO.lt x hx).1;have e' : x=w.heap.size+1:=e;omega
   have HF:=Z5 hF;obtain ⟨ve,vt⟩:=V;dsimp only at hv HF ⊢;subst hv;clear x3 hO hF;go_wp2_with fail;have z1 : (w3.setCell ⟨w.heap.size+1,0,none⟩ (.slice ar vt.length cr)).cell? ⟨w.heap.size+1,0,none⟩=some (.slice ar vt.length cr):=Mw _ _ _ z0;exact bodyPost_ret (v:=.tuple #[.agg #[.slice ar vt.length cr],.int .i64 0]) (by simp [results,results121,go_sem,z0,z1]) rfl ⟨(HF.out _).1,.inr ⟨rfl,ar,cr,R,rfl,(HF.out _).2⟩⟩
def Bv (r : Int) : Lz->Nat->Int
 | [],_=>-1
 | x :: l,k=>if r<=x then k else Bv r l (k+1)
def sR (l : Lz) (r : Int) : Int:=Bv r l 0
theorem wU (r : Int) : ∀(l : Lz) (k s : Nat),k<l.length->(∀j,j<k->nth l j<r)->r<=nth l k->Bv r l s=(s+k : Nat)
 | [],k,s,h,_,_=>by simp at h
 | x :: l,0,s,_,_,h=>by
  have : r<=x:=by simpa [nth] using h
  rw [Bv,Mg this];simp
 | x :: l,k+1,s,hk,h0,h1=>by
  have hx : x<r:=by simpa [nth] using h0 0 (by omega)
  rw [Bv,Mh (by omega),wU r l k (s+1) (by simpa using hk) (λj hj=>by simpa [nth] using h0 (j+1) (by omega)) (by simpa [nth] using h1)];congr 1;omega
theorem vJ (r : Int) : ∀(l : Lz) (s : Nat),(∀j,j<l.length->nth l j<r)->Bv r l s = -1
 | [],s,_=>rfl
 | x :: l,s,h=>by
  have hx : x<r:=by simpa [nth] using h 0 (by simp)
  rw [Bv,Mh (by omega),vJ r l (s+1) (λj hj=>by simpa [nth] using h (j+1) (by simpa using hj))]
theorem JL (q : Nat) (r x : Int) (w : World) (hc : w.cell? ⟨q,0,none⟩=some (.int .i64 r)) :
  Calls prog 98 #[.int .i64 x,.pointer (some ⟨q,0,none⟩)] w λe w'=>e = .returned (.bool (decide (r<=x)))/\w=w':=by go_enter func98,ntmps98;go_wp2;go_ret;exact ⟨rfl,rfl⟩
theorem zW (q : Nat) (r : Int) (a : OA) (n c : Nat) (l : Lz) (w : World) (hc : w.cell? ⟨q,0,none⟩=some (.int .i64 r)) (hi : Ints w a n l) :
  Calls prog 97 #[.slice a n c,.func (.func 98) #[] #[.pointer (some ⟨q,0,none⟩)]] w λe w'=>e = .returned (.int .i64 (sR l r))/\w=w':=by
 have Hlen:=Z5 hi.len;have hpl:=hi.pl;have hmax:=hi.max;unfold maxLen at hmax;go_enter func97,ntmps97;go_wp2_with fail;go_loop [8] (λiv=>∃k : Nat,k<=n/\iv = .int .i64 k/\Hid (∀j,j<k->nth l j<r)) (λiv=>n - (intOf iv).toNat);case atStart=>exact ⟨0,Mj _,rfl,λj hj=>by omega⟩
 case round =>
  obtain ⟨k,hk,rfl,hall⟩:=hrel
  by_cases hlt : k<n
  ·have ck:=hi.cell k hlt
   have hct:=JL q r (nth l k) w hc
   by_cases hz : r<=nth l k
   ·have Hf : Hid (sR l r=k):=by show _=_;rw [sR,wU r l k 0 (by rw [Hlen.out];exact hlt) hall.out hz];simp
    rw [show decide (r<=nth l k)=true by simpa using hz] at hct
    have Hc:=Z5 hct
    clear hz hct
    go_wp2_with fail
    refine Hc.out.mono ?_
    rintro e w' ⟨rfl,rfl⟩
    go_wp2_with fail
    go_ret
    exact ⟨aI Hf.out.symm,rfl⟩
   ·have Hz : Hid (nth l k<r):=by show _<_;omega
    rw [show decide (r<=nth l k)=false by simpa using hz] at hct
    have Hc:=Z5 hct
    clear hz hct
    go_wp2_with fail
    refine Hc.out.mono ?_
    rintro e w' ⟨rfl,rfl⟩
    go_wp2_with fail
    go_round
    case rel=>exact ⟨k+1,by omega,by go_num,λj hj=>by
     rcases MU j k with h | h
     ·exact hall.out j h
     ·rw [show j=k by omega];exact Hz.out⟩
    case measure=>simp [intOf] <;> omega
  ·obtain rfl : k=n:=by omega
   have Hf : Hid (sR l r = -1):=by show _=_;rw [sR,vJ r l 0 (by rw [Hlen.out];exact hall.out)]
   go_wp2_with fail
   go_ret
   exact ⟨aI Hf.out.symm,rfl⟩
def lD (p : Lz) (k : Nat) : Lz:=(List.range k).map λ(i : Nat)=>sR p ((i : Int)+1)
theorem A1 (p : Lz) (k : Nat) : lD p (k+1)=lD p k ++ [sR p ((k : Int)+1)]:=by unfold lD;rw [Nx];simp
theorem Ee (p : Lz) (k : Nat) : (lD p k).length=k:=by simp [lD]
def AS (O : aJ) (m : Nat) (L : ZZ) : Lz:=lD (mh (fy O m L) m) L.length
def JM (P M : Int) (mod : Lz) (N : Int) (L : ZZ) (n : Nat) (w : World) (e : Ending) (w' : World) : Prop :=
 Rs w w'/\((gh P M mod N L ≠ 0/\e = .returned (.tuple #[.slice none 0 0,.int .i64 (gh P M mod N L)])) \/
  (gh P M mod N L=0/\∃a c,e = .returned (.tuple #[.slice a n c,.int .i64 0])/\w'.ownsRow w.heap.size 3 1 (.slice a n c) n ((AS (aa P M.toNat mod).ops N.toNat L).map (Value.int .i64))))
theorem qJ (P M : Int) (am : OA) (mn cm : Nat) (mod : Lz) (N : Int) (a : OA) (n c : Nat) (L : ZZ) (w : World) (hmod : Ints w am mn mod) (hi : cU w a n L) :
  Calls prog 44 #[.agg #[.int .i64 P,.int .i64 M,.slice am mn cm,.int .i64 N,.slice a n c]] w (JM P M mod N L n w):=by
 have hmf : ∀(fn : Fn) (first cap : Array Value) (w : World),(Instr.makeFunc fn first cap).run prog w = .ok (.func fn first cap) w:=λ_ _ _ _=>rfl;have Hil:=Z5 hi.len;go_enter func44,ntmps44;go_wp2_with fail;obtain ⟨U,hU⟩ : ∃U : World,U=w.alloc (.cells #[.int .i64 P,.int .i64 M,.slice am mn cm,.int .i64 N,.slice a n c] 27):=⟨_,rfl⟩
 rw [<- hU];have hbU : Rs w U:=by rw [hU];exact aB _ _
 have x0 : bf U w.heap.size [.int .i64 P,.int .i64 M,.slice am mn cm,.int .i64 N,.slice a n c]:=by rw [hU];exact QS _ _ _ rfl
 have HX:=Z5 x0;clear hU x0;refine (qh P M am mn cm mod N a n c L U (hmod.ah hbU) (hi.ah hbU)).mono ?_;rintro e w1 ⟨hb1,⟨hE,rfl⟩ | ⟨hE,a1,c1,rfl,hown⟩⟩
 ·obtain ⟨er,her⟩ : ∃er,gh P M mod N L=er:=⟨_,rfl⟩
  have Her:=Z5 her;rw [her] at hE ⊢;have Hne:=Z5 hE;have hE' : (er != 0)=true:=by simpa using hE
  have hF:=QQ hbU hb1;clear hE her;go_wp2_with fail;go_ret2;exact ⟨hF,.inl ⟨by rw [Her.out];exact Hne.out,by rw [Her.out];rfl⟩⟩
 have hn256 : n<=256:=by rw [<- hi.len];exact (eJ (kL hE).1).choose_spec.2.2.2.1
 have HE:=Z5 hE;obtain ⟨p,hp⟩ : ∃p,mh (fy (aa P M.toNat mod).ops N.toNat L) N.toNat=p:=⟨_,rfl⟩
 rw [hp] at hown;have Hp : Hid (AS (aa P M.toNat mod).ops N.toNat L=lD p n):=by show _=_;rw [AS,hp,Hil.out]
 have hi1:=(QR hown).1;have hbw1:=QQ hbU hb1;clear hE hp hown;go_upto_region 6 with fail;obtain ⟨W2,hW2⟩ : ∃W2 : World,W2=w1.alloc (.cells #[.int .i64 1] 3):=⟨_,rfl⟩
 rw [<- hW2];have hb2 : Rs w1 W2:=by rw [hW2];exact aB _ _
 have y2 : bf W2 w1.heap.size [.int .i64 1]:=by rw [hW2];exact QS _ _ _ rfl
 clear hW2;go_loopw [6,7] (λov pv wr=>∃(r : Nat) (ao : OA) (co q : Nat),r<=n/\pv = .pointer (some ⟨q,0,none⟩)/\bf wr q [.int .i64 ((r : Int)+1)]/\ov = .slice ao r co/\wr.ownsRow w1.heap.size 3 1 (.slice ao r co) r ((lD p r).map (Value.int .i64))/\cF ao q/\Rs w1 wr)
  (λov _ _=>n - vZ ov)
 case atStart=>exact ⟨0,none,0,w1.heap.size,Mj _,rfl,y2,rfl,bP,.inl rfl,hb2⟩
 case round =>
  obtain ⟨r,ao,co,q,hr,rfl,hBq,rfl,hop,hap,hbr⟩:=hrel
  have cq:=hBq.cell 0 rfl
  have c4:=((HX.out.ah hb1).ah hbr).cell 4 rfl
  by_cases hlt : r<n
  ·have hd : decide ((r : Int)+1<=(n : Int))=true:=by simp;omega
   have Hc:=Z5 (zW q ((r : Int)+1) a1 (N.toNat+1) c1 p wr cq (hi1.ah hbr))
   have Hst : Hid (lD p (r+1)=lD p r ++ [sR p ((r : Int)+1)]):=A1 p r
   have hwl:=Ee p r
   generalize sR p ((r : Int)+1)=v at *
   generalize lD p r=out at *
   subst hwl
   have hcn:=bm wr (.int .i64 v) 3
   have hbn:=aB wr (.cells #[.int .i64 v] 3)
   have hsz:=hbr.size
   have HBq:=Z5 hBq
   clear hBq
   go_wp2_with fail
   refine Hc.out.mono ?_
   rintro e w' ⟨rfl,rfl⟩
   have cq8:=aM cq (.cells #[.int .i64 v] 3)
   have hop8:=hop.alloc (.cells #[.int .i64 v] 3)
   have hsz8 : w1.heap.size<=(wr.alloc (.cells #[.int .i64 v] 3)).heap.size:=by simp;omega
   clear Hc
   go_wp2_with (at_builtin;refine bj rfl _ _ 22 3 rfl (.int .i64 0) 8 underlying22 bt rfl w1.heap.size ao out.length co _ rfl hop8 ⟨wr.heap.size,0,none⟩ 1 (.int .i64 v) rfl hcn rfl (by omega) (by unfold maxLen;omega) hsz8 ?_;intro a5 c5 w5 hown5 hgr5 hap5;have cq5:=bA hgr5 cq8 hap)
   go_roundw
   case rel =>
    have hb5:=QT (MS hbr (hbn.mono hsz)) (hop.alloc _) hgr5 (Mf _) (Mt hsz hbn.size)
    have hbw5 : Rs w5 (w5.alloc (.cells #[.int .i64 ((out.length : Int)+1+1)] 3)):=aB _ _
    have yb : bf (w5.alloc (.cells #[.int .i64 ((out.length : Int)+1+1)] 3)) w5.heap.size [.int .i64 ((out.length : Int)+1+1)]:=QS _ _ _ rfl
    have hlt5 : a5=none\/an a5<w5.heap.size:=by
     rcases nh hown5 with ⟨h,_⟩ | ⟨_,h⟩
     ·exact .inl h
     ·exact .inr h
    refine ⟨out.length+1,a5,c5,w5.heap.size,by omega,rfl,by simpa using yb,rfl,?_,?_,QQ hb5 hbw5⟩
    ·rw [Hst.out]
     have h1:=ba hown5 hbw5
     simpa using h1
    ·rcases hlt5 with h | h
     ·exact .inl h
     ·exact .inr (by omega)
   case measure=>simp [vZ] <;> omega
  ·obtain rfl : r=n:=by omega
   have hd : decide ((r : Int)+1<=(r : Int))=false:=by simp;omega
   have hF:=QQ hbw1 hbr
   have Hop:=Z5 hop
   clear hop
   go_wp2_with fail
   go_ret2
   exact ⟨hF,.inr ⟨HE.out,ao,co,rfl,by rw [Hp.out];exact bg Hop.out hbw1.size⟩⟩
def lE (P M : Int) (mod : Lz) (N : Int) (L : ZZ) (r : Int) : Int :=
 if aH P M mod N L=0 then (if r<1\/(L.length : Int)<r then 6 else gh P M mod N L) else aH P M mod N L
def zH (O : aJ) (m : Nat) (L : ZZ) (r : Int) : Lz:=(cY (fy O m L) m r (2 ^ m)).2
def II (P M : Int) (mod : Lz) (N : Int) (L : ZZ) (r : Int) (w : World) (e : Ending) (w' : World) : Prop :=
 Rs w w'/\((lE P M mod N L r ≠ 0/\e = .returned (.tuple #[.slice none 0 0,.int .i64 (lE P M mod N L r)])) \/
  (lE P M mod N L r=0/\∃a c,e = .returned (.tuple #[.slice a (zH (aa P M.toNat mod).ops N.toNat L r).length c,.int .i64 0]) /\
   w'.ownsRow w.heap.size 3 1 (.slice a (zH (aa P M.toNat mod).ops N.toNat L r).length c) (zH (aa P M.toNat mod).ops N.toNat L r).length ((zH (aa P M.toNat mod).ops N.toNat L r).map (Value.int .i64))))
theorem xz (P M : Int) (am : OA) (mn cm : Nat) (mod : Lz) (N : Int) (a : OA) (n c : Nat) (L : ZZ) (r : Int) (w : World) (hmod : Ints w am mn mod) (hi : cU w a n L) :
  Calls prog 91 #[.agg #[.int .i64 P,.int .i64 M,.slice am mn cm,.int .i64 N,.slice a n c],.int .i64 r] w (II P M mod N L r w):=by
 have Hil:=Z5 hi.len;go_enter func91,ntmps91;go_wp2_with fail;obtain ⟨U,hU⟩ : ∃U : World,U=w.alloc (.cells #[.int .i64 P,.int .i64 M,.slice am mn cm,.int .i64 N,.slice a n c] 27):=⟨_,rfl⟩
 rw [<- hU];have hbU : Rs w U:=by rw [hU];exact aB _ _
 have x0 : bf U w.heap.size [.int .i64 P,.int .i64 M,.slice am mn cm,.int .i64 N,.slice a n c]:=by rw [hU];exact QS _ _ _ rfl
 have HX:=Z5 x0;clear hU x0;refine (ez P M am mn cm mod N a n c L U (hmod.ah hbU) (hi.ah hbU)).mono ?_;rintro e w1 ⟨rfl,hb1⟩;have hbw1:=QQ hbU hb1;by_cases hE : aH P M mod N L=0;rotate_left
 ·have HE : Hid (lE P M mod N L r=aH P M mod N L):=Mh hE;have Hne:=Z5 hE;have hE' : (aH P M mod N L != 0)=true:=by simpa using hE
  clear hE;generalize aH P M mod N L=er at *;go_wp2_with fail;go_ret2;exact ⟨hbw1,.inl ⟨by rw [HE.out];exact Hne.out,by rw [HE.out];rfl⟩⟩
 have x1:=HX.out.ah hb1;have c4:=x1.cell 4 rfl;by_cases h1 : r<1
 ·have HE : Hid (lE P M mod N L r=6):=by show _=_;rw [lE,Mg hE,Mg (.inl h1)]
  have d1 : decide (r<1)=true:=by simpa using h1
  rw [hE];clear hE h1 x1;go_wp2_with fail;go_ret2;exact ⟨hbw1,.inl ⟨by rw [HE.out];decide,by rw [HE.out];rfl⟩⟩
 have d1 : decide (r<1)=false:=by simpa using h1
 by_cases h2 : (n : Int)<r
 ·have HE : Hid (lE P M mod N L r=6):=by show _=_;rw [lE,Mg hE,Mg (.inr (by rw [Hil.out];exact h2))]
  have d2 : decide ((n : Int)<r)=true:=by simpa using h2
  rw [hE];clear hE h1 h2 x1;go_wp2_with fail;go_ret2;exact ⟨hbw1,.inl ⟨by rw [HE.out];decide,by rw [HE.out];rfl⟩⟩
 have d2 : decide ((n : Int)<r)=false:=by simpa using h2
 have HE : Hid (lE P M mod N L r=gh P M mod N L):=by show _=_;rw [lE,Mg hE,Mh (by rw [Hil.out];omega)]
 have c0:=x1.cell 0 rfl;have c1:=x1.cell 1 rfl;have c2:=x1.cell 2 rfl;have c3:=x1.cell 3 rfl;have Hdm:=Z5 (sU P M am mn cm mod N a n c L w1 ((hmod.ah hbU).ah hb1) ((hi.ah hbU).ah hb1));rw [hE];clear hE h1 h2 x1;go_wp2_with fail;refine Hdm.out.mono ?_;rintro e w2 ⟨hb2,⟨hE,rfl⟩ | ⟨hE,a2,c2',rfl,hown⟩⟩
 ·have Hne:=Z5 hE;have hE' : (gh P M mod N L != 0)=true:=by simpa using hE
  have hF:=QQ hbw1 hb2;clear hE c0 c1 c2 c3 c4;generalize gh P M mod N L=er at *;go_wp2_with fail;go_ret2;exact ⟨hF,.inl ⟨by rw [HE.out];exact Hne.out,by rw [HE.out];rfl⟩⟩
 obtain ⟨_,hN1,hN16⟩:=kL hE;have HE0 : Hid (lE P M mod N L r=0):=by show _=_;rw [HE.out,hE]
 obtain ⟨m,rfl⟩ : ∃m : Nat,N=m:=⟨N.toNat,by omega⟩
 have hm16 : m<=16:=by omega
 rw [Mm] at hown;have Hw:=Z5 (qp a2 c2' m (fy (aa P M.toNat mod).ops m L) r w2 hm16 (QR hown).1);have hbw2:=QQ hbw1 hb2;obtain ⟨S,hS⟩ : ∃S,(cY (fy (aa P M.toNat mod).ops m L) m r (2 ^ m)).2=S:=⟨_,rfl⟩
 have HS : Hid (zH (aa P M.toNat mod).ops m L r=S):=hS;rw [hS] at Hw;obtain ⟨q,hq⟩ : ∃q,2 ^ m=q:=⟨_,rfl⟩
 rw [hq] at Hw;rw [Mm,hq];clear hE c0 c1 c2 c3 c4 hown hS hq;go_wp2_with fail;refine Hw.out.mono ?_;rintro e w3 ⟨a3,c3,rfl,hown3,hb3⟩;have hF:=QQ hbw2 hb3;go_wp2_with fail;go_ret2;refine ⟨hF,.inr ⟨HE0.out,?_⟩⟩;rw [Mm,HS.out];exact ⟨a3,c3,rfl,bg hown3 hbw2.size⟩
section
open Go.RowKit
end
section
variable {O : aJ} {El : Int->Prop} {m : Nat} {L : ZZ} {C : la}
end
def uy (x : Lz) (m : Nat) : Lz:=((List.range m).filter λj=>decide (nth x j ≠ 0)).map Int.ofNat
theorem rD {x : Lz} {m : Nat} {y : Int} : y ∈ uy x m ↔ ∃j : Nat,j<m/\nth x j ≠ 0/\y=j:=by
 unfold uy;rw [Oc];constructor
 ·rintro ⟨j,hj,rfl⟩;rw [Og,M8] at hj;exact ⟨j,hj.1,by simpa using hj.2,rfl⟩
 ·rintro ⟨j,h1,h2,rfl⟩;exact ⟨j,by rw [Og,M8];exact ⟨h1,by simpa using h2⟩,rfl⟩
theorem te {x : Lz} {m : Nat} (h : x.length=m) : (uy x m).length=cw x:=by
 have e : x=(List.range m).map (nth x):=by refine NP (by simp [h]) λi h1 h2=>?_;rw [NH,Od,aj h1]
 unfold uy cw;rw [Mx,<- Oi];conv=>rhs;rw [e,PX]
 rfl
theorem oB {x : Lz} : cw x=0 ↔ ∀k,k<x.length->nth x k=0:=by
 unfold cw;rw [Oz];constructor
 ·intro h k hk;have h1:=h _ (aN hk);simpa using h1
 ·intro h y hy;obtain ⟨k,hk,rfl⟩:=List.mem_iff_getElem.1 hy;have h1:=h k hk;rw [aj hk] at h1;simp [h1]
section
variable {P M : Int} {mod : Lz} {m : Nat} {L : ZZ}
theorem y7 (hE : aH P M mod m L=0) : ∃p : Lz,l8 L p m/\L.length=p.length:=by
 obtain ⟨N',e,hm1,hm64,F,hR⟩:=aS hE;obtain rfl : m=N':=by omega
 have h6:=(dK (bL hE).2.2.2).2;rw [Mm] at h6;have hcan : dX (aa P M.toNat mod).ops m L=L:=h6;obtain ⟨hPv,hLd⟩:=db F hR;have hcl:=bY F hR;rw [hcan] at hPv hcl;exact ⟨_,hPv,hcl⟩
theorem H3 (hE : aH P M mod m L=0) {Q : Lz} (hr : L.length<=jI (aa P M.toNat mod).ops L Q) (hQ : ∀x ∈ Q,0<=x/\x<(m : Int)) {x : Nat} (hx : x<m) : ie (aa P M.toNat mod).ops (aa P M.toNat mod).El L.length (aK L) (gA Q) x:=by
 obtain ⟨N',e,hm1,hm64,F,hR⟩:=aS hE;obtain rfl : m=N':=by omega
 have hfull:=gg hE;refine Mv λhn=>?_;have h1:=ru F hR (Q:=Q) (x:=(x : Int)) (by simpa using hn);have h2:=Rm (da F hR) (dP F hR (Q ++ [(x : Int)])) hfull λy hy=>by
  refine (da F hR).mem _ _ ?_;rw [M8];obtain ⟨z,hz,rfl⟩:=dp.1 hy;rcases List.mem_append.1 hz with hz | hz
  ·have:=hQ z hz;omega
  ·rw [MK] at hz;subst hz;simpa using hx
 omega
theorem CE (hE : aH P M mod m L=0) {p : Lz} (hp : l8 L p m) (hl : L.length=p.length) {v : Lz} (hv : ∀k,k<L.length->(aa P M.toNat mod).El (nth v k)) {k : Nat} (hk : k<L.length) :
  nth (bK (aa P M.toNat mod).ops m v L L.length) (nth p k).toNat=nth v k:=by
 obtain ⟨N',e,hm1,hm64,F,hR⟩:=aS hE;obtain rfl : m=N':=by omega
 have hpk:=hp.lt k (by omega);rw [fV F hR hv (by omega) _ (Mf _)];have hone : ∀t,t<L.length->nth (ai L t) (nth p k).toNat=if t=k then 1 else 0:=λt ht=>hp.one k t (by omega) ht
 have hvj:=hv k hk;rw [jB F (x:=k) (by
  show (aa P M.toNat mod).El ((aa P M.toNat mod).ops.mul (nth v k) (nth (ai L k) (nth p k).toNat));rw [hone k hk,Mg rfl,F.iE hvj];exact hvj) L.length (λq hq hqk=>by
  show (aa P M.toNat mod).ops.mul (nth v q) (nth (ai L q) (nth p k).toNat)=0;rw [hone q hq,Mh hqk,F.dt (hv q hq)]),Mg hk]
 show (aa P M.toNat mod).ops.mul (nth v k) (nth (ai L k) (nth p k).toNat)=_;rw [hone k hk,Mg rfl,F.iE hvj]
theorem Gs (hE : aH P M mod m L=0) {Q : Lz} (hr : L.length<=jI (aa P M.toNat mod).ops L Q) (hQ : ∀x ∈ Q,0<=x/\x<(m : Int)) {v : Lz} (hv : ∀k,k<L.length->(aa P M.toNat mod).El (nth v k))
  (h0 : ∀x ∈ Q,nth (bK (aa P M.toNat mod).ops m v L L.length) x.toNat=0) : ∀k,k<L.length->nth v k=0:=λk hk=>by
 obtain ⟨N',e,hm1,hm64,F,hR⟩:=aS hE;obtain rfl : m=N':=by omega
 obtain ⟨p,hp,hl⟩:=y7 hE;obtain ⟨c1,f,hf,c2⟩:=gH F hR hv L.length (Mf _);have hpk:=hp.lt k (by omega);rw [<- CE hE hp hl hv hk];have h1 : nth (bK (aa P M.toNat mod).ops m v L L.length) (nth p k).toNat=f (aK L (nth p k).toNat):=c2 _ (by omega);rw [h1];refine H3 hE hr hQ (x:=(nth p k).toNat) (by omega) f hf λy hy=>?_;obtain ⟨z,hz,rfl⟩:=dp.1 hy;have h2:=hQ z hz;have h3 : nth (bK (aa P M.toNat mod).ops m v L L.length) z.toNat=f (aK L z.toNat):=c2 _ (by omega);rw [<- h3];exact h0 z hz
end
section
open Go.RowKit
end
section
open Go.RowKit
end
section
def msgs (q : Nat) : Nat->ZZ
 | 0=>[[]]
 | k+1=>(List.range q).flatMap λ(a : Nat)=>(msgs q k).map λs=>(a : Int) :: s
def gV (O : aJ) : Lz->Lz->ZZ->Lz
 | u,a :: s,r :: R=>gV O (kd O u a r) s R
 | u,_,_=>u
theorem zF (O : aJ) (q : Nat) : ∀(R : ZZ) (u : Lz),As O q R u=(msgs q R.length).map λs=>gV O u s R
 | [],u=>by simp [As,msgs,gV]
 | r :: R,u=>by rw [As,MT,msgs,List.map_flatMap];congr 1;funext a;rw [zF O q R,N3];rfl
theorem sE {q : Nat} : ∀ {k : Nat} {s : Lz},s ∈ msgs q k ↔ s.length=k/\∀x ∈ s,0<=x/\x<(q : Int)
 | 0,s=>by
  rw [msgs,MK];constructor
  ·rintro rfl;simp
  ·rintro ⟨h,_⟩;exact MF h
 | k+1,s=>by
  rw [msgs,Ox];constructor
  ·rintro ⟨a,ha,h⟩;obtain ⟨t,ht,rfl⟩:=List.mem_map.1 h;obtain ⟨h1,h2⟩:=sE.1 ht;refine ⟨by simp [h1],λx hx=>?_⟩;rcases List.mem_cons.1 hx with rfl | hx
   ·have:=List.mem_range.1 ha;omega
   ·exact h2 x hx
  ·rintro ⟨h,h2⟩;match s,h,h2 with
   | x :: t,h,h2 =>
    have hx:=h2 x (by simp)
    refine ⟨x.toNat,List.mem_range.2 (by omega),List.mem_map.2 ⟨t,sE.2 ⟨by simpa using h,λy hy=>h2 y (by simp [hy])⟩,?_⟩⟩
    rw [NL hx.1]
theorem tB (q : Nat) : ∀k,(msgs q k).Nodup
 | 0=>by simp [msgs]
 | k+1=>by
  rw [msgs];unfold List.Nodup;rw [O0];refine ⟨λa _=>?_,?_⟩
  ·rw [Nr];exact NA (λ{s t} h e=>h (by injection e)) (tB q k)
  ·refine NA (λ{a b} hab x ha y hb e=>?_) (PJ (n:=q));obtain ⟨s,_,rfl⟩:=List.mem_map.1 ha;obtain ⟨t,_,rfl⟩:=List.mem_map.1 hb;injection e with h1 _
   omega
theorem uU {q : Nat} (hq : 1<=q) : ∀k,∃l,msgs q k=List.replicate k 0 :: l
 | 0=>⟨[],by simp [msgs]⟩
 | k+1=>by
  obtain ⟨l,hl⟩:=uU hq k;obtain ⟨q',rfl⟩ : ∃q',q=q'+1:=⟨q - 1,by omega⟩
  rw [msgs,List.range_succ_eq_map,PB,hl];exact ⟨_,rfl⟩
variable {O : aJ} {m : Nat}
theorem nA {v : Lz} {L : ZZ} (h : v.length=L.length) : ∀(d j : Nat),j+d=L.length->gV O (bK O m v L j) (v.drop j) (L.drop j)=bK O m v L L.length
 | 0,j,hj=>by
  obtain rfl : j=L.length:=by omega
  rw [Nn (Mf _),Nn (by omega)];rfl
 | d+1,j,hj=>by rw [M4 (show j<v.length by omega),M4 (show j<L.length by omega),gV];rw [<- nA h d (j+1) (by omega)];congr 1;rw [bK,aj (show j<v.length by omega),aF (show j<L.length by omega)];rfl
end
theorem aw.LQ {U w w' : World} {I : Nat->Prop} {a : OA} {n c : Nat} (h : aw U w I I) (hg : w.grownBy w' (Value.slice a n c).ownBlock) (hI : a ≠ none->I (an a)\/U.heap.size<=an a) : aw U w' I I :=
 ⟨hg.os.trans h.os,hg.tape.trans h.tape,hg.output.trans h.output,Mt h.size hg.size,λb hb hIb=>(hg.block b (ME hb h.size) (λe=>by
  by_cases ha : cF a b
  ·exact ha.own n c e.symm
  ·have h1 : a ≠ none:=λh=>ha (.inl h);have h2 : an a=b:=Mv λh=>ha (.inr h);rw [h2] at hI;rcases hI h1 with h3 | h3
   ·exact hIb h3
   ·omega)).trans (h.block b hb hIb),λb hb=>.inl hb⟩
theorem bX.cQ {B : Nat} {w w' : World} {I I' : Nat->Prop} {a : OA} {n : Nat} {L : ZZ} (h : bX B w a n L) (hM : aw w w' I I') (hI : ∀b,I b->b<B) : bX B w' a n L :=
 ⟨h.len,h.pl,h.max,h.lo,λi hi=>by obtain ⟨b,m,c,h1,h2⟩:=h.cell i hi;exact ⟨b,m,c,hM.cell h1 (λhc=>Oj _ (ME (hI _ hc) (h.lo (by omega)))),h2.ints.cQ hM (λhm hc=>Oj _ (ME (hI _ hc) (h2.lo hm))),h2.lo⟩⟩
def fQ (O : aJ) (L : ZZ) (m : Nat) (S : Lz) : Int:=(L.length : Int) - (jI O L (aL false S m) : Nat)
def pD (O : aJ) (L : ZZ) (m : Nat) (r : Int) (t : Lz) : Bool:=decide (r<=fQ O L m t)
def dM (O : aJ) (L : ZZ) (m : Nat) (r : Int) : Lz:=((pM m).find? (pD O L m r)).getD []
section
open Go.RowKit
end
def Bw (x : Int) : Lz->Lz
 | []=>[x]
 | y :: l=>if x<=y then x :: y :: l else y :: Bw x l
def qn : Lz->Lz
 | []=>[]
 | x :: l=>Bw x (qn l)
theorem pV (x : Int) : ∀l,(Bw x l).Perm (x :: l)
 | []=>Qd _
 | y :: l=>by
  rw [Bw];split
  ·exact Qd _
  ·exact ((pV x l).cons y).trans (List.Perm.swap x y l)
theorem uN (x : Int) : ∀ {l : Lz},l.Pairwise (λa b=>a<=b)->(Bw x l).Pairwise (λa b=>a<=b)
 | [],_=>by simp [Bw]
 | y :: l,h=>by
  rw [Bw];rw [Of] at h;split
  ·rename_i hxy;rw [Of,Of];refine ⟨λa ha=>?_,h.1,h.2⟩;rcases List.mem_cons.1 ha with rfl | ha
   ·exact hxy
   ·have:=h.1 a ha;omega
  ·rename_i hxy;rw [Of];refine ⟨λa ha=>?_,uN x h.2⟩;rcases List.mem_cons.1 ((pV x l).mem_iff.1 ha) with rfl | ha
   ·omega
   ·exact h.1 a ha
theorem ta : ∀l,(qn l).Perm l
 | []=>Qd _
 | x :: l=>(pV x (qn l)).trans ((ta l).cons x)
theorem tI : ∀l,(qn l).Pairwise (λa b=>a<=b)
 | []=>by simp [qn]
 | x :: l=>uN x (tI l)
theorem qq (l : Lz) : b8 l=qn l:=(lf (tI l) (ta l)).symm
def s9 (O : aJ) (L : ZZ) (m : Nat) (C : la) (s z : Lz) : Lz:=qn (y8 O L (qn z ++ aL false (s ++ z) m) (if C.cos=true then m else C.M))
theorem y5 (O : aJ) (L : ZZ) (m : Nat) (C : la) (s z : Lz) : fb O L m C s z=s9 O L m C s z:=by unfold fb s9 jR;rw [qq,qq]
def FV (O : aJ) (L : ZZ) (m : Nat) (C : la) : Nat->Lz->Lz->ZZ->Int × ZZ
 | 0,s,z,T=>if ey O L m C s (s9 O L m C s z)=true then if T.length=65536 then (8,[]) else (0,T ++ [s9 O L m C s z]) else (11,[])
 | d+1,s,z,T=>if ey O L m C s (s9 O L m C s z)=true then if T.length=65536 then (8,[]) else iA (FV O L m C d) s z (zQ C s z (s9 O L m C s z)) (T ++ [s9 O L m C s z]) else (11,[])
theorem CM (O : aJ) (L : ZZ) (m : Nat) (C : la) : ∀d,ko O L m C d=FV O L m C d
 | 0=>by funext s z T;rw [ko,FV,y5]
 | d+1=>by funext s z T;rw [ko,FV,y5,CM O L m C d]
theorem JU (O : aJ) (L : ZZ) (m : Nat) (C : la) : uR O L m C=FV O L m C C.W [] [] []:=by rw [uR,CM]
def cP : ZZ:=[[1,0,1,0],[0,1,1,1]]
theorem Gz : jg 2 1 [] 4 cP 2 1=0:=by decide +kernel
theorem Jj : kI 2 1 [] 4 cP 2 1=(0,[[0,1],[1,2],[0,2]]):=by rw [kI,Mg Gz,JU];decide +kernel
theorem bf.KG {w : World} {b : Nat} {cs : List Value} (h : bf w b cs) (i : Nat) (v : Value) : bf (w.setCell ⟨b,i,none⟩ v) b (cs.set i v):=by
 refine ⟨by simpa using h.1,λj u hu=>?_,λj=>by rw [MW];exact h.2.2 j⟩;by_cases e : j=i
 ·subst e;by_cases hl : j<cs.length
  ·rw [PN hl] at hu;cases hu
   exact Mw _ _ _ (h.2.1 j cs[j] (MP hl))
  ·rw [NT (by omega),Nf (by omega)] at hu;cases hu
 ·rw [Qc (by omega)] at hu;rw [MA _ _ _ _ (by simp <;> omega)];exact h.2.1 j u hu
theorem Gm {w : World} {B : Nat} {e : TypeId} {a : OA} {n c k : Nat} {xs : List Value} (h : w.ownsRow B e 1 (.slice a n c) n xs) (hk : k<=n) : w.ownsRow B e 1 (.slice a k c) k (xs.take k):=by
 have hl:=jT h;refine ⟨by rw [MJ];omega,?_⟩;rcases h.2 with ⟨hv,h0⟩ | ⟨g,cap,cur,hv,hg,hh,hle,hm,hs,ht⟩
 ·cases hv
  obtain rfl : k=0:=by omega
  exact .inl ⟨rfl,rfl⟩
 ·cases hv
  refine .inr ⟨g,c,cur,rfl,hg,hh,by omega,hm,hs,?_⟩;rw [<- ht,List.take_take];congr 1;omega
theorem aY.take {B : Nat} {w : World} {a : OA} {n c k : Nat} {R : Z4} {L : ZZ} (h : aY w B a n c R L) (hk : k<=n) : aY w B a k c (R.take k) (L.take k):=by
 have hr:=h.rl;have hl:=h.ll;have eR : ∀ {i},i<k->aV (R.take k) i=aV R i:=λ{i} hi=>by rw [fY (show i<(R.take k).length by rw [MJ];omega),fY (by omega),OQ]
 have eL : ∀ {i},i<k->ai (L.take k) i=ai L i:=λ{i} hi=>by rw [aF (show i<(L.take k).length by rw [MJ];omega),aF (by omega),OQ]
 refine ⟨by rw [MJ];omega,by rw [MJ];omega,?_,λi hi=>?_,λi hi=>?_,λi j hi hj=>?_⟩
 ·rw [<- Qw];exact Gm h.own hk
 ·rw [eR hi,eL hi];exact h.row i (by omega)
 ·rw [eR hi];exact h.uq i (by omega)
 ·rw [eR hi,eR hj];exact h.sep i j (by omega) (by omega)
def K6 (G : cJ) (m : Nat) (L : ZZ) (S : Lz) : ZZ:=ei G (ei G L m ++ (aL false S m).map (j6 m)) m
theorem Jh (G : cJ) (m : Nat) (L : ZZ) (S : Lz) : K6 G m L S=vk G.ops m L (aL false S m):=rfl
end Go.Proofs.YtcfmiocdlcapoaaGreat
