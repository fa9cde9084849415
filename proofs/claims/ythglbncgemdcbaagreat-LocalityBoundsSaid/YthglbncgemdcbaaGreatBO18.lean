import Derived.Test.YthglbncgemdcbaaGreatBO14
namespace Go.Proofs.YthglbncgemdcbaaGreat
set_option linter.all false
set_option maxRecDepth 100000
set_option maxHeartbeats 4000000
open Go.RowKit Go.Proofs.Tryz
def pM (P M:Int) (mod:Lz) (w:ej) (e:Ending) (w':ej):Prop :=
 ∃a1 c1,e = .returned (.agg #[cG P,cG M,.slice a1 mod.length c1])/\bH w.heap.size w' a1 mod.length mod/\SJ w w'
theorem wP (P M:Int) (am:OA) (D L:Nat) (mod:Lz) (w:ej) (Z:Ints w am D mod) (hmn:D<=1000000) :
  Calls prog 125 #[.agg #[cG P,cG M,.slice am D L]] w (pM P M mod w):=by
 obtain rfl:mod.length=D:=Z.len;go_enter func125,ntmps125;go_wp2_with fail;obtain ⟨W,Q⟩:∃W:ej,W=(w.alloc (.cells #[cG P,cG M,.slice am mod.length L] 24)).alloc (.cells #[cG 0,cG 0,ds] 24):=⟨_,rfl⟩
 rw [<- Q];have U:SJ w W:=by rw [Q];exact dP _ _ _
 have I:W.heap.size=w.heap.size+2:=by rw [Q];simp
 have x0:aQ W w.heap.size [cG P,cG M,.slice am mod.length L]:=by rw [Q];exact (RV _ _ _ rfl).alloc _
 have y0:aQ W (w.heap.size+1) [cG 0,cG 0,ds]:=by rw [Q];exact RV _ _ _ (by simp)
 have X:=Z.ai U;have hS:∀V,SJ W V->V.cell? ⟨w.heap.size,0,none⟩=some (cG P)/\V.cell? ⟨w.heap.size,1,none⟩=some (cG M)/\V.cell? ⟨w.heap.size,2,none⟩=some (.slice am mod.length L)/\Ints V am mod.length mod /\
   aQ V (w.heap.size+1) [cG 0,cG 0,ds]/\SJ W V:=λV z=>by have r:=x0.ai z;exact ⟨r.cell 0 rfl,r.cell 1 rfl,r.cell 2 rfl,X.ai z,y0.ai z,z⟩
 have A:=Z5 hS;have HbW:=Z5 U;have e:=Z5 I;clear Q x0 y0 hS;have HP:Hid (∀(C:ej) (a4:OA) (c4:Nat),bH W.heap.size C a4 mod.length mod->SJ W C ->
   pM P M mod w (.returned (.agg #[cG P,cG M,.slice a4 mod.length c4])) (((C.setCell ⟨w.heap.size+1,0,none⟩ (cG P)).setCell ⟨w.heap.size+1,1,none⟩ (cG M)).setCell ⟨w.heap.size+1,2,none⟩ (.slice a4 mod.length c4))):=λC a4 c4 h1 h2=>by
  have hb:=RU U h2;have hs:=e.out;refine ⟨a4,c4,rfl,?_,?_⟩
  ·exact (((h1.setCell (p:=⟨w.heap.size+1,0,none⟩) (by simp;omega) _).setCell (p:=⟨w.heap.size+1,1,none⟩) (by simp;omega) _).setCell (p:=⟨w.heap.size+1,2,none⟩) (by simp;omega) _).mono (by omega)
  ·exact ((hb.setCell (p:=⟨w.heap.size+1,0,none⟩) (by simp) _).setCell (p:=⟨w.heap.size+1,1,none⟩) (by simp) _).setCell (p:=⟨w.heap.size+1,2,none⟩) (by simp) _
 have N:=Z.pl;have G:SJ W (W.alloc (.cells #[] 3)).drew:=(aD W _).drew;have E:=Z5 G;obtain ⟨c0,c1,c2,_⟩:=A W (M5 _ _);obtain ⟨d0,d1,d2,_⟩:=A _ (aD W (.cells #[] 3));clear G I U Z;go_region_law (
  (refine gB (by rfl) (.tmp 7) (.tmp 9) 22 3 (by rfl) (cG 0) 8 underlying22 br (by rfl) W.heap.size _ 0 0 [] (by rfl) (show (W.alloc (.cells #[] 3)).drew.ownsRow W.heap.size 3 1 (.slice (some ⟨W.heap.size,0,none⟩) 0 0) 0 [] from k8 W 3) am mod.length L (mod.map (Value.int .i64)) (by rfl) N (by simp) (Sm (X.ai E.out)) (ints_oneCell _ _) (by omega) (by unfold maxLen;omega) (by simp) ?_;intro a3 c3 w3 Y S K;obtain ⟨_,_,_,_,O,F⟩:=A w3 (RY (B:=W.heap.size) E.out (show (W.alloc (.cells #[] 3)).drew.ownsRow W.heap.size 3 1 (.slice (some ⟨W.heap.size,0,none⟩) 0 0) 0 [] from k8 W 3) S (M4 _) (by simp));have z0:=O.cell 0 rfl;have z1:=O.cell 1 rfl;have z2:=O.cell 2 rfl;have f0:=O.frozen 0;have f1:=O.frozen 1;have f2:=O.frozen 2))
 all_goals (
  have H:bH W.heap.size w3 a3 mod.length mod:=SF (by simpa using Y)
  have j:=Z5 (HP w3 a3 c3 H F)
  clear H F Y S K HP A
  go_wp2_with fail
  exact bodyPost_ret (v:=.agg #[cG P,cG M,.slice a3 mod.length c3]) (by simp [results,results125,go_sem,z0,z1,z2]) rfl j.out)
def sA (P M:Int) (mod:Lz) (m:Nat) (L:ZZ) (w:ej) (e:Ending) (w':ej):Prop :=
 ∃a1 c1 a2 c2,e = .returned (.agg #[cG P,cG M,.slice a1 mod.length c1,cG m,.slice a2 (b8 (ah P M.toNat mod) L m).length c2])/\bH w.heap.size w' a1 mod.length mod /\
  bJ w.heap.size w' a2 (b8 (ah P M.toNat mod) L m).length (b8 (ah P M.toNat mod) L m)/\SJ w w'
theorem An (P M:Int) (am:OA) (S H:Nat) (mod:Lz) (m:Nat) (a:OA) (n c:Nat) (L:ZZ) (w:ej) (I:Ints w am S mod) (hi:bP w a n L)
  (hB:bw P M mod=true) (B:bz (ah P M.toNat mod).El m L) (hm:m<=1000000) (hn:n<=1000000) (hmn:S<=1000000) :
  Calls prog 72 #[.agg #[cG P,cG M,.slice am S H],.slice a n c,cG m] w (sA P M mod m L w):=by
 have Q:=DC hB B;have hinv:=nZ (P:=P) (M:=M) (mod:=mod) (by rw [eU];exact hB);obtain ⟨k,rfl,A,_,hF,hA,_⟩:=kR hB;obtain ⟨k',e2,hrf,U⟩:=jt (by rw [eU];exact hB);obtain rfl:k=k':=by omega
 rw [M9] at Q B hinv;rw [<- A] at B;have HC:Hid (∀V,SJ w V->Calls prog 124 #[.agg #[cG P,cG k,.slice am S H],.slice a n c,cG m] V λe w' =>
   ∃a2 c2 v2,e = ec #[.slice a2 (b8 (ah P k mod) L m).length c2,v2]/\bJ V.heap.size w' a2 (b8 (ah P k mod) L m).length (b8 (ah P k mod) L m)/\SJ V w'):=λV F=>by refine (ta P k am S H mod a n c m L V ⟨hrf,U V am S (I.ai F)⟩ (hi.ai F) B hm hn hinv).mono ?_;rintro e w' ⟨a4,c4,ap,cp,rfl,N,_,hb4⟩;have hk:=N.lL.len;rw [Q] at N hk;rw [<- hk] at N;exact ⟨a4,c4,_,by rw [hk],N,hb4⟩
 have HFd:Hid (∀V,SJ w V->Calls prog 125 #[.agg #[cG P,cG k,.slice am S H]] V (pM P k mod V)):=λV F=>wP P k am S H mod V (I.ai F) hmn;unfold sA;rw [M9];obtain ⟨D,hD⟩:∃D,b8 (ah P k mod) L m=D:=⟨_,rfl⟩
 rw [hD] at HC ⊢;clear Q hinv A hF hA hrf U e2 B hB hD;obtain ⟨q,hq⟩:∃q,D.length=q:=⟨_,rfl⟩
 rw [hq] at HC ⊢;clear hq;go_enter func72,ntmps72;go_wp2_with fail;obtain ⟨W,C⟩:∃W:ej,W=(w.alloc (.cells #[cG P,cG k,.slice am S H] 24)).alloc (.cells #[cG 0,cG 0,ds,cG 0,ds] 27):=⟨_,rfl⟩
 rw [<- C];have O:SJ w W:=by rw [C];exact dP _ _ _
 have z:W.heap.size=w.heap.size+2:=by rw [C];simp
 have x0:aQ W w.heap.size [cG P,cG k,.slice am S H]:=by rw [C];exact (RV _ _ _ rfl).alloc _
 have z0:aQ W (w.heap.size+1) [cG 0,cG 0,ds,cG 0,ds]:=by rw [C];exact RV _ _ _ (by simp)
 have hS:∀V,SJ W V->V.cell? ⟨w.heap.size,0,none⟩=some (cG P)/\V.cell? ⟨w.heap.size,1,none⟩=some (cG k)/\V.cell? ⟨w.heap.size,2,none⟩=some (.slice am S H) /\
   aQ V (w.heap.size+1) [cG 0,cG 0,ds,cG 0,ds]:=λV F=>by have x1:=x0.ai F;exact ⟨x1.cell 0 rfl,x1.cell 1 rfl,x1.cell 2 rfl,z0.ai F⟩
 have HS:=Z5 hS;have HbW:=Z5 O;have HsW:=Z5 z;clear C x0 z0 hS;obtain ⟨c0,c1,c2,_⟩:=HS W (M5 _ _);go_wp2_with fail;refine (HC W O).mono ?_;rintro e w1 ⟨a2,Y,v2,rfl,hM1,X⟩;clear c0 c1 c2;obtain ⟨c0,c1,c2,_⟩:=HS w1 X;have r:=Z5 (HFd w1 (RU O X));clear HC HFd O z;go_wp2_with fail;refine r.mono ?_;rintro e w2 ⟨a3,E,rfl,j,G⟩;obtain ⟨_,_,_,Z⟩:=HS w2 (RU X G);have z0:=Z.cell 0 rfl;have z1:=Z.cell 1 rfl;have z2:=Z.cell 2 rfl;have z3:=Z.cell 3 rfl;have z4:=Z.cell 4 rfl;have f0:=Z.frozen 0;have f1:=Z.frozen 1;have f2:=Z.frozen 2;have f3:=Z.frozen 3;have f4:=Z.frozen 4;have hs:=HsW.out;have hs2:=X.size;have hM2:=hM1.ai G;have hbF:=RU HbW.out (RU X G);have K:∃a1 c1 a2' c2'', (Ending.returned (.agg #[cG P, cG k, .slice a3 mod.length E, cG m, .slice a2 q Y])) = .returned (.agg #[cG P, cG k, .slice a1 mod.length c1, cG m, .slice a2' q c2'']) /\
   bH w.heap.size (((((w2.setCell ⟨w.heap.size+1,0,none⟩ (cG P)).setCell ⟨w.heap.size+1,1,none⟩ (cG k)).setCell ⟨w.heap.size+1,2,none⟩ (.slice a3 mod.length E)).setCell ⟨w.heap.size+1,3,none⟩ (cG m)).setCell ⟨w.heap.size+1,4,none⟩ (.slice a2 q Y)) a1 mod.length mod /\
   bJ w.heap.size (((((w2.setCell ⟨w.heap.size+1,0,none⟩ (cG P)).setCell ⟨w.heap.size+1,1,none⟩ (cG k)).setCell ⟨w.heap.size+1,2,none⟩ (.slice a3 mod.length E)).setCell ⟨w.heap.size+1,3,none⟩ (cG m)).setCell ⟨w.heap.size+1,4,none⟩ (.slice a2 q Y)) a2' q D /\
   SJ w (((((w2.setCell ⟨w.heap.size+1,0,none⟩ (cG P)).setCell ⟨w.heap.size+1,1,none⟩ (cG k)).setCell ⟨w.heap.size+1,2,none⟩ (.slice a3 mod.length E)).setCell ⟨w.heap.size+1,3,none⟩ (cG m)).setCell ⟨w.heap.size+1,4,none⟩ (.slice a2 q Y)):=by
  refine ⟨a3,E,a2,Y,rfl,?_,?_,(((((hbF.setCell (p:=⟨w.heap.size+1,0,none⟩) (by simp) _).setCell (p:=⟨w.heap.size+1,1,none⟩) (by simp) _).setCell (p:=⟨w.heap.size+1,2,none⟩) (by simp) _).setCell (p:=⟨w.heap.size+1,3,none⟩) (by simp) _).setCell (p:=⟨w.heap.size+1,4,none⟩) (by simp) _)⟩
  ·exact (((((j.setCell (p:=⟨w.heap.size+1,0,none⟩) (by simp;omega) _).setCell (p:=⟨w.heap.size+1,1,none⟩) (by simp;omega) _).setCell (p:=⟨w.heap.size+1,2,none⟩) (by simp;omega) _).setCell (p:=⟨w.heap.size+1,3,none⟩) (by simp;omega) _).setCell (p:=⟨w.heap.size+1,4,none⟩) (by simp;omega) _).mono (by omega)
  ·exact (((((hM2.setCell (p:=⟨w.heap.size+1,0,none⟩) (by simp;omega) _).setCell (p:=⟨w.heap.size+1,1,none⟩) (by simp;omega) _).setCell (p:=⟨w.heap.size+1,2,none⟩) (by simp;omega) _).setCell (p:=⟨w.heap.size+1,3,none⟩) (by simp;omega) _).setCell (p:=⟨w.heap.size+1,4,none⟩) (by simp;omega) _).mono (by omega)
 have HFin:=Z5 K;clear K hM1 hM2 j Z HS r;go_wp2_with fail;exact bodyPost_ret (v:=.agg #[cG P,cG k,.slice a3 mod.length E,cG m,.slice a2 q Y]) (by simp [results,results72,go_sem,z0,z1,z2,z3,z4]) rfl HFin.out
end Go.Proofs.YthglbncgemdcbaaGreat
