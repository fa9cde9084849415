import Derived.Test.YthglbncgemdcbaaGreatCE12
namespace Go.Proofs.YthglbncgemdcbaaGreat
set_option linter.all false
set_option maxRecDepth 100000
set_option maxHeartbeats 4000000
open Go.RowKit Go.Proofs.Tryz
def oY (P M:Int) (mod:LI) (w:World) (e:Ending) (w':World):Prop :=
 ∃a1 c1,e = .returned (.agg #[cG P,cG M,.slice a1 mod.length c1])/\bL w.heap.size w' a1 mod.length mod/\PY w w'
theorem xc (P M:Int) (am:OA) (z cm:Nat) (mod:LI) (w:World) (Z:Ints w am z mod) (hmn:z<=1000000) :
  Calls prog 125 #[.agg #[cG P,cG M,.slice am z cm]] w (oY P M mod w):=by
 obtain rfl:mod.length=z:=Z.len;go_enter func125,ntmps125;go_wp2_with fail;obtain ⟨W,O⟩:∃W:World,W=(w.alloc (.cells #[cG P,cG M,.slice am mod.length cm] 24)).alloc (.cells #[cG 0,cG 0,ds] 24):=⟨_,rfl⟩
 rw [<- O];have U:PY w W:=by rw [O];exact bY _ _ _
 have E:W.heap.size=w.heap.size+2:=by rw [O];simp
 have x0:aQ W w.heap.size [cG P,cG M,.slice am mod.length cm]:=by rw [O];exact (Po _ _ _ rfl).alloc _
 have y0:aQ W (w.heap.size+1) [cG 0,cG 0,ds]:=by rw [O];exact Po _ _ _ (by simp)
 have Y:=Z.af U;have hS:∀V,PY W V->V.cell? ⟨w.heap.size,0,none⟩=some (cG P)/\V.cell? ⟨w.heap.size,1,none⟩=some (cG M)/\V.cell? ⟨w.heap.size,2,none⟩=some (.slice am mod.length cm)/\Ints V am mod.length mod /\
   aQ V (w.heap.size+1) [cG 0,cG 0,ds]/\PY W V:=λV A=>by have r:=x0.af A;exact ⟨r.cell 0 rfl,r.cell 1 rfl,r.cell 2 rfl,Y.af A,y0.af A,A⟩
 have C:=Z5 hS;have HbW:=Z5 U;have j:=Z5 E;clear O x0 y0 hS;have HP:Hid (∀(D:World) (a4:OA) (c4:Nat),bL W.heap.size D a4 mod.length mod->PY W D ->
   oY P M mod w (.returned (.agg #[cG P,cG M,.slice a4 mod.length c4])) (((D.setCell ⟨w.heap.size+1,0,none⟩ (cG P)).setCell ⟨w.heap.size+1,1,none⟩ (cG M)).setCell ⟨w.heap.size+1,2,none⟩ (.slice a4 mod.length c4))):=λD a4 c4 h1 h2=>by
  have hb:=Pm U h2;have hs:=j.out;refine ⟨a4,c4,rfl,?_,?_⟩
  ·exact (((h1.setCell (p:=⟨w.heap.size+1,0,none⟩) (by simp;omega) _).setCell (p:=⟨w.heap.size+1,1,none⟩) (by simp;omega) _).setCell (p:=⟨w.heap.size+1,2,none⟩) (by simp;omega) _).mono (by omega)
  ·exact ((hb.setCell (p:=⟨w.heap.size+1,0,none⟩) (by simp) _).setCell (p:=⟨w.heap.size+1,1,none⟩) (by simp) _).setCell (p:=⟨w.heap.size+1,2,none⟩) (by simp) _
 have K:=Z.pl;have H:PY W (W.alloc (.cells #[] 3)).drew:=(an W _).drew;have G:=Z5 H;obtain ⟨c0,c1,c2,_⟩:=C W (KU _ _);obtain ⟨d0,d1,d2,_⟩:=C _ (an W (.cells #[] 3));clear H E U Z;go_region_law (
  (refine eh (by rfl) (.tmp 7) (.tmp 9) 22 3 (by rfl) (cG 0) 8 underlying22 bh (by rfl) W.heap.size _ 0 0 [] (by rfl) (show (W.alloc (.cells #[] 3)).drew.ownsRow W.heap.size 3 1 (.slice (some ⟨W.heap.size,0,none⟩) 0 0) 0 [] from fK W 3) am mod.length cm (mod.map (Value.int .i64)) (by rfl) K (by simp) (Px (Y.af G.out)) (ints_oneCell _ _) (by omega) (by unfold maxLen;omega) (by simp) ?_;intro a3 c3 w3 X S N;obtain ⟨_,_,_,_,Q,F⟩:=C w3 (Pp (B:=W.heap.size) G.out (show (W.alloc (.cells #[] 3)).drew.ownsRow W.heap.size 3 1 (.slice (some ⟨W.heap.size,0,none⟩) 0 0) 0 [] from fK W 3) S (KT _) (by simp));have z0:=Q.cell 0 rfl;have z1:=Q.cell 1 rfl;have z2:=Q.cell 2 rfl;have f0:=Q.frozen 0;have f1:=Q.frozen 1;have f2:=Q.frozen 2))
 all_goals (
  have L:bL W.heap.size w3 a3 mod.length mod:=PW (by simpa using X)
  have e:=Z5 (HP w3 a3 c3 L F)
  clear L F X S N HP C
  go_wp2_with fail
  exact bodyPost_ret (v:=.agg #[cG P,cG M,.slice a3 mod.length c3]) (by simp [results,results125,go_sem,z0,z1,z2]) rfl e.out)
def oE (P M:Int) (mod:LI) (m:Nat) (L:Ll) (w:World) (e:Ending) (w':World):Prop :=
 ∃a1 c1 a2 c2,e = .returned (.agg #[cG P,cG M,.slice a1 mod.length c1,cG m,.slice a2 (bZ (ah P M.toNat mod) L m).length c2])/\bL w.heap.size w' a1 mod.length mod /\
  cF w.heap.size w' a2 (bZ (ah P M.toNat mod) L m).length (bZ (ah P M.toNat mod) L m)/\PY w w'
theorem pV (P M:Int) (am:OA) (S cm:Nat) (mod:LI) (m:Nat) (a:OA) (n c:Nat) (L:Ll) (w:World) (H:Ints w am S mod) (hi:bw w a n L)
  (hB:bs P M mod=true) (hR:bt (ah P M.toNat mod).El m L) (hm:m<=1000000) (hn:n<=1000000) (hmn:S<=1000000) :
  Calls prog 72 #[.agg #[cG P,cG M,.slice am S cm],.slice a n c,cG m] w (oE P M mod m L w):=by
 have X:=CX hB hR;have hinv:=kd (P:=P) (M:=M) (mod:=mod) (by rw [cB];exact hB);obtain ⟨k,rfl,hel,_,hF,hA,_⟩:=eQ hB;obtain ⟨k',e2,hrf,U⟩:=dQ (by rw [cB];exact hB);obtain rfl:k=k':=by omega
 rw [KV] at X hR hinv;rw [<- hel] at hR;have HC:Hid (∀V,PY w V->Calls prog 124 #[.agg #[cG P,cG k,.slice am S cm],.slice a n c,cG m] V λe w' =>
   ∃a2 c2 v2,e = .returned (.tuple #[.slice a2 (bZ (ah P k mod) L m).length c2,v2])/\cF V.heap.size w' a2 (bZ (ah P k mod) L m).length (bZ (ah P k mod) L m)/\PY V w'):=λV F=>by refine (mY P k am S cm mod a n c m L V ⟨hrf,U V am S (H.af F)⟩ (hi.af F) hR hm hn hinv).mono ?_;rintro e w' ⟨a4,c4,ap,cp,rfl,O,_,hb4⟩;have hk:=O.iZ.len;rw [X] at O hk;rw [<- hk] at O;exact ⟨a4,c4,_,by rw [hk],O,hb4⟩
 have A:Hid (∀V,PY w V->Calls prog 125 #[.agg #[cG P,cG k,.slice am S cm]] V (oY P k mod V)):=λV F=>xc P k am S cm mod V (H.af F) hmn;unfold oE;rw [KV];obtain ⟨D,hD⟩:∃D,bZ (ah P k mod) L m=D:=⟨_,rfl⟩
 rw [hD] at HC ⊢;clear X hinv hel hF hA hrf U e2 hR hB hD;obtain ⟨q,hq⟩:∃q,D.length=q:=⟨_,rfl⟩
 rw [hq] at HC ⊢;clear hq;go_enter func72,ntmps72;go_wp2_with fail;obtain ⟨W,E⟩:∃W:World,W=(w.alloc (.cells #[cG P,cG k,.slice am S cm] 24)).alloc (.cells #[cG 0,cG 0,ds,cG 0,ds] 27):=⟨_,rfl⟩
 rw [<- E];have N:PY w W:=by rw [E];exact bY _ _ _
 have hsW:W.heap.size=w.heap.size+2:=by rw [E];simp
 have x0:aQ W w.heap.size [cG P,cG k,.slice am S cm]:=by rw [E];exact (Po _ _ _ rfl).alloc _
 have z0:aQ W (w.heap.size+1) [cG 0,cG 0,ds,cG 0,ds]:=by rw [E];exact Po _ _ _ (by simp)
 have hS:∀V,PY W V->V.cell? ⟨w.heap.size,0,none⟩=some (cG P)/\V.cell? ⟨w.heap.size,1,none⟩=some (cG k)/\V.cell? ⟨w.heap.size,2,none⟩=some (.slice am S cm) /\
   aQ V (w.heap.size+1) [cG 0,cG 0,ds,cG 0,ds]:=λV F=>by have x1:=x0.af F;exact ⟨x1.cell 0 rfl,x1.cell 1 rfl,x1.cell 2 rfl,z0.af F⟩
 have HS:=Z5 hS;have HbW:=Z5 N;have HsW:=Z5 hsW;clear E x0 z0 hS;obtain ⟨c0,c1,c2,_⟩:=HS W (KU _ _);go_wp2_with fail;refine (HC W N).mono ?_;rintro e w1 ⟨a2,Y,v2,rfl,r,Q⟩;clear c0 c1 c2;obtain ⟨c0,c1,c2,_⟩:=HS w1 Q;have j:=Z5 (A w1 (Pm N Q));clear HC A N hsW;go_wp2_with fail;refine j.mono ?_;rintro e w2 ⟨a3,C,rfl,hN3,G⟩;obtain ⟨_,_,_,Z⟩:=HS w2 (Pm Q G);have z0:=Z.cell 0 rfl;have z1:=Z.cell 1 rfl;have z2:=Z.cell 2 rfl;have z3:=Z.cell 3 rfl;have z4:=Z.cell 4 rfl;have f0:=Z.frozen 0;have f1:=Z.frozen 1;have f2:=Z.frozen 2;have f3:=Z.frozen 3;have f4:=Z.frozen 4;have hs:=HsW.out;have hs2:=Q.size;have hM2:=r.af G;have hbF:=Pm HbW.out (Pm Q G);have K:∃a1 c1 B c2'', (Ending.returned (.agg #[cG P, cG k, .slice a3 mod.length C, cG m, .slice a2 q Y])) = .returned (.agg #[cG P, cG k, .slice a1 mod.length c1, cG m, .slice B q c2'']) /\
   bL w.heap.size (((((w2.setCell ⟨w.heap.size+1,0,none⟩ (cG P)).setCell ⟨w.heap.size+1,1,none⟩ (cG k)).setCell ⟨w.heap.size+1,2,none⟩ (.slice a3 mod.length C)).setCell ⟨w.heap.size+1,3,none⟩ (cG m)).setCell ⟨w.heap.size+1,4,none⟩ (.slice a2 q Y)) a1 mod.length mod /\
   cF w.heap.size (((((w2.setCell ⟨w.heap.size+1,0,none⟩ (cG P)).setCell ⟨w.heap.size+1,1,none⟩ (cG k)).setCell ⟨w.heap.size+1,2,none⟩ (.slice a3 mod.length C)).setCell ⟨w.heap.size+1,3,none⟩ (cG m)).setCell ⟨w.heap.size+1,4,none⟩ (.slice a2 q Y)) B q D /\
   PY w (((((w2.setCell ⟨w.heap.size+1,0,none⟩ (cG P)).setCell ⟨w.heap.size+1,1,none⟩ (cG k)).setCell ⟨w.heap.size+1,2,none⟩ (.slice a3 mod.length C)).setCell ⟨w.heap.size+1,3,none⟩ (cG m)).setCell ⟨w.heap.size+1,4,none⟩ (.slice a2 q Y)):=by
  refine ⟨a3,C,a2,Y,rfl,?_,?_,(((((hbF.setCell (p:=⟨w.heap.size+1,0,none⟩) (by simp) _).setCell (p:=⟨w.heap.size+1,1,none⟩) (by simp) _).setCell (p:=⟨w.heap.size+1,2,none⟩) (by simp) _).setCell (p:=⟨w.heap.size+1,3,none⟩) (by simp) _).setCell (p:=⟨w.heap.size+1,4,none⟩) (by simp) _)⟩
  ·exact (((((hN3.setCell (p:=⟨w.heap.size+1,0,none⟩) (by simp;omega) _).setCell (p:=⟨w.heap.size+1,1,none⟩) (by simp;omega) _).setCell (p:=⟨w.heap.size+1,2,none⟩) (by simp;omega) _).setCell (p:=⟨w.heap.size+1,3,none⟩) (by simp;omega) _).setCell (p:=⟨w.heap.size+1,4,none⟩) (by simp;omega) _).mono (by omega)
  ·exact (((((hM2.setCell (p:=⟨w.heap.size+1,0,none⟩) (by simp;omega) _).setCell (p:=⟨w.heap.size+1,1,none⟩) (by simp;omega) _).setCell (p:=⟨w.heap.size+1,2,none⟩) (by simp;omega) _).setCell (p:=⟨w.heap.size+1,3,none⟩) (by simp;omega) _).setCell (p:=⟨w.heap.size+1,4,none⟩) (by simp;omega) _).mono (by omega)
 have z:=Z5 K;clear K r hM2 hN3 Z HS j;go_wp2_with fail;exact bodyPost_ret (v:=.agg #[cG P,cG k,.slice a3 mod.length C,cG m,.slice a2 q Y]) (by simp [results,results72,go_sem,z0,z1,z2,z3,z4]) rfl z.out
end Go.Proofs.YthglbncgemdcbaaGreat
