import Derived.Test.YthglbncgemdcbaaGreatCK12
namespace Go.Proofs.YthglbncgemdcbaaGreat
set_option linter.all false
set_option maxRecDepth 100000
set_option maxHeartbeats 4000000
open Go.RowKit Go.Proofs.Tryz
def oH (P M : Int) (mod : LI) (w : World) (e : Ending) (w' : World) : Prop :=
 ∃a1 c1,e = .returned (.agg #[.int .i64 P,.int .i64 M,.slice a1 mod.length c1])/\bJ w.heap.size w' a1 mod.length mod/\OC w w'
theorem u7 (P M : Int) (am : OA) (D cm : Nat) (mod : LI) (w : World) (Z : Ints w am D mod) (hmn : D<=1000000) :
  Calls prog 125 #[.agg #[.int .i64 P,.int .i64 M,.slice am D cm]] w (oH P M mod w):=by
 obtain rfl : mod.length=D:=Z.len;go_enter func125,ntmps125;go_wp2_with fail;obtain ⟨W,Q⟩ : ∃W : World,W=(w.alloc (.cells #[.int .i64 P,.int .i64 M,.slice am mod.length cm] 24)).alloc (.cells #[.int .i64 0,.int .i64 0,.slice none 0 0] 24):=⟨_,rfl⟩
 rw [<- Q];have U : OC w W:=by rw [Q];exact bT _ _ _
 have H : W.heap.size=w.heap.size+2:=by rw [Q];simp
 have x0 : aO W w.heap.size [.int .i64 P,.int .i64 M,.slice am mod.length cm]:=by rw [Q];exact (NY _ _ _ rfl).alloc _
 have y0 : aO W (w.heap.size+1) [.int .i64 0,.int .i64 0,.slice none 0 0]:=by rw [Q];exact NY _ _ _ (by simp)
 have Y:=Z.af U;have hS : ∀V,OC W V->V.cell? ⟨w.heap.size,0,none⟩=some (.int .i64 P)/\V.cell? ⟨w.heap.size,1,none⟩=some (.int .i64 M)/\V.cell? ⟨w.heap.size,2,none⟩=some (.slice am mod.length cm)/\Ints V am mod.length mod /\
   aO V (w.heap.size+1) [.int .i64 0,.int .i64 0,.slice none 0 0]/\OC W V:=λV z=>by have j:=x0.af z;exact ⟨j.cell 0 rfl,j.cell 1 rfl,j.cell 2 rfl,Y.af z,y0.af z,z⟩
 have C:=Z5 hS;have HbW:=Z5 U;have e:=Z5 H;clear Q x0 y0 hS;have HP : Hid (∀(A : World) (a4 : OA) (E : Nat),bJ W.heap.size A a4 mod.length mod->OC W A ->
   oH P M mod w (.returned (.agg #[.int .i64 P,.int .i64 M,.slice a4 mod.length E])) (((A.setCell ⟨w.heap.size+1,0,none⟩ (.int .i64 P)).setCell ⟨w.heap.size+1,1,none⟩ (.int .i64 M)).setCell ⟨w.heap.size+1,2,none⟩ (.slice a4 mod.length E))):=λA a4 E h1 h2=>by
  have hb:=NX U h2;have hs:=e.out;refine ⟨a4,E,rfl,?_,?_⟩
  ·exact (((h1.setCell (p:=⟨w.heap.size+1,0,none⟩) (by simp;omega) _).setCell (p:=⟨w.heap.size+1,1,none⟩) (by simp;omega) _).setCell (p:=⟨w.heap.size+1,2,none⟩) (by simp;omega) _).mono (by omega)
  ·exact ((hb.setCell (p:=⟨w.heap.size+1,0,none⟩) (by simp) _).setCell (p:=⟨w.heap.size+1,1,none⟩) (by simp) _).setCell (p:=⟨w.heap.size+1,2,none⟩) (by simp) _
 have I:=Z.pl;have F : OC W (W.alloc (.cells #[] 3)).drew:=(an W _).drew;have K:=Z5 F;obtain ⟨c0,c1,c2,_⟩:=C.out W (JP _ _);obtain ⟨d0,d1,d2,_⟩:=C.out _ (an W (.cells #[] 3));clear F H U Z;go_region_law (
  (refine fg (by rfl) (.tmp 7) (.tmp 9) 22 3 (by rfl) (.int .i64 0) 8 underlying22 aV (by rfl) W.heap.size _ 0 0 [] (by rfl) (show (W.alloc (.cells #[] 3)).drew.ownsRow W.heap.size 3 1 (.slice (some ⟨W.heap.size,0,none⟩) 0 0) 0 [] from gg W 3) am mod.length cm (mod.map (Value.int .i64)) (by rfl) I (by simp) (N7 (Y.af K.out)) (ints_oneCell _ _) (by omega) (by unfold maxLen;omega) (by simp) ?_;intro a3 c3 w3 X S N;obtain ⟨_,_,_,_,O,G⟩:=C.out w3 (N0 (B:=W.heap.size) K.out (show (W.alloc (.cells #[] 3)).drew.ownsRow W.heap.size 3 1 (.slice (some ⟨W.heap.size,0,none⟩) 0 0) 0 [] from gg W 3) S (JO _) (by simp));have z0:=O.cell 0 rfl;have z1:=O.cell 1 rfl;have z2:=O.cell 2 rfl;have f0:=O.frozen 0;have f1:=O.frozen 1;have f2:=O.frozen 2))
 all_goals (
  have L : bJ W.heap.size w3 a3 mod.length mod:=Ow (by simpa using X)
  have r:=Z5 (HP.out w3 a3 c3 L G)
  clear L G X S N HP C
  go_wp2_with fail
  exact bodyPost_ret (v:=.agg #[.int .i64 P,.int .i64 M,.slice a3 mod.length c3]) (by simp [results,results125,go_sem,z0,z1,z2]) rfl r.out)
def nF (P M : Int) (mod : LI) (m : Nat) (L : Ll) (w : World) (e : Ending) (w' : World) : Prop :=
 ∃a1 c1 a2 c2,e = .returned (.agg #[.int .i64 P,.int .i64 M,.slice a1 mod.length c1,.int .i64 m,.slice a2 (bU (ah P M.toNat mod) L m).length c2])/\bJ w.heap.size w' a1 mod.length mod /\
  b8 w.heap.size w' a2 (bU (ah P M.toNat mod) L m).length (bU (ah P M.toNat mod) L m)/\OC w w'
theorem oS (P M : Int) (am : OA) (S cm : Nat) (mod : LI) (m : Nat) (a : OA) (n c : Nat) (L : Ll) (w : World) (K : Ints w am S mod) (hi : bu w a n L)
  (z : bq P M mod=true) (j : bs (ah P M.toNat mod).El m L) (hm : m<=1000000) (hn : n<=1000000) (hmn : S<=1000000) :
  Calls prog 72 #[.agg #[.int .i64 P,.int .i64 M,.slice am S cm],.slice a n c,.int .i64 m] w (nF P M mod m L w):=by
 have X:=Bv z j;have hinv:=kT (P:=P) (M:=M) (mod:=mod) (by rw [bW];exact z);obtain ⟨k,rfl,A,_,hF,hA,_⟩:=fE z;obtain ⟨k',e2,hrf,U⟩:=dI (by rw [bW];exact z);obtain rfl : k=k':=by omega
 rw [JQ] at X j hinv;rw [<- A] at j;have HC : Hid (∀V,OC w V->Calls prog 124 #[.agg #[.int .i64 P,.int .i64 k,.slice am S cm],.slice a n c,.int .i64 m] V λe w' =>
   ∃a2 c2 v2,e = .returned (.tuple #[.slice a2 (bU (ah P k mod) L m).length c2,v2])/\b8 V.heap.size w' a2 (bU (ah P k mod) L m).length (bU (ah P k mod) L m)/\OC V w'):=λV H=>by refine (ma P k am S cm mod a n c m L V ⟨hrf,U V am S (K.af H)⟩ (hi.af H) j hm hn hinv).mono ?_;rintro e w' ⟨a4,c4,ap,cp,rfl,N,_,hb4⟩;have hk:=N.je.len;rw [X] at N hk;rw [<- hk] at N;exact ⟨a4,c4,_,by rw [hk],N,hb4⟩
 have HFd : Hid (∀V,OC w V->Calls prog 125 #[.agg #[.int .i64 P,.int .i64 k,.slice am S cm]] V (oH P k mod V)):=λV H=>u7 P k am S cm mod V (K.af H) hmn;unfold nF;rw [JQ];obtain ⟨D,hD⟩ : ∃D,bU (ah P k mod) L m=D:=⟨_,rfl⟩
 rw [hD] at HC ⊢;clear X hinv A hF hA hrf U e2 j z hD;obtain ⟨q,hq⟩ : ∃q,D.length=q:=⟨_,rfl⟩
 rw [hq] at HC ⊢;clear hq;go_enter func72,ntmps72;go_wp2_with fail;obtain ⟨W,F⟩ : ∃W : World,W=(w.alloc (.cells #[.int .i64 P,.int .i64 k,.slice am S cm] 24)).alloc (.cells #[.int .i64 0,.int .i64 0,.slice none 0 0,.int .i64 0,.slice none 0 0] 27):=⟨_,rfl⟩
 rw [<- F];have O : OC w W:=by rw [F];exact bT _ _ _
 have hsW : W.heap.size=w.heap.size+2:=by rw [F];simp
 have x0 : aO W w.heap.size [.int .i64 P,.int .i64 k,.slice am S cm]:=by rw [F];exact (NY _ _ _ rfl).alloc _
 have z0 : aO W (w.heap.size+1) [.int .i64 0,.int .i64 0,.slice none 0 0,.int .i64 0,.slice none 0 0]:=by rw [F];exact NY _ _ _ (by simp)
 have hS : ∀V,OC W V->V.cell? ⟨w.heap.size,0,none⟩=some (.int .i64 P)/\V.cell? ⟨w.heap.size,1,none⟩=some (.int .i64 k)/\V.cell? ⟨w.heap.size,2,none⟩=some (.slice am S cm) /\
   aO V (w.heap.size+1) [.int .i64 0,.int .i64 0,.slice none 0 0,.int .i64 0,.slice none 0 0]:=λV H=>by have x1:=x0.af H;exact ⟨x1.cell 0 rfl,x1.cell 1 rfl,x1.cell 2 rfl,z0.af H⟩
 have HS:=Z5 hS;have HbW:=Z5 O;have HsW:=Z5 hsW;clear F x0 z0 hS;obtain ⟨c0,c1,c2,_⟩:=HS.out W (JP _ _);go_wp2_with fail;refine (HC.out W O).mono ?_;rintro e w1 ⟨a2,Y,v2,rfl,hM1,Q⟩;clear c0 c1 c2;obtain ⟨c0,c1,c2,_⟩:=HS.out w1 Q;have HF2:=Z5 (HFd.out w1 (NX O Q));clear HC HFd O hsW;go_wp2_with fail;refine HF2.out.mono ?_;rintro e w2 ⟨a3,E,rfl,B,G⟩;obtain ⟨_,_,_,Z⟩:=HS.out w2 (NX Q G);have z0:=Z.cell 0 rfl;have z1:=Z.cell 1 rfl;have z2:=Z.cell 2 rfl;have z3:=Z.cell 3 rfl;have z4:=Z.cell 4 rfl;have f0:=Z.frozen 0;have f1:=Z.frozen 1;have f2:=Z.frozen 2;have f3:=Z.frozen 3;have f4:=Z.frozen 4;have hs:=HsW.out;have hs2:=Q.size;have r:=hM1.af G;have hbF:=NX HbW.out (NX Q G);have I : ∃a1 c1 a2' C, (Ending.returned (.agg #[.int .i64 P, .int .i64 k, .slice a3 mod.length E, .int .i64 m, .slice a2 q Y])) = .returned (.agg #[.int .i64 P, .int .i64 k, .slice a1 mod.length c1, .int .i64 m, .slice a2' q C]) /\
   bJ w.heap.size (((((w2.setCell ⟨w.heap.size+1,0,none⟩ (.int .i64 P)).setCell ⟨w.heap.size+1,1,none⟩ (.int .i64 k)).setCell ⟨w.heap.size+1,2,none⟩ (.slice a3 mod.length E)).setCell ⟨w.heap.size+1,3,none⟩ (.int .i64 m)).setCell ⟨w.heap.size+1,4,none⟩ (.slice a2 q Y)) a1 mod.length mod /\
   b8 w.heap.size (((((w2.setCell ⟨w.heap.size+1,0,none⟩ (.int .i64 P)).setCell ⟨w.heap.size+1,1,none⟩ (.int .i64 k)).setCell ⟨w.heap.size+1,2,none⟩ (.slice a3 mod.length E)).setCell ⟨w.heap.size+1,3,none⟩ (.int .i64 m)).setCell ⟨w.heap.size+1,4,none⟩ (.slice a2 q Y)) a2' q D /\
   OC w (((((w2.setCell ⟨w.heap.size+1,0,none⟩ (.int .i64 P)).setCell ⟨w.heap.size+1,1,none⟩ (.int .i64 k)).setCell ⟨w.heap.size+1,2,none⟩ (.slice a3 mod.length E)).setCell ⟨w.heap.size+1,3,none⟩ (.int .i64 m)).setCell ⟨w.heap.size+1,4,none⟩ (.slice a2 q Y)):=by
  refine ⟨a3,E,a2,Y,rfl,?_,?_,(((((hbF.setCell (p:=⟨w.heap.size+1,0,none⟩) (by simp) _).setCell (p:=⟨w.heap.size+1,1,none⟩) (by simp) _).setCell (p:=⟨w.heap.size+1,2,none⟩) (by simp) _).setCell (p:=⟨w.heap.size+1,3,none⟩) (by simp) _).setCell (p:=⟨w.heap.size+1,4,none⟩) (by simp) _)⟩
  ·exact (((((B.setCell (p:=⟨w.heap.size+1,0,none⟩) (by simp;omega) _).setCell (p:=⟨w.heap.size+1,1,none⟩) (by simp;omega) _).setCell (p:=⟨w.heap.size+1,2,none⟩) (by simp;omega) _).setCell (p:=⟨w.heap.size+1,3,none⟩) (by simp;omega) _).setCell (p:=⟨w.heap.size+1,4,none⟩) (by simp;omega) _).mono (by omega)
  ·exact (((((r.setCell (p:=⟨w.heap.size+1,0,none⟩) (by simp;omega) _).setCell (p:=⟨w.heap.size+1,1,none⟩) (by simp;omega) _).setCell (p:=⟨w.heap.size+1,2,none⟩) (by simp;omega) _).setCell (p:=⟨w.heap.size+1,3,none⟩) (by simp;omega) _).setCell (p:=⟨w.heap.size+1,4,none⟩) (by simp;omega) _).mono (by omega)
 have HFin:=Z5 I;clear I hM1 r B Z HS HF2;go_wp2_with fail;exact bodyPost_ret (v:=.agg #[.int .i64 P,.int .i64 k,.slice a3 mod.length E,.int .i64 m,.slice a2 q Y]) (by simp [results,results72,go_sem,z0,z1,z2,z3,z4]) rfl HFin.out
end Go.Proofs.YthglbncgemdcbaaGreat
