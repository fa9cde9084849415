import Derived.Test.YthglbncgemdcbaaGreatCK23
import Derived.Test.YthglbncgemdcbaaGreatCK21
namespace Go.Proofs.YthglbncgemdcbaaGreat
set_option linter.all false
set_option maxRecDepth 100000
set_option maxHeartbeats 16000000
open Go.RowKit Go.Proofs.Tryz
theorem Below.nx {B : Nat} {W V V' : World} (h : Below B W V) (Z : B<=W.heap.size) (hb : OC V V') : Below B W V':=h.trans (hb.mono (J4 Z h.size))
theorem pO {X : World} (i : Int) : Ints (X.alloc (.cells #[.int .i64 i] 3)) (some ⟨X.heap.size,0,none⟩) 1 [i] :=
 ⟨rfl,λ_=>rfl,by unfold maxLen;omega,λj Z=>by obtain rfl : j=0:=(by omega);exact aF X #[.int .i64 i] 3 rfl 0⟩
theorem Ay {X Z : World} {i : Int} (hb : Below (X.alloc (.cells #[.int .i64 i] 3)).heap.size (X.alloc (.cells #[.int .i64 i] 3)) Z) : Ints Z (some ⟨X.heap.size,0,none⟩) 1 [i]:=(pO i).af hb
theorem Cd {X Z : World} {i : Int} (hb : Below (X.alloc (.cells #[.int .i64 i] 3)).drew.heap.size (X.alloc (.cells #[.int .i64 i] 3)).drew Z) : Ints Z (some ⟨X.heap.size,0,none⟩) 1 [i]:=(pO i).af (NX (JP _ _).drew hb)
def vL (P M : Int) (mod : LI) (m : Nat) (K : Ll) (w : World) (e : Ending) (w' : World) : Prop :=
 ∃a1 c1 a2 c2,e = .returned (.agg #[.int .i64 P,.int .i64 M,.slice a1 mod.length c1,.int .i64 m,.slice a2 K.length c2])/\Ints w' a1 mod.length mod/\bu w' a2 K.length K/\OC w w'
section
variable {m : Nat}
theorem Fq {t : LI} (Z : JI 0 m t) : frTo false (frTo false t m) m=t:=by
 refine Bn (lu false _ m) Z.1 λv=>?_;rw [eo];constructor
 ·rintro ⟨j,X,rfl,h⟩;rw [decide_eq_false_iff_not] at h;refine Kg λU=>h ((eo m).2 ⟨j,X,rfl,by simpa using U⟩)
 ·intro Y;have h1:=Z.2 v Y;refine ⟨v.toNat,by omega,by omega,?_⟩;rw [decide_eq_false_iff_not];intro h2;obtain ⟨j,X,e,h3⟩:=(eo m).1 h2;rw [decide_eq_false_iff_not] at h3;refine h3 ?_;have : (j : Int)=v:=by omega
  rw [this];exact Y
end
theorem E6 {P M : Int} {mod : LI} {m : Nat} {L : Ll} (X : aJ P M mod m L=0) {i : Nat} (hi : i<m) :
  yP (ah P M.toNat mod) m (aQ (ah P M.toNat mod) L m) (frTo false [(i : Int)] m)=cJ P M mod m L i:=by
 obtain ⟨Y,e,U,Z,F,S⟩:=aY X;obtain rfl : m=Y:=by omega
 have e1 : aQ (ah P M.toNat mod) L m=gw (ah P M.toNat mod).ops m L:=by unfold aQ gw bh;rfl
 rw [Gh,e1,Ge,Fq (t:=[(i : Int)]) (by simp [JI];omega),DY F S hi]
theorem C6 {P M : Int} {mod : LI} {m : Nat} {L : Ll} (Z : aJ P M mod m L=0) {i : Nat} :
  bU (ah P M.toNat mod) (cJ P M mod m L i) m=cJ P M mod m L i/\aJ P M mod m (cJ P M mod m L i)=0:=by have h:=(qt Z i).2.2.2;exact ⟨qC h,(jz h).1⟩
theorem y5 (P M : Int) (am : OA) (z cm : Nat) (mod : LI) (m : Nat) (a : OA) (n c : Nat) (L : Ll) (i : Nat) (w : World) (I : Ints w am z mod) (hi : bu w a n L) (hE : aJ P M mod m L=0) (him : i<m) :
  Calls prog 78 #[.agg #[.int .i64 P,.int .i64 M,.slice am z cm,.int .i64 m,.slice a n c],.int .i64 i] w (vL P M mod m (cJ P M mod m L i) w):=by
 obtain ⟨N',e,hm1,hm64,F,hR⟩:=aY hE;obtain rfl : m=N':=by omega
 have hB:=(aN hE).1;have hmn : z<=8:=by have:=jd hB;rw [<- I.len];exact this
 have hRd : bs (ah P M.toNat mod).El m (aQ (ah P M.toNat mod) L m):=by
  obtain ⟨N',e,_,_,_,hR'⟩:=aY (jz hE).1;obtain rfl : m=N':=by omega
  exact hR'
 have hle:=AK hE;obtain ⟨hvc,hvE⟩:=C6 hE (i:=i);have hRv : bs (ah P M.toNat mod).El m (cJ P M mod m L i):=by
  obtain ⟨N',e,_,_,_,hR'⟩:=aY hvE;obtain rfl : m=N':=by omega
  exact hR'
 have hvl : (cJ P M mod m L i).length<=m:=jL hvE;have hvw:=E6 hE him;have HPa : Hid (∀V,OC w V->Calls prog 99 #[.agg #[.int .i64 P,.int .i64 M,.slice am z cm,.int .i64 m,.slice a n c]] V λe w'=>∃a1 r,e = .returned (.slice a1 (aQ (ah P M.toNat mod) L m).length r)/\bu w' a1 (aQ (ah P M.toNat mod) L m).length (aQ (ah P M.toNat mod) L m)/\OC V w'):=λV N=>by refine (lW P M am z cm mod m a n c L V (I.af N) (hi.af N) hE).mono ?_;rintro e w' ⟨a1,r,R,rfl,hO,hb⟩;exact ⟨a1,r,rfl,hO.je,hb⟩
 have HOt : Hid (∀V a1 c1,Ints V a1 1 [(i : Int)]->Calls prog 132 #[.slice a1 1 c1,.int .i64 m] V λe w'=>∃a2 c2,e = .returned (.slice a2 (frTo false [(i : Int)] m).length c2)/\Ints w' a2 (frTo false [(i : Int)] m).length (frTo false [(i : Int)] m)/\OC V w'):=λV a1 c1 h=>by refine (jr a1 1 c1 [(i : Int)] m V h (by omega)).mono ?_;rintro e w' ⟨a2,c2,rfl,h1,h2⟩;exact ⟨a2,c2,rfl,(NZ h1).1,h2⟩
 have E : Hid (∀V a1 r a2 k2,OC w V->bu V a1 (aQ (ah P M.toNat mod) L m).length (aQ (ah P M.toNat mod) L m)->Ints V a2 (frTo false [(i : Int)] m).length (frTo false [(i : Int)] m)->Calls prog 131 #[.agg #[.int .i64 P,.int .i64 M,.slice am z cm],.slice a1 (aQ (ah P M.toNat mod) L m).length r,.int .i64 m,.slice a2 (frTo false [(i : Int)] m).length k2] V λe w' =>
   ∃a3 k3,e = .returned (.slice a3 (cJ P M mod m L i).length k3)/\bu w' a3 (cJ P M mod m L i).length (cJ P M mod m L i)/\OC V w'):=λV a1 r a2 k2 N h1 h2=>by have h:=vS P M am z cm mod m a1 _ r _ a2 _ k2 _ V (I.af N) h1 h2 hB hRd (by omega) (by omega);unfold vq at h;rw [hvw] at h;refine h.mono ?_;rintro e w' ⟨a3,k3,R,rfl,hO,hb⟩;exact ⟨a3,k3,rfl,hO.je,hb⟩
 have HMk : Hid (∀V a1 r,OC w V->bu V a1 (cJ P M mod m L i).length (cJ P M mod m L i)->Calls prog 72 #[.agg #[.int .i64 P,.int .i64 M,.slice am z cm],.slice a1 (cJ P M mod m L i).length r,.int .i64 m] V λe w' =>
   ∃a2 c2 a3 c3,e = .returned (.agg #[.int .i64 P,.int .i64 M,.slice a2 mod.length c2,.int .i64 m,.slice a3 (cJ P M mod m L i).length c3])/\bJ V.heap.size w' a2 mod.length mod/\b8 V.heap.size w' a3 (cJ P M mod m L i).length (cJ P M mod m L i)/\OC V w'):=λV a1 r N hM=>by have h:=oS P M am z cm mod m a1 _ r (cJ P M mod m L i) V (I.af N) hM hB hRv (by omega) (by omega) (by omega);unfold nF at h;rw [hvc] at h;exact h
 have O : Hid (∀a1 c1 a2 c2 w',Ints w' a1 mod.length mod->bu w' a2 (cJ P M mod m L i).length (cJ P M mod m L i)->OC w w'->vL P M mod m (cJ P M mod m L i) w (.returned (.agg #[.int .i64 P,.int .i64 M,.slice a1 mod.length c1,.int .i64 m,.slice a2 (cJ P M mod m L i).length c2])) w'):=λa1 c1 a2 c2 w' h1 h2 h3=>⟨a1,c1,a2,c2,rfl,h1,h2,h3⟩
 generalize vL P M mod m (cJ P M mod m L i) w=Post at *;obtain ⟨nm,hnm⟩ : ∃nm,mod.length=nm:=⟨_,rfl⟩
 obtain ⟨K,hK⟩ : ∃K,cJ P M mod m L i=K:=⟨_,rfl⟩
 obtain ⟨D,hD⟩ : ∃D,aQ (ah P M.toNat mod) L m=D:=⟨_,rfl⟩
 obtain ⟨S,hS⟩ : ∃S,frTo false [(i : Int)] m=S:=⟨_,rfl⟩
 rw [hnm] at HMk O;rw [hK] at E HMk O;rw [hD] at HPa E;rw [hS] at HOt E;obtain ⟨nk,hnk⟩ : ∃nk,K.length=nk:=⟨_,rfl⟩
 obtain ⟨nd,hnd⟩ : ∃nd,D.length=nd:=⟨_,rfl⟩
 obtain ⟨ns,hns⟩ : ∃ns,S.length=ns:=⟨_,rfl⟩
 rw [hnk] at E HMk O;rw [hnd] at HPa E;rw [hns] at HOt E;clear hnm hK hD hS hnk hnd hns I hi hE him F hR hB hmn hRd hle hvc hvE hRv hvl hvw e hm1 hm64;go_enter func78,ntmps78;go_upto_region 1 with fail;obtain ⟨W,hW⟩ : ∃W : World,W=((w.alloc (.cells #[.int .i64 P,.int .i64 M,.slice am z cm,.int .i64 m,.slice a n c] 27)).alloc (.cells #[.int .i64 0,.int .i64 0,.slice none 0 0,.int .i64 0,.slice none 0 0] 27)):=⟨_,rfl⟩
 rw [<- hW];have hbW : OC w W:=by rw [hW];exact bT _ _ _
 have x0 : aO W w.heap.size [.int .i64 P,.int .i64 M,.slice am z cm,.int .i64 m,.slice a n c]:=by rw [hW];exact (NY _ _ _ rfl).alloc _
 have z0 : aO W (w.heap.size+1) [.int .i64 0,.int .i64 0,.slice none 0 0,.int .i64 0,.slice none 0 0]:=by rw [hW];exact NY _ _ _ (by simp)
 have hsW : W.heap.size=w.heap.size+2:=by rw [hW];simp
 clear hW;have HX:=Z5 (JZ x0 z0);have HbW:=Z5 hbW;have HsW:=Z5 hsW;have C : w.heap.size+1<=W.heap.size:=by omega
 have HS5 : Hid (∀V,Below (w.heap.size+1) W V->V.cell? ⟨w.heap.size,0,none⟩=some (.int .i64 P)/\V.cell? ⟨w.heap.size,1,none⟩=some (.int .i64 M)/\V.cell? ⟨w.heap.size,2,none⟩=some (.slice am z cm)/\V.cell? ⟨w.heap.size,3,none⟩=some (.int .i64 m)/\V.cell? ⟨w.heap.size,4,none⟩=some (.slice a n c)/\Below (w.heap.size+1) W V):=λV N =>
  ⟨(N.cell (p:=⟨w.heap.size,0,none⟩) (by simp)).trans (x0.cell 0 rfl),(N.cell (p:=⟨w.heap.size,1,none⟩) (by simp)).trans (x0.cell 1 rfl),(N.cell (p:=⟨w.heap.size,2,none⟩) (by simp)).trans (x0.cell 2 rfl),(N.cell (p:=⟨w.heap.size,3,none⟩) (by simp)).trans (x0.cell 3 rfl),(N.cell (p:=⟨w.heap.size,4,none⟩) (by simp)).trans (x0.cell 4 rfl),N⟩
 have HSt : Hid (∀V y0 y1 y2 y3 y4,Below (w.heap.size+1) W V->Below (w.heap.size+1) W (((((V.setCell ⟨w.heap.size+1,0,none⟩ y0).setCell ⟨w.heap.size+1,1,none⟩ y1).setCell ⟨w.heap.size+1,2,none⟩ y2).setCell ⟨w.heap.size+1,3,none⟩ y3).setCell ⟨w.heap.size+1,4,none⟩ y4)):=λV y0 y1 y2 y3 y4 N =>
  ((((N.setCell (by simp) _).setCell (by simp) _).setCell (by simp) _).setCell (by simp) _).setCell (by simp) _
 have Z:=Z5 z0;have Hst:=Z5 (λ(V : World) (N : Below (w.heap.size+1) W V)=>KE HbW.out (N.mono (Nat.le_succ _)) : ∀V,Below (w.heap.size+1) W V->OC w V);have hb0 : Below (w.heap.size+1) W W:=JP _ _;clear x0 z0 hbW hsW;obtain ⟨c0,c1,c2,c3,c4,_⟩:=HS5.out W hb0;go_region_held3 (λV=>V.cell? ⟨w.heap.size,0,none⟩=some (.int .i64 P)/\V.cell? ⟨w.heap.size,1,none⟩=some (.int .i64 M)/\V.cell? ⟨w.heap.size,2,none⟩=some (.slice am z cm)/\V.cell? ⟨w.heap.size,3,none⟩=some (.int .i64 m)/\V.cell? ⟨w.heap.size,4,none⟩=some (.slice a n c)/\Below (w.heap.size+1) W V)
  ((with_reducible refine HS5.out _ ?_;first | (with_reducible exact HSt.out _ _ _ _ _ _ (by go_split_ands;assumption)) | (with_reducible exact hb0.drew) | (with_reducible assumption) | (go_split_ands;first | (with_reducible assumption) | (with_reducible exact Below.nx (by assumption) C (an _ _)) | (with_reducible exact (Below.nx (by assumption) C (an _ _)).drew) | (with_reducible exact Below.drew (by assumption)))))
  (first
   | (go_at_call 99;((with_reducible refine (HPa.out _ (by go_split_ands;exact Hst.out _ (by assumption))).mono ?_);rintro e w2 ⟨a2,k2,rfl,hM2,U⟩;have hB2 : Below (w.heap.size+1) W w2:=(by go_split_ands;exact Below.nx (by assumption) C U);have Y:=Z5 hM2;clear hM2;(first | (have Z:=Z5 (Z.out.af U)) | (have Z:=Z5 (Z.out.af (NX (an _ _) U))) | (have Z:=Z5 (Z.out.af (NX (NX (JP _ _).drew (an _ _)) U))) | (have Z:=Z5 (Z.out.af (NX (an _ _).drew U))) | (have Z:=Z5 (Z.out.af (NX (JP _ _).drew U))) | (have Z:=Z5 (Z.out.af (NX (NX (JP _ _).drew (an _ _)).drew U))) | skip);(first | (have HI:=Z5 (Cd U)) | (have HI:=Z5 (Ay U)) | (have A:=Z5 (A.out.af U)) | (have A:=Z5 (A.out.af (NX (JP _ _).drew U))) | skip)))
   | (go_at_call 132;((with_reducible refine (HOt.out _ _ _ (by first | exact HI.out | exact HI.out.af (JP _ _).drew | exact pO _ | exact (pO _).af (JP _ _).drew)).mono ?_);rintro e w3 ⟨a3,k3,rfl,hO3,X⟩;have hB3 : Below (w.heap.size+1) W w3:=(by go_split_ands;exact Below.nx (by assumption) C X);have A:=Z5 hO3;clear hO3;(first | (have Z:=Z5 (Z.out.af X)) | (have Z:=Z5 (Z.out.af (NX (an _ _) X))) | (have Z:=Z5 (Z.out.af (NX (NX (JP _ _).drew (an _ _)) X))) | (have Z:=Z5 (Z.out.af (NX (an _ _).drew X))) | (have Z:=Z5 (Z.out.af (NX (JP _ _).drew X))) | (have Z:=Z5 (Z.out.af (NX (NX (JP _ _).drew (an _ _)).drew X))) | skip);(first | (have Y:=Z5 (Y.out.af X)) | (have Y:=Z5 (Y.out.af (NX (an _ _) X))) | (have Y:=Z5 (Y.out.af (NX (NX (JP _ _).drew (an _ _)) X))) | (have Y:=Z5 (Y.out.af (NX (an _ _).drew X))) | (have Y:=Z5 (Y.out.af (NX (JP _ _).drew X))) | (have Y:=Z5 (Y.out.af (NX (NX (JP _ _).drew (an _ _)).drew X))) | skip)))
   | (go_at_call 131;((with_reducible refine (E.out _ _ _ _ _ (by go_split_ands;exact Hst.out _ (by assumption)) (by first | exact Y.out | exact Y.out.af (JP _ _).drew) (by first | exact A.out | exact A.out.af (JP _ _).drew)).mono ?_);rintro e w4 ⟨a4,k4,rfl,hK4,hb4⟩;have hB4 : Below (w.heap.size+1) W w4:=(by go_split_ands;exact Below.nx (by assumption) C hb4);have HK4:=Z5 hK4;clear hK4;(first | (have Z:=Z5 (Z.out.af hb4)) | (have Z:=Z5 (Z.out.af (NX (an _ _) hb4))) | (have Z:=Z5 (Z.out.af (NX (NX (JP _ _).drew (an _ _)) hb4))) | (have Z:=Z5 (Z.out.af (NX (an _ _).drew hb4))) | (have Z:=Z5 (Z.out.af (NX (JP _ _).drew hb4))) | (have Z:=Z5 (Z.out.af (NX (NX (JP _ _).drew (an _ _)).drew hb4))) | skip)))
   | (go_at_call 72;((with_reducible refine (HMk.out _ _ _ (by go_split_ands;exact Hst.out _ (by assumption)) (by first | exact HK4.out | exact HK4.out.af (JP _ _).drew)).mono ?_);rintro e w5 ⟨a5,k5,a6,k6,rfl,hI5,j,G⟩;have hB5 : Below (w.heap.size+1) W w5:=(by go_split_ands;exact Below.nx (by assumption) C G);have hs5 : W.heap.size<=w4.heap.size:=hB4.size;(first | (have Z:=Z5 (Z.out.af G)) | (have Z:=Z5 (Z.out.af (NX (an _ _) G))) | (have Z:=Z5 (Z.out.af (NX (NX (JP _ _).drew (an _ _)) G))) | (have Z:=Z5 (Z.out.af (NX (an _ _).drew G))) | (have Z:=Z5 (Z.out.af (NX (JP _ _).drew G))) | (have Z:=Z5 (Z.out.af (NX (NX (JP _ _).drew (an _ _)).drew G))) | skip);have HF5:=Z5 (JZ hI5 (JZ j (JZ hB5 hs5)));clear hI5 j;have z0:=Z.out.cell 0 rfl;have z1:=Z.out.cell 1 rfl;have z2:=Z.out.cell 2 rfl;have z3:=Z.out.cell 3 rfl;have z4:=Z.out.cell 4 rfl;have f0:=Z.out.frozen 0;have f1:=Z.out.frozen 1;have f2:=Z.out.frozen 2;have f3:=Z.out.frozen 3;have f4:=Z.out.frozen 4)))
 all_goals (
  obtain ⟨hI5,j,hBl,hs6⟩:=HF5.out
  have hsW:=HsW.out
  have Q : w.heap.size+1<w4.heap.size:=by omega
  have zz:=(((((Z.out.setCell 0 (.int .i64 P)).setCell 1 (.int .i64 M)).setCell 2 (.slice a5 nm k5)).setCell 3 (.int .i64 m)).setCell 4 (.slice a6 nk k6))
  have y0:=zz.cell 0 rfl
  have y1:=zz.cell 1 rfl
  have y2:=zz.cell 2 rfl
  have y3:=zz.cell 3 rfl
  have y4:=zz.cell 4 rfl
  have hb9:=KE HbW.out ((HSt.out w5 (.int .i64 P) (.int .i64 M) (.slice a5 nm k5) (.int .i64 m) (.slice a6 nk k6) hBl).mono (Nat.le_succ _))
  have HF:=Z5 (O.out a5 k5 a6 k6 (((((w5.setCell ⟨w.heap.size+1,0,none⟩ (.int .i64 P)).setCell ⟨w.heap.size+1,1,none⟩ (.int .i64 M)).setCell ⟨w.heap.size+1,2,none⟩ (.slice a5 nm k5)).setCell ⟨w.heap.size+1,3,none⟩ (.int .i64 m)).setCell ⟨w.heap.size+1,4,none⟩ (.slice a6 nk k6)) (((((hI5.setCell (p:=⟨w.heap.size+1,0,none⟩) Q (.int .i64 P)).setCell (p:=⟨w.heap.size+1,1,none⟩) Q (.int .i64 M)).setCell (p:=⟨w.heap.size+1,2,none⟩) Q (.slice a5 nm k5)).setCell (p:=⟨w.heap.size+1,3,none⟩) Q (.int .i64 m)).setCell (p:=⟨w.heap.size+1,4,none⟩) Q (.slice a6 nk k6)).ints (((((j.setCell (p:=⟨w.heap.size+1,0,none⟩) Q (.int .i64 P)).setCell (p:=⟨w.heap.size+1,1,none⟩) Q (.int .i64 M)).setCell (p:=⟨w.heap.size+1,2,none⟩) Q (.slice a5 nm k5)).setCell (p:=⟨w.heap.size+1,3,none⟩) Q (.int .i64 m)).setCell (p:=⟨w.heap.size+1,4,none⟩) Q (.slice a6 nk k6)).je hb9)
  clear zz hb9 hI5 j hBl
  go_wp2_with fail
  exact bodyPost_ret (v:=.agg #[.int .i64 P,.int .i64 M,.slice a5 nm k5,.int .i64 m,.slice a6 nk k6]) (by simp [results,results78,go_sem,y0,y1,y2,y3,y4]) rfl HF.out)
theorem zX {w : World} {b : Nat} {G : cX} (q : Nat) (x : Int) (X : w.cell? ⟨q,0,none⟩=some (.pointer (some ⟨b,0,none⟩))) (h : ee w b G) :
  Calls prog 54 #[.int .i64 x,.pointer (some ⟨q,0,none⟩)] w λe w'=>e = .returned (.bool (!(decide (0<=x) && decide (x<G.q))))/\w=w':=by
 go_enter func54,ntmps54;go_wp2_with fail;refine (I1 x h).mono ?_;rintro e w' ⟨rfl,rfl⟩;obtain ⟨z,Z⟩ : ∃z,(decide (0<=x) && decide (x<G.q))=z:=⟨_,rfl⟩
 have Y:=Z5 Z;rw [Z];clear Z;cases z
 ·go_wp2_with fail;go_ret;exact ⟨aU (by rw [Y.out];rfl),rfl⟩
 ·go_wp2_with fail;go_ret;exact ⟨aU (by rw [Y.out];rfl),rfl⟩
theorem uE (p : Int->Bool) (q : Nat) (a : OA) (n c : Nat) (l : LI) (w : World) (hi : Ints w a n l) (L : ∀k,k<n->Calls prog 54 #[.int .i64 (nth l k),.pointer (some ⟨q,0,none⟩)] w λe w'=>e = .returned (.bool (p (nth l k)))/\w=w') :
  Calls prog 111 #[.slice a n c,.func (.func 54) #[] #[.pointer (some ⟨q,0,none⟩)]] w λe w'=>∃z : Int,e = .returned (.int .i64 z)/\(0<=z ↔ l.any p=true)/\w=w':=by
 have E:=hi.pl;have U:=hi.max;have F:=Z5 L;have K:=Z5 hi.len;unfold maxLen at U;clear L;go_enter func111,ntmps111;go_wp2_with fail;go_loop [8] (λN=>∃k : Nat,k<=n/\N = .int .i64 k/\Hid (∀j,j<k->p (nth l j)=false)) (λN=>n - (intOf N).toNat);case atStart=>exact ⟨0,JU _,rfl,λj O=>by omega⟩
 case round =>
  obtain ⟨k,C,rfl,Y⟩:=hrel
  by_cases X : k<n
  ·have A:=hi.cell k X
   have Z:=F.out k X
   obtain ⟨z,S⟩ : ∃z,p (nth l k)=z:=⟨_,rfl⟩
   rw [S] at Z
   have I:=Z5 Z
   cases z
   ·have G : Hid (∀j,j<k+1->p (nth l j)=false):=λj O=>by
     by_cases e : j=k
     ·subst e;exact S
     ·exact Y.out j (by omega)
    clear S Z Y
    go_wp2_with fail
    refine I.out.mono ?_
    rintro e w' ⟨rfl,rfl⟩
    go_wp2_with fail
    go_round
    case rel=>exact ⟨k+1,by omega,by go_num,G.out⟩
    case measure=>simp [intOf] <;> omega
   ·have Q : Hid (l.any p=true):=by show _=_;rw [L5];exact ⟨nth l k,aI (by rw [K.out];exact X),S⟩
    clear S Z Y
    go_wp2_with fail
    refine I.out.mono ?_
    rintro e w' ⟨rfl,rfl⟩
    go_wp2_with fail
    go_ret
    exact ⟨k,rfl,⟨λ_=>by first | exact Q.out | exact List.any_eq_true.1 Q.out,λ_=>LO _⟩,rfl⟩
  ·obtain rfl : k=n:=by omega
   have Q : Hid (l.any p=false):=by show _=_;rw [Mf];intro x D;obtain ⟨j,O,rfl⟩:=List.mem_iff_getElem.1 D;have:=Y.out j (by rw [<- K.out];exact O);rw [aj O] at this;rw [this];decide
   go_wp2_with fail
   go_ret
   exact ⟨-1,rfl,⟨λh=>absurd h (by omega),λh=>by have h2 : l.any p=true:=(by first | exact h | exact List.any_eq_true.2 h);rw [Q.out] at h2;exact absurd h2 (by decide)⟩,rfl⟩
theorem pN (p : Int->Bool) (q : Nat) (a : OA) (n c : Nat) (l : LI) (w : World) (hi : Ints w a n l) (U : ∀k,k<n->Calls prog 54 #[.int .i64 (nth l k),.pointer (some ⟨q,0,none⟩)] w λe w'=>e = .returned (.bool (p (nth l k)))/\w=w') :
  Calls prog 53 #[.slice a n c,.func (.func 54) #[] #[.pointer (some ⟨q,0,none⟩)]] w λe w'=>e = .returned (.bool (l.any p))/\w=w':=by
 have S:=Z5 (uE p q a n c l w hi U);clear U;go_enter func53,ntmps53;go_wp2_with fail;refine S.out.mono ?_;rintro e w' ⟨z,rfl,Z,rfl⟩;by_cases h0 : 0<=z
 ·have Y : Hid (l.any p=true):=Z.1 h0;have X : decide (0<=z)=true:=by simpa using h0
  clear Z h0;go_wp2_with fail;go_ret;exact ⟨aU Y.out.symm,rfl⟩
 ·have Y : Hid (l.any p=false):=by
   show _=_;cases h : l.any p
   ·rfl
   ·exact absurd (Z.2 h) h0
  have X : decide (0<=z)=false:=by simpa using h0
  clear Z h0;go_wp2_with fail;go_ret;exact ⟨aU Y.out.symm,rfl⟩
def yY (P M : Int) (mod : LI) (N : Int) (L : Ll) (i : Int) (y : LI) : Int :=
 if jq P M mod N L i=0 then (if (y.length : Int) ≠ N then 4 else if ez (ah P M.toNat mod).q y=false then 2 else qN P M mod N.toNat L i) else jq P M mod N L i
def FZ (P M : Int) (mod : LI) (N : Int) (L : Ll) (i : Int) (y : LI) : Int :=
 if yY P M mod N L i y=0 then repTo (ah P M.toNat mod).ops (gv P M mod N.toNat L i) y (ie P M mod N.toNat L i) (ie P M mod N.toNat L i).length else 0
theorem tI {P M : Int} {mod : LI} {N : Int} {L : Ll} {i : Int} (h : jq P M mod N L i=0) : aJ P M mod N L=0/\0<=i/\i<N:=by
 unfold jq at h;split at h
 ·rename_i Z;split at h
  ·cases h
  ·exact ⟨Z,by omega,by omega⟩
 ·rename_i Z;exact absurd h Z
theorem vF (P M : Int) (am : OA) (A cm : Nat) (mod : LI) (N : Int) (a : OA) (n c : Nat) (L : Ll) (i : Int) (ay : OA) (O cy : Nat) (y : LI) (w : World) (Q : Ints w am A mod) (hi : bu w a n L) (hy : Ints w ay O y) :
  Calls prog 17 #[.agg #[.int .i64 P,.int .i64 M,.slice am A cm,.int .i64 N,.slice a n c],.int .i64 i,.slice ay O cy] w λe w'=>e = .returned (.tuple #[.int .i64 (FZ P M mod N L i y),.int .i64 (yY P M mod N L i y)])/\OC w w':=by
 have HP : Hid (∀V,OC w V->Calls prog 47 #[.agg #[.int .i64 P,.int .i64 M,.slice am A cm,.int .i64 N,.slice a n c],.int .i64 i] V λe w'=>e = .returned (.int .i64 (jq P M mod N L i))/\OC V w'):=λV hV=>kN P M am A cm mod N a n c L i V (Q.af hV) (hi.af hV);have HH : Hid (jq P M mod N L i=0->∀V,OC w V->Calls prog 48 #[.agg #[.int .i64 P,.int .i64 M,.slice am A cm,.int .i64 N,.slice a n c],.int .i64 i] V (na (qN P M mod N.toNat L i) (ie P M mod N.toNat L i) (nR P M mod N.toNat L i) V)):=λh V hV=>by
  obtain ⟨hE,h0,h1⟩:=tI h;obtain ⟨m,rfl,_⟩:=aY hE;obtain ⟨j,rfl⟩ : ∃j : Nat,i=j:=⟨i.toNat,by omega⟩
  rw [JQ];exact o7 P M am A cm mod m j a n c L V (Q.af hV) (hi.af hV) hE (by omega)
 have HNw : Hid (jq P M mod N L i=0->∀V,OC w V->Calls prog 52 #[.agg #[.int .i64 P,.int .i64 M,.slice am A cm]] V λe w'=>∃b,e = .returned (.tuple #[.pointer (some ⟨b,0,none⟩),.int .i64 0])/\ee w' b (ah P M.toNat mod)/\OC V w'):=λh V hV=>by
  obtain ⟨hE,_,_⟩:=tI h;refine (dB P M am A cm mod V (Q.af hV)).mono ?_;rintro e w' (⟨h1,_⟩ | ⟨_,b,h2,h3,_,h4⟩)
  ·rw [(aN hE).1] at h1;cases h1
  ·exact ⟨b,h2,h3.gf,h4⟩
 have HS : Hid (∀k,k<(ie P M mod N.toNat L i).length->0<=nth (ie P M mod N.toNat L i) k/\nth (ie P M mod N.toNat L i) k<N.toNat):=λk hk=>by have h:=aI hk;rw [ie] at h;exact Bu h
 have HC : Hid (∀k,k<(ie P M mod N.toNat L i).length->nth (nR P M mod N.toNat L i) k=(ah P M.toNat mod).neg (nth (gv P M mod N.toNat L i) (nth (ie P M mod N.toNat L i) k).toNat)):=λk hk=>by rw [nR];rw [aj (by simpa using hk),KF,aj hk]
 have HE : Hid (yY P M mod N L i y=if jq P M mod N L i=0 then (if (O : Int) ≠ N then 4 else if ez (ah P M.toNat mod).q y=false then 2 else qN P M mod N.toNat L i) else jq P M mod N L i):=by show _=_;rw [yY,hy.len]
 have HV : Hid (FZ P M mod N L i y=if yY P M mod N L i y=0 then repTo (ah P M.toNat mod).ops (gv P M mod N.toNat L i) y (ie P M mod N.toNat L i) (ie P M mod N.toNat L i).length else 0):=rfl;have HY : Hid (y.length=O):=hy.len;have HEl : Hid (ez (ah P M.toNat mod).q y=true->(ah P M.toNat mod).DU y):=λh=>rC h;have HI : Hid (Ints w ay O y):=hy;generalize FZ P M mod N L i y=v at *;generalize yY P M mod N L i y=er at *;generalize jq P M mod N L i=pe at *;generalize qN P M mod N.toNat L i=he at *;generalize nR P M mod N.toNat L i=C at *;generalize ie P M mod N.toNat L i=S at *;generalize gv P M mod N.toNat L i=d at *;generalize ah P M.toNat mod=G at *;clear Q hi hy;go_enter func17,ntmps17;go_upto_region 1 with fail;obtain ⟨W,hW⟩ : ∃W : World,W=w.alloc (.cells #[.int .i64 P,.int .i64 M,.slice am A cm,.int .i64 N,.slice a n c] 27):=⟨_,rfl⟩
 rw [<- hW];have hbW : OC w W:=by rw [hW];exact an _ _
 have x0 : aO W w.heap.size [.int .i64 P,.int .i64 M,.slice am A cm,.int .i64 N,.slice a n c]:=by rw [hW];exact NY _ _ _ rfl
 have HX:=Z5 x0;have HbW:=Z5 hbW;have c0:=x0.cell 0 rfl;have c1:=x0.cell 1 rfl;have c2:=x0.cell 2 rfl;have c3:=x0.cell 3 rfl;have c4:=x0.cell 4 rfl;clear hW x0 hbW;go_wp2_with fail;refine (HP.out W HbW.out).mono ?_;rintro e w1 ⟨rfl,hb1⟩;have hF1:=NX HbW.out hb1;clear c0 c1 c2 c3 c4;by_cases h0 : pe=0;rotate_left
 ·have d0 : (pe != 0)=true:=by simpa using h0
  have K : Hid (er=pe):=by show _=_;rw [HE.out,JR h0]
  have Z : Hid (v=0):=by show _=_;rw [HV.out,JR (by rw [K.out];exact h0)]
  clear h0 HH HNw;go_wp2_with fail;go_ret2;exact ⟨by rw [K.out,Z.out] <;> rfl,hF1⟩
 have d0 : (pe != 0)=false:=by simp [h0]
 have HR0 : Hid (er=if (O : Int) ≠ N then 4 else if ez G.q y=false then 2 else he):=by show _=_;rw [HE.out,JT h0]
 have HH1:=Z5 (HH.out h0);have HN1:=Z5 (HNw.out h0);have y1:=HX.out.af hb1;have c0:=y1.cell 0 rfl;have c1:=y1.cell 1 rfl;have c2:=y1.cell 2 rfl;clear y1 h0 HH HNw HE HP;go_wp2_with fail;refine (HN1.out w1 hF1).mono ?_;rintro e w2 ⟨b,rfl,hG2,hb2⟩;have hF2:=NX hF1 hb2;clear c0 c1 c2;have r:=an w2 (.cells #[.pointer (some ⟨b,0,none⟩)] 79);have hc3:=bf w2 (.pointer (some ⟨b,0,none⟩)) 79;have X:=NX hF2 r;obtain ⟨U,hU⟩ : ∃U : World,U=w2.alloc (.cells #[.pointer (some ⟨b,0,none⟩)] 79):=⟨_,rfl⟩
 have hG3:=hG2.af r;rw [<- hU] at r hc3 X hG3;have x3:=(HX.out.af hb1).af (NX hb2 r);have c3:=x3.cell 3 rfl;have HCo:=Z5 (pN (λx=>!(decide (0<=x) && decide (x<G.q))) w2.heap.size ay O cy y U (HI.out.af X) λk hk=>zX w2.heap.size (nth y k) hc3 hG3);rw [uQ] at HCo;have hmf : ∀(fn : Fn) (first cap : Array Value) (w : World),(Instr.makeFunc fn first cap).run prog w = .ok (.func fn first cap) w:=λ_ _ _ _=>rfl;have HU:=Z5 hU;have HG3:=Z5 hG3;have Hc3:=Z5 hc3;have Hx3:=Z5 x3;clear x3 hG2 hG3;go_upto_region 7 with fail;rw [<- hU];clear hU;by_cases h1 : (O : Int) ≠ N
 ·have K : Hid (er=4):=by show _=_;rw [HR0.out,JT h1]
  have Z : Hid (v=0):=by show _=_;rw [HV.out,JR (by rw [K.out];decide)]
  have d1 : ((O : Int) != N)=true:=by simpa using h1
  clear h1;go_wp2_with fail;go_ret2;exact ⟨by rw [K.out,Z.out] <;> rfl,X⟩
 have HR1 : Hid (er=if ez G.q y=false then 2 else he):=by show _=_;rw [HR0.out,JR h1]
 obtain rfl : (O : Int)=N:=Classical.not_not.1 h1;have d1 : ((O : Int) != O)=false:=by simp
 clear h1;obtain ⟨z,hz⟩ : ∃z,ez G.q y=z:=⟨_,rfl⟩
 rw [hz] at HCo HR1 HEl;clear hz;cases z
 ·have K : Hid (er=2):=by show _=_;rw [HR1.out];rfl
  have Z : Hid (v=0):=by show _=_;rw [HV.out,JR (by rw [K.out];decide)]
  go_wp2_with fail;refine HCo.out.mono ?_;rintro e w' ⟨rfl,rfl⟩;go_wp2_with fail;go_ret2;exact ⟨by rw [K.out,Z.out] <;> rfl,X⟩
 have K : Hid (er=he):=by show _=_;rw [HR1.out];rfl
 have HYe : Hid (G.DU y):=HEl.out rfl;have c0:=Hx3.out.cell 0 rfl;have c1:=Hx3.out.cell 1 rfl;have c2:=Hx3.out.cell 2 rfl;have c4:=Hx3.out.cell 4 rfl;go_wp2_with fail;refine HCo.out.mono ?_;rintro e w' ⟨rfl,rfl⟩;go_wp2_with fail;refine (HH1.out _ X).mono ?_;rintro e w4 ⟨hb4,⟨h1,rfl⟩ | ⟨h1,a2,k2,a3,k3,rfl,hI2,hI3⟩⟩
 ·have F:=NX X hb4;have H1:=Z5 h1;have Z : Hid (v=0):=by show _=_;rw [HV.out,JR (by rw [K.out];exact H1.out)]
  have d2 : (he != 0)=true:=by simpa using h1
  clear c0 c1 c2 c3 c4 h1;go_wp2_with fail;go_ret2;exact ⟨by rw [K.out,Z.out] <;> rfl,F⟩
 have F:=NX X hb4;have Z : Hid (v=repTo G.ops d y S S.length):=by show _=_;rw [HV.out,JT (by rw [K.out];exact h1)]
 have HR3 : Hid (er=0):=by show _=_;rw [K.out];exact h1
 have hG4:=HG3.out.af hb4;have hc4:=aB hb4 Hc3.out;have HI2:=Z5 hI2;have HI3:=Z5 hI3;have HI4:=Z5 (HI.out.af F);have HG4:=Z5 hG4;have D:=hI2.max;unfold maxLen at D;have hp2:=hI2.pl;have hp3:=hI3.pl;have hpy:=(HI.out.af F).pl;obtain ⟨q,hq⟩ : ∃q,S.length=q:=⟨_,rfl⟩
 rw [hq] at HI2 HI3 D hp2 hp3 HS HC Z ⊢;clear c0 c1 c2 c3 c4 hI2 hI3 hG4 hq h1;go_wp2_with fail;go_loopw [13,54] (λvv iv wr=>∃k : Nat,k<=q/\iv = .int .i64 k/\vv = .int .i64 (repTo G.ops d y S k)/\bm w4 wr) (λ_ iv _=>q - (intOf iv).toNat);case atStart=>exact ⟨0,JU _,rfl,rfl,N4 _⟩
 case round =>
  obtain ⟨k,hk,rfl,rfl,hdr⟩:=hrel
  generalize wr=V at *
  by_cases E : k<q
  ·have I:=hdr.below
   have cS:=(HI2.out.af I).cell k E
   have cC:=(HI3.out.af I).cell k E
   obtain ⟨hs0,hs1⟩:=HS.out k E
   obtain ⟨j,hj⟩ : ∃j : Nat,nth S k=j:=⟨(nth S k).toNat,by omega⟩
   have hjn : j<O:=by omega
   have Hk : Hid (repTo G.ops d y S (k+1)=G.add (repTo G.ops d y S k) (G.mul (nth C k) (nth y j))):=by show _=_;rw [HC.out k E,repTo,hj,JQ];rfl
   rw [hj] at cS
   have cY:=(HI4.out.af I).cell j hjn
   have cP:=aB I hc4
   have Y : ee V b G:=HG4.out.af I
   have elC : G.El (nth C k):=by rw [HC.out k E];exact cX.uX Y _
   have elY : G.El (nth y j):=HYe.out _ (aI (by rw [HY.out];exact hjn))
   have elV : G.El (repTo G.ops d y S k):=by
    cases k with
    | zero=>exact ⟨Nb _,by have:=Y.q2;show (0 : Int)<_;omega⟩
    | succ k=>exact cX.DP Y _ _
   generalize repTo G.ops d y S k=rv at *
   generalize nth C k=cv at *
   generalize nth y j=yv at *
   have elm : ∀x y,G.El (G.mul x y):=λx y=>OB Y x y
   have HG : Hid (ee V.drew b G/\∀n,ee (V.drewN n) b G):=⟨Y.af (JP _ _).drew,λn=>Y.drewN n⟩
   have Hdr:=Z5 hdr
   clear hs0 hs1 hj Y I
   go_wp2_with fail
   go_region_law ((first
    | (go_simp;go_at_call 57;((with_reducible refine (pL cv yv HG.out.1 elC elY).mono ?_);rintro e w5 ⟨m5,rfl,rfl⟩))
    | (go_simp;go_at_call 57;((with_reducible refine (pL cv yv (HG.out.2 _) elC elY).mono ?_);rintro e w5 ⟨m5,rfl,rfl⟩))
    | (go_simp;go_at_call 56;((with_reducible refine (Ij rv (G.mul cv yv) (HG.out.2 _) elV (elm _ _)).mono ?_);rintro e w6 ⟨m6,rfl,rfl⟩))))
   all_goals (
    go_wp2_with fail
    go_roundw
    case rel=>exact ⟨k+1,by omega,by go_num,by rw [Hk.out],Hdr.out.trans ⟨_,rfl⟩⟩
    case measure=>simp [intOf] <;> omega)
  ·obtain rfl : k=q:=by omega
   have hF:=NX F hdr.below
   go_wp2_with fail
   go_ret2
   exact ⟨by rw [Z.out,HR3.out] <;> rfl,hF⟩
def Dz : Option Ll->Int
 | some []=>0
 | _=>13
theorem G8 (O : aM) (L : Ll) (m : Nat) (C : iz) (T : Ll) : provS O L m C T=Dz (folS O L m C C.W [] [] T):=by
 unfold provS Dz;cases folS O L m C C.W [] [] T with
 | none=>rfl
 | some r=>cases r <;> rfl
theorem sL (P M : Int) (am : OA) (A cm : Nat) (mod : LI) (m : Nat) (a : OA) (n c : Nat) (L : Ll) (ay : OA) (ny cy : Nat) (C : iz) (ax : OA) (nx cx : Nat) (I : Ll) (w : World)
  (X : Ints w am A mod) (hi : bu w a n L) (hE : aJ P M mod m L=0) (cb : Bool) (j : C.cos=cb) (Y : Hid (zw P M am A cm mod m a n c L ay ny cy C w)) (G : C.W<=64) (E : m<=64) (z : bu w ax nx I) (hnc : nx<=cx) :
  Calls prog 139 #[kQ P M am A cm m a n c ay ny cy C,.agg #[.slice ax nx cx]] w λe w'=>e = .returned (.int .i64 (provS (ah P M.toNat mod).ops L m C I))/\OC w w':=by
 obtain ⟨K,Q⟩ : ∃K,provS (ah P M.toNat mod).ops L m C I=K:=⟨_,rfl⟩
 rw [Q];have Z : ∀V,OC w V->Calls prog 196 #[kQ P M am A cm m a n c ay ny cy C,.slice none 0 0,.slice none 0 0,.slice ax nx cx] V (nC (folS (ah P M.toNat mod).ops L m C C.W [] [] I) V):=λV hV =>
  rFollow26_any P M am A cm mod m a n c L ay ny cy C w X hi hE cb j Y G E C.W V none 0 0 [] none 0 0 [] ax nx cx I (by omega) (by omega) hnc hV (N5 _ _) (N5 _ _) (z.af hV) (by simp) (λx hx=>by simp at hx)
 obtain ⟨RF,S⟩ : ∃RF,folS (ah P M.toNat mod).ops L m C C.W [] [] I=RF:=⟨_,rfl⟩
 rw [S] at Z;have F : K=Dz RF:=by rw [<- Q,<- S];exact G8 _ _ _ _ _
 unfold kQ at Z ⊢;rw [j];simp only [j] at Z;have HFo:=Z5 Z;have N:=Z5 F;clear Q S Z F X hi hE j Y G E z;go_enter func139,ntmps139;go_wp2_with fail;refine (HFo.out _ (bT w _ _)).mono ?_;rintro e w2 ⟨hb2,rv,ov,rfl,hFV⟩;have O:=NX (bT w _ _) hb2;rcases hFV with ⟨h1,rfl,rfl⟩ | ⟨rest,a12,c12,h1,rfl,rfl,U,r⟩
 ·have D : Hid (K=13):=by show _=_;rw [N.out,h1];rfl
  clear h1;go_wp2_with fail;go_ret;exact ⟨by rw [D.out];rfl,O⟩
 ·cases rest with
  | nil =>
   have D : Hid (K=0):=by show _=_;rw [N.out,h1];rfl
   clear h1 U r
   rw [Lw]
   go_wp2_with fail
   go_ret
   exact ⟨by rw [D.out];rfl,O⟩
  | cons x rest =>
   have D : Hid (K=13):=by show _=_;rw [N.out,h1];rfl
   obtain ⟨k,hk⟩ : ∃k,(x :: rest).length=k:=⟨_,rfl⟩
   have hk0 : 0<k:=by rw [<- hk];simp
   rw [hk]
   clear h1 U r hk
   have hd : decide ((0 : Int)<(k : Int))=true:=by simp;omega
   go_wp2_with fail
   go_ret
   exact ⟨by rw [D.out];rfl,O⟩
section
open Go.RowKit
end
section
open Go.RowKit
end
section
open Go.RowKit
end
section
open Go.RowKit
end
theorem mV (P M : Int) (am : OA) (O cm : Nat) (mod : LI) (N : Int) (a : OA) (n c : Nat) (L : Ll) (D : OA) (Q cy : Nat) (y : LI) (W : Int) (F : OA) (nx E : Nat) (ts : Ll) (w : World)
  (Z : Ints w am O mod) (hi : bu w a n L) (hy : Ints w D Q y) (hts : bu w F nx ts) (hnc : nx<=E) :
  Calls prog 85 #[.agg #[.int .i64 P,.int .i64 M,.slice am O cm,.int .i64 N,.slice a n c],.slice D Q cy,.int .i64 W,.agg #[.slice F nx E]] w λe w'=>e = .returned (.int .i64 (iN P M mod N L y W ts))/\OC w w':=by
 have A : Hid (et P M mod N L y W=0->∀V,OC w V->Calls prog 139 #[.agg #[.int .i64 P,.int .i64 M,.slice am O cm,.int .i64 N,.slice a n c,.int .i64 0,.int .i64 W,.slice D Q cy,.bool true],.agg #[.slice F nx E]] V
   λe w'=>e = .returned (.int .i64 (iN P M mod N L y W ts))/\OC V w'):=λh V S=>by
  obtain ⟨m,rfl⟩ : ∃m : Nat,N=m:=by
   refine Kg λhn=>?_;unfold et at h;by_cases Y : aJ P M mod N L=0
   ·obtain ⟨m,hm,_⟩:=cZ Y;exact hn ⟨m,hm⟩
   ·rw [JR Y] at h;exact Y h
  obtain ⟨Y,r,_,h3,h4⟩:=Db h;obtain ⟨_,h1,h2,_⟩:=aN Y;obtain rfl : Q=m:=by rw [<- hy.len];exact r.1
  have h7:=sL P M am O cm mod Q a n c L D Q cy ⟨0,W.toNat,true,y⟩ F nx E ts V (Z.af S) (hi.af S) Y true rfl (Z5 (Ah (Z.af S) (hi.af S) Y rfl (hy.af S) r)) (by show W.toNat<=64;omega) (by omega) (hts.af S) hnc;unfold kQ at h7;dsimp only at h7;rw [KY h3] at h7;rw [iN,JT h,JQ];exact h7
 have HRk : Hid (∀V,OC w V->Calls prog 129 #[.agg #[.int .i64 P,.int .i64 M,.slice am O cm,.int .i64 N,.slice a n c],.slice D Q cy,.int .i64 W] V λe w'=>e = .returned (.int .i64 (et P M mod N L y W))/\OC V w'):=λV S =>
  uA P M am O cm mod N a n c L D Q cy y W V (Z.af S) (hi.af S) (hy.af S)
 obtain ⟨V0,K⟩ : ∃V0,iN P M mod N L y W ts=V0:=⟨_,rfl⟩
 have j : et P M mod N L y W ≠ 0->V0=et P M mod N L y W:=λh=>by rw [<- K,iN,JR h]
 rw [K] at A ⊢;have HV1:=Z5 j;clear Z hi hy hts K j;go_enter func85,ntmps85;go_wp2_with fail;obtain ⟨U,z⟩ : ∃U : World,U=(w.alloc (.cells #[.int .i64 P,.int .i64 M,.slice am O cm,.int .i64 N,.slice a n c] 27)).alloc (.cells #[.slice F nx E] 103):=⟨_,rfl⟩
 rw [<- z];have C : OC w U:=by rw [z];exact bT _ _ _
 have x0 : aO U w.heap.size [.int .i64 P,.int .i64 M,.slice am O cm,.int .i64 N,.slice a n c]:=by rw [z];exact (NY _ _ _ rfl).alloc _
 have y0 : aO U (w.heap.size+1) [.slice F nx E]:=by rw [z];exact NY _ _ _ (by simp)
 clear z;refine (HRk.out U C).mono ?_;rintro e w1 ⟨rfl,I⟩;have X:=NX C I;have G:=x0.af I;have y1:=y0.af I;have c0:=G.cell 0 rfl;have c1:=G.cell 1 rfl;have c2:=G.cell 2 rfl;have c3:=G.cell 3 rfl;have c4:=G.cell 4 rfl;have d0:=y1.cell 0 rfl;by_cases Y : et P M mod N L y W=0
 ·have HP2:=Z5 (A.out Y);rw [Y];clear Y x0 y0 G y1;go_wp2_with fail;refine (HP2.out _ X).mono ?_;rintro e w3 ⟨rfl,hb3⟩;have hbF:=NX X hb3;go_wp2_with fail;go_ret;exact ⟨rfl,hbF⟩
 ·have HV2:=Z5 (HV1.out Y);have hE2 : (et P M mod N L y W != 0)=true:=by simpa using Y
  clear Y x0 y0 G y1;generalize et P M mod N L y W=er at *;go_wp2_with fail;go_ret;exact ⟨by rw [HV2.out];rfl,X⟩
def insS (x : Int) : LI->LI
 | []=>[x]
 | y :: l=>if x<=y then x :: y :: l else y :: insS x l
def pF : LI->LI
 | []=>[]
 | x :: l=>insS x (pF l)
theorem od (x : Int) : ∀l,(insS x l).Perm (x :: l)
 | []=>Nl _
 | y :: l=>by
  rw [insS];split
  ·exact Nl _
  ·exact ((od x l).cons y).trans (List.Perm.swap x y l)
theorem tK (x : Int) : ∀ {l : LI},l.Pairwise (λa b=>a<=b)->(insS x l).Pairwise (λa b=>a<=b)
 | [],_=>by simp [insS]
 | y :: l,h=>by
  rw [insS];rw [LR] at h;split
  ·rename_i Z;rw [LR,LR];refine ⟨λa ha=>?_,h.1,h.2⟩;rcases List.mem_cons.1 ha with rfl | ha
   ·exact Z
   ·have:=h.1 a ha;omega
  ·rename_i Z;rw [LR];refine ⟨λa ha=>?_,tK x h.2⟩;rcases List.mem_cons.1 ((od x l).mem_iff.1 ha) with rfl | ha
   ·omega
   ·exact h.1 a ha
theorem qw : ∀l,(pF l).Perm l
 | []=>Nl _
 | x :: l=>(od x (pF l)).trans ((qw l).cons x)
theorem qW : ∀l,(pF l).Pairwise (λa b=>a<=b)
 | []=>by simp [pF]
 | x :: l=>tK x (qW l)
theorem pC (l : LI) : dn l=pF l:=(mA (qW l) (qw l)).symm
def qm (O : aM) (L : Ll) (m : Nat) (C : iz) (s z : LI) : LI:=pF (xl O L (pF z ++ frTo false (s ++ z) m) (if C.cos=true then m else C.M))
theorem wh (O : aM) (L : Ll) (m : Nat) (C : iz) (s z : LI) : eJ O L m C s z=qm O L m C s z:=by unfold eJ qm i5;rw [pC,pC]
def bldI (O : aM) (L : Ll) (m : Nat) (C : iz) : Nat->LI->LI->Ll->Int × Ll
 | 0,s,z,T=>if dm O L m C s (qm O L m C s z)=true then if T.length=65536 then (8,[]) else (0,T ++ [qm O L m C s z]) else (11,[])
 | d+1,s,z,T=>if dm O L m C s (qm O L m C s z)=true then if T.length=65536 then (8,[]) else gr (bldI O L m C d) s z (iW C s z (qm O L m C s z)) (T ++ [qm O L m C s z]) else (11,[])
theorem AZ (O : aM) (L : Ll) (m : Nat) (C : iz) : ∀d,jn O L m C d=bldI O L m C d
 | 0=>by funext s z T;rw [jn,bldI,wh]
 | d+1=>by funext s z T;rw [jn,bldI,wh,AZ O L m C d]
theorem Bp (O : aM) (L : Ll) (m : Nat) (C : iz) : td O L m C=bldI O L m C C.W [] [] []:=by rw [td,AZ]
def bZ : Ll:=[[1,0,1,0],[0,1,1,1]]
def kP : Ll:=[[1,1,1,0],[0,1,0,1],[1,1,1,0],[0,1,0,1]]
theorem FD : CK 2 1 [] 4 bZ 0=0:=by decide +kernel
theorem FU : CK 2 1 [] 4 bZ 1=0:=by decide +kernel
theorem GP : ie 2 1 [] 4 bZ 0=[1,2]:=by decide +kernel
theorem GV : ie 2 1 [] 4 bZ 1=[3]:=by decide +kernel
theorem GF : nR 2 1 [] 4 bZ 0=[1,1]:=by decide +kernel
theorem Ga : nR 2 1 [] 4 bZ 1=[1]:=by decide +kernel
theorem AI : jt 2 1 [] 4 bZ=0:=by decide +kernel
theorem mY : dK 2 1 [] 4 bZ=kP:=by decide +kernel
theorem F8 : GI 2 1 [] 4 bZ=2:=by decide +kernel
theorem GN : yY 2 1 [] 4 bZ 0 [0,1,0,1]=0:=by decide +kernel
theorem FY : FZ 2 1 [] 4 bZ 0 [0,1,0,1]=1:=by decide +kernel
theorem GZ : uD 6 3 2=0:=by decide +kernel
theorem Gn : uV 6 3 2=3:=by decide +kernel
theorem FN : AW 7 1 [] 2 2 3=0:=by decide +kernel
theorem Bq : bq 7 1 []=true:=by decide +kernel
theorem BU : (ah 7 (1 : Int).toNat []).q=7:=by decide +kernel
theorem GA : (Fv 7 1 [] 2 2 3).length=3:=by have F:=dH Bq;obtain ⟨g,Z⟩:=pB Bq;exact (II F Z (r:=2) (c:=2) (k:=3) (by decide) (by rw [BU];decide) (by rw [BU];decide) (by decide) (by decide)).2.2.1
def tO : List Ll:=[[[1],[3],[]],[[0],[2]],[[1],[3],[]],[[0],[1]]]
theorem GS : cJ 2 1 [] 4 bZ 0=[[0,1,0,1]]:=by decide +kernel
theorem FE : cJ 2 1 [] 4 bZ 1=[[1,0,1,1]]:=by decide +kernel
theorem Gp : cJ 2 1 [] 4 bZ 2=[[0,1,0,1]]:=by decide +kernel
theorem GM : cJ 2 1 [] 4 bZ 3=[[1,1,1,0]]:=by decide +kernel
theorem AM : et 2 1 [] 4 [[0,1,0,1]] [1,1,1,0] 2=0:=by decide +kernel
theorem Gr : et 2 1 [] 4 [[1,0,1,1]] [0,1,0,1] 1=0:=by decide +kernel
theorem FW : et 2 1 [] 4 [[1,1,1,0]] [0,1,0,1] 1=0:=by decide +kernel
theorem BO : vQ 2 1 [] 4 bZ 0=(0,[[1],[3],[]]):=by unfold vQ;rw [show cJ 2 1 [] 4 bZ ((0 : Nat) : Int)=_ from GS,mY];show kI 2 1 [] 4 [[0,1,0,1]] [1,1,1,0] 2=_;rw [kI,JT AM,Bp];decide +kernel
theorem AJ : vQ 2 1 [] 4 bZ 1=(0,[[0],[2]]):=by unfold vQ;rw [show cJ 2 1 [] 4 bZ ((1 : Nat) : Int)=_ from FE,mY];show kI 2 1 [] 4 [[1,0,1,1]] [0,1,0,1] 1=_;rw [kI,JT Gr,Bp];decide +kernel
theorem BP : vQ 2 1 [] 4 bZ 2=(0,[[1],[3],[]]):=by unfold vQ;rw [show cJ 2 1 [] 4 bZ ((2 : Nat) : Int)=_ from Gp,mY];show kI 2 1 [] 4 [[0,1,0,1]] [1,1,1,0] 2=_;rw [kI,JT AM,Bp];decide +kernel
theorem BJ : vQ 2 1 [] 4 bZ 3=(0,[[0],[1]]):=by unfold vQ;rw [show cJ 2 1 [] 4 bZ ((3 : Nat) : Int)=_ from GM,mY];show kI 2 1 [] 4 [[1,1,1,0]] [0,1,0,1] 1=_;rw [kI,JT FW,Bp];decide +kernel
theorem Gg : A6 2 1 [] 4 bZ=0:=by unfold A6;rw [JT AI];show lcTo 2 1 [] 4 bZ 4=0;simp [lcTo,BO,AJ,BP,BJ]
theorem G0 : sK 2 1 [] 4 bZ 4=tO:=by unfold sK;show [_,_,_,_]=_;simp only [BO,AJ,BP,BJ];rfl
theorem Gx : lK 2 1 [] 4 bZ kP tO=0:=by decide +kernel
theorem H4 : lZ kP 4=[2,1,2,1]:=by decide +kernel
theorem vB (P M : Int) (am : OA) (C cm : Nat) (mod : LI) (N : Int) (a : OA) (n c : Nat) (L : Ll) (aw : OA) (E cw : Nat) (Y : Ll) (O : OA) (G ct : Nat) (TT : List Ll) (w : World)
  (I : Ints w am C mod) (hi : bu w a n L) (hw : bu w aw E Y) (ht : gq w O G TT) :
  Calls prog 34 #[.agg #[.int .i64 P,.int .i64 M,.slice am C cm,.int .i64 N,.slice a n c],.agg #[.slice aw E cw,.slice O G ct]] w (iI (lK P M mod N L Y TT) (lZ Y N.toNat) N.toNat w):=by
 have Q : Hid (∀V er,lK P M mod N L Y TT=er->er ≠ 0->OC w V->iI (lK P M mod N L Y TT) (lZ Y N.toNat) N.toNat w (.returned (.tuple #[.slice none 0 0,.int .i64 er])) V):=λV er h1 h2 h3=>⟨h3,.inl ⟨by rw [h1];exact h2,by rw [h1]⟩⟩
 have hmw:=hw.max;have hmt:=ht.max;have hplw:=hw.pl;have hplt:=ht.pl;unfold maxLen at hmw hmt;by_cases hE : aJ P M mod N L=0;rotate_left
 ·have HD : Hid (∀V,OC w V->Calls prog 45 #[.agg #[.int .i64 P,.int .i64 M,.slice am C cm,.int .i64 N,.slice a n c]] V λe w'=>e = .returned (.tuple #[.agg #[.int .i64 0,.int .i64 0,.slice none 0 0,.int .i64 0,.slice none 0 0],.int .i64 (aJ P M mod N L)])/\OC V w'):=λV Z =>
   (oT P M am C cm mod N a n c L V (I.af Z) (hi.af Z)).mono λe w' h=>by
    obtain ⟨b,⟨_,h⟩ | ⟨h,_⟩⟩:=h
    ·exact ⟨h,b⟩
    ·exact absurd h hE
  have HR : Hid (lK P M mod N L Y TT=aJ P M mod N L):=by show _=_;rw [lK,JR hE]
  generalize iI (lK P M mod N L Y TT) (lZ Y N.toNat) N.toNat w=r at *;generalize aJ P M mod N L=ce at *;have d0 : (ce != 0)=true:=by simpa using hE
  have H0:=Z5 hE;clear I hi hw ht hE;go_enter func34,ntmps34;go_upto_region 1 with fail;obtain ⟨W,hW⟩ : ∃W : World,W=(w.alloc (.cells #[.int .i64 P,.int .i64 M,.slice am C cm,.int .i64 N,.slice a n c] 27)).alloc (.cells #[.slice aw E cw,.slice O G ct] 48):=⟨_,rfl⟩
  rw [<- hW];have hbW : OC w W:=by rw [hW];exact bT _ _ _
  have x0 : aO W w.heap.size [.int .i64 P,.int .i64 M,.slice am C cm,.int .i64 N,.slice a n c]:=by rw [hW];exact (NY _ _ _ rfl).alloc _
  have c0:=x0.cell 0 rfl;have c1:=x0.cell 1 rfl;have c2:=x0.cell 2 rfl;have c3:=x0.cell 3 rfl;have c4:=x0.cell 4 rfl;have HbW:=Z5 hbW;clear hW x0 hbW;go_wp2_with fail;refine (HD.out W HbW.out).mono ?_;rintro e w1 ⟨rfl,hb1⟩;have hF:=NX (NX HbW.out hb1) (an w1 (.cells #[.int .i64 0,.int .i64 0,.slice none 0 0,.int .i64 0,.slice none 0 0] 27));clear c0 c1 c2 c3 c4;go_wp2_with fail;exact Q.out _ _ HR.out H0.out hF
 obtain ⟨m,rfl,hm1,hm64,_⟩:=aY hE;have hml : mod.length<=8:=jd (aN hE).1;have hmn : C<=8:=by rw [<- I.len];exact hml
 have HD : Hid (∀V,OC w V->Calls prog 45 #[.agg #[.int .i64 P,.int .i64 M,.slice am C cm,.int .i64 m,.slice a n c]] V λe w'=>∃a1 c1 a2 c2,e = .returned (.tuple #[.agg #[.int .i64 P,.int .i64 M,.slice a1 mod.length c1,.int .i64 m,.slice a2 (aQ (ah P M.toNat mod) L m).length c2],.int .i64 0])/\Ints w' a1 mod.length mod /\
   bu w' a2 (aQ (ah P M.toNat mod) L m).length (aQ (ah P M.toNat mod) L m)/\OC V w'):=λV Z=>(oT P M am C cm mod m a n c L V (I.af Z) (hi.af Z)).mono λe w' h=>by
  obtain ⟨b,⟨h,_⟩ | ⟨_,a1,c1,a2,c2,h1,h2,h3⟩⟩:=h
  ·exact absurd hE h
  ·rw [JQ] at h1 h3;exact ⟨a1,c1,a2,c2,h1,h2,h3,b⟩
 have j : Hid (∀V a1 c1 a2 c2 K F rc x,Ints V a1 mod.length mod->bu V a2 (aQ (ah P M.toNat mod) L m).length (aQ (ah P M.toNat mod) L m)->Ints V K F x->Calls prog 84 #[.agg #[.int .i64 P,.int .i64 M,.slice a1 mod.length c1,.int .i64 m,.slice a2 (aQ (ah P M.toNat mod) L m).length c2],.slice K F rc] V
   λe w'=>e = .returned (.tuple #[.bool (jX P M mod m (aQ (ah P M.toNat mod) L m) x),.int .i64 (fD P M mod m (aQ (ah P M.toNat mod) L m) x)])/\OC V w'):=λV a1 c1 a2 c2 K F rc x h1 h2 h3 =>
  zt P M a1 _ c1 mod m a2 _ c2 _ K F rc x V h1 h2 h3
 have HWl : Hid (∀x,fD P M mod m (aQ (ah P M.toNat mod) L m) x=0->x.length=m):=λx h=>by have h1:=(lE h).2.1;simpa using h1
 have HZe : Hid (∀ V (k : Nat), k < m → OC w V → Calls prog 78 #[.agg #[.int .i64 P, .int .i64 M, .slice am C cm, .int .i64 m, .slice a n c], .int .i64 k] V fun e w' =>
       ∃a1 c1 a2 c2,e = .returned (.agg #[.int .i64 P,.int .i64 M,.slice a1 mod.length c1,.int .i64 m,.slice a2 (cJ P M mod m L k).length c2])/\Ints w' a1 mod.length mod/\bu w' a2 (cJ P M mod m L k).length (cJ P M mod m L k)/\OC V w'):=λV k hk Z =>
  y5 P M am C cm mod m a n c L k V (I.af Z) (hi.af Z) hE hk
 have HCk : Hid (∀ V a1 c1 a2 c2 (k : Nat) K rc x W ab nb cb T, Ints V a1 mod.length mod → bu V a2 (cJ P M mod m L k).length (cJ P M mod m L k) → Ints V K m x → bu V ab nb T → nb ≤ cb → Calls prog 85 #[.agg #[.int .i64 P, .int .i64 M, .slice a1 mod.length c1, .int .i64 m, .slice a2 (cJ P M mod m L k).length c2], .slice K m rc, .int .i64 W, .agg #[.slice ab nb cb]] V
       λe w'=>e = .returned (.int .i64 (iN P M mod m (cJ P M mod m L k) x W T))/\OC V w'):=λV a1 c1 a2 c2 k K rc x W ab nb cb T h1 h2 h3 h4 h5 =>
  mV P M a1 _ c1 mod m a2 _ c2 _ K m rc x W ab nb cb T V h1 h2 h3 h4 h5
 have HEl : Hid (lK P M mod m L Y TT=if (E : Int)=m/\(G : Int)=m/\lkTo P M mod m L Y TT m=true then 0 else 13):=by show _=_;rw [lK,JT hE,hw.len,ht.len,JQ]
 have HTn : Hid (∀k,k<m->sI P M mod m L k (ai Y k) (nV TT k)=false->lK P M mod m L Y TT=13):=λk hk h=>by rw [HEl.out,JR];rintro ⟨_,_,h3⟩;have h4:=vj (TT:=TT) h (m - (k+1));rw [show k+1+(m - (k+1))=m by omega,h3] at h4;cases h4
 have HTs : Hid (∀k,lkTo P M mod m L Y TT k=true->sI P M mod m L k (ai Y k) (nV TT k)=true->lkTo P M mod m L Y TT (k+1)=true):=λk h1 h2=>by rw [lkTo,h1,h2];rfl
 have HOk : Hid (∀k x T,sI P M mod m L k x T=(decide (fD P M mod m (aQ (ah P M.toNat mod) L m) x=0) && jX P M mod m (aQ (ah P M.toNat mod) L m) x && decide (nth x k=1) && decide (iN P M mod m (cJ P M mod m L k) x ((gU x : Int) - 1) T=0))):=λk x T=>rfl;have HVk : Hid (∀k,k<E->lZ Y (k+1)=lZ Y k ++ [(gU (ai Y k) : Int) - 1]):=λk hk=>by
  have hkA : k<Y.length:=by rw [hw.len];exact hk
  unfold lZ;rw [JW hkA,Ko,aE hkA];rfl
 have HV0 : Hid (lZ Y 0=[]/\lkTo P M mod m L Y TT 0=true):=⟨rfl,rfl⟩
 have HVl : Hid (∀k,k<=E->(lZ Y k).length=k):=λk hk=>by unfold lZ;rw [J5,Ki,hw.len];omega
 rw [JQ] at Q ⊢;have HFin : Hid (∀a1 c1 V,lK P M mod m L Y TT=0->Ints V a1 m (lZ Y m)->OC w V->iI (lK P M mod m L Y TT) (lZ Y m) m w (.returned (.tuple #[.slice a1 m c1,.int .i64 0])) V):=λa1 c1 V h0 h1 h2=>⟨h2,.inr ⟨h0,a1,c1,rfl,h1⟩⟩
 generalize hPo : iI (lK P M mod m L Y TT) (lZ Y m) m w=r at *;generalize lK P M mod m L Y TT=le at *;generalize lkTo P M mod m L Y TT=LT at *;generalize sI P M mod m L=ok at *;generalize aQ (ah P M.toNat mod) L m=D at *;generalize hVc : cJ P M mod m L=vc at *;generalize lZ Y=LV at *;obtain ⟨nm,hnm⟩ : ∃nm,mod.length=nm:=⟨_,rfl⟩
 obtain ⟨nd,hnd⟩ : ∃nd,D.length=nd:=⟨_,rfl⟩
 rw [hnm] at HD j HZe HCk;rw [hnd] at HD j;have HI:=Z5 (JZ hw ht);clear I hi hw ht hE hm1 hml hmn hPo hVc hnm hnd;go_enter func34,ntmps34;go_upto_region 1 with fail;obtain ⟨W,hW⟩ : ∃W : World,W=(w.alloc (.cells #[.int .i64 P,.int .i64 M,.slice am C cm,.int .i64 m,.slice a n c] 27)).alloc (.cells #[.slice aw E cw,.slice O G ct] 48):=⟨_,rfl⟩
 rw [<- hW];have hbW : OC w W:=by rw [hW];exact bT _ _ _
 have x0 : aO W w.heap.size [.int .i64 P,.int .i64 M,.slice am C cm,.int .i64 m,.slice a n c]:=by rw [hW];exact (NY _ _ _ rfl).alloc _
 have y0 : aO W (w.heap.size+1) [.slice aw E cw,.slice O G ct]:=by rw [hW];exact NY _ _ _ (by simp)
 clear hW;have HX : Hid (∀V,OC W V->V.cell? ⟨w.heap.size,0,none⟩=some (.int .i64 P)/\V.cell? ⟨w.heap.size,1,none⟩=some (.int .i64 M)/\V.cell? ⟨w.heap.size,2,none⟩=some (.slice am C cm)/\V.cell? ⟨w.heap.size,3,none⟩=some (.int .i64 m)/\V.cell? ⟨w.heap.size,4,none⟩=some (.slice a n c)/\V.cell? ⟨w.heap.size+1,0,none⟩=some (.slice aw E cw)/\V.cell? ⟨w.heap.size+1,1,none⟩=some (.slice O G ct)):=λV Z=>by have x1:=x0.af Z;have y1:=y0.af Z;exact ⟨x1.cell 0 rfl,x1.cell 1 rfl,x1.cell 2 rfl,x1.cell 3 rfl,x1.cell 4 rfl,y1.cell 0 rfl,y1.cell 1 rfl⟩
 have HbW:=Z5 hbW;clear x0 y0 hbW;obtain ⟨c0,c1,c2,c3,c4,d0,d1⟩:=HX.out W (JP _ _);go_wp2_with fail;refine (HD.out W HbW.out).mono ?_;rintro e w1 ⟨a1,k1,a2,k2,rfl,hI1,hM1,hb1⟩;have hn1:=an w1 (.cells #[.int .i64 P,.int .i64 M,.slice a1 nm k1,.int .i64 m,.slice a2 nd k2] 27);have y1 : aO (w1.alloc (.cells #[.int .i64 P,.int .i64 M,.slice a1 nm k1,.int .i64 m,.slice a2 nd k2] 27)) w1.heap.size [.int .i64 P,.int .i64 M,.slice a1 nm k1,.int .i64 m,.slice a2 nd k2]:=NY _ _ _ rfl;have hI1':=hI1.af hn1;have hM1':=hM1.af hn1;clear c0 c1 c2 c3 c4 d0 d1 hI1 hM1;go_upto_region 2 with fail;obtain ⟨U,hU⟩ : ∃U,w1.alloc (.cells #[.int .i64 P,.int .i64 M,.slice a1 nm k1,.int .i64 m,.slice a2 nd k2] 27)=U:=⟨_,rfl⟩
 rw [hU] at hn1 y1 hI1' hM1' ⊢;obtain ⟨g1,hg1⟩ : ∃g,w1.heap.size=g:=⟨_,rfl⟩
 rw [hg1] at y1 ⊢;have hbU:=NX hb1 hn1;have hF1:=NX HbW.out hbU;have HDc : Hid (∀V,OC U V->V.cell? ⟨g1,0,none⟩=some (.int .i64 P)/\V.cell? ⟨g1,1,none⟩=some (.int .i64 M)/\V.cell? ⟨g1,2,none⟩=some (.slice a1 nm k1)/\V.cell? ⟨g1,3,none⟩=some (.int .i64 m)/\V.cell? ⟨g1,4,none⟩=some (.slice a2 nd k2)):=λV Z=>by have y:=y1.af Z;exact ⟨y.cell 0 rfl,y.cell 1 rfl,y.cell 2 rfl,y.cell 3 rfl,y.cell 4 rfl⟩
 have HH:=Z5 (λV K F rc x (Z : OC U V) h=>j.out V a1 k1 a2 k2 K F rc x (hI1'.af Z) (hM1'.af Z) h);clear hU hg1 y1 hI1' hM1' j HD hn1 hb1;obtain ⟨c0,c1,c2,c3,c4,d0,d1⟩:=HX.out U hbU;by_cases h1 : (E : Int)=m;rotate_left
 ·have e1 : ((E : Int) != m)=true:=by simpa using h1
  have HF:=Z5 (Q.out U 13 (by rw [HEl.out,JR (λh=>h1 h.1)]) (by decide) hF1);clear h1;go_wp2_with fail;exact HF.out
 obtain rfl : E=m:=by omega
 by_cases h2 : (G : Int)=E;rotate_left
 ·have e1 : ((E : Int) != E)=false:=by simp
  have e2 : ((G : Int) != E)=true:=by simpa using h2
  have HF:=Z5 (Q.out U 13 (by rw [HEl.out,JR (λh=>h2 h.2.1)]) (by decide) hF1);clear h1 h2;go_wp2_with fail;exact HF.out
 obtain rfl : G=E:=by omega
 have e1 : ((G : Int) != G)=false:=by simp
 have A:=Z5 (JZ hF1 hbU);clear h1 h2;go_wp2_with fail;clear c0 c1 c2 c3 c4 d0 d1 e1;go_loopw [8,9] (λsv iv wr=>∃(k : Nat) (a8 : OA) (c8 : Nat),k<=G/\iv = .int .i64 k/\sv = .slice a8 k c8/\Hid (wr.ownsRow U.heap.size 3 1 (.slice a8 k c8) k ((LV k).map (Value.int .i64)))/\OC U wr/\Hid (LT k=true)) (λ_ iv _=>G - (intOf iv).toNat);case atStart=>exact ⟨0,none,0,JU _,rfl,rfl,by show World.ownsRow _ _ _ _ _ _ _;rw [HV0.out.1];exact cF,JP _ _,HV0.out.2⟩
 case round =>
  obtain ⟨k,a8,c8,hk,rfl,rfl,Hown,z,Hlt⟩:=hrel
  obtain ⟨c0,c1,c2,c3,c4,d0,d1⟩:=HX.out wr (NX A.out.2 z)
  by_cases hlt : k<G
  ·have hbwr:=NX A.out.1 z
   obtain ⟨K,F,rc,hcell,hrw⟩:=(HI.out.1.af hbwr).cell k hlt
   have HRw:=Z5 hrw
   have HTk:=Z5 (HTn.out k hlt)
   have HSk:=Z5 (HTs.out k Hlt.out)
   have HVk1:=Z5 (HVk.out k hlt)
   have HTr:=Z5 ((HI.out.2.af hbwr).cell k hlt)
   have hok:=HOk.out k (ai Y k) (nV TT k)
   have HLk:=Z5 (HWl.out (ai Y k))
   have HHk:=Z5 (HH.out wr K F rc _ z hrw)
   have hpr:=hrw.pl
   obtain ⟨x,hx⟩ : ∃x,ai Y k=x:=⟨_,rfl⟩
   rw [hx] at HRw HTk HSk HVk1 hok HLk HHk
   obtain ⟨T,hT⟩ : ∃T,nV TT k=T:=⟨_,rfl⟩
   rw [hT] at HTk HSk hok HTr
   have S:=Z5 hok
   obtain ⟨wE,hwE⟩ : ∃e,fD P M mod G D x=e:=⟨_,rfl⟩
   obtain ⟨Z,hhV⟩ : ∃e,jX P M mod G D x=e:=⟨_,rfl⟩
   rw [hwE,hhV] at HHk S
   rw [hwE] at HLk
   obtain ⟨q0,q1,q2,q3,q4⟩:=HDc.out wr z
   have Hbr:=Z5 z
   clear hx hT hwE hhV hok hrw z hbwr
   go_wp2_with fail
   refine HHk.out.mono ?_
   rintro e w3 ⟨rfl,hb3⟩
   have hbr3:=NX Hbr.out hb3
   have hF3:=NX A.out.1 hbr3
   clear q0 q1 q2 q3 q4 c0 c1 c2 c3 c4 d0 d1
   obtain ⟨c0,c1,c2,c3,c4,d0,d1⟩:=HX.out w3 (NX A.out.2 hbr3)
   have hcut : ∀(X : Prop),X->X:=λX h=>h
   clear hcut
   by_cases h0 : wE=0
   rotate_left
   ·have e0 : (wE != 0)=true:=by simpa using h0
    have HF : Hid (∀V,OC w3 V->r (.returned (.tuple #[.slice none 0 0,.int .i64 13])) V):=λV Z=>Q.out V 13 (HTk.out (by rw [S.out,Kb h0];rfl)) (by decide) (NX hF3 Z)
    clear h0
    go_upto_region 12 with fail
    go_quiet (fail)
    all_goals (
     go_wp2_with fail
     exact HF.out _ (N6 ⟨_,rfl⟩))
   subst h0
   have e0 : ((0 : Int) != 0)=false:=rfl
   have hxl:=HLk.out rfl
   have hrn : F=G:=by rw [<- HRw.out.len];exact hxl
   subst hrn
   cases Z
   ·have HF : Hid (∀V,OC w3 V->r (.returned (.tuple #[.slice none 0 0,.int .i64 13])) V):=λV Z=>Q.out V 13 (HTk.out (by rw [S.out];simp)) (by decide) (NX hF3 Z)
    clear hxl
    go_upto_region 12 with fail
    go_quiet (fail)
    all_goals (
     go_wp2_with fail
     exact HF.out _ (N6 ⟨_,rfl⟩))
   have hrw3:=HRw.out.af hb3
   have ck:=hrw3.cell k hlt
   have Hxl:=Z5 hxl
   have HRw3:=Z5 hrw3
   obtain ⟨y,hy⟩ : ∃y,nth x k=y:=⟨_,rfl⟩
   rw [hy] at ck S
   have hk1 : (k : Int)<F:=by omega
   clear hy hxl hrw3
   by_cases hy1 : y=1
   rotate_left
   ·have e1 : (y != 1)=true:=by simpa using hy1
    have HF : Hid (∀V,OC w3 V->r (.returned (.tuple #[.slice none 0 0,.int .i64 13])) V):=λV Z=>Q.out V 13 (HTk.out (by rw [S.out,Kb hy1];simp)) (by decide) (NX hF3 Z)
    clear hy1
    go_upto_region 12 with fail
    go_quiet (fail)
    all_goals (
     go_wp2_with fail
     exact HF.out _ (N6 ⟨_,rfl⟩))
   subst hy1
   have e1 : ((1 : Int) != 1)=false:=rfl
   obtain ⟨vk,hvk⟩ : ∃vk,vc k=vk:=⟨_,rfl⟩
   obtain ⟨qv,hqv⟩ : ∃q,vk.length=q:=⟨_,rfl⟩
   have hck2:=λV a1 c1 a2 c2=>HCk.out V a1 c1 a2 c2 k K rc x
   have hzk2:=λV=>HZe.out V k hlt
   rw [hvk,hqv] at hck2 hzk2
   rw [hvk] at S
   have HCk2:=Z5 hck2
   have HZk2:=Z5 (λV (Z : OC w3 V)=>hzk2 V (NX hF3 Z))
   obtain ⟨ab,nb,cb,hcT,hmT,hnc⟩:=HTr.out
   have hcT3:=aB hb3 hcT
   have hmT3:=hmT.af hb3
   have hxm : gU x<=F:=by have h:=zF (x:=x);rw [Hxl.out] at h;exact h
   obtain ⟨wt,hwt⟩ : ∃wt,gU x=wt:=⟨_,rfl⟩
   rw [hwt] at hxm S HVk1
   have w1' : IntKind.i64.wrap ((wt : Int) - 1)=(wt : Int) - 1:=J3 _ (by omega)
   have HW3 : Hid (∀V,OC w3 V->Calls prog 41 #[.slice K F rc] V λe w'=>e = .returned (.int .i64 (wt : Nat))/\w'=V):=λV Z=>by rw [<- hwt];exact lO K F rc _ V (HRw3.out.af Z)
   have HC3:=Z5 (λV a3 k3 a4 k4 (Z : OC w3 V) h1 h2=>HCk2.out V a3 k3 a4 k4 ((wt : Int) - 1) ab nb cb T h1 h2 (HRw3.out.af Z) (hmT3.af Z) hnc)
   obtain ⟨ce,hce⟩ : ∃ce,iN P M mod F vk x ((wt : Int) - 1) T=ce:=⟨_,rfl⟩
   rw [hce] at HC3 S
   have hbU3:=NX A.out.2 hbr3
   have HS5 : Hid (∀V,OC w3 V->V.cell? ⟨w.heap.size,0,none⟩=some (.int .i64 P)/\V.cell? ⟨w.heap.size,1,none⟩=some (.int .i64 M)/\V.cell? ⟨w.heap.size,2,none⟩=some (.slice am C cm)/\V.cell? ⟨w.heap.size,3,none⟩=some (.int .i64 F)/\V.cell? ⟨w.heap.size,4,none⟩=some (.slice a n c)/\V.cell? ⟨w.heap.size+1,1,none⟩=some (.slice O F ct)/\V.cell? ⟨ablk O,aL O+k,none⟩=some (.slice ab nb cb)/\V.cell? ⟨ablk K,aL K+k,none⟩=some (.int .i64 1)/\OC w3 V):=λV Z=>by obtain ⟨y0,y1,y2,y3,y4,_,y6⟩:=HX.out V (NX hbU3 Z);exact ⟨y0,y1,y2,y3,y4,y6,aB Z hcT3,aB Z ck,Z⟩
   have HB3:=Z5 hbr3
   have hb0 : OC w3 w3:=JP _ _
   clear hvk hqv hck2 hzk2 hcT hmT hcT3 hmT3 hwt hce ck hnc hbU3
   clear c0 c1 c2 c3 c4 d0 d1
   obtain ⟨c0,c1,c2,c3,c4,c5,c6,c7,_⟩:=HS5.out w3 hb0
   go_upto_region 12 with fail
   go_cut [80] (λv wx=>v = .bool (ce != 0)/\OC w3 wx)
   case first =>
    go_region_held3 (λV=>V.cell? ⟨w.heap.size,0,none⟩=some (.int .i64 P)/\V.cell? ⟨w.heap.size,1,none⟩=some (.int .i64 M)/\V.cell? ⟨w.heap.size,2,none⟩=some (.slice am C cm)/\V.cell? ⟨w.heap.size,3,none⟩=some (.int .i64 F)/\V.cell? ⟨w.heap.size,4,none⟩=some (.slice a n c)/\V.cell? ⟨w.heap.size+1,1,none⟩=some (.slice O F ct)/\V.cell? ⟨ablk O,aL O+k,none⟩=some (.slice ab nb cb)/\V.cell? ⟨ablk K,aL K+k,none⟩=some (.int .i64 1)/\OC w3 V)
     ((with_reducible refine HS5.out _ ?_;first | (with_reducible exact hb0.drew) | (with_reducible assumption) | (go_split_ands;first | (with_reducible assumption) | (with_reducible exact NX (by assumption) (by assumption)) | (with_reducible exact Below.drew (by assumption)))))
     (first
      | (go_at_call 78;((with_reducible refine (HZk2.out _ (by go_split_ands;assumption)).mono ?_);rintro e w4 ⟨a3,k3,a4,k4,rfl,hI3,hM3,hb4⟩;have hB4 : OC w3 w4:=(by go_split_ands;exact NX (by assumption) hb4);have HI3:=Z5 hI3;have HM3:=Z5 hM3;clear hI3 hM3))
      | (go_at_call 41;((with_reducible refine (HW3.out _ (by go_split_ands;assumption)).mono ?_);rintro e w5 ⟨rfl,rfl⟩))
      | (go_at_call 85;((with_reducible refine (HC3.out _ _ _ _ _ (by go_split_ands;assumption) (by first | with_reducible exact HI3.out | with_reducible exact HI3.out.af (JP _ _).drew) (by first | with_reducible exact HM3.out | with_reducible exact HM3.out.af (JP _ _).drew)).mono ?_);rintro e w6 ⟨rfl,hb6⟩;have hB6 : OC w3 w6:=(by go_split_ands;exact NX (by assumption) hb6))))
    all_goals (
     go_wp2_with fail
     go_meet
     exact ⟨rfl,by go_split_ands;assumption⟩)
   obtain ⟨rfl,hbV⟩:=hcut
   generalize wc=V5 at *
   have hbr5:=NX HB3.out hbV
   have hF5:=NX A.out.1 hbr5
   clear c0 c1 c2 c3 c4 c5 c6 c7
   by_cases hc0 : ce=0
   rotate_left
   ·have e2 : (ce != 0)=true:=by simpa using hc0
    have HF:=Z5 (Q.out V5 13 (HTk.out (by rw [S.out,Kb hc0];simp)) (by decide) hF5)
    clear hc0
    go_wp2_with fail
    exact HF.out
   subst hc0
   have e2 : ((0 : Int) != 0)=false:=rfl
   have HLT1:=Z5 (HSk.out (by rw [S.out];rfl))
   have HW5:=Z5 (HW3.out V5 hbV)
   go_wp2_with fail
   refine HW5.out.mono ?_
   rintro e V5 ⟨rfl,rfl⟩
   have hcn:=bf V5 (.int .i64 ((wt : Int) - 1)) 3
   have hown7:=bp Hown.out (NX (NX hb3 hbV) (an V5 (.cells #[.int .i64 ((wt : Int) - 1)] 3)))
   have hs7:=hbr5.size
   go_wp2_with (at_builtin;refine aS rfl _ _ 22 3 rfl (.int .i64 0) 8 underlying22 aV rfl U.heap.size a8 k c8 _ rfl hown7 ⟨V5.heap.size,0,none⟩ 1 (.int .i64 ((wt : Int) - 1)) rfl hcn rfl (by omega) (by unfold maxLen;omega) (by simp;omega) ?_;intro a9 c9 w9 hown9 hgr9 hap9)
   go_roundw
   case rel=>exact ⟨k+1,a9,c9,by omega,by go_num,rfl,by show World.ownsRow _ _ _ _ _ _ _;rw [HVk1.out,Ko];exact hown9,N0 (NX hbr5 (an V5 (.cells #[.int .i64 ((wt : Int) - 1)] 3))) hown7 hgr9 (JO _) (by simp;omega),HLT1.out⟩
   case measure=>simp [intOf] <;> omega
  ·obtain rfl : k=G:=by omega
   have HF:=Z5 (HFin.out a8 c8 wr (by rw [HEl.out,JT (by first | exact ⟨rfl,rfl,Hlt.out⟩ | exact ⟨trivial,trivial,Hlt.out⟩)]) (NZ Hown.out).1 (NX A.out.1 z))
   go_wp2_with fail
   exact HF.out
theorem lits (V : World) (l : LI) (cs : Array Value) (h : cs=(l.map (Value.int .i64)).toArray) (Y : l.length<=1000) {g : Nat} (Z : g=V.heap.size) : Ints (V.alloc (.cells cs 3)) (some ⟨g,0,none⟩) l.length l:=by subst h;refine ⟨rfl,λ_=>rfl,by unfold maxLen;omega,λi hi=>?_⟩;have h1:=aF V ((l.map (Value.int .i64)).toArray) 3 Z i;rw [aj hi];simpa [ablk,aL,hi] using h1
theorem Jf (V : World) {p q : Addr} {Z Y c1 c2 : Nat} {l1 l2 : LI} (h1 : Ints V (some p) Z l1) (h2 : Ints V (some q) Y l2) {g : Nat} (U : g=V.heap.size) : bu (V.alloc (.cells #[.slice (some p) Z c1,.slice (some q) Y c2] 22)) (some ⟨g,0,none⟩) 2 [l1,l2] :=
 ⟨rfl,λ_=>rfl,by unfold maxLen;omega,λk X=>by
  have h:=aF V #[.slice (some p) Z c1,.slice (some q) Y c2] 22 U k;match k,X with
  | 0,_=>exact ⟨some p,Z,c1,h,h1.af (an _ _)⟩
  | 1,_=>exact ⟨some q,Y,c2,h,h2.af (an _ _)⟩⟩
theorem EG (w : World) (o1 o2 Z Y : Obj) : OC w ((((w.alloc o1).alloc o2).alloc Z).alloc Y):=NX (j8 w o1 o2 Z) (an _ _)
theorem I7 (V : World) {p q r s : Addr} {X Y Z U c1 c2 Q S : Nat} {l1 l2 O N : LI} (h1 : Ints V (some p) X l1) (h2 : Ints V (some q) Y l2) (h3 : Ints V (some r) Z O) (I : Ints V (some s) U N) {g : Nat} (K : g=V.heap.size) :
  bu (V.alloc (.cells #[.slice (some p) X c1,.slice (some q) Y c2,.slice (some r) Z Q,.slice (some s) U S] 22)) (some ⟨g,0,none⟩) 4 [l1,l2,O,N] :=
 ⟨rfl,λ_=>rfl,by unfold maxLen;omega,λk L=>by
  have h:=aF V #[.slice (some p) X c1,.slice (some q) Y c2,.slice (some r) Z Q,.slice (some s) U S] 22 K k;match k,L with
  | 0,_=>exact ⟨some p,X,c1,h,h1.af (an _ _)⟩
  | 1,_=>exact ⟨some q,Y,c2,h,h2.af (an _ _)⟩
  | 2,_=>exact ⟨some r,Z,Q,h,h3.af (an _ _)⟩
  | 3,_=>exact ⟨some s,U,S,h,I.af (an _ _)⟩⟩
theorem IY (w : World) (o1 o2 Z Y X : Obj) : OC w (((((w.alloc o1).alloc o2).alloc Z).alloc Y).alloc X):=NX (EG w o1 o2 Z Y) (an _ _)
theorem gq.Eu {w w' : World} {a : OA} {n : Nat} {TT : List Ll} (h : gq w a n TT) (hb : OC w w') : gq w' a n TT :=
 ⟨h.len,h.pl,h.max,λi hi=>by obtain ⟨b,m,c,h1,h2,h3⟩:=h.cell i hi;exact ⟨b,m,c,aB hb h1,h2.af hb,h3⟩⟩
def AU (V : World) : World:=((((V.alloc (.cells #[.int .i64 1,.int .i64 1,.int .i64 1,.int .i64 0] 3)).alloc (.cells #[.int .i64 0,.int .i64 1,.int .i64 0,.int .i64 1] 3)).alloc (.cells #[.int .i64 1,.int .i64 1,.int .i64 1,.int .i64 0] 3)).alloc (.cells #[.int .i64 0,.int .i64 1,.int .i64 0,.int .i64 1] 3)).alloc
  (.cells #[.slice (some ⟨V.heap.size,0,none⟩) 4 4,.slice (some ⟨V.heap.size+1,0,none⟩) 4 4,.slice (some ⟨V.heap.size+1+1,0,none⟩) 4 4,.slice (some ⟨V.heap.size+1+1+1,0,none⟩) 4 4] 22)
theorem B1 (V : World) : bu (AU V) (some ⟨V.heap.size+1+1+1+1,0,none⟩) 4 kP:=by
 have O:=lits V [1,1,1,0] #[.int .i64 1,.int .i64 1,.int .i64 1,.int .i64 0] rfl (by decide) rfl;have S:=lits (V.alloc (.cells #[.int .i64 1,.int .i64 1,.int .i64 1,.int .i64 0] 3)) [0,1,0,1] #[.int .i64 0,.int .i64 1,.int .i64 0,.int .i64 1] rfl (by decide) (g:=V.heap.size+1) (by simp);have N:=lits ((V.alloc (.cells #[.int .i64 1,.int .i64 1,.int .i64 1,.int .i64 0] 3)).alloc (.cells #[.int .i64 0,.int .i64 1,.int .i64 0,.int .i64 1] 3)) [1,1,1,0] #[.int .i64 1,.int .i64 1,.int .i64 1,.int .i64 0] rfl (by decide) (g:=V.heap.size+1+1) (by simp);have Y:=lits (((V.alloc (.cells #[.int .i64 1,.int .i64 1,.int .i64 1,.int .i64 0] 3)).alloc (.cells #[.int .i64 0,.int .i64 1,.int .i64 0,.int .i64 1] 3)).alloc (.cells #[.int .i64 1,.int .i64 1,.int .i64 1,.int .i64 0] 3)) [0,1,0,1] #[.int .i64 0,.int .i64 1,.int .i64 0,.int .i64 1] rfl (by decide) (g:=V.heap.size+1+1+1) (by simp);unfold AU;generalize Z : (((V.alloc (.cells #[.int .i64 1,.int .i64 1,.int .i64 1,.int .i64 0] 3)).alloc (.cells #[.int .i64 0,.int .i64 1,.int .i64 0,.int .i64 1] 3)).alloc (.cells #[.int .i64 1,.int .i64 1,.int .i64 1,.int .i64 0] 3)).alloc (.cells #[.int .i64 0,.int .i64 1,.int .i64 0,.int .i64 1] 3)=U at Y ⊢;have X : Ints U (some ⟨V.heap.size,0,none⟩) 4 [1,1,1,0]:=by rw [<- Z];exact ((O.af (an _ _)).af (an _ _)).af (an _ _)
 have K : Ints U (some ⟨V.heap.size+1,0,none⟩) 4 [0,1,0,1]:=by rw [<- Z];exact (S.af (an _ _)).af (an _ _)
 have Q : Ints U (some ⟨V.heap.size+1+1,0,none⟩) 4 [1,1,1,0]:=by rw [<- Z];exact N.af (an _ _)
 have L : V.heap.size+1+1+1+1=U.heap.size:=by rw [<- Z];simp
 exact I7 U X K Q Y L
theorem oY (V : World) : OC V (AU V):=IY _ _ _ _ _ _
theorem nG {V : World} {Z : Nat} (X : bu V (some ⟨Z,0,none⟩) 2 bZ) (i : Int) (S D : LI) (h0 : CK 2 1 [] 4 bZ i=0) (h1 : ie 2 1 [] 4 bZ i=S) (h2 : nR 2 1 [] 4 bZ i=D) :
  Calls prog 15 #[.agg #[.int .i64 2,.int .i64 1,.slice none 0 0,.int .i64 4,.slice (some ⟨Z,0,none⟩) 2 2],.int .i64 i] V λe w'=>OC V w'/\∃a c a2 c2,e = .returned (.tuple #[.slice a S.length c,.slice a2 S.length c2,.int .i64 0])/\Ints w' a S.length S/\Ints w' a2 S.length D:=by
 refine (sf 2 1 none 0 0 [] 4 (some ⟨Z,0,none⟩) 2 2 bZ i V (N5 _ _) X).mono ?_;rintro e w' ⟨b,⟨h,_⟩ | ⟨_,a,c,a2,c2,rfl,h3,Y⟩⟩
 ·exact absurd h0 h
 ·have e1 : ie 2 1 [] (4 : Int).toNat bZ i=S:=h1;have U : nR 2 1 [] (4 : Int).toNat bZ i=D:=h2;rw [e1] at h3 Y;rw [U] at Y;exact ⟨b,a,c,a2,c2,by rw [e1],h3,Y⟩
theorem vr {V : World} {X : Nat} (U : bu V (some ⟨X,0,none⟩) 2 bZ) : Calls prog 28 #[.agg #[.int .i64 2,.int .i64 1,.slice none 0 0,.int .i64 4,.slice (some ⟨X,0,none⟩) 2 2]] V
  λe w'=>OC V w'/\∃Y cs Z ct,e = .returned (.tuple #[.agg #[.slice Y 4 cs,.slice Z 4 ct],.int .i64 0])/\bu w' Y 4 kP/\gq w' Z 4 tO:=by
 refine (sE 2 1 none 0 0 [] 4 (some ⟨X,0,none⟩) 2 2 bZ V (N5 _ _) U).mono ?_;rintro e w' ⟨b,⟨h0,_⟩ | ⟨_,Y,cs,Z,ct,rfl,h1,h2⟩⟩
 ·exact absurd Gg h0
 ·have e1 : dK 2 1 [] (4 : Int).toNat bZ=kP:=mY;have S : sK 2 1 [] (4 : Int).toNat bZ (4 : Int).toNat=tO:=G0;rw [e1] at h1;rw [S] at h2;exact ⟨b,Y,cs,Z,ct,rfl,h1,h2⟩
theorem zH {V : World} {X : Nat} {Y Z : OA} {cs ct : Nat} (U : bu V (some ⟨X,0,none⟩) 2 bZ) (h1 : bu V Y 4 kP) (h2 : gq V Z 4 tO) :
  Calls prog 31 #[.agg #[.int .i64 2,.int .i64 1,.slice none 0 0,.int .i64 4,.slice (some ⟨X,0,none⟩) 2 2],.agg #[.slice Y 4 cs,.slice Z 4 ct]] V λe w'=>OC V w'/\∃a c,e = .returned (.tuple #[.slice a 4 c,.int .i64 0])/\Ints w' a 4 [2,1,2,1]:=by
 refine (pa 2 1 none 0 0 [] 4 (some ⟨X,0,none⟩) 2 2 bZ Y 4 cs _ Z 4 ct _ V (N5 _ _) U h1 h2).mono ?_;rintro e w' ⟨b,⟨h0,_⟩ | ⟨_,a,c,rfl,h⟩⟩
 ·exact absurd Gx h0
 ·have e1 : lZ kP (4 : Int).toNat=[2,1,2,1]:=H4;rw [e1] at h;exact ⟨b,a,c,rfl,h⟩
theorem sD {V : World} {Z : Nat} (Y : bu V (some ⟨Z,0,none⟩) 2 bZ) : Calls prog 20 #[.agg #[.int .i64 2,.int .i64 1,.slice none 0 0,.int .i64 4,.slice (some ⟨Z,0,none⟩) 2 2]] V λe w'=>e = .returned (.tuple #[.int .i64 2,.int .i64 0])/\OC V w':=by have h:=q9 2 1 none 0 0 [] 4 (some ⟨Z,0,none⟩) 2 2 bZ V (N5 _ _) Y;rw [F8,AI] at h;exact h
theorem xk {V : World} {Z : Nat} {p : OA} (X : bu V (some ⟨Z,0,none⟩) 2 bZ) (Y : Ints V p 4 [0,1,0,1]) : Calls prog 17 #[.agg #[.int .i64 2,.int .i64 1,.slice none 0 0,.int .i64 4,.slice (some ⟨Z,0,none⟩) 2 2],.int .i64 0,.slice p 4 4] V λe w'=>e = .returned (.tuple #[.int .i64 1,.int .i64 0])/\OC V w':=by have h:=vF 2 1 none 0 0 [] 4 (some ⟨Z,0,none⟩) 2 2 bZ 0 p 4 4 [0,1,0,1] V (N5 _ _) X Y;rw [FY,GN] at h;exact h
theorem zC (V : World) : Calls prog 22 #[.int .i64 6,.int .i64 3,.int .i64 2] V λe w'=>e = .returned (.tuple #[.int .i64 3,.int .i64 0])/\w'=V:=by have h:=wg 6 3 2 V;rw [Gn,GZ] at h;exact h
theorem Fw (V : World) : Calls prog 25 #[.agg #[.int .i64 7,.int .i64 1,.slice none 0 0],.int .i64 2,.int .i64 2,.int .i64 3] V λe w' =>
  ∃a1 c1 a2 c2,e = .returned (.tuple #[.agg #[.int .i64 7,.int .i64 1,.slice a1 0 c1,.int .i64 6,.slice a2 3 c2],.int .i64 0])/\OC V w':=by
 refine (Et 7 1 none 0 0 [] 2 2 3 V (N5 _ _) (by omega)).mono ?_;rintro e w' ⟨b,⟨h0,_⟩ | ⟨_,a1,c1,a2,c2,rfl,_,_⟩⟩
 ·exact absurd FN h0
 ·have e1 : (Fv 7 1 [] (2 : Int).toNat (2 : Int).toNat (3 : Int).toNat).length=3:=GA;exact ⟨a1,c1,a2,c2,by rw [e1];rfl,b⟩
theorem ja (w : World) : Calls prog 13 #[] w λe w'=>e = .returned (.bool true)/\OC w w':=by
 go_enter func13,ntmps13;go_upto_region 1 with fail;go_cut [1] (λv wx=>∃g j,v = .pointer (some ⟨g,0,none⟩)/\aO wx g [.int .i64 2,.int .i64 1,.slice none 0 0,.int .i64 4,.slice (some ⟨j,0,none⟩) 2 2]/\bu wx (some ⟨j,0,none⟩) 2 bZ/\OC w wx);case first =>
  go_wp2_with fail
  go_meet
  have i1:=lits w [1,0,1,0] #[.int .i64 1,.int .i64 0,.int .i64 1,.int .i64 0] rfl (by decide) rfl
  have i2:=lits (w.alloc (.cells #[.int .i64 1,.int .i64 0,.int .i64 1,.int .i64 0] 3)) [0,1,1,1] #[.int .i64 0,.int .i64 1,.int .i64 1,.int .i64 1] rfl (by decide) (g:=w.heap.size+1) (by simp)
  have hm:=Jf (c1:=4) (c2:=4) _ (i1.af (an _ (.cells #[.int .i64 0,.int .i64 1,.int .i64 1,.int .i64 1] 3))) i2 (g:=w.heap.size+1+1) (by simp)
  have hm2:=hm.af (an _ (.cells #[.int .i64 2,.int .i64 1,.slice none 0 0,.int .i64 4,.slice (some ⟨w.heap.size+1+1,0,none⟩) 2 2] 27))
  exact ⟨_,w.heap.size+1+1,rfl,NY _ [.int .i64 2,.int .i64 1,.slice none 0 0,.int .i64 4,.slice (some ⟨w.heap.size+1+1,0,none⟩) 2 2] _ (by simp),hm2,EG _ _ _ _ _⟩
 obtain ⟨g,j,rfl,hx,hM,hbW⟩:=hcut;generalize wc=W at *;have C : Hid (∀V,OC W V->V.cell? ⟨g,0,none⟩=some (.int .i64 2)/\V.cell? ⟨g,1,none⟩=some (.int .i64 1)/\V.cell? ⟨g,2,none⟩=some (.slice none 0 0)/\V.cell? ⟨g,3,none⟩=some (.int .i64 4)/\V.cell? ⟨g,4,none⟩=some (.slice (some ⟨j,0,none⟩) 2 2)):=λV Y=>by have h:=hx.af Y;exact ⟨h.cell 0 rfl,h.cell 1 rfl,h.cell 2 rfl,h.cell 3 rfl,h.cell 4 rfl⟩
 have D : Hid (∀V,OC W V->bu V (some ⟨j,0,none⟩) 2 bZ):=λV Y=>hM.af Y;have HW:=Z5 hbW;clear hx hM hbW;have e0:=JP W.heap.size W;obtain ⟨c0,c1,c2,N,O⟩:=C.out _ e0;have Z:=Z5 (nG (D.out _ e0) 0 [1,2] [1,1] FD GP GF);go_wp2_with fail;refine Z.out.mono ?_;rintro e V1 ⟨b1,a1,k1,d1,j1,rfl,hO1,hP1⟩;have e1:=NX e0 b1;have HO1:=Z5 (λV Y=>⟨hO1.af Y,hP1.af Y⟩ : ∀V,OC V1 V->Ints V a1 2 [1,2]/\Ints V d1 2 [1,1]);clear c0 c1 c2 N O Z hO1 hP1;obtain ⟨c0,c1,c2,N,O⟩:=C.out _ e1;have Z:=Z5 (nG (D.out _ e1) 1 [3] [1] FU GV Ga);go_wp2_with fail;refine Z.out.mono ?_;rintro e V2 ⟨b2,a2,k2,d2,j2,rfl,r,hP2⟩;have e2:=NX e1 b2;have HO2:=Z5 (λV Y=>⟨r.af Y,hP2.af Y⟩ : ∀V,OC V2 V->Ints V a2 1 [3]/\Ints V d2 1 [1]);clear c0 c1 c2 N O Z r hP2;obtain ⟨c0,c1,c2,N,O⟩:=C.out _ e2;have Z:=Z5 (sD (D.out _ e2));go_wp2_with fail;refine Z.out.mono ?_;rintro e V3 ⟨rfl,b3⟩;have e3:=NX e2 b3;clear c0 c1 c2 N O Z;have n3:=an V3 (.cells #[.int .i64 0,.int .i64 1,.int .i64 0,.int .i64 1] 3);have Z:=Z5 (xk (D.out _ (NX e3 n3)) (lits V3 [0,1,0,1] #[.int .i64 0,.int .i64 1,.int .i64 0,.int .i64 1] rfl (by decide) rfl));obtain ⟨c0,c1,c2,N,O⟩:=C.out _ e3;go_wp2_with fail;refine Z.out.mono ?_;rintro e V4 ⟨rfl,b4⟩;have e4:=NX e3 (NX n3 b4);clear c0 c1 c2 N O Z;have Z:=Z5 (zC V4);go_wp2_with fail;refine Z.out.mono ?_;rintro e V4 ⟨rfl,rfl⟩;clear Z;have Z:=Z5 (Fw V4);go_wp2_with fail;refine Z.out.mono ?_;rintro e U ⟨p5,L,a5,z,rfl,b5⟩;clear Z;have n5:=an U (.cells #[.int .i64 7,.int .i64 1,.slice p5 0 L,.int .i64 6,.slice a5 3 z] 27);have f5:=NX b5 n5;have e5:=NX e4 f5;have HO5:=Z5 (λV Y=>⟨((NY U [.int .i64 7,.int .i64 1,.slice p5 0 L,.int .i64 6,.slice a5 3 z] 27 rfl).af Y).cell 3 rfl,((NY U [.int .i64 7,.int .i64 1,.slice p5 0 L,.int .i64 6,.slice a5 3 z] 27 rfl).af Y).cell 4 rfl⟩ : ∀V,Below (U.alloc (.cells #[.int .i64 7,.int .i64 1,.slice p5 0 L,.int .i64 6,.slice a5 3 z] 27)).heap.size (U.alloc (.cells #[.int .i64 7,.int .i64 1,.slice p5 0 L,.int .i64 6,.slice a5 3 z] 27)) V ->
  V.cell? ⟨U.heap.size,3,none⟩=some (.int .i64 6)/\V.cell? ⟨U.heap.size,4,none⟩=some (.slice a5 3 z))
 have Z:=Z5 (vr (D.out _ e5));obtain ⟨c0,c1,c2,N,O⟩:=C.out _ e5;go_wp2_with fail;refine Z.out.mono ?_;rintro e S ⟨b6,X,cs,Q,ct,rfl,hA6,hT6⟩;clear c0 c1 c2 N O Z;have n6:=an S (.cells #[.slice X 4 cs,.slice Q 4 ct] 48);have f6:=NX b6 n6;have e6:=NX e5 f6;have HO6:=Z5 (λV Y=>⟨((NY S [.slice X 4 cs,.slice Q 4 ct] 48 rfl).af Y).cell 0 rfl,((NY S [.slice X 4 cs,.slice Q 4 ct] 48 rfl).af Y).cell 1 rfl,(hA6.af n6).af Y,(hT6.Eu n6).Eu Y⟩ : ∀V,Below (S.alloc (.cells #[.slice X 4 cs,.slice Q 4 ct] 48)).heap.size (S.alloc (.cells #[.slice X 4 cs,.slice Q 4 ct] 48)) V ->
  V.cell? ⟨S.heap.size,0,none⟩=some (.slice X 4 cs)/\V.cell? ⟨S.heap.size,1,none⟩=some (.slice Q 4 ct)/\bu V X 4 kP/\gq V Q 4 tO)
 clear hA6 hT6;have t6:=HO6.out _ (JP _ _);have Z:=Z5 (zH (cs:=cs) (ct:=ct) (D.out _ e6) t6.2.2.1 t6.2.2.2);obtain ⟨c0,c1,c2,N,O⟩:=C.out _ e6;have x0:=t6.1;have x1:=t6.2.1;clear t6;go_wp2_with fail;refine Z.out.mono ?_;rintro e A ⟨b7,a7,k7,rfl,hO7⟩;have e7:=NX e6 b7;have HO7:=Z5 (λV Y=>hO7.af Y : ∀V,OC A V->Ints V a7 4 [2,1,2,1]);have G6:=Z5 b7;have G5:=Z5 (NX f6 b7);have G2:=Z5 (NX b3 (NX (NX n3 b4) (NX f5 (NX f6 b7))));have G1:=Z5 (NX b2 G2.out);have E7:=Z5 (NX HW.out e7);clear c0 c1 c2 N O x0 x1 Z hO7 b1 b2 b3 b4 b5 b6 b7 n3 n5 n6 f5 f6 e0 e1 e2 e3 e4 e5 e6 e7;go_upto_region 12 with fail;have q1:=an A (.cells #[.int .i64 1,.int .i64 2] 3);have F:=NX (JP A.heap.size A) q1;have Z:=Z5 (dW a1 2 k1 [1,2] (some ⟨A.heap.size,0,none⟩) 2 2 [1,2] (HO1.out _ (NX G1.out F)).1 (lits A [1,2] #[.int .i64 1,.int .i64 2] rfl (by decide) rfl));rw [Kc rfl] at Z;go_wp2_with fail;refine Z.out.mono ?_;rintro e Y1 ⟨rfl,r1⟩;have s1:=NX F r1.below;clear Z q1 F r1;have q2:=an Y1 (.cells #[.int .i64 1,.int .i64 1] 3);have G:=NX s1 q2;have Z:=Z5 (dW d1 2 j1 [1,1] (some ⟨Y1.heap.size,0,none⟩) 2 2 [1,1] (HO1.out _ (NX G1.out G)).2 (lits Y1 [1,1] #[.int .i64 1,.int .i64 1] rfl (by decide) rfl));rw [Kc rfl] at Z;go_wp2_with fail;refine Z.out.mono ?_;rintro e Y2 ⟨rfl,r2⟩;have s2:=NX G r2.below;clear Z q2 G r2;have q3:=an Y2 (.cells #[.int .i64 3] 3);have E:=NX s2 q3;have Z:=Z5 (dW a2 1 k2 [3] (some ⟨Y2.heap.size,0,none⟩) 1 1 [3] (HO2.out _ (NX G2.out E)).1 (lits Y2 [3] #[.int .i64 3] rfl (by decide) rfl));rw [Kc rfl] at Z;go_wp2_with fail;refine Z.out.mono ?_;rintro e Y3 ⟨rfl,r3⟩;have s3:=NX E r3.below;clear Z q3 E r3;have q4:=an Y3 (.cells #[.int .i64 1] 3);have I:=NX s3 q4;have Z:=Z5 (dW d2 1 j2 [1] (some ⟨Y3.heap.size,0,none⟩) 1 1 [1] (HO2.out _ (NX G2.out I)).2 (lits Y3 [1] #[.int .i64 1] rfl (by decide) rfl));rw [Kc rfl] at Z;go_wp2_with fail;refine Z.out.mono ?_;rintro e Y4 ⟨rfl,r4⟩;have s4:=NX I r4.below;clear Z q4 I r4;have L:=an Y4 (.cells #[.int .i64 2,.int .i64 1,.int .i64 2,.int .i64 1] 3);have K:=NX s4 L;have Z:=Z5 (dW a7 4 k7 [2,1,2,1] (some ⟨Y4.heap.size,0,none⟩) 4 4 [2,1,2,1] (HO7.out _ K) (lits Y4 [2,1,2,1] #[.int .i64 2,.int .i64 1,.int .i64 2,.int .i64 1] rfl (by decide) rfl));rw [Kc rfl] at Z;go_wp2_with fail;refine Z.out.mono ?_;rintro e Y5 ⟨rfl,r5⟩;have s5:=NX K r5.below;clear Z L K r5;obtain ⟨y3,y4⟩:=HO5.out _ (NX G5.out s5);obtain ⟨x0,_,hA,_⟩:=HO6.out _ (NX G6.out s5);have Z:=Z5 (lV X 4 cs kP _ 4 4 kP (hA.af (oY Y5)) (B1 Y5));rw [Kc rfl] at Z;unfold AU at Z;clear hA;go_wp2_with fail;refine Z.out.mono ?_;rintro e Y6 ⟨rfl,r6⟩;have hF:=NX E7.out (NX (NX s5 (oY Y5)) r6.below);go_wp2_with fail;go_ret;exact ⟨rfl,hF⟩
structure JM (B : Nat) (V : World) (a1 : OA) (c1 : Nat) (l1 : LI) (a2 : OA) (c2 : Nat) (l2 : LI) : Prop where
 o1 : V.ownsRow B 3 1 (.slice a1 l1.length c1) l1.length (l1.map (Value.int .i64))
 o2 : V.ownsRow B 3 1 (.slice a2 l2.length c2) l2.length (l2.map (Value.int .i64))
 st : a1=none\/a2=none\/ablk a1 ≠ ablk a2
section
variable {B : Nat} {V V' w5 : World} {a1 a2 a5 : OA} {c1 c2 c5 : Nat} {l1 l2 : LI} {o : Obj} {x : Int}
end
section
open Go.RowKit
end
theorem zI (U : OA) (ns cs : Nat) (SS : Ll) (Y : OA) (X ct : Nat) (TT : List Ll) (w : World) (h1 : bu w U ns SS) (h2 : gq w Y X TT) :
  Calls prog 33 #[.agg #[.slice U ns cs,.slice Y X ct]] w (iK w):=by
 have hpl:=h2.pl;have I:=h2.max;unfold maxLen at I;have HR : Hid (∀V,OC w V->Calls prog 83 #[.agg #[.int .i64 0,.slice U ns cs],.int .i64 1000] V (iK V)):=λV K=>ox U ns cs 1000 SS V (h1.af K) (by omega);have HT : Hid (∀k,k<X->∃L m1 c1,∀V,OC w V->V.cell? ⟨ablk Y,aL Y+k,none⟩=some (.slice L m1 c1) /\
   Calls prog 83 #[.agg #[.int .i64 0,.slice L m1 c1],.int .i64 2000] V (iK V)):=λk hk=>by obtain ⟨L,m1,c1,r,x2,_⟩:=h2.cell k hk;exact ⟨L,m1,c1,λV K=>⟨aB K r,ox L m1 c1 2000 _ V (x2.af K) (by omega)⟩⟩
 clear h1 h2;go_enter func33,ntmps33;go_upto_region 1 with fail;obtain ⟨W,A⟩ : ∃W : World,W=w.alloc (.cells #[.slice U ns cs,.slice Y X ct] 48):=⟨_,rfl⟩
 rw [<- A];have O : OC w W:=by rw [A];exact an _ _
 have x0 : aO W w.heap.size [.slice U ns cs,.slice Y X ct]:=by rw [A];exact NY _ _ _ rfl
 have j : Hid (∀V,OC W V->V.cell? ⟨w.heap.size,0,none⟩=some (.slice U ns cs)/\V.cell? ⟨w.heap.size,1,none⟩=some (.slice Y X ct)):=λV K=>by have r:=x0.af K;exact ⟨r.cell 0 rfl,r.cell 1 rfl⟩
 have Q:=Z5 O;clear A x0;have Hc:=Z5 (HR.out W O);obtain ⟨c0,c1⟩:=j.out W (JP _ _);clear O HR;go_wp2_with fail;refine Hc.out.mono ?_;rintro e w1 ⟨z,rfl,N⟩;clear c0 c1 Hc;obtain ⟨c0,c1⟩:=j.out w1 N;have G:=NX Q.out N;cases z
 ·go_wp2_with fail;go_ret;exact ⟨_,rfl,G⟩
 by_cases D : 70<X
 ·have Z : (70 : Int)<(X : Int):=by omega
  have d1 : decide ((70 : Int)<(X : Int))=true:=by simpa using Z
  clear D Z;go_wp2_with fail;go_ret;exact ⟨_,rfl,G⟩
 have Z : ¬ (70 : Int)<(X : Int):=by omega
 have d1 : decide ((70 : Int)<(X : Int))=false:=by simpa using Z
 clear D Z;go_wp2_with fail;go_loopw [3] (λiv wr=>∃k : Nat,k<=X/\iv = .int .i64 k/\OC W wr) (λi _=>X - (intOf i).toNat);case atStart=>exact ⟨0,JU _,rfl,N⟩
 case round =>
  obtain ⟨k,hk,rfl,S⟩:=hrel
  clear c0 c1
  obtain ⟨c0,c1⟩:=j.out wr S
  by_cases hlt : k<X
  ·obtain ⟨L,m1,d2,F⟩:=HT.out k hlt
   obtain ⟨q0,C⟩:=F wr (NX Q.out S)
   have Hca:=Z5 C
   clear F C
   go_wp2_with fail
   refine Hca.out.mono ?_
   rintro e w6 ⟨z,rfl,hb6⟩
   have E:=NX S hb6
   have hF:=NX Q.out E
   clear q0 c0 c1
   cases z
   ·go_wp2_with fail
    go_ret
    exact ⟨_,rfl,hF⟩
   go_wp2_with fail
   go_roundw
   case rel=>exact ⟨k+1,by omega,by go_num,E⟩
   case measure=>simp [intOf] <;> omega
  ·obtain rfl : k=X:=by omega
   have hF:=NX Q.out S
   go_wp2_with fail
   go_ret
   exact ⟨_,rfl,hF⟩
section
open Go.RowKit
end
section
open Go.RowKit
end
section
open Go.RowKit
end
theorem Ar (a : OA) (n c : Nat) (l : LI) (a' : OA) (Z Y : Nat) {w : World} (h : Ints w a n l) (X : Ints w a' Z l) :
  Calls prog 19 #[.slice a n c,.slice a' Z Y] w (iG w true):=by have h1:=dW a n c l a' Z Y l h X;rw [Kc rfl] at h1;exact h1
def Jp (Z : Int) (V : LI) (w : World) (e : Ending) (w' : World) : Prop:=OC w w'/\∃a n c,e = .returned (.tuple #[.slice a n c,.int .i64 Z])/\Ints w' a n V
theorem Jh {Z : Int} {V : LI} {n : Nat} {w : World} {e : Ending} {w' : World} (h : iI Z V n w e w') : Jp Z (if Z=0 then V else []) w e w':=by
 obtain ⟨b,⟨h0,rfl⟩ | ⟨h0,a,c,rfl,h1⟩⟩:=h
 ·rw [JR h0];exact ⟨b,none,0,0,rfl,N5 _ _⟩
 ·rw [JT h0];exact ⟨b,a,n,c,by rw [h0],h1⟩
theorem qk (P M : Int) (am : OA) (G cm : Nat) (mod : LI) (N : Int) (a : OA) (n c : Nat) (L : Ll) (Y : OA) (ns cs : Nat) (S : Ll) (Z : OA) (K ct : Nat) (TT : List Ll) (w : World) (Q : Ints w am G mod) (hi : bu w a n L) (D : bu w Y ns S) (F : gq w Z K TT) :
  Calls prog 7 #[.agg #[.int .i64 P,.int .i64 M,.slice am G cm,.int .i64 N,.slice a n c],.agg #[.slice Y ns cs,.slice Z K ct]] w λe w'=>e = .returned (.bool true)/\OC w w':=by
 have HF1 : Hid (∀V,OC w V->Calls prog 32 #[.agg #[.int .i64 P,.int .i64 M,.slice am G cm,.int .i64 N,.slice a n c],.int .i64 120] V (iK V)):=λV X=>yS P M am G cm N a n c 120 L V (hi.af X) (by omega);have HF2 : Hid (∀V,OC w V->Calls prog 33 #[.agg #[.slice Y ns cs,.slice Z K ct]] V (iK V)):=λV X=>zI Y ns cs S Z K ct TT V (D.af X) (F.af X);have H1 : Hid (∀V,OC w V->Calls prog 31 #[.agg #[.int .i64 P,.int .i64 M,.slice am G cm,.int .i64 N,.slice a n c],.agg #[.slice Y ns cs,.slice Z K ct]] V (Jp (lK P M mod N L S TT) (if lK P M mod N L S TT=0 then lZ S N.toNat else []) V)):=λV X=>(pa P M am G cm mod N a n c L Y ns cs S Z K ct TT V (Q.af X) (hi.af X) (D.af X) (F.af X)).mono λe w' h=>Jh h;have H2 : Hid (∀V,OC w V->Calls prog 34 #[.agg #[.int .i64 P,.int .i64 M,.slice am G cm,.int .i64 N,.slice a n c],.agg #[.slice Y ns cs,.slice Z K ct]] V (Jp (lK P M mod N L S TT) (if lK P M mod N L S TT=0 then lZ S N.toNat else []) V)):=λV X=>(vB P M am G cm mod N a n c L Y ns cs S Z K ct TT V (Q.af X) (hi.af X) (D.af X) (F.af X)).mono λe w' h=>Jh h;unfold Jp at H1 H2;generalize (if lK P M mod N L S TT=0 then lZ S N.toNat else [])=R at *;generalize lK P M mod N L S TT=er at *;clear Q hi D F;go_enter func7,ntmps7;go_wp2_with fail;obtain ⟨W,hW⟩ : ∃W : World,W=((w.alloc (.cells #[.int .i64 P,.int .i64 M,.slice am G cm,.int .i64 N,.slice a n c] 27)).alloc (.cells #[.slice Y ns cs,.slice Z K ct] 48)):=⟨_,rfl⟩
 rw [<- hW];have hbW : OC w W:=by rw [hW];exact bT _ _ _
 have x0 : aO W w.heap.size [.int .i64 P,.int .i64 M,.slice am G cm,.int .i64 N,.slice a n c]:=by rw [hW];exact (NY _ _ _ (by simp)).alloc _
 have y0 : aO W (w.heap.size+1) [.slice Y ns cs,.slice Z K ct]:=by rw [hW];exact NY _ _ _ (by simp)
 have HS : Hid (∀V,OC W V->V.cell? ⟨w.heap.size,0,none⟩=some (.int .i64 P)/\V.cell? ⟨w.heap.size,1,none⟩=some (.int .i64 M)/\V.cell? ⟨w.heap.size,2,none⟩=some (.slice am G cm)/\V.cell? ⟨w.heap.size,3,none⟩=some (.int .i64 N)/\V.cell? ⟨w.heap.size,4,none⟩=some (.slice a n c)/\V.cell? ⟨w.heap.size+1,0,none⟩=some (.slice Y ns cs)/\V.cell? ⟨w.heap.size+1,1,none⟩=some (.slice Z K ct)):=λV X=>by have x1:=x0.af X;have y1:=y0.af X;exact ⟨x1.cell 0 rfl,x1.cell 1 rfl,x1.cell 2 rfl,x1.cell 3 rfl,x1.cell 4 rfl,y1.cell 0 rfl,y1.cell 1 rfl⟩
 have U:=Z5 hbW;clear hW hbW x0 y0;refine (ja W).mono ?_;rintro e w1 ⟨rfl,C⟩;obtain ⟨c0,c1,c2,c3,r,c5,A⟩:=HS.out w1 C;go_wp2_with fail;refine (HF1.out w1 (NX U.out C)).mono ?_;rintro e w2 ⟨z,rfl,hbx⟩;have I:=NX C hbx;clear c0 c1 c2 c3 r c5 A;cases z
 ·go_wp2_with fail;refine (ja w2).mono ?_;rintro e w9 ⟨rfl,O⟩;have hF:=NX U.out (NX I O);go_wp2_with fail;go_ret;exact ⟨rfl,hF⟩
 obtain ⟨c0,c1,c2,c3,r,c5,A⟩:=HS.out w2 I;by_cases h9 : decide (9<N)=true/\decide (N<=64)=true
 ·obtain ⟨h7,h9⟩:=h9;go_wp2_with fail;refine (ja w2).mono ?_;rintro e w9 ⟨rfl,O⟩;have hF:=NX U.out (NX I O);go_wp2_with fail;go_ret;exact ⟨rfl,hF⟩
 have hd : decide (9<N)=false\/(decide (9<N)=true/\decide (N<=64)=false):=by
  cases h7 : decide (9<N)
  ·exact .inl rfl
  ·cases h8 : decide (N<=64)
   ·exact .inr ⟨rfl,rfl⟩
   ·exact absurd ⟨h7,h8⟩ h9
 clear h9;rcases hd with h7 | ⟨h7,h8⟩;all_goals (
  go_wp2_with fail
  refine (HF2.out w2 (NX U.out I)).mono ?_
  rintro e w3 ⟨z,rfl,hb3⟩
  have E:=NX I hb3
  clear c0 c1 c2 c3 r c5 A
  cases z
  ·go_wp2_with fail
   refine (ja w3).mono ?_
   rintro e w9 ⟨rfl,O⟩
   have hF:=NX U.out (NX E O)
   go_wp2_with fail
   go_ret
   exact ⟨rfl,hF⟩
  obtain ⟨c0,c1,c2,c3,r,c5,A⟩:=HS.out w3 E
  go_wp2_with fail
  refine (H1.out w3 (NX U.out E)).mono ?_
  rintro e w4 ⟨hb4,a1,n1,k1,rfl,h1⟩
  have j:=NX E hb4
  clear c0 c1 c2 c3 r c5 A
  obtain ⟨c0,c1,c2,c3,r,c5,A⟩:=HS.out w4 j
  go_wp2_with fail
  refine (H2.out w4 (NX U.out j)).mono ?_
  rintro e w5 ⟨hb5,a2,n2,k2,rfl,h2⟩
  have hB5:=NX j hb5
  have HQ:=Z5 (Ar a1 n1 k1 _ a2 n2 k2 (h1.af hb5) h2)
  have e1 : (er == er)=true:=by simp
  clear c0 c1 c2 c3 r c5 A h1 h2
  go_wp2_with fail
  refine HQ.out.mono ?_
  rintro e w6 ⟨rfl,r6⟩
  have hF:=NX U.out (NX hB5 r6.below)
  go_wp2_with fail
  go_ret
  exact ⟨rfl,hF⟩)
section
open Go.ChangeShapes Go.WideShapes Go.ChangeAt Go.RowKit
section
variable {H : Type} {enc : TypeId × Value->H} {W : World} {held : Bool} {fuel : Nat} {cs : List Value} {x : DataW H × List MemPlace}
theorem wi {v0 : Value} (Q : DataW.trod enc prog W 0 (λ_=>true) held fuel 103 [v0]=some x) : ∃(b : OA) (m c : Nat) (Y : Ll),v0 = .slice b m c/\bu W b m Y/\m<=c:=by
 obtain ⟨xs,K,_,_,_,hlen,X⟩:=Mg underlying103 Q;obtain ⟨Z,rfl⟩ : ∃Z,xs=[Z]:=by
  match xs,hlen with
  | [Z],_=>exact ⟨Z,rfl⟩
 have U : prog.cellsOf 25 = 1:=by kernel_rfl
 have g0 : DataW.trod enc prog W 0 (λ_=>true) held K 25 [v0]=some Z:=by simpa [Value.cells,U] using X 0 _ rfl
 obtain ⟨L,nx,N,Y,e,O,S⟩:=xQ g0;simp at e;exact ⟨L,nx,N,Y,e,O,S⟩
theorem vb (h : DataW.trod enc prog W 0 (λ_=>true) held fuel 46 cs=some x) : ∃a n c TT,cs=[.slice a n c]/\gq W a n TT:=by
 rcases Go.Deep.open_slice1 underlying46 (by kernel_rfl) h with ⟨Z,_⟩ | ⟨a,len,cap,m,n,V,D,Q,Z,hb,L,hm,Y,_,O⟩
 ·exact ⟨none,0,0,[],Z,⟨rfl,λh0=>by omega,by unfold maxLen;omega,λi hi=>by omega⟩⟩
 ·simp only [if_true] at Y;subst Y;have each : ∀r,r<len->∃T : Ll,∃b k c,W.cell? (a.add r)=some (.slice b k c)/\bu W b k T/\k<=c:=λr K=>by obtain ⟨h1,h2⟩:=O r (by omega);obtain ⟨b,k,c,N,e,S,U⟩:=wi h2;exact ⟨N,b,k,c,by rw [h1,e],S,U⟩
  obtain ⟨T,X⟩:=Go.Deep.choose_lt each;refine ⟨some a,len,m,(List.range len).map T,Z,⟨by simp,λh0=>?_,by omega,λi hi=>?_⟩⟩
  ·obtain ⟨b,k,c,h1,_⟩:=X 0 h0;exact congrArg some (nM h1)
  ·obtain ⟨b,k,c,h1,h2,h3⟩:=X i hi;have e : nV ((List.range len).map T) i=T i:=by rw [nq (by simpa using hi)];simp
   exact ⟨b,k,c,mM h1,by rw [e];exact h2,h3⟩
end
section
variable {H : Type} {enc : TypeId × Value->H} {W : World} {held : Bool} {b0 : Nat} {v : Value} {d : DataW H} {p : List MemPlace}
theorem Co (r : Value.okWide prog W .any b0 48 v) (h : DataW.Trod enc prog W 0 (λ_=>true) held 48 v d p) :
  ∃(S : OA) (ns cs : Nat) (A : Ll) (Y : OA) (L ct : Nat) (TT : List Ll),v = .agg #[.slice S ns cs,.slice Y L ct]/\bu W S ns A/\gq W Y L TT:=by
 obtain ⟨cs,rfl,X⟩:=okWide_struct underlying48 r;rw [show prog.cellsOf 48 = 2 by kernel_rfl] at X;obtain ⟨l⟩:=cs;match l,X with
 | [v0,v1],_ =>
 obtain ⟨fuel,G⟩:=h;obtain ⟨xs,I,_,_,_,hlen,Q⟩:=Mg underlying48 G;obtain ⟨U,Z,rfl⟩ : ∃U Z,xs=[U,Z]:=by
  match xs,hlen with
  | [U,Z],_=>exact ⟨U,Z,rfl⟩
 have O : prog.cellsOf 25 = 1:=by kernel_rfl
 have N : prog.cellsOf 46 = 1:=by kernel_rfl
 have g0 : DataW.trod enc prog W 0 (λ_=>true) held I 25 [v0]=some U:=by simpa [Value.cells,O] using Q 0 _ rfl
 have g1 : DataW.trod enc prog W 0 (λ_=>true) held I 46 [v1]=some Z:=by simpa [Value.cells,O,N] using Q 1 _ rfl
 obtain ⟨ax,nx,E,C,e,F⟩:=l0 g0;obtain ⟨z,D,cy,TT,K,j⟩:=vb g1;simp at e K;subst e K;exact ⟨ax,nx,E,C,z,D,cy,TT,rfl,F,j⟩
end
end
end Go.Proofs.YthglbncgemdcbaaGreat
