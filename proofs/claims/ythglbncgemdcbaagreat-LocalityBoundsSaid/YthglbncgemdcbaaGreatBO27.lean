import Derived.Test.YthglbncgemdcbaaGreatBO26
namespace Go.Proofs.YthglbncgemdcbaaGreat
set_option linter.all false
set_option maxRecDepth 100000
set_option maxHeartbeats 16000000
open Go.RowKit Go.Proofs.Tryz
theorem lits (V:ej) (l:Lz) (cs:Array Value) (h:cs=(l.map (Value.int .i64)).toArray) (Y:l.length<=1000) {g:Nat} (Z:g=V.heap.size):Ints (V.alloc (.cells cs 3)) (some ⟨g,0,none⟩) l.length l:=by subst h;refine ⟨rfl,λ_=>rfl,by unfold maxLen;omega,λi hi=>?_⟩;have h1:=aF V ((l.map (Value.int .i64)).toArray) 3 Z i;rw [an hi];simpa [ablk,aN,hi] using h1
theorem Mj (V:ej) {p q:Addr} {Z Y c1 c2:Nat} {U X:Lz} (h1:Ints V (some p) Z U) (h2:Ints V (some q) Y X) {g:Nat} (S:g=V.heap.size):bP (V.alloc (.cells #[.slice (some p) Z c1,.slice (some q) Y c2] 22)) (some ⟨g,0,none⟩) 2 [U,X] :=
 ⟨rfl,λ_=>rfl,by unfold maxLen;omega,λk Q=>by
  have h:=aF V #[.slice (some p) Z c1,.slice (some q) Y c2] 22 S k;match k,Q with
  | 0,_=>exact ⟨some p,Z,c1,h,h1.ai (aD _ _)⟩
  | 1,_=>exact ⟨some q,Y,c2,h,h2.ai (aD _ _)⟩⟩
theorem Ji (w:ej) (o1 o2 Z Y:Obj):SJ w ((((w.alloc o1).alloc o2).alloc Z).alloc Y):=RU (kY w o1 o2 Z) (aD _ _)
theorem Mw (V:ej) {p q r s:Addr} {Z X U Y c1 c2 S c4:Nat} {K N O Q:Lz} (h1:Ints V (some p) Z K) (h2:Ints V (some q) X N) (h3:Ints V (some r) U O) (h4:Ints V (some s) Y Q) {g:Nat} (I:g=V.heap.size) :
  bP (V.alloc (.cells #[.slice (some p) Z c1,.slice (some q) X c2,.slice (some r) U S,.slice (some s) Y c4] 22)) (some ⟨g,0,none⟩) 4 [K,N,O,Q] :=
 ⟨rfl,λ_=>rfl,by unfold maxLen;omega,λk H=>by
  have h:=aF V #[.slice (some p) Z c1,.slice (some q) X c2,.slice (some r) U S,.slice (some s) Y c4] 22 I k;match k,H with
  | 0,_=>exact ⟨some p,Z,c1,h,h1.ai (aD _ _)⟩
  | 1,_=>exact ⟨some q,X,c2,h,h2.ai (aD _ _)⟩
  | 2,_=>exact ⟨some r,U,S,h,h3.ai (aD _ _)⟩
  | 3,_=>exact ⟨some s,Y,c4,h,h4.ai (aD _ _)⟩⟩
theorem LN (w:ej) (o1 o2 Z Y X:Obj):SJ w (((((w.alloc o1).alloc o2).alloc Z).alloc Y).alloc X):=RU (Ji w o1 o2 Z Y) (aD _ _)
theorem j6.II {w w':ej} {a:OA} {n:Nat} {TT:List ZZ} (h:j6 w a n TT) (hb:SJ w w'):j6 w' a n TT :=
 ⟨h.len,h.pl,h.max,λi hi=>by obtain ⟨b,m,c,h1,h2,h3⟩:=h.cell i hi;exact ⟨b,m,c,aC hb h1,h2.ai hb,h3⟩⟩
def Ec (V:ej):ej:=((((V.alloc (.cells #[cG 1,cG 1,cG 1,cG 0] 3)).alloc (.cells #[cG 0,cG 1,cG 0,cG 1] 3)).alloc (.cells #[cG 1,cG 1,cG 1,cG 0] 3)).alloc (.cells #[cG 0,cG 1,cG 0,cG 1] 3)).alloc
  (.cells #[.slice (some ⟨V.heap.size,0,none⟩) 4 4,.slice (some ⟨V.heap.size+1,0,none⟩) 4 4,.slice (some ⟨V.heap.size+1+1,0,none⟩) 4 4,.slice (some ⟨V.heap.size+1+1+1,0,none⟩) 4 4] 22)
theorem FF (V:ej):bP (Ec V) (some ⟨V.heap.size+1+1+1+1,0,none⟩) 4 l5:=by
 have N:=lits V [1,1,1,0] #[cG 1,cG 1,cG 1,cG 0] rfl (by decide) rfl;have S:=lits (V.alloc (.cells #[cG 1,cG 1,cG 1,cG 0] 3)) [0,1,0,1] #[cG 0,cG 1,cG 0,cG 1] rfl (by decide) (g:=V.heap.size+1) (by simp);have Q:=lits ((V.alloc (.cells #[cG 1,cG 1,cG 1,cG 0] 3)).alloc (.cells #[cG 0,cG 1,cG 0,cG 1] 3)) [1,1,1,0] #[cG 1,cG 1,cG 1,cG 0] rfl (by decide) (g:=V.heap.size+1+1) (by simp);have Y:=lits (((V.alloc (.cells #[cG 1,cG 1,cG 1,cG 0] 3)).alloc (.cells #[cG 0,cG 1,cG 0,cG 1] 3)).alloc (.cells #[cG 1,cG 1,cG 1,cG 0] 3)) [0,1,0,1] #[cG 0,cG 1,cG 0,cG 1] rfl (by decide) (g:=V.heap.size+1+1+1) (by simp);unfold Ec;generalize Z:(((V.alloc (.cells #[cG 1,cG 1,cG 1,cG 0] 3)).alloc (.cells #[cG 0,cG 1,cG 0,cG 1] 3)).alloc (.cells #[cG 1,cG 1,cG 1,cG 0] 3)).alloc (.cells #[cG 0,cG 1,cG 0,cG 1] 3)=U at Y ⊢;have X:Ints U (some ⟨V.heap.size,0,none⟩) 4 [1,1,1,0]:=by rw [<- Z];exact ((N.ai (aD _ _)).ai (aD _ _)).ai (aD _ _)
 have K:Ints U (some ⟨V.heap.size+1,0,none⟩) 4 [0,1,0,1]:=by rw [<- Z];exact (S.ai (aD _ _)).ai (aD _ _)
 have O:Ints U (some ⟨V.heap.size+1+1,0,none⟩) 4 [1,1,1,0]:=by rw [<- Z];exact Q.ai (aD _ _)
 have I:V.heap.size+1+1+1+1=U.heap.size:=by rw [<- Z];simp
 exact Mw U X K O Y I
theorem qz (V:ej):SJ V (Ec V):=LN _ _ _ _ _ _
theorem oO {V:ej} {Z:Nat} (Y:bP V (some ⟨Z,0,none⟩) 2 cI) (i:Int) (S D:Lz) (h0:FE 2 1 [] 4 cI i=0) (h1:jg 2 1 [] 4 cI i=S) (h2:oF 2 1 [] 4 cI i=D) :
  Calls prog 15 #[.agg #[cG 2,cG 1,ds,cG 4,.slice (some ⟨Z,0,none⟩) 2 2],cG i] V λe w'=>SJ V w'/\∃a c a2 c2,e = ec #[.slice a S.length c,.slice a2 S.length c2,cG 0]/\Ints w' a S.length S/\Ints w' a2 S.length D:=by
 refine (uo 2 1 none 0 0 [] 4 (some ⟨Z,0,none⟩) 2 2 cI i V (R9 _ _) Y).mono ?_;rintro e w' ⟨b,⟨h,_⟩ | ⟨_,a,c,a2,c2,rfl,h3,h4⟩⟩
 ·exact absurd h0 h
 ·have e1:jg 2 1 [] (4:Int).toNat cI i=S:=h1;have X:oF 2 1 [] (4:Int).toNat cI i=D:=h2;rw [e1] at h3 h4;rw [X] at h4;exact ⟨b,a,c,a2,c2,by rw [e1],h3,h4⟩
theorem wW {V:ej} {X:Nat} (U:bP V (some ⟨X,0,none⟩) 2 cI):Calls prog 28 #[.agg #[cG 2,cG 1,ds,cG 4,.slice (some ⟨X,0,none⟩) 2 2]] V
  λe w'=>SJ V w'/\∃Y cs Z ct,e = ec #[.agg #[.slice Y 4 cs,.slice Z 4 ct],cG 0]/\bP w' Y 4 l5/\j6 w' Z 4 vF:=by
 refine (uy 2 1 none 0 0 [] 4 (some ⟨X,0,none⟩) 2 2 cI V (R9 _ _) U).mono ?_;rintro e w' ⟨b,⟨h0,_⟩ | ⟨_,Y,cs,Z,ct,rfl,h1,h2⟩⟩
 ·exact absurd Kz h0
 ·have e1:dT 2 1 [] (4:Int).toNat cI=l5:=oQ;have S:uB 2 1 [] (4:Int).toNat cI (4:Int).toNat=vF:=KR;rw [e1] at h1;rw [S] at h2;exact ⟨b,Y,cs,Z,ct,rfl,h1,h2⟩
theorem CB {V:ej} {X:Nat} {Y Z:OA} {cs ct:Nat} (U:bP V (some ⟨X,0,none⟩) 2 cI) (h1:bP V Y 4 l5) (h2:j6 V Z 4 vF) :
  Calls prog 31 #[.agg #[cG 2,cG 1,ds,cG 4,.slice (some ⟨X,0,none⟩) 2 2],.agg #[.slice Y 4 cs,.slice Z 4 ct]] V λe w'=>SJ V w'/\∃a c,e = ec #[.slice a 4 c,cG 0]/\Ints w' a 4 [2,1,2,1]:=by
 refine (zK 2 1 none 0 0 [] 4 (some ⟨X,0,none⟩) 2 2 cI Y 4 cs _ Z 4 ct _ V (R9 _ _) U h1 h2).mono ?_;rintro e w' ⟨b,⟨h0,_⟩ | ⟨_,a,c,rfl,h⟩⟩
 ·exact absurd JY h0
 ·have e1:Bz l5 (4:Int).toNat=[2,1,2,1]:=KD;rw [e1] at h;exact ⟨b,a,c,rfl,h⟩
theorem ug {V:ej} {Z:Nat} (Y:bP V (some ⟨Z,0,none⟩) 2 cI):Calls prog 20 #[.agg #[cG 2,cG 1,ds,cG 4,.slice (some ⟨Z,0,none⟩) 2 2]] V λe w'=>e = ec #[cG 2,cG 0]/\SJ V w':=by have h:=mj 2 1 none 0 0 [] 4 (some ⟨Z,0,none⟩) 2 2 cI V (R9 _ _) Y;rw [KX,DI] at h;exact h
theorem Ap {V:ej} {Z:Nat} {p:OA} (Y:bP V (some ⟨Z,0,none⟩) 2 cI) (hy:Ints V p 4 [0,1,0,1]):Calls prog 17 #[.agg #[cG 2,cG 1,ds,cG 4,.slice (some ⟨Z,0,none⟩) 2 2],cG 0,.slice p 4 4] V λe w'=>e = ec #[cG 1,cG 0]/\SJ V w':=by have h:=ym 2 1 none 0 0 [] 4 (some ⟨Z,0,none⟩) 2 2 cI 0 p 4 4 [0,1,0,1] V (R9 _ _) Y hy;rw [JG,JI] at h;exact h
theorem CS (V:ej):Calls prog 22 #[cG 6,cG 3,cG 2] V λe w'=>e = ec #[cG 3,cG 0]/\w'=V:=by have h:=qK 6 3 2 V;rw [KS,Jz] at h;exact h
theorem Kp (V:ej):Calls prog 25 #[.agg #[cG 7,cG 1,ds],cG 2,cG 2,cG 3] V λe w' =>
  ∃a1 c1 a2 c2,e = ec #[.agg #[cG 7,cG 1,.slice a1 0 c1,cG 6,.slice a2 3 c2],cG 0]/\SJ V w':=by
 refine (H7 7 1 none 0 0 [] 2 2 3 V (R9 _ _) (by omega)).mono ?_;rintro e w' ⟨b,⟨h0,_⟩ | ⟨_,a1,c1,a2,c2,rfl,_,_⟩⟩
 ·exact absurd JJ h0
 ·have e1:(Jv 7 1 [] (2:Int).toNat (2:Int).toNat (3:Int).toNat).length=3:=JW;exact ⟨a1,c1,a2,c2,by rw [e1];rfl,b⟩
theorem jT (w:ej):Calls prog 13 #[] w λe w'=>e = .returned (.bool true)/\SJ w w':=by
 go_enter func13,ntmps13;go_upto_region 1 with fail;go_cut [1] (λv wx=>∃g gm,v = ea g 0/\aQ wx g [cG 2,cG 1,ds,cG 4,.slice (some ⟨gm,0,none⟩) 2 2]/\bP wx (some ⟨gm,0,none⟩) 2 cI/\SJ w wx);case first =>
  go_wp2_with fail
  go_meet
  have i1:=lits w [1,0,1,0] #[cG 1,cG 0,cG 1,cG 0] rfl (by decide) rfl
  have i2:=lits (w.alloc (.cells #[cG 1,cG 0,cG 1,cG 0] 3)) [0,1,1,1] #[cG 0,cG 1,cG 1,cG 1] rfl (by decide) (g:=w.heap.size+1) (by simp)
  have hm:=Mj (c1:=4) (c2:=4) _ (i1.ai (aD _ (.cells #[cG 0,cG 1,cG 1,cG 1] 3))) i2 (g:=w.heap.size+1+1) (by simp)
  have hm2:=hm.ai (aD _ (.cells #[cG 2,cG 1,ds,cG 4,.slice (some ⟨w.heap.size+1+1,0,none⟩) 2 2] 27))
  exact ⟨_,w.heap.size+1+1,rfl,RV _ [cG 2,cG 1,ds,cG 4,.slice (some ⟨w.heap.size+1+1,0,none⟩) 2 2] _ (by simp),hm2,Ji _ _ _ _ _⟩
 obtain ⟨g,gm,rfl,hx,hM,hbW⟩:=hcut;generalize wc=W at *;have B:Hid (∀V,SJ W V->V.cell? ⟨g,0,none⟩=some (cG 2)/\V.cell? ⟨g,1,none⟩=some (cG 1)/\V.cell? ⟨g,2,none⟩=some ds/\V.cell? ⟨g,3,none⟩=some (cG 4)/\V.cell? ⟨g,4,none⟩=some (.slice (some ⟨gm,0,none⟩) 2 2)):=λV Y=>by have h:=hx.ai Y;exact ⟨h.cell 0 rfl,h.cell 1 rfl,h.cell 2 rfl,h.cell 3 rfl,h.cell 4 rfl⟩
 have E:Hid (∀V,SJ W V->bP V (some ⟨gm,0,none⟩) 2 cI):=λV Y=>hM.ai Y;have HW:=Z5 hbW;clear hx hM hbW;have e0:=M5 W.heap.size W;obtain ⟨c0,c1,c2,O,c4⟩:=B _ e0;have Z:=Z5 (oO (E _ e0) 0 [1,2] [1,1] KJ J7 Jw);go_wp2_with fail;refine Z.mono ?_;rintro e V1 ⟨b1,a1,k1,d1,j1,rfl,hO1,hP1⟩;have e1:=RU e0 b1;have HO1:=Z5 (λV Y=>⟨hO1.ai Y,hP1.ai Y⟩:∀V,SJ V1 V->Ints V a1 2 [1,2]/\Ints V d1 2 [1,1]);clear c0 c1 c2 O c4 Z hO1 hP1;obtain ⟨c0,c1,c2,O,c4⟩:=B _ e1;have Z:=Z5 (oO (E _ e1) 1 [3] [1] J2 KF J9);go_wp2_with fail;refine Z.mono ?_;rintro e V2 ⟨b2,a2,k2,d2,j2,rfl,z,hP2⟩;have e2:=RU e1 b2;have A:=Z5 (λV Y=>⟨z.ai Y,hP2.ai Y⟩:∀V,SJ V2 V->Ints V a2 1 [3]/\Ints V d2 1 [1]);clear c0 c1 c2 O c4 Z z hP2;obtain ⟨c0,c1,c2,O,c4⟩:=B _ e2;have Z:=Z5 (ug (E _ e2));go_wp2_with fail;refine Z.mono ?_;rintro e V3 ⟨rfl,b3⟩;have e3:=RU e2 b3;clear c0 c1 c2 O c4 Z;have n3:=aD V3 (.cells #[cG 0,cG 1,cG 0,cG 1] 3);have Z:=Z5 (Ap (E _ (RU e3 n3)) (lits V3 [0,1,0,1] #[cG 0,cG 1,cG 0,cG 1] rfl (by decide) rfl));obtain ⟨c0,c1,c2,O,c4⟩:=B _ e3;go_wp2_with fail;refine Z.mono ?_;rintro e V4 ⟨rfl,b4⟩;have e4:=RU e3 (RU n3 b4);clear c0 c1 c2 O c4 Z;have Z:=Z5 (CS V4);go_wp2_with fail;refine Z.mono ?_;rintro e V4 ⟨rfl,rfl⟩;clear Z;have Z:=Z5 (Kp V4);go_wp2_with fail;refine Z.mono ?_;rintro e S ⟨p5,N,a5,C,rfl,b5⟩;clear Z;have n5:=aD S (.cells #[cG 7,cG 1,.slice p5 0 N,cG 6,.slice a5 3 C] 27);have f5:=RU b5 n5;have e5:=RU e4 f5;have HO5:=Z5 (λV Y=>⟨((RV S [cG 7,cG 1,.slice p5 0 N,cG 6,.slice a5 3 C] 27 rfl).ai Y).cell 3 rfl,((RV S [cG 7,cG 1,.slice p5 0 N,cG 6,.slice a5 3 C] 27 rfl).ai Y).cell 4 rfl⟩:∀V,Below (S.alloc (.cells #[cG 7,cG 1,.slice p5 0 N,cG 6,.slice a5 3 C] 27)).heap.size (S.alloc (.cells #[cG 7,cG 1,.slice p5 0 N,cG 6,.slice a5 3 C] 27)) V ->
  V.cell? ⟨S.heap.size,3,none⟩=some (cG 6)/\V.cell? ⟨S.heap.size,4,none⟩=some (.slice a5 3 C))
 have Z:=Z5 (wW (E _ e5));obtain ⟨c0,c1,c2,O,c4⟩:=B _ e5;go_wp2_with fail;refine Z.mono ?_;rintro e U ⟨b6,X,cs,Q,ct,rfl,hA6,hT6⟩;clear c0 c1 c2 O c4 Z;have n6:=aD U (.cells #[.slice X 4 cs,.slice Q 4 ct] 48);have f6:=RU b6 n6;have e6:=RU e5 f6;have j:=Z5 (λV Y=>⟨((RV U [.slice X 4 cs,.slice Q 4 ct] 48 rfl).ai Y).cell 0 rfl,((RV U [.slice X 4 cs,.slice Q 4 ct] 48 rfl).ai Y).cell 1 rfl,(hA6.ai n6).ai Y,(hT6.II n6).II Y⟩:∀V,Below (U.alloc (.cells #[.slice X 4 cs,.slice Q 4 ct] 48)).heap.size (U.alloc (.cells #[.slice X 4 cs,.slice Q 4 ct] 48)) V ->
  V.cell? ⟨U.heap.size,0,none⟩=some (.slice X 4 cs)/\V.cell? ⟨U.heap.size,1,none⟩=some (.slice Q 4 ct)/\bP V X 4 l5/\j6 V Q 4 vF)
 clear hA6 hT6;have t6:=j _ (M5 _ _);have Z:=Z5 (CB (cs:=cs) (ct:=ct) (E _ e6) t6.2.2.1 t6.2.2.2);obtain ⟨c0,c1,c2,O,c4⟩:=B _ e6;have x0:=t6.1;have x1:=t6.2.1;clear t6;go_wp2_with fail;refine Z.mono ?_;rintro e D ⟨b7,a7,k7,rfl,hO7⟩;have e7:=RU e6 b7;have HO7:=Z5 (λV Y=>hO7.ai Y:∀V,SJ D V->Ints V a7 4 [2,1,2,1]);have G6:=Z5 b7;have G5:=Z5 (RU f6 b7);have G2:=Z5 (RU b3 (RU (RU n3 b4) (RU f5 (RU f6 b7))));have G1:=Z5 (RU b2 G2.out);have E7:=Z5 (RU HW.out e7);clear c0 c1 c2 O c4 x0 x1 Z hO7 b1 b2 b3 b4 b5 b6 b7 n3 n5 n6 f5 f6 e0 e1 e2 e3 e4 e5 e6 e7;go_upto_region 12 with fail;have q1:=aD D (.cells #[cG 1,cG 2] 3);have I:=RU (M5 D.heap.size D) q1;have Z:=Z5 (fi a1 2 k1 [1,2] (some ⟨D.heap.size,0,none⟩) 2 2 [1,2] (HO1 _ (RU G1.out I)).1 (lits D [1,2] #[cG 1,cG 2] rfl (by decide) rfl));rw [Nv rfl] at Z;go_wp2_with fail;refine Z.mono ?_;rintro e Y1 ⟨rfl,r1⟩;have s1:=RU I r1.below;clear Z q1 I r1;have q2:=aD Y1 (.cells #[cG 1,cG 1] 3);have H:=RU s1 q2;have Z:=Z5 (fi d1 2 j1 [1,1] (some ⟨Y1.heap.size,0,none⟩) 2 2 [1,1] (HO1 _ (RU G1.out H)).2 (lits Y1 [1,1] #[cG 1,cG 1] rfl (by decide) rfl));rw [Nv rfl] at Z;go_wp2_with fail;refine Z.mono ?_;rintro e Y2 ⟨rfl,r2⟩;have s2:=RU H r2.below;clear Z q2 H r2;have q3:=aD Y2 (.cells #[cG 3] 3);have F:=RU s2 q3;have Z:=Z5 (fi a2 1 k2 [3] (some ⟨Y2.heap.size,0,none⟩) 1 1 [3] (A _ (RU G2.out F)).1 (lits Y2 [3] #[cG 3] rfl (by decide) rfl));rw [Nv rfl] at Z;go_wp2_with fail;refine Z.mono ?_;rintro e Y3 ⟨rfl,r3⟩;have s3:=RU F r3.below;clear Z q3 F r3;have q4:=aD Y3 (.cells #[cG 1] 3);have K:=RU s3 q4;have Z:=Z5 (fi d2 1 j2 [1] (some ⟨Y3.heap.size,0,none⟩) 1 1 [1] (A _ (RU G2.out K)).2 (lits Y3 [1] #[cG 1] rfl (by decide) rfl));rw [Nv rfl] at Z;go_wp2_with fail;refine Z.mono ?_;rintro e Y4 ⟨rfl,r4⟩;have s4:=RU K r4.below;clear Z q4 K r4;have N:=aD Y4 (.cells #[cG 2,cG 1,cG 2,cG 1] 3);have G:=RU s4 N;have Z:=Z5 (fi a7 4 k7 [2,1,2,1] (some ⟨Y4.heap.size,0,none⟩) 4 4 [2,1,2,1] (HO7 _ G) (lits Y4 [2,1,2,1] #[cG 2,cG 1,cG 2,cG 1] rfl (by decide) rfl));rw [Nv rfl] at Z;go_wp2_with fail;refine Z.mono ?_;rintro e Y5 ⟨rfl,r5⟩;have s5:=RU G r5.below;clear Z N G r5;obtain ⟨y3,y4⟩:=HO5 _ (RU G5.out s5);obtain ⟨x0,_,hA,_⟩:=j _ (RU G6.out s5);have Z:=Z5 (nc X 4 cs l5 _ 4 4 l5 (hA.ai (qz Y5)) (FF Y5));rw [Nv rfl] at Z;unfold Ec at Z;clear hA;go_wp2_with fail;refine Z.mono ?_;rintro e Y6 ⟨rfl,r6⟩;have hF:=RU E7.out (RU (RU s5 (qz Y5)) r6.below);go_wp2_with fail;go_ret;exact ⟨rfl,hF⟩
section
variable {cl:Z6->Nat->Prop} {m k r:Nat}
def Fj (m:Nat) (S:Z6):Prop:=S.Nodup/\∀x ∈ S,x<m
theorem DW (h:vd cl) {S:Z6} (hS:Fj m S):∀(T:Z6),(∀x ∈ T,x<m)->∃V p,Fj m V/\(∀x,x ∈ V ↔ x ∈ S\/x ∈ T)/\V.length=S.length+p/\∀a b,Rk cl S a->Rk cl V b->a<=b/\b<=a+p/\p<=T.length
 | [],_=>⟨S,0,hS,by simp,rfl,λa b ha hb=>by rw [ha.uniq hb];exact ⟨M4 _,M4 _,M4 _⟩⟩
 | t :: T,Q=>by
  obtain ⟨X,p,h1,h2,h3,h4⟩:=DW h hS T λx Y=>Q x (NC _ Y);by_cases O:t ∈ X
  ·refine ⟨X,p,h1,λx=>?_,h3,λa b ha hb=>?_⟩
   ·rw [h2,PL];constructor
    ·rintro (h | h)
     ·exact .inl h
     ·exact .inr (.inr h)
    ·rintro (h | rfl | h)
     ·exact .inl h
     ·exact (h2 x).1 O
     ·exact .inr h
   ·obtain ⟨N,q2,U⟩:=h4 a b ha hb;exact ⟨N,q2,Rq U⟩
  ·refine ⟨t :: X,p+1,⟨List.nodup_cons.2 ⟨O,h1.1⟩,λx Y=>?_⟩,λx=>?_,by rw [NO,h3];rfl,λa b ha hb=>?_⟩
   ·rcases List.mem_cons.1 Y with rfl | Y
    ·exact Q x (by simp)
    ·exact h1.2 x Y
   ·rw [PL,h2,PL];constructor
    ·rintro (h | h | h)
     ·exact .inr (.inl h)
     ·exact .inl h
     ·exact .inr (.inr h)
    ·rintro (h | h | h)
     ·exact .inr (.inl h)
     ·exact .inl h
     ·exact .inr (.inr h)
   ·obtain ⟨K,Z⟩:=SI cl X;obtain ⟨N,q2,U⟩:=h4 a K ha Z;have h5:=Z.Jf h hb (p:=t) λx=>by rw [PL];exact or_comm
    exact ⟨by omega,by omega,Nat.succ_le_succ U⟩
theorem sO (h:vd cl) (Y:Rk cl (List.range m) k) {S:Z6} {a:Nat} (ha:Rk cl S a) (X:a<k):∃i,i<m/\¬ cl S i:=by refine NB λZ=>?_;have h1:=Y.le h ha λx V=>NB λU=>Z ⟨x,List.mem_range.1 V,U⟩;omega
theorem Ao (h:vd cl) (I:Rk cl (List.range m) k) (G:∀i,i<m->∃H:Z6,H.length<=r/\(∀x ∈ H,x<m)/\¬ i ∈ H/\cl H i):∀t,t * r<k->∃S a,Fj m S/\Rk cl S a/\a<=t * r/\a+t<=S.length
 | 0,_=>⟨[],0,⟨Qq,by simp⟩,.nil,by omega,by simp⟩
 | t+1,C=>by
  rw [PI] at C;obtain ⟨S,a,hS,ha,D,F⟩:=Ao h I G t (by omega);obtain ⟨i,hi,N⟩:=sO h I ha (by omega);obtain ⟨H,E,Q,K,U⟩:=G i hi;obtain ⟨X,p,h1,h2,h3,h4⟩:=DW h hS H Q;obtain ⟨b,hb⟩:=SI cl X;obtain ⟨B,q2,A⟩:=h4 a b ha hb;have O:¬ i ∈ X:=λY=>by
   rcases (h2 i).1 Y with Y | Y
   ·exact N (h.mem _ _ Y)
   ·exact K Y
  have V:cl X i:=h.sub (λx Z=>(h2 x).2 (.inr Z)) U;refine ⟨i :: X,b,⟨List.nodup_cons.2 ⟨O,h1.1⟩,λx Z=>?_⟩,.dep i V hb,by rw [PI];omega,by rw [NO];omega⟩;rcases List.mem_cons.1 Z with rfl | Z
  ·exact hi
  ·exact h1.2 x Z
theorem eM (h:vd cl) (U:Rk cl (List.range m) k):∀(d:Nat) {S:Z6} {a t:Nat},Fj m S->Rk cl S a->a+d<k->a+t<=S.length->∃Y,Fj m Y/\Rk cl Y (a+d)/\a+d+t<=Y.length
 | 0,S,a,t,hS,ha,_,Z=>⟨S,hS,ha,Z⟩
 | d+1,S,a,t,hS,ha,N,Z=>by
  obtain ⟨i,hi,X⟩:=sO h U ha (by omega);have Q:¬ i ∈ S:=λO=>X (h.mem _ _ O);obtain ⟨Y,h1,h2,h3⟩:=eM h U d (S:=i :: S) (a:=a+1) (t:=t) ⟨List.nodup_cons.2 ⟨Q,hS.1⟩,λx V=>by
   rcases List.mem_cons.1 V with rfl | V
   ·exact hi
   ·exact hS.2 x V⟩ (.ind i X ha) (by omega) (by rw [NO];omega)
  exact ⟨Y,h1,by rw [show a+(d+1)=a+1+d by omega];exact h2,by omega⟩
theorem K0 (h:vd cl) (Z:Rk cl (List.range m) k) (N:1<=k) (O:1<=r) (Q:∀i,i<m->∃H:Z6,H.length<=r/\(∀x ∈ H,x<m)/\¬ i ∈ H/\cl H i) :
  ∃S i,Fj m S/\i<m/\¬ cl S i/\k - 1+(k - 1) / r<=S.length:=by have h0:(k - 1) / r * r<=k - 1:=Nat.div_mul_le_self _ _;obtain ⟨S,a,hS,ha,U,Y⟩:=Ao h Z Q ((k - 1) / r) (by omega);obtain ⟨V,h1,h2,h3⟩:=eM h Z (k - 1 - a) hS ha (by omega) Y;rw [show a+(k - 1 - a)=k - 1 by omega] at h2 h3;obtain ⟨i,hi,X⟩:=sO h Z h2 (by omega);exact ⟨V,i,h1,hi,X,h3⟩
end
section
variable {P M:Int} {mod:Lz} {m:Nat} {L:ZZ}
theorem Fu (G:aI P M mod m L=0) (hk:1<=L.length) {r:Nat} (hr:1<=r)
  (A:∀i,i<m->∃H:Z6,H.length<=r/\(∀x ∈ H,x<m)/\¬ i ∈ H/\lu (ah P M.toNat mod).ops (ah P M.toNat mod).El L.length (bp L) H i) :
  ∃x,CW P M mod m L x/\bY x+(L.length - 1)+(L.length - 1) / r<=m:=by
 obtain ⟨N',e,hm1,D,F,I⟩:=aT G;obtain rfl:m=N':=by omega
 have N:=D9 F (n:=L.length) (c:=bp L) λi=>dw I F.zero i;obtain ⟨S,i,hS,hi,Q,hlen⟩:=K0 N (pJ G) hk hr A;have h1:∃f,RS (ah P M.toNat mod).ops (ah P M.toNat mod).El m L f/\(∀y ∈ S,f y=0)/\f i ≠ 0:=NB λB=>Q ((xy hS.2 hi).2 λf V h0=>NB λhc=>B ⟨f,V,h0,hc⟩);obtain ⟨f,V,h0,K⟩:=h1;have Z:∀j,j<m->nth ((List.range m).map f) j=f j:=λj Y=>dN _ _ _ Y;obtain ⟨x,C⟩:∃x,(List.range m).map f=x:=⟨_,rfl⟩
 rw [C] at Z;have X:x.length=m:=by rw [<- C];simp
 refine ⟨x,⟨⟨X,λy hy=>?_⟩,V.congr Z,λU=>K ?_⟩,?_⟩
 ·obtain ⟨j,Y,rfl⟩:=List.mem_iff_getElem.1 hy;rw [<- an Y,Z j (by omega)];exact V.el F I (by omega)
 ·rw [<- Z i hi];exact rR.1 U i (by omega)
 ·have O:(S.map Int.ofNat ++ yc x m).Nodup:=by
   unfold List.Nodup;rw [Py];refine ⟨?_,?_,λy hy z U e=>?_⟩
   ·rw [OH];exact Qv (λh e=>h (Int.ofNat.inj e)) hS.1
   ·unfold yc;rw [OH];exact Qv (λh e=>h (Int.ofNat.inj e)) (PB _ Rz)
   ·obtain ⟨j,Y,rfl⟩:=List.mem_map.1 hy;obtain ⟨E,h2,h3,e2⟩:=A5.1 U;have e3:(j:Int)=(E:Int):=by rw [<- e2];exact e
    rw [show E=j by omega,Z j (hS.2 j Y)] at h3;exact h3 (h0 j Y)
  have h2:=iw (T:=(List.range m).map Int.ofNat) O λy hy=>by
   rcases List.mem_append.1 hy with h | h
   ·obtain ⟨j,Y,rfl⟩:=List.mem_map.1 h;exact List.mem_map.2 ⟨j,List.mem_range.2 (hS.2 j Y),rfl⟩
   ·obtain ⟨j,Y,_,rfl⟩:=A5.1 h;exact List.mem_map.2 ⟨j,List.mem_range.2 Y,rfl⟩
  rw [Ni,No,No,OI,sy X] at h2;omega
end
def vq (x k:Nat):Nat->Nat
 | 0=>0
 | w+1=>vq x k w+dW k w * x ^ w
theorem Ac (x k:Nat):∀w,vq x (k+1) (w+1)=vq x k (w+1)+x * vq x k w
 | 0=>by simp [vq,ja]
 | w+1=>by
  show vq x (k+1) (w+1)+dW (k+1) (w+1) * x ^ (w+1)=(vq x k (w+1)+dW k (w+1) * x ^ (w+1))+x * (vq x k w+dW k w * x ^ w);have e:dW k w * x ^ (w+1)=x * (dW k w * x ^ w):=by rw [Pf];ac_rfl
  rw [Ac x k w,zu,PT,Qc,e];omega
theorem xI (x:Nat):∀k w,vq x k w<=(x+1) ^ k
 | 0,0=>by simp [vq]
 | 0,1=>by simp [vq,ja]
 | 0,w+2=>by have h:=xI x 0 (w+1);show vq x 0 (w+1)+dW 0 (w+1) * x ^ (w+1)<=_;rw [oJ 0 (w+1) (by omega),QM];exact h
 | k+1,0=>by simp [vq]
 | k+1,w+1=>by rw [Ac,Pf,Qc,RG];have h1:=xI x k (w+1);have h2:=N7 x (xI x k w);rw [Oz x ((x+1) ^ k)] at h2;omega
theorem Ay (O:aL) {q m k:Nat} {sys:List ZZ} (Y:Lz) (U:2<=q) (S:sys.length * q ^ k<=65536) (Z:1<=sys.length):∀(f w:Nat) (b:Lz) (n:Nat) (o:ZZ),w+f=k->n<=sys.length * vq (q - 1) k (w+1) ->
  (FU O q m k sys Y f (w+1) b n o).2.2=0
 | 0,_,_,_,_,_,_=>rfl
 | f+1,w,b,n,o,hw,K=>by
  obtain ⟨x,H⟩:∃x,q - 1=x+1:=⟨q - 2,by omega⟩
  have hle:vq (q - 1) k (w+2)<=q ^ k:=by have h:=xI (q - 1) k (w+2);rwa [show q - 1+1=q by omega] at h
  have X:vq (q - 1) k (w+2)=vq (q - 1) k (w+1)+dW k (w+1) * (q - 1) ^ (w+1):=rfl;have N:=o0 k (w+1) (by omega);have V:1<=(q - 1) ^ (w+1):=RJ (by omega);have h1:dW k (w+1)<=dW k (w+1) * (q - 1) ^ (w+1):=Nat.le_mul_of_pos_right _ V;have h2:(q - 1) ^ (w+1)<=dW k (w+1) * (q - 1) ^ (w+1):=QN _ N;have h3:(q - 1) ^ w<=(q - 1) ^ (w+1):=Q0 (by omega) (by omega);have h4:q ^ k<=sys.length * q ^ k:=QN _ Z;have h5:sN q k sys.length (w+1)<=sys.length * (dW k (w+1) * (q - 1) ^ (w+1)):=by unfold sN;rw [On];exact N7 _ (N7 _ h3)
  have I:sys.length * vq (q - 1) k (w+2)<=sys.length * q ^ k:=N7 _ hle;have Q:sys.length * vq (q - 1) k (w+2)=sys.length * vq (q - 1) k (w+1)+sys.length * (dW k (w+1) * (q - 1) ^ (w+1)):=by rw [X,Qc]
  have hm:mY q k sys.length n (w+1)=true:=by unfold mY;simp only [Nx,NM];rw [On];refine ⟨⟨?_,?_⟩,?_⟩<;>omega
  rw [FU,M7 hm];split
  ·rfl
  ·exact Ay O Y U S Z f (w+1) _ _ _ (by omega) (by rw [Q];omega)
section
variable {P M:Int} {mod:Lz} {m:Nat} {L:ZZ}
theorem Js (Z:aI P M mod m L=0) (Y:1<=L.length):1<=(kE P M mod m L).length/\(kE P M mod m L).length<=m:=by unfold kE;rw [No];refine ⟨?_,(gh Z).2⟩;exact List.length_pos_iff.2 (yx Z Y)
theorem JC (Y:aI P M mod m L=0) (I:1<=L.length):ga P M mod m L=([],[],8)\/∃o b,ga P M mod m L=(o,b,0)/\tb P M mod m L b/\(∀x,CW P M mod m L x->sB b (gE (ah P M.toNat mod).ops x))/\(∀r ∈ o,Ag P M mod m L r)/\1<=o.length:=by
 obtain ⟨K,e,Q,U,F,G⟩:=aT Y;obtain rfl:m=K:=by omega
 have O:=iM Y;obtain ⟨⟨o,b,H⟩,V⟩:∃r,ga P M mod m L=r:=⟨_,rfl⟩
 have Z:=V;unfold ga at Z;rw [M8 (by rw [Y];decide),M8 (by omega),M9] at Z;rcases Iz Y I (by omega) L.length 0 [] 0 [] (by omega) (.inl ⟨rfl,rfl⟩) (λx N X=>by obtain ⟨t,X,h0⟩:=X;have S:=fO (gh Y).1 t X;exact absurd (Nat.le_zero.1 h0) (Di Y S.1 S.2.1 N)) (by simp) Z with ⟨rfl,rfl,rfl⟩ | ⟨rfl,h2,h3,h4,h5⟩
 ·exact .inl V
 ·refine .inr ⟨o,b,V,h2,h3,h4,?_⟩;rw [M8 (by omega)] at h5;simpa using h5
theorem IF (Z:aI P M mod m L=0) (X:1<=L.length) (V:m * (ah P M.toNat mod).q ^ L.length<=65536):∃o b,ga P M mod m L=(o,b,0)/\tb P M mod m L b/\(∀x,CW P M mod m L x->sB b (gE (ah P M.toNat mod).ops x))/\(∀r ∈ o,Ag P M mod m L r)/\1<=o.length:=by
 obtain ⟨S,e,U,Y,F,O⟩:=aT Z;obtain rfl:m=S:=by omega
 obtain ⟨h1,h2⟩:=Js Z X;have h0:(ga P M mod m L).2.2=0:=by unfold ga;rw [M8 (by rw [Z];decide),M8 (by omega),M9];have Q:(1:Int)<(ah P M.toNat mod).q:=F.one.2;exact Ay _ _ (by omega) (Np (Q7 _ h2) V) h1 L.length 0 [] 0 [] (by omega) (Nb _)
 rcases JC Z X with h | h
 ·rw [h] at h0;cases h0
 ·exact h
end
theorem ya (P M:Int) (am:OA) (Q F:Nat) (mod:Lz) (N:Int) (a:OA) (n c:Nat) (L:ZZ) (w:ej) (S:Ints w am Q mod) (hi:bP w a n L) :
  Calls prog 14 #[.agg #[cG P,cG M,.slice am Q F,cG N,.slice a n c]] w (mh w):=by
 have HFw:Hid (∀V,SJ w V->Calls prog 32 #[.agg #[cG P,cG M,.slice am Q F,cG N,.slice a n c],cG 120] V (mh V)):=λV hV=>BA P M am Q F N a n c 120 L V (hi.ai hV) (by omega);have K:Hid (∀V,SJ w V->Calls prog 45 #[.agg #[cG P,cG M,.slice am Q F,cG N,.slice a n c]] V (mF P M mod N L V)):=λV hV=>yT P M am Q F mod N a n c L V (S.ai hV) (hi.ai hV);have HSz:Hid (∀V a1 n1 c1 a2 n2 c2,Ints V a1 n1 mod->bP V a2 n2 (bt (ah P M.toNat mod) L N.toNat)->Calls prog 46 #[.agg #[cG P,cG M,.slice a1 n1 c1,cG N,.slice a2 n2 c2]] V λe w'=>∃x y,e = ec #[cG x,cG y]/\SJ V w'):=λV a1 n1 c1 a2 n2 c2 h1 h2=>by refine (qJ P M a1 n1 c1 mod N a2 n2 c2 _ V h1 h2).mono ?_;rintro e w' ⟨h3,h4⟩;exact ⟨_,_,h3,h4⟩
 unfold mF at K;obtain ⟨D,hD⟩:∃D,bt (ah P M.toNat mod) L N.toNat=D:=⟨_,rfl⟩
 obtain ⟨E,hE⟩:∃E,aI P M mod N L=E:=⟨_,rfl⟩
 rw [hD,hE] at K;rw [hD] at HSz;clear S hi hD hE;go_enter func14,ntmps14;go_upto_region 1 with fail;obtain ⟨W,hW⟩:∃W:ej,W=(w.alloc (.cells #[cG P,cG M,.slice am Q F,cG N,.slice a n c] 27)):=⟨_,rfl⟩
 rw [<- hW];have hbW:SJ w W:=by rw [hW];exact aD _ _
 have O:aQ W w.heap.size [cG P,cG M,.slice am Q F,cG N,.slice a n c]:=by rw [hW];exact RV _ _ _ rfl
 clear hW;have HX:=Z5 O;have G:=Z5 hbW;have c0:=O.cell 0 rfl;have c1:=O.cell 1 rfl;have c2:=O.cell 2 rfl;have c3:=O.cell 3 rfl;have c4:=O.cell 4 rfl;clear O hbW;go_wp2_with fail;refine (HFw W G.out).mono ?_;rintro e U ⟨z,rfl,Z⟩;clear c0 c1 c2 c3 c4;cases z
 ·have HF:=Z5 (RU G.out Z);clear Z;go_wp2_with fail;go_ret;exact ⟨_,rfl,HF⟩
 have C:=HX.ai Z;have c0:=C.cell 0 rfl;have c1:=C.cell 1 rfl;have c2:=C.cell 2 rfl;have c3:=C.cell 3 rfl;have c4:=C.cell 4 rfl;have HbU:=Z5 (RU G.out Z);clear C;go_wp2_with fail;refine (K U HbU.out).mono ?_;rintro e V ⟨I,h⟩;have x2:=HX.ai (RU Z I);have HX2:=Z5 x2;have HbV:=Z5 (RU HbU.out I);clear c0 c1 c2 c3 c4 x2 Z I;rcases h with ⟨h0,rfl⟩ | ⟨h0,a1,d1,a2,d2,rfl,hI,hM⟩
 ·have hEb:(E != 0)=true:=by simpa using h0
  have HF:=Z5 (RU HbV.out (aD V (.cells #[cG 0,cG 0,ds,cG 0,ds] 27)));clear h0;go_wp2_with fail;go_ret;exact ⟨_,rfl,HF⟩
 ·subst h0;obtain ⟨A,hnm⟩:∃A,mod.length=A:=⟨_,rfl⟩
  obtain ⟨k,hk⟩:∃k,D.length=k:=⟨_,rfl⟩
  rw [hnm] at hI ⊢;rw [hk] at hM ⊢;clear hnm hk;go_upto_region 6 with fail;obtain ⟨V2,X⟩:∃V2:ej,V2=V.alloc (.cells #[cG P,cG M,.slice a1 A d1,cG N,.slice a2 k d2] 27):=⟨_,rfl⟩
  rw [<- X];have Y:SJ V V2:=by rw [X];exact aD _ _
  have B:aQ V2 V.heap.size [cG P,cG M,.slice a1 A d1,cG N,.slice a2 k d2]:=by rw [X];exact RV _ _ _ rfl
  have c0:=B.cell 0 rfl;have c1:=B.cell 1 rfl;have c2:=B.cell 2 rfl;have c3:=B.cell 3 rfl;have c4:=B.cell 4 rfl;have HS2:=Z5 (HSz V2 a1 A d1 a2 k d2 (hI.ai Y) (hM.ai Y));have HX3:=Z5 (HX2.ai Y);have j:=Z5 (RU HbV.out Y);clear X Y B hI hM;go_wp2_with fail;refine HS2.mono ?_;rintro e w4 ⟨x,y,rfl,H⟩;have q3:=(HX3.ai H).cell 3 rfl;have HF:=Z5 (RU j.out H);clear c0 c1 c2 c3 c4 H HS2;obtain ⟨z1,hz1⟩:∃z,decide (N<=20)=z:=⟨_,rfl⟩
  obtain ⟨z2,hz2⟩:∃z,(y != 0)=z:=⟨_,rfl⟩
  obtain ⟨z3,hz3⟩:∃z,decide (N<=9)=z:=⟨_,rfl⟩
  obtain ⟨z4,hz4⟩:∃z,decide (x<=600)=z:=⟨_,rfl⟩
  cases z1<;>cases z2<;>cases z3<;>cases z4
  all_goals (
   go_wp2_with fail
   go_ret
   exact ⟨_,rfl,HF⟩)
theorem Dx (A:ZZ) (m:Nat):∀k,0<=mxS A m k/\mxS A m k<=m
 | 0=>⟨Pu _,by unfold mxS;omega⟩
 | k+1=>by obtain ⟨h1,h2⟩:=Dx A m k;have h3:=iA (aj A k) m k;rw [mxS];omega
theorem Gw (A:ZZ) (m:Nat):∀k j,j<k->((eG (aj A j) m j).length:Int)<=mxS A m k
 | 0,j,Z=>absurd Z (Nat.not_lt_zero j)
 | k+1,j,Z=>by
  rw [mxS];rcases NU j k with h | h
  ·have:=Gw A m k j h;omega
  ·obtain rfl:j=k:=by omega
   omega
section
variable {P M:Int} {mod:Lz} {m:Nat} {L:ZZ}
theorem Ge:0<=nT P M mod m L/\nT P M mod m L<=m:=by
 unfold nT;split
 ·rw [M9];exact Dx _ _ _
 ·omega
theorem vP (Z:aI P M mod m L=0) (D:1<=L.length) (H:i5 P M mod m L=0) (C:m * (ah P M.toNat mod).q ^ L.length<=65536) {r:Int} (A:1<=r) (S:nT P M mod m L<=r) (hr3:r<=m) :
  (ga P M mod m L).2.2=0/\tn m L.length r=0/\((bY (ga P M mod m L).2.1:Nat):Int)<=oW m L.length r:=by
 obtain ⟨N',e,B,E,F,hR⟩:=aT Z;obtain rfl:m=N':=by omega
 obtain ⟨o,b,V,_,hle,_⟩:=IF Z D C;have hkm:L.length<=m:=iM Z;obtain ⟨O,Q⟩:=Jk (n:=m) (k:=L.length) (r:=r) (by omega);rw [V];refine ⟨rfl,O,?_⟩;rw [Q];obtain ⟨_,_,hne⟩:=vb H;rw [M9] at hne;unfold nT at S;rw [M7 H,M9] at S;obtain ⟨s,rfl⟩:∃s:Nat,r=s:=⟨r.toNat,by omega⟩
 obtain ⟨x,K,hw⟩:=Fu Z D (r:=s) (by omega) λi hi=>by
  obtain ⟨_,h2,h3,h4⟩:=yO Z hne hi;obtain ⟨h5,G⟩:=(sC Z).1 h3;obtain ⟨y,hy⟩:∃y,aj (dT P M mod m L) i=y:=⟨_,rfl⟩
  have h7:=Gw (dT P M mod m L) m m i hi;rw [hy] at h2 h3 h4 h5 G h7;refine ⟨(eG y m i).map Int.toNat,by rw [No];omega,λz U=>?_,λU=>?_,JV F hR hi G h4 (λz U=>?_) λj Y hne h0=>?_⟩
  ·obtain ⟨v,X,rfl⟩:=List.mem_map.1 U;obtain ⟨j,Y,_,_,rfl⟩:=mx.1 X;rw [M9];exact Y
  ·obtain ⟨v,X,e⟩:=List.mem_map.1 U;obtain ⟨j,Y,_,h8,rfl⟩:=mx.1 X;rw [M9] at e;omega
  ·obtain ⟨v,X,rfl⟩:=List.mem_map.1 U;obtain ⟨j,Y,_,_,rfl⟩:=mx.1 X;rw [M9];exact Y
  ·exact List.mem_map.2 ⟨(j:Int),mx.2 ⟨j,Y,h0,by omega,rfl⟩,M9 j⟩
 have h9:=(hle x K).wt;have N:bY (gE (ah P M.toNat mod).ops x)=bY x:=ry F K.1 K.2.2;rw [N] at h9;have I:((L.length:Int)+s - 1).tdiv s=(((L.length - 1) / s:Nat):Int)+1:=by rw [OF (by omega),show (L.length:Int)+s - 1=((L.length - 1:Nat):Int)+s * 1 by omega,QW _ _ (by omega),RD]
 rw [I];show (bY b:Int)<=_;obtain ⟨d,hd⟩:∃d,(L.length - 1) / s=d:=⟨_,rfl⟩
 rw [hd] at hw ⊢;omega
end
section
open Go.RowKit
end
theorem rW (P M:Int) (am:OA) (U S:Nat) (mod:Lz) (N:Int) (a:OA) (n c:Nat) (L:ZZ) (w:ej) (Y:Ints w am U mod) (hi:bP w a n L) :
  Calls prog 12 #[.agg #[cG P,cG M,.slice am U S,cG N,.slice a n c]] w λe w'=>e = .returned (.bool true)/\SJ w w':=by
 have HSm:Hid (∀V,SJ w V->Calls prog 14 #[.agg #[cG P,cG M,.slice am U S,cG N,.slice a n c]] V (mh V)):=λV X=>ya P M am U S mod N a n c L V (Y.ai X) (hi.ai X);have HCn:Hid (∀V,SJ w V->Calls prog 42 #[.agg #[cG P,cG M,.slice am U S,cG N,.slice a n c],cG 600] V λe w'=>e = .returned (cG (q9 P M mod N L))/\SJ V w'):=λV X=>xC P M am U S mod N a n c L V (Y.ai X) (hi.ai X);have HLo:Hid (∀V,SJ w V->Calls prog 20 #[.agg #[cG P,cG M,.slice am U S,cG N,.slice a n c]] V λe w'=>e = ec #[cG (nT P M mod N L),cG (i5 P M mod N L)]/\SJ V w'):=λV X=>mj P M am U S mod N a n c L V (Y.ai X) (hi.ai X);have HDi:Hid (∀V,SJ w V->Calls prog 43 #[.agg #[cG P,cG M,.slice am U S,cG N,.slice a n c]] V λe w'=>e = ec #[cG (bY (ga P M mod N L).2.1:Nat),cG (ga P M mod N L).2.2]/\SJ V w'):=λV X=>uw P M am U S mod N a n c L V (Y.ai X) (hi.ai X);have A:=Z5 hi.len;clear Y hi;go_enter func12,ntmps12;go_wp2_with fail;obtain ⟨W,hW⟩:∃W:ej,W=(w.alloc (.cells #[cG P,cG M,.slice am U S,cG N,.slice a n c] 27)):=⟨_,rfl⟩
 rw [<- hW];have j:SJ w W:=by rw [hW];exact aD _ _
 have x0:aQ W w.heap.size [cG P,cG M,.slice am U S,cG N,.slice a n c]:=by rw [hW];exact RV _ _ _ (by simp)
 have HS:Hid (∀V,SJ W V->V.cell? ⟨w.heap.size,0,none⟩=some (cG P)/\V.cell? ⟨w.heap.size,1,none⟩=some (cG M)/\V.cell? ⟨w.heap.size,2,none⟩=some (.slice am U S)/\V.cell? ⟨w.heap.size,3,none⟩=some (cG N)/\V.cell? ⟨w.heap.size,4,none⟩=some (.slice a n c)):=λV X=>by have x1:=x0.ai X;exact ⟨x1.cell 0 rfl,x1.cell 1 rfl,x1.cell 2 rfl,x1.cell 3 rfl,x1.cell 4 rfl⟩
 have Z:=Z5 j;clear hW j x0;refine (jT W).mono ?_;rintro e w1 ⟨rfl,C⟩;obtain ⟨c0,c1,c2,E,c4⟩:=HS w1 C;go_wp2_with fail;refine (HSm w1 (RU Z.out C)).mono ?_;rintro e w2 ⟨z,rfl,hbx⟩;have H:=RU C hbx;clear c0 c1 c2 E c4;cases z
 ·go_wp2_with fail;refine (jT w2).mono ?_;rintro e w9 ⟨rfl,Q⟩;have hF:=RU Z.out (RU H Q);go_wp2_with fail;go_ret;exact ⟨rfl,hF⟩
 obtain ⟨c0,c1,c2,E,c4⟩:=HS w2 H;go_wp2_with fail;refine (HCn w2 (RU Z.out H)).mono ?_;rintro e w3 ⟨rfl,hb3⟩;have O:=RU H hb3;clear c0 c1 c2 E c4 HCn;by_cases h0:q9 P M mod N L=0
 ·have e1:(q9 P M mod N L == 0)=true:=by simpa using h0
  clear h0;generalize q9 P M mod N L=er at *;go_wp2_with fail;refine (jT w3).mono ?_;rintro e w9 ⟨rfl,Q⟩;have hF:=RU Z.out (RU O Q);go_wp2_with fail;go_ret;exact ⟨rfl,hF⟩
 have e1:(q9 P M mod N L == 0)=false:=by simpa using h0
 obtain ⟨hE,G,-⟩:=KO h0;clear h0;generalize q9 P M mod N L=er at *;obtain ⟨c0,c1,c2,E,c4⟩:=HS w3 O;by_cases I:n=0
 ·have e2:((n:Int) == 0)=true:=by simp [I]
  have e3:(n == 0)=true:=by simp [I]
  go_wp2_with fail;refine (jT w3).mono ?_;rintro e w9 ⟨rfl,Q⟩;have hF:=RU Z.out (RU O Q);go_wp2_with fail;go_ret;exact ⟨rfl,hF⟩
 have e2:((n:Int) == 0)=false:=by simpa using I
 have e3:(n == 0)=false:=by simpa using I
 obtain ⟨m,rfl,hm1,hm64,_⟩:=aT hE;have F:Hid (i5 P M mod m L=0->(ga P M mod m L).2.2=0/\0<=nT P M mod m L/\nT P M mod m L<=m/\∀r:Int,1<=r->nT P M mod m L<=r->r<=m->tn m n r=0/\((bY (ga P M mod m L).2.1:Nat):Int)<=oW m n r):=λh=>by
  have hf:m * (ah P M.toNat mod).q ^ L.length<=65536:=Np (O0 hm64 G) (by decide);have hk:1<=L.length:=by rw [A.out];omega
  obtain ⟨l1,l2⟩:=Ge (P:=P) (M:=M) (mod:=mod) (m:=m) (L:=L);refine ⟨(vP hE hk h hf (r:=m) (by omega) l2 (Pu _)).1,l1,l2,λr h1 h2 h3=>?_⟩;have h4:=(vP hE hk h hf h1 h2 h3).2;rw [A.out] at h4;exact h4
 generalize i5 P M mod m L=ae at *;generalize nT P M mod m L=v at *;obtain ⟨dd,hdd⟩:∃dd:Int,((bY (ga P M mod m L).2.1:Nat):Int)=dd:=⟨_,rfl⟩
 rw [hdd] at HDi F;generalize (ga P M mod m L).2.2=de at *;clear hE G hdd;go_wp2_with fail;refine (HLo w3 (RU Z.out O)).mono ?_;rintro e w4 ⟨rfl,hb4⟩;have K:=RU O hb4;clear c0 c1 c2 E c4 e1 e2;by_cases ha:ae=0;rotate_left
 ·have e1:(ae != 0)=true:=by simpa using ha
  have hF:=RU Z.out K;clear ha;go_wp2_with fail;go_ret;exact ⟨rfl,hF⟩
 obtain ⟨rfl,hv0,hvm,D⟩:=F ha;subst ha;have HL2:=Z5 (Ng D (Ng hv0 hvm));clear D;obtain ⟨c0,c1,c2,E,c4⟩:=HS w4 K;go_wp2_with fail;refine (HDi w4 (RU Z.out K)).mono ?_;rintro e w5 ⟨rfl,hb5⟩;have hB5:=RU K hb5;have hF:=RU Z.out hB5;clear c0 c1 c2 E c4;obtain ⟨c0,c1,c2,E,c4⟩:=HS w5 hB5;obtain ⟨r,hr,hr1,hr2,hr3⟩:∃r:Int,max v 1=r/\1<=r/\v<=r/\r<=m:=⟨_,rfl,by omega,by omega,by omega⟩
 obtain ⟨hb1,B⟩:=HL2.1 r hr1 hr2 hr3;have HBd:Hid (∀V,Calls prog 22 #[cG m,cG n,cG r] V λe w'=>e = ec #[cG (oW m n r),cG 0]/\w'=V):=λV=>by have h:=qK m n r V;rw [hb1] at h;exact h
 have d1:decide (dd<=oW m n r)=true:=by simpa using B
 generalize oW m n r=bv at *;have Hr:=Z5 hr;clear hb1 B hr hr1 hr2 hr3 hv0 hvm;go_wp2_with fail;rw [Hr.out];refine (HBd w5).mono ?_;rintro e w6 ⟨rfl,rfl⟩;go_wp2_with fail;go_ret;exact ⟨rfl,hF⟩
end Go.Proofs.YthglbncgemdcbaaGreat
