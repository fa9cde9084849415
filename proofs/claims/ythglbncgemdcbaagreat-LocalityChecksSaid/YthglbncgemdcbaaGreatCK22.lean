import Derived.Test.YthglbncgemdcbaaGreatCK20
import Derived.Test.YthglbncgemdcbaaGreatCK19
namespace Go.Proofs.YthglbncgemdcbaaGreat
set_option linter.all false
set_option maxRecDepth 100000
set_option maxHeartbeats 8000000
open Go.RowKit Go.Proofs.Tryz
theorem su (n : Int) (w : World) : Calls prog 64 #[.int .i64 n] w λe w'=>e = .returned (.bool (decide (1<=n) && decide (n<=64)))/\w'=w:=by
 go_enter func64,ntmps64;by_cases h1 : 1<=n
 ·have d1 : decide (1<=n)=true:=Kc h1;have H1:=Z5 h1;clear h1;go_wp2_with fail;go_ret;exact ⟨by first | (simp;done) | (simp;intro _;exact H1.out),rfl⟩
 ·have d1 : decide (1<=n)=false:=Kb h1;have H1:=Z5 h1;clear h1;go_wp2_with fail;go_ret;exact ⟨by first | (simp;done) | (simp;intro h;exact absurd h H1.out),rfl⟩
def uD (n k r : Int) : Int:=if n<1\/64<n\/k<1\/n<k\/r<1\/n<r then 6 else 0
def uV (n k r : Int) : Int:=if n<1\/64<n\/k<1\/n<k\/r<1\/n<r then 0 else n - k - (k+r - 1).tdiv r+2
theorem FH {n k r : Int} (h : n<1\/64<n\/k<1\/n<k\/r<1\/n<r) : uD n k r=6/\uV n k r=0:=by unfold uD uV;rw [JT h,JT h];exact ⟨rfl,rfl⟩
theorem IL {n k r : Int} (h : ¬ (n<1\/64<n\/k<1\/n<k\/r<1\/n<r)) : uD n k r=0/\uV n k r=n - k - (k+r - 1).tdiv r+2:=by unfold uD uV;rw [JR h,JR h];exact ⟨rfl,rfl⟩
theorem wg (n k r : Int) (w : World) : Calls prog 22 #[.int .i64 n,.int .i64 k,.int .i64 r] w λe w'=>e = .returned (.tuple #[.int .i64 (uV n k r),.int .i64 (uD n k r)])/\w'=w:=by
 have Y : Hid ((n<1\/64<n\/k<1\/n<k\/r<1\/n<r)->uD n k r=6/\uV n k r=0):=FH;have G : Hid (¬ (n<1\/64<n\/k<1\/n<k\/r<1\/n<r)->uD n k r=0/\uV n k r=n - k - (k+r - 1).tdiv r+2):=IL;obtain ⟨E,H⟩ : ∃E,uD n k r=E:=⟨_,rfl⟩
 obtain ⟨V,F⟩ : ∃V,uV n k r=V:=⟨_,rfl⟩
 rw [H,F] at Y G ⊢;clear H F;go_enter func22,ntmps22;by_cases h1 : n<1
 ·have d1 : decide (n<1)=true:=Kc h1;have Z:=Z5 (Y.out (.inl h1));clear h1;go_wp2_with fail;go_ret2;exact ⟨by rw [Z.out.1,Z.out.2] <;> rfl,rfl⟩
 have d1 : decide (n<1)=false:=Kb h1;by_cases h2 : 64<n
 ·have d2 : decide (64<n)=true:=Kc h2;have Z:=Z5 (Y.out (.inr (.inl h2)));clear h1 h2;go_wp2_with fail;go_ret2;exact ⟨by rw [Z.out.1,Z.out.2] <;> rfl,rfl⟩
 have d2 : decide (64<n)=false:=Kb h2;by_cases h3 : k<1
 ·have d3 : decide (k<1)=true:=Kc h3;have Z:=Z5 (Y.out (.inr (.inr (.inl h3))));clear h1 h2 h3;go_wp2_with fail;go_ret2;exact ⟨by rw [Z.out.1,Z.out.2] <;> rfl,rfl⟩
 have d3 : decide (k<1)=false:=Kb h3;by_cases X : n<k
 ·have d4 : decide (n<k)=true:=Kc X;have Z:=Z5 (Y.out (.inr (.inr (.inr (.inl X)))));clear h1 h2 h3 X;go_wp2_with fail;go_ret2;exact ⟨by rw [Z.out.1,Z.out.2] <;> rfl,rfl⟩
 have d4 : decide (n<k)=false:=Kb X;by_cases U : r<1
 ·have d5 : decide (r<1)=true:=Kc U;have Z:=Z5 (Y.out (.inr (.inr (.inr (.inr (.inl U))))));clear h1 h2 h3 X U;go_wp2_with fail;go_ret2;exact ⟨by rw [Z.out.1,Z.out.2] <;> rfl,rfl⟩
 have d5 : decide (r<1)=false:=Kb U;by_cases S : n<r
 ·have d6 : decide (n<r)=true:=Kc S;have Z:=Z5 (Y.out (.inr (.inr (.inr (.inr (.inr S))))));clear h1 h2 h3 X U S;go_wp2_with fail;go_ret2;exact ⟨by rw [Z.out.1,Z.out.2] <;> rfl,rfl⟩
 have d6 : decide (n<r)=false:=Kb S;have Z:=Z5 (G.out (by omega));have I : 0<=(k+r - 1).tdiv r:=Int.tdiv_nonneg (by omega) (by omega);have K : (k+r - 1).tdiv r<=k+r - 1:=Int.tdiv_le_self _ (by omega);obtain ⟨q,D⟩ : ∃q,(k+r - 1).tdiv r=q:=⟨_,rfl⟩
 rw [D] at I K Z;have B : IntKind.i64.wrap (n - k)=n - k:=J3 _ (by omega);have k2 : IntKind.i64.wrap (k+r)=k+r:=J3 _ (by omega);have A : IntKind.i64.wrap (k+r - 1)=k+r - 1:=J3 _ (by omega);have z : IntKind.i64.wrap q=q:=J3 _ (by omega);have k5 : IntKind.i64.wrap (n - k - q)=n - k - q:=J3 _ (by omega);have j : IntKind.i64.wrap (n - k - q+2)=n - k - q+2:=J3 _ (by omega);have N : r ≠ 0:=by omega
 have C : (r == 0)=false:=by simpa using N
 go_wp2_with fail;go_ret2;exact ⟨by rw [Z.out.1,Z.out.2] <;> rfl,rfl⟩
def jq (P M : Int) (mod : LI) (N : Int) (L : Ll) (i : Int) : Int:=if aJ P M mod N L=0 then (if i<0\/N<=i then 6 else 0) else aJ P M mod N L
theorem kN (P M : Int) (am : OA) (S cm : Nat) (mod : LI) (N : Int) (a : OA) (n c : Nat) (L : Ll) (i : Int) (w : World) (Z : Ints w am S mod) (hi : bu w a n L) :
  Calls prog 47 #[.agg #[.int .i64 P,.int .i64 M,.slice am S cm,.int .i64 N,.slice a n c],.int .i64 i] w λe w'=>e = .returned (.int .i64 (jq P M mod N L i))/\OC w w':=by
 have H : Hid (∀V,OC w V->Calls prog 88 #[.agg #[.int .i64 P,.int .i64 M,.slice am S cm,.int .i64 N,.slice a n c]] V λe w'=>e = .returned (.int .i64 (aJ P M mod N L))/\OC V w'):=λV B=>df P M am S cm mod N a n c L V (Z.af B) (hi.af B);have G : Hid (jq P M mod N L i=if aJ P M mod N L=0 then (if i<0\/N<=i then 6 else 0) else aJ P M mod N L):=rfl;obtain ⟨E,D⟩ : ∃E,jq P M mod N L i=E:=⟨_,rfl⟩
 obtain ⟨ce,Y⟩ : ∃ce,aJ P M mod N L=ce:=⟨_,rfl⟩
 rw [D,Y] at G;rw [Y] at H;rw [D];clear D Y Z hi;go_enter func47,ntmps47;go_upto_region 1 with fail;obtain ⟨W,F⟩ : ∃W : World,W=w.alloc (.cells #[.int .i64 P,.int .i64 M,.slice am S cm,.int .i64 N,.slice a n c] 27):=⟨_,rfl⟩
 rw [<- F];have K : OC w W:=by rw [F];exact an _ _
 have X : aO W w.heap.size [.int .i64 P,.int .i64 M,.slice am S cm,.int .i64 N,.slice a n c]:=by rw [F];exact NY _ _ _ rfl
 have z:=Z5 X;have c0:=X.cell 0 rfl;have c1:=X.cell 1 rfl;have c2:=X.cell 2 rfl;have C:=X.cell 3 rfl;have A:=X.cell 4 rfl;clear F X;go_wp2_with fail;refine (H.out W K).mono ?_;rintro e j ⟨rfl,I⟩;have hF:=NX K I;clear c0 c1 c2 C A;have C:=(z.out.af I).cell 3 rfl;by_cases h0 : ce=0;rotate_left
 ·have d0 : (ce != 0)=true:=by simpa using h0
  have U : Hid (E=ce):=by show _=_;rw [G.out,JR h0]
  clear h0;go_wp2_with fail;go_ret;exact ⟨aK U.out.symm,hF⟩
 have d0 : (ce != 0)=false:=by simpa using h0
 by_cases h1 : i<0
 ·have d1 : decide (i<0)=true:=Kc h1;have U : Hid (E=6):=by show _=_;rw [G.out,JT h0,JT (.inl h1)]
  clear h0 h1;go_wp2_with fail;go_ret;exact ⟨aK U.out.symm,hF⟩
 have d1 : decide (i<0)=false:=Kb h1;by_cases h2 : N<=i
 ·have d2 : decide (N<=i)=true:=Kc h2;have U : Hid (E=6):=by show _=_;rw [G.out,JT h0,JT (.inr h2)]
  clear h0 h1 h2;go_wp2_with fail;go_ret;exact ⟨aK U.out.symm,hF⟩
 ·have d2 : decide (N<=i)=false:=Kb h2;have U : Hid (E=0):=by show _=_;rw [G.out,JT h0,JR (by omega)]
  clear h0 h1 h2;go_wp2_with fail;go_ret;exact ⟨aK U.out.symm,hF⟩
theorem uU (P M : Int) (am : OA) (X cm : Nat) (mod : LI) (m : Nat) (a : OA) (k c : Nat) (L : Ll) (w : World) (H : aJ P M mod m L=0) (Z : Ints w am X mod) (hi : bu w a k L)
  (Y : oa (ah P M.toNat mod).q k ≠ 0) :
  Calls prog 158 #[.agg #[.int .i64 P,.int .i64 M,.slice am X cm,.int .i64 m,.slice a k c]] w λe w'=>e = .returned (.tuple #[.slice none 0 0,.int .i64 (oa (ah P M.toNat mod).q k)])/\OC w w':=by
 have K : Hid (∀V,OC w V->Calls prog 210 #[.agg #[.int .i64 P,.int .i64 M,.slice am X cm,.int .i64 m,.slice a k c]] V λe w'=>e = .returned (.tuple #[.int .i64 (wL (ah P M.toNat mod).q k),.int .i64 (oa (ah P M.toNat mod).q k)])/\OC V w') :=
  λV G=>xa P M am X cm mod m a k c L V H (Z.af G) (hi.af G)
 generalize wL (ah P M.toNat mod).q k=v at *;generalize oa (ah P M.toNat mod).q k=f at *;have d0 : (f != 0)=true:=by simpa using Y
 clear Y Z hi H;go_enter func158,ntmps158;go_upto_region 1 with fail;obtain ⟨W,N⟩ : ∃W : World,W=w.alloc (.cells #[.int .i64 P,.int .i64 M,.slice am X cm,.int .i64 m,.slice a k c] 27):=⟨_,rfl⟩
 rw [<- N];have S : OC w W:=by rw [N];exact an _ _
 have U : aO W w.heap.size [.int .i64 P,.int .i64 M,.slice am X cm,.int .i64 m,.slice a k c]:=by rw [N];exact NY _ _ _ rfl
 have c0:=U.cell 0 rfl;have c1:=U.cell 1 rfl;have c2:=U.cell 2 rfl;have E:=U.cell 3 rfl;have F:=U.cell 4 rfl;clear N U;go_wp2_with fail;refine (K.out W S).mono ?_;rintro e D ⟨rfl,I⟩;have hF:=NX S I;clear c0 c1 c2 E F;go_wp2_with fail;go_ret2;exact ⟨rfl,hF⟩
def vR (P M : Int) (mod : LI) (m : Nat) (L : Ll) : Int:=oa (ah P M.toNat mod).q (aQ (ah P M.toNat mod) L m).length
def kA (P M : Int) (mod : LI) (m : Nat) (L : Ll) (w : World) (e : Ending) (w' : World) : Prop :=
 OC w w'/\((vR P M mod m L ≠ 0/\e = .returned (.tuple #[.slice none 0 0,.int .i64 (vR P M mod m L)])) \/
  (vR P M mod m L=0/\∃a k c,e = .returned (.tuple #[.slice a k c,.int .i64 0])/\bu w' a k (tS P M mod m L)))
theorem z8 (P M : Int) (am : OA) (Y cm : Nat) (mod : LI) (m : Nat) (a : OA) (n c : Nat) (L : Ll) (w : World) (K : aJ P M mod m L=0) (Z : Ints w am Y mod) (hi : bu w a n (aQ (ah P M.toNat mod) L m)) :
  Calls prog 158 #[.agg #[.int .i64 P,.int .i64 M,.slice am Y cm,.int .i64 m,.slice a n c]] w (kA P M mod m L w):=by
 have V:=(jz K).1;have X:=hi.len;by_cases h : vR P M mod m L=0
 ·have S : ((ah P M.toNat mod).q : Int) ^ (aQ (ah P M.toNat mod) L m).length<=65536:=by
   unfold vR oa at h;split at h
   ·assumption
   ·cases h
  have h2 : (ah P M.toNat mod).q ^ n<=65536:=by
   rw [<- X];have e : ((ah P M.toNat mod).q : Int) ^ (aQ (ah P M.toNat mod) L m).length=(((ah P M.toNat mod).q ^ (aQ (ah P M.toNat mod) L m).length : Nat) : Int):=by simp
   rw [e] at S;omega
  refine (CD P M am Y cm mod m a n c _ w _ V Z hi rfl h2).mono ?_;rintro e w' ⟨N,co,rfl,U,hb⟩;exact ⟨hb,.inr ⟨h,N,_,co,rfl,U⟩⟩
 ·have h2 : oa (ah P M.toNat mod).q n ≠ 0:=by rw [<- X];exact h
  refine (uU P M am Y cm mod m a n c _ w V Z hi h2).mono ?_;rintro e w' ⟨rfl,hb⟩;refine ⟨hb,.inl ⟨h,?_⟩⟩;unfold vR;rw [X]
theorem rY (P M : Int) (am : OA) (X cm : Nat) (mod : LI) (m : Nat) (a : OA) (n c : Nat) (L : Ll) (w : World) (Z : Ints w am X mod) (hi : bu w a n L) (hE : aJ P M mod m L=0) :
  Calls prog 101 #[.agg #[.int .i64 P,.int .i64 M,.slice am X cm,.int .i64 m,.slice a n c]] w (kA P M mod m L w):=by
 have hmn : X<=8:=by have:=jd (aN hE).1;rw [<- Z.len];exact this
 have HD : Hid (∀V,OC w V->Calls prog 80 #[.agg #[.int .i64 P,.int .i64 M,.slice am X cm,.int .i64 m,.slice a n c]] V (jE P M mod m L V)):=λV hV=>qL P M am X cm mod m a n c L V (Z.af hV) (hi.af hV) hE (by omega);have F : Hid (∀V a1 n1 c1 a2 n2 c2,Ints V a1 n1 mod->bu V a2 n2 (aQ (ah P M.toNat mod) L m)->Calls prog 158 #[.agg #[.int .i64 P,.int .i64 M,.slice a1 n1 c1,.int .i64 m,.slice a2 n2 c2]] V (kA P M mod m L V)) :=
  λV a1 n1 c1 a2 n2 c2 h1 h2=>z8 P M a1 n1 c1 mod m a2 n2 c2 L V hE h1 h2
 unfold jE at HD;unfold kA at F ⊢;generalize aQ (ah P M.toNat mod) L m=D at *;generalize vR P M mod m L=f at *;generalize tS P M mod m L=S at *;obtain ⟨G,z⟩ : ∃G,mod.length=G:=⟨_,rfl⟩
 obtain ⟨nd,hnd⟩ : ∃nd,D.length=nd:=⟨_,rfl⟩
 rw [z,hnd] at HD;clear Z hi hE hmn z hnd;go_enter func101,ntmps101;go_upto_region 1 with fail;obtain ⟨W,hW⟩ : ∃W : World,W=w.alloc (.cells #[.int .i64 P,.int .i64 M,.slice am X cm,.int .i64 m,.slice a n c] 27):=⟨_,rfl⟩
 rw [<- hW];have H : OC w W:=by rw [hW];exact an _ _
 have I : aO W w.heap.size [.int .i64 P,.int .i64 M,.slice am X cm,.int .i64 m,.slice a n c]:=by rw [hW];exact NY _ _ _ rfl
 have c0:=I.cell 0 rfl;have c1:=I.cell 1 rfl;have c2:=I.cell 2 rfl;have c3:=I.cell 3 rfl;have C:=I.cell 4 rfl;have j:=Z5 H;clear hW I H;go_wp2_with fail;refine (HD.out W j.out).mono ?_;rintro e w1 ⟨a1,k1,a2,k2,rfl,hI1,B,hb1⟩;obtain ⟨U,E⟩ : ∃U : World,U=w1.alloc (.cells #[.int .i64 P,.int .i64 M,.slice a1 G k1,.int .i64 m,.slice a2 nd k2] 27):=⟨_,rfl⟩
 have Y : OC w1 U:=by rw [E];exact an _ _
 have K : aO U w1.heap.size [.int .i64 P,.int .i64 M,.slice a1 G k1,.int .i64 m,.slice a2 nd k2]:=by rw [E];exact NY _ _ _ rfl
 have hF:=NX j.out (NX hb1 Y);have HC:=Z5 (F.out U a1 G k1 a2 nd k2 (hI1.ints.af Y) (B.je.af Y));clear c0 c1 c2 c3 C hI1 B;have c0:=K.cell 0 rfl;have c1:=K.cell 1 rfl;have c2:=K.cell 2 rfl;have c3:=K.cell 3 rfl;have C:=K.cell 4 rfl;rw [E] at c0 c1 c2 c3 C;have HU:=Z5 E;clear E K;go_wp2_with fail;rw [<- HU.out];refine HC.out.mono ?_;rintro e w2 ⟨A,⟨h1,rfl⟩ | ⟨h1,a3,k3,c3',rfl,hM⟩⟩
 ·have N:=NX hF A;clear c0 c1 c2 c3 C;go_wp2_with fail;go_ret2;exact ⟨N,.inl ⟨h1,rfl⟩⟩
 ·have N:=NX hF A;have HM:=Z5 hM;clear c0 c1 c2 c3 C hM;go_wp2_with fail;go_ret2;exact ⟨N,.inr ⟨h1,a3,k3,c3',rfl,HM.out⟩⟩
def qN (P M : Int) (mod : LI) (m : Nat) (L : Ll) (i : Int) : Int:=if vR P M mod m L=0 then (if gv P M mod m L i=[] then 11 else 0) else vR P M mod m L
def ie (P M : Int) (mod : LI) (m : Nat) (L : Ll) (i : Int) : LI:=eO (gv P M mod m L i) m i
def nR (P M : Int) (mod : LI) (m : Nat) (L : Ll) (i : Int) : LI:=(ie P M mod m L i).map λj=>(ah P M.toNat mod).neg (nth (gv P M mod m L i) j.toNat)
def na (Z : Int) (S C : LI) (w : World) (e : Ending) (w' : World) : Prop :=
 OC w w'/\((Z ≠ 0/\e = .returned (.tuple #[.slice none 0 0,.slice none 0 0,.int .i64 Z])) \/
  (Z=0/\∃a c a2 c2,e = .returned (.tuple #[.slice a S.length c,.slice a2 S.length c2,.int .i64 0])/\Ints w' a S.length S/\Ints w' a2 S.length C))
theorem o7 (P M : Int) (am : OA) (mn cm : Nat) (mod : LI) (m i : Nat) (a : OA) (n c : Nat) (L : Ll) (w : World) (I : Ints w am mn mod) (hi : bu w a n L) (hE : aJ P M mod m L=0) (him : i<m) :
  Calls prog 48 #[.agg #[.int .i64 P,.int .i64 M,.slice am mn cm,.int .i64 m,.slice a n c],.int .i64 i] w (na (qN P M mod m L i) (ie P M mod m L i) (nR P M mod m L i) w):=by
 have N : m<=64:=by obtain ⟨N',e,hm1,N,F,hR⟩:=aY hE;omega
 have HD : Hid (∀V,OC w V->Calls prog 101 #[.agg #[.int .i64 P,.int .i64 M,.slice am mn cm,.int .i64 m,.slice a n c]] V (kA P M mod m L V)):=λV D=>rY P M am mn cm mod m a n c L V (I.af D) (hi.af D) hE;have HNw : Hid (∀V,OC w V->Calls prog 52 #[.agg #[.int .i64 P,.int .i64 M,.slice am mn cm]] V λe w'=>∃b,e = .returned (.tuple #[.pointer (some ⟨b,0,none⟩),.int .i64 0])/\ee w' b (ah P M.toNat mod)/\OC V w'):=λV D=>by
  refine (dB P M am mn cm mod V (I.af D)).mono ?_;rintro e w' (⟨h1,_⟩ | ⟨_,b,h2,h3,_,h4⟩)
  ·rw [(aN hE).1] at h1;cases h1
  ·exact ⟨b,h2,h3.gf,h4⟩
 have HH : Hid (∀V aW nW cW,bu V aW nW (tS P M mod m L)->Calls prog 102 #[.slice aW nW cW,.int .i64 i] V λe w'=>OC V w'/\∃ar nr cr,e = .returned (.slice ar nr cr)/\rQ w' ar nr (gv P M mod m L i)):=λV aW nW cW hW=>by
  have h:=nN aW nW cW (tS P M mod m L) m i V hW (λr hr=>((vu hE).1 hr).1.1) him N;have e : gv P M mod m L (i : Nat)=bstL m (i : Nat) (tS P M mod m L) nW:=by rw [gv,hW.len]
  rw [e];exact h
 have A:=vp hE (i : Int);have HEl : Hid (gv P M mod m L i ≠ []->(ah P M.toNat mod).DU (gv P M mod m L i)/\(gv P M mod m L i).length=m):=λhne=>by
  rcases A with ⟨h,_⟩ | ⟨h,_,_⟩
  ·exact absurd h hne
  ·obtain ⟨h1,_⟩:=(vu hE).1 h;exact ⟨h1.2,h1.1⟩
 have H : Hid (qN P M mod m L i=if vR P M mod m L=0 then (if gv P M mod m L i=[] then 11 else 0) else vR P M mod m L):=rfl;obtain ⟨x,hx⟩ : ∃x,gv P M mod m L i=x:=⟨_,rfl⟩
 have HC : Hid (nR P M mod m L i=(ie P M mod m L i).map λj=>(ah P M.toNat mod).neg (nth x j.toNat)):=by rw [<- hx];rfl
 have HS : Hid (ie P M mod m L i=eO x m i):=by rw [<- hx];rfl
 rw [hx] at HH HEl H;unfold kA at HD;generalize qN P M mod m L i=er at *;generalize nR P M mod m L i=C at *;generalize ie P M mod m L i=S at *;generalize vR P M mod m L=f at *;generalize tS P M mod m L=Dw at *;generalize ah P M.toNat mod=G at *;clear I hi hE hx A;go_enter func48,ntmps48;go_upto_region 1 with fail;obtain ⟨W,hW⟩ : ∃W : World,W=w.alloc (.cells #[.int .i64 P,.int .i64 M,.slice am mn cm,.int .i64 m,.slice a n c] 27):=⟨_,rfl⟩
 rw [<- hW];have hbW : OC w W:=by rw [hW];exact an _ _
 have x0 : aO W w.heap.size [.int .i64 P,.int .i64 M,.slice am mn cm,.int .i64 m,.slice a n c]:=by rw [hW];exact NY _ _ _ rfl
 have HX:=Z5 x0;have HbW:=Z5 hbW;have c0:=x0.cell 0 rfl;have c1:=x0.cell 1 rfl;have c2:=x0.cell 2 rfl;have c3:=x0.cell 3 rfl;have c4:=x0.cell 4 rfl;clear hW x0 hbW;go_wp2_with fail;refine (HD.out W HbW.out).mono ?_;rintro e w1 ⟨hb1,⟨h1,rfl⟩ | ⟨h1,aW,nW,cW,rfl,hM⟩⟩
 ·have hF:=NX HbW.out hb1;have d0 : (f != 0)=true:=by simpa using h1
  have HR : Hid (er=f):=by show _=_;rw [H.out,JR h1]
  have H1:=Z5 h1;clear c0 c1 c2 c3 c4 h1;go_wp2_with fail;go_ret3;exact ⟨hF,.inl ⟨by rw [HR.out];exact H1.out,by rw [HR.out] <;> rfl⟩⟩
 have HM:=Z5 hM;have hF1:=NX HbW.out hb1;have H1:=Z5 h1;clear c0 c1 c2 c3 c4 hM h1;have y1:=HX.out.af hb1;have c0:=y1.cell 0 rfl;have c1:=y1.cell 1 rfl;have c2:=y1.cell 2 rfl;clear y1;go_wp2_with fail;refine (HNw.out w1 hF1).mono ?_;rintro e w2 ⟨b,rfl,hG2,hb2⟩;have hF2:=NX hF1 hb2;have HG:=Z5 hG2;have HH2:=Z5 (HH.out w2 aW nW cW (HM.out.af hb2));clear c0 c1 c2 hG2;go_wp2_with fail;refine HH2.out.mono ?_;rintro e w3 ⟨hb3,ax,nx,cx,rfl,Z⟩;have hF3:=NX hF2 hb3;have heq:=λ(w : World) (a : OA) (l c : Nat)=>Go.run_eql_slice_nil (P:=prog) w 22 3 a l c underlying22;by_cases h0 : x=[]
 ·have hin : ax.isNone=true:=by rw [Z.2];exact Kc h0
  have HR : Hid (er=11):=by show _=_;rw [H.out,JT H1.out,JT h0]
  clear h0 Z;go_wp2_with fail;go_ret3;exact ⟨hF3,.inl ⟨by rw [HR.out];decide,by rw [HR.out] <;> rfl⟩⟩
 have hin : ax.isNone=false:=by rw [Z.2];exact Kb h0
 have HR : Hid (er=0):=by show _=_;rw [H.out,JT H1.out,JR h0]
 obtain ⟨hxe,hxl⟩:=HEl.out h0;have hnx : nx=m:=by rw [<- Z.1.len];exact hxl
 subst hnx;have HX3:=Z5 Z.1;have HSu:=Z5 (gB ax nx cx x i w3 Z.1 (by omega));rw [<- HS.out] at HSu;have Hxe:=Z5 hxe;have Hxl:=Z5 hxl;have HSb : Hid (∀j,j<S.length->0<=nth S j/\nth S j<nx):=λj hj=>by have h:=aI hj;rw [HS.out] at h;exact Bu (by rw [HS.out];exact h)
 clear h0 Z hxe hxl;go_wp2_with fail;refine HSu.out.mono ?_;rintro e w4 ⟨a4,k4,rfl,Y,hb4⟩;have hF4:=NX hF3 hb4;have HI4:=Z5 (NZ Y).1;have hpl4:=(NZ Y).1.pl;obtain ⟨q,hq⟩ : ∃q,S.length=q:=⟨_,rfl⟩
 have hq64 : q<=64:=by rw [<- hq,HS.out];exact J4 (jh _ _ _) N
 rw [hq] at HI4 hpl4 HSb ⊢;have Hq:=Z5 hq;have HG4 : Hid (∀V,OC w4 V->ee V b G/\Ints V ax nx x/\Ints V a4 q S):=λV D=>⟨HG.out.af (NX hb3 (NX hb4 D)),HX3.out.af (NX hb4 D),HI4.out.af D⟩
 have hplx:=HX3.out.pl;clear Y hq;go_wp2_with fail;go_loopw [12,42] (λcv iv wr=>∃(k : Nat) (a5 : OA) (c5 : Nat),k<=q/\iv = .int .i64 k/\cv = .slice a5 k c5/\wr.ownsRow w4.heap.size 3 1 (.slice a5 k c5) k (((S.take k).map λj=>G.neg (nth x j.toNat)).map (Value.int .i64))/\OC w4 wr) (λ_ iv _=>q - (intOf iv).toNat);case atStart=>exact ⟨0,none,0,JU _,rfl,rfl,cF,JP _ _⟩
 case round =>
  obtain ⟨k,a5,c5,hk,rfl,rfl,X,K⟩:=hrel
  generalize wr=V at *
  by_cases E : k<q
  ·obtain ⟨hG,hIx,hIs⟩:=HG4.out V K
   have ck:=hIs.cell k E
   obtain ⟨hs0,hs1⟩:=HSb.out k E
   have Htk : Hid (S.take (k+1)=S.take k ++ [nth S k]):=by show _=_;rw [JW (by rw [Hq.out];exact E),aj (by rw [Hq.out];exact E)]
   obtain ⟨j,hj⟩ : ∃j : Nat,nth S k=j:=⟨(nth S k).toNat,by omega⟩
   rw [hj] at ck hs1 Htk
   have hjn : j<nx:=by omega
   have cx:=hIx.cell j hjn
   have hye:=Hxe.out.nth (i:=j) (by rw [Hxl.out];exact hjn)
   have HNg:=Z5 (FT (nth x j) hG hye)
   have Hown:=Z5 X
   obtain ⟨y,hy⟩ : ∃y,nth x j=y:=⟨_,rfl⟩
   rw [hy] at cx HNg
   obtain ⟨z,hz⟩ : ∃z,G.neg y=z:=⟨_,rfl⟩
   rw [hz] at HNg
   have Hz : Hid (G.neg (nth x j)=z):=by rw [hy];exact hz
   clear hG hIx hIs hs0 hj hye X hy hz
   have hsz:=K.size
   go_wp2_with fail
   refine HNg.out.mono ?_
   rintro e w6 ⟨m6,rfl,rfl⟩
   have U:=bp Hown.out (N6 ⟨m6,rfl⟩)
   have B:=NX K (N6 ⟨m6,rfl⟩)
   have hcn:=bf (V.drewN m6) (.int .i64 z) 3
   go_wp2_with (at_builtin;refine aS rfl _ _ 22 3 rfl (.int .i64 0) 8 underlying22 aV rfl w4.heap.size a5 k c5 _ rfl (U.alloc _) ⟨(V.drewN m6).heap.size,0,none⟩ 1 (.int .i64 z) rfl hcn rfl (by omega) (by unfold maxLen;omega) (by simp;omega) ?_;intro a7 c7 w7 hown7 hgr7 hap7)
   go_roundw
   case rel=>exact ⟨k+1,a7,c7,by omega,by go_num,rfl,by rw [Htk.out,Ko,Ko];simpa [Hz.out] using hown7,N0 (N1 B _) (U.alloc _) hgr7 (JO _) (N1 B _).size⟩
   case measure=>simp [intOf] <;> omega
  ·obtain rfl : k=q:=by omega
   have hIC : Ints V a5 k C:=by have h:=(NZ X).1;rw [<- Hq.out,MO] at h;rw [HC.out];rw [Hq.out] at h;exact h
   have HP : Hid (na er S C w (.returned (.tuple #[.slice a4 k k4,.slice a5 k c5,.int .i64 0])) V):=⟨NX hF4 K,.inr ⟨HR.out,a4,k4,a5,c5,by rw [Hq.out],by rw [Hq.out];exact HI4.out.af K,by rw [Hq.out];exact hIC⟩⟩
   clear X hIC
   go_wp2_with fail
   go_ret3
   exact HP.out
def CK (P M : Int) (mod : LI) (N : Int) (L : Ll) (i : Int) : Int:=if jq P M mod N L i=0 then qN P M mod N.toNat L i else jq P M mod N L i
theorem sf (P M : Int) (am : OA) (X cm : Nat) (mod : LI) (N : Int) (a : OA) (n c : Nat) (L : Ll) (i : Int) (w : World) (Z : Ints w am X mod) (hi : bu w a n L) :
  Calls prog 15 #[.agg #[.int .i64 P,.int .i64 M,.slice am X cm,.int .i64 N,.slice a n c],.int .i64 i] w (na (CK P M mod N L i) (ie P M mod N.toNat L i) (nR P M mod N.toNat L i) w):=by
 have HP : Hid (∀V,OC w V->Calls prog 47 #[.agg #[.int .i64 P,.int .i64 M,.slice am X cm,.int .i64 N,.slice a n c],.int .i64 i] V λe w'=>e = .returned (.int .i64 (jq P M mod N L i))/\OC V w'):=λV F=>kN P M am X cm mod N a n c L i V (Z.af F) (hi.af F);have HH : Hid (jq P M mod N L i=0->∀V,OC w V->Calls prog 48 #[.agg #[.int .i64 P,.int .i64 M,.slice am X cm,.int .i64 N,.slice a n c],.int .i64 i] V (na (qN P M mod N.toNat L i) (ie P M mod N.toNat L i) (nR P M mod N.toNat L i) V)):=λh V F=>by
  unfold jq at h;split at h
  ·rename_i hE;split at h
   ·cases h
   ·obtain ⟨m,rfl,_⟩:=aY hE;obtain ⟨j,rfl⟩ : ∃j : Nat,i=j:=⟨i.toNat,by omega⟩
    rw [JQ];exact o7 P M am X cm mod m j a n c L V (Z.af F) (hi.af F) hE (by omega)
  ·rename_i hE;exact absurd h hE
 have HE : Hid (CK P M mod N L i=if jq P M mod N L i=0 then qN P M mod N.toNat L i else jq P M mod N L i):=rfl;generalize CK P M mod N L i=er at *;generalize jq P M mod N L i=pe at *;generalize qN P M mod N.toNat L i=he at *;generalize ie P M mod N.toNat L i=S at *;generalize nR P M mod N.toNat L i=C at *;clear Z hi;go_enter func15,ntmps15;go_upto_region 1 with fail;obtain ⟨W,hW⟩ : ∃W : World,W=w.alloc (.cells #[.int .i64 P,.int .i64 M,.slice am X cm,.int .i64 N,.slice a n c] 27):=⟨_,rfl⟩
 rw [<- hW];have G : OC w W:=by rw [hW];exact an _ _
 have K : aO W w.heap.size [.int .i64 P,.int .i64 M,.slice am X cm,.int .i64 N,.slice a n c]:=by rw [hW];exact NY _ _ _ rfl
 have HX:=Z5 K;have z:=Z5 G;have c0:=K.cell 0 rfl;have c1:=K.cell 1 rfl;have c2:=K.cell 2 rfl;have c3:=K.cell 3 rfl;have c4:=K.cell 4 rfl;clear hW K G;go_wp2_with fail;refine (HP.out W z.out).mono ?_;rintro e w1 ⟨rfl,B⟩;have Y:=NX z.out B;clear c0 c1 c2 c3 c4;by_cases h0 : pe=0;rotate_left
 ·have d0 : (pe != 0)=true:=by simpa using h0
  have H : Hid (er=pe):=by show _=_;rw [HE.out,JR h0]
  have H0:=Z5 h0;clear h0 HH;go_wp2_with fail;go_ret3;exact ⟨Y,.inl ⟨by rw [H.out];exact H0.out,by rw [H.out] <;> rfl⟩⟩
 have d0 : (pe != 0)=false:=by simpa using h0
 have H : Hid (er=he):=by show _=_;rw [HE.out,JT h0]
 have HC:=Z5 (HH.out h0 w1 Y);have I:=HX.out.af B;have c0:=I.cell 0 rfl;have c1:=I.cell 1 rfl;have c2:=I.cell 2 rfl;have c3:=I.cell 3 rfl;have c4:=I.cell 4 rfl;clear I h0 HH;go_wp2_with fail;refine HC.out.mono ?_;rintro e w2 ⟨E,⟨h1,rfl⟩ | ⟨h1,a2,k2,a3,k3,rfl,D,A⟩⟩
 ·have U:=NX Y E;have H1:=Z5 h1;clear c0 c1 c2 c3 c4 h1;go_wp2_with fail;go_ret3;exact ⟨U,.inl ⟨by rw [H.out];exact H1.out,by rw [H.out] <;> rfl⟩⟩
 ·have U:=NX Y E;have H1:=Z5 (JZ h1 (JZ D A));clear c0 c1 c2 c3 c4 h1 D A;go_wp2_with fail;go_ret3;exact ⟨U,.inr ⟨by rw [H.out];exact H1.out.1,a2,k2,a3,k3,rfl,H1.out.2.1,H1.out.2.2⟩⟩
def dK (P M : Int) (mod : LI) (m : Nat) (L : Ll) : Ll:=(List.range m).map λi=>gv P M mod m L (i : Nat)
def jt (P M : Int) (mod : LI) (N : Int) (L : Ll) : Int :=
 if aJ P M mod N L=0 then (if vR P M mod N.toNat L=0 then (if [] ∈ dK P M mod N.toNat L then 11 else 0) else vR P M mod N.toNat L) else aJ P M mod N L
def ud (Z : Int) (A : Ll) (w : World) (e : Ending) (w' : World) : Prop :=
 OC w w'/\((Z ≠ 0/\e = .returned (.tuple #[.slice none 0 0,.int .i64 Z])) \/
  (Z=0/\∃a c,e = .returned (.tuple #[.slice a A.length c,.int .i64 0])/\bu w' a A.length A/\(0<A.length->w.heap.size<=ablk a)))
theorem mU {P M : Int} {mod : LI} {m : Nat} {L : Ll} {k : Nat} (Z : k<m) : ai (dK P M mod m L) k=gv P M mod m L (k : Nat):=by rw [dK,aE (by simpa using Z)];simp
theorem qO {P M : Int} {mod : LI} {m : Nat} {L : Ll} {i : Int} (Z : aJ P M mod m L=0) (h : gv P M mod m L i ≠ []) : (gv P M mod m L i).length=m:=by
 rcases vp Z i with ⟨h1,_⟩ | ⟨h1,_,_⟩
 ·exact absurd h1 h
 ·exact ((vu Z).1 h1).1.1
theorem tT (P M : Int) (am : OA) (mn cm : Nat) (mod : LI) (N : Int) (a : OA) (n c : Nat) (L : Ll) (w : World) (K : Ints w am mn mod) (hi : bu w a n L) :
  Calls prog 60 #[.agg #[.int .i64 P,.int .i64 M,.slice am mn cm,.int .i64 N,.slice a n c]] w (ud (jt P M mod N L) (dK P M mod N.toNat L) w):=by
 have HK : Hid (∀V,OC w V->Calls prog 88 #[.agg #[.int .i64 P,.int .i64 M,.slice am mn cm,.int .i64 N,.slice a n c]] V λe w'=>e = .returned (.int .i64 (aJ P M mod N L))/\OC V w'):=λV hV=>df P M am mn cm mod N a n c L V (K.af hV) (hi.af hV);have HD : Hid (aJ P M mod N L=0->∀V,OC w V->Calls prog 101 #[.agg #[.int .i64 P,.int .i64 M,.slice am mn cm,.int .i64 N,.slice a n c]] V (kA P M mod N.toNat L V)):=λE V hV=>by obtain ⟨m,rfl,_⟩:=aY E;rw [JQ];exact rY P M am mn cm mod m a n c L V (K.af hV) (hi.af hV) E
 have HN : Hid (aJ P M mod N L=0->∃m : Nat,N=m/\m<=64):=λE=>by obtain ⟨m,e,_,Y,_⟩:=aY E;exact ⟨m,e,Y⟩
 have HH : Hid (aJ P M mod N L=0->∀(k : Nat) (V : World) (aW : OA) (nW cW : Nat),k<N.toNat->bu V aW nW (tS P M mod N.toNat L)->Calls prog 102 #[.slice aW nW cW,.int .i64 k] V λe w'=>OC V w'/\∃ar nr cr,e = .returned (.slice ar nr cr)/\rQ w' ar nr (ai (dK P M mod N.toNat L) k)):=λE k V aW nW cW hk hW=>by
  obtain ⟨m,rfl,_,Y,_⟩:=aY E;rw [JQ] at hk hW ⊢;rw [mU hk];have h:=nN aW nW cW (tS P M mod m L) m k V hW (λr hr=>((vu E).1 hr).1.1) hk Y;have e : gv P M mod m L (k : Nat)=bstL m (k : Nat) (tS P M mod m L) nW:=by rw [gv,hW.len]
  rw [e];exact h
 have HA : Hid (aJ P M mod N L=0->∀k,k<N.toNat->ai (dK P M mod N.toNat L) k ≠ []->(ai (dK P M mod N.toNat L) k).length=N.toNat):=λE k hk h=>by obtain ⟨m,rfl,_⟩:=aY E;rw [JQ] at hk h ⊢;rw [mU hk] at h ⊢;exact qO E h
 have Z : Hid ((dK P M mod N.toNat L).length=N.toNat):=by show _=_;rw [dK,J5,KU]
 have HE : Hid (jt P M mod N L=if aJ P M mod N L=0 then (if vR P M mod N.toNat L=0 then (if [] ∈ dK P M mod N.toNat L then 11 else 0) else vR P M mod N.toNat L) else aJ P M mod N L):=rfl;unfold kA at HD;generalize jt P M mod N L=er at *;generalize dK P M mod N.toNat L=A at *;generalize aJ P M mod N L=ce at *;generalize vR P M mod N.toNat L=de at *;generalize tS P M mod N.toNat L=Dw at *;clear K hi;go_enter func60,ntmps60;go_upto_region 1 with fail;obtain ⟨W,hW⟩ : ∃W : World,W=w.alloc (.cells #[.int .i64 P,.int .i64 M,.slice am mn cm,.int .i64 N,.slice a n c] 27):=⟨_,rfl⟩
 rw [<- hW];have hbW : OC w W:=by rw [hW];exact an _ _
 have x0 : aO W w.heap.size [.int .i64 P,.int .i64 M,.slice am mn cm,.int .i64 N,.slice a n c]:=by rw [hW];exact NY _ _ _ rfl
 have HX:=Z5 x0;have HbW:=Z5 hbW;have c0:=x0.cell 0 rfl;have c1:=x0.cell 1 rfl;have c2:=x0.cell 2 rfl;have c3:=x0.cell 3 rfl;have c4:=x0.cell 4 rfl;clear hW x0 hbW;go_wp2_with fail;refine (HK.out W HbW.out).mono ?_;rintro e w1 ⟨rfl,hb1⟩;have C:=NX HbW.out hb1;clear c0 c1 c2 c3 c4;by_cases h0 : ce=0;rotate_left
 ·have d0 : (ce != 0)=true:=by simpa using h0
  have HR : Hid (er=ce):=by show _=_;rw [HE.out,JR h0]
  have H0:=Z5 h0;clear h0 HD HH HA HN;go_wp2_with fail;go_ret2;exact ⟨C,.inl ⟨by rw [HR.out];exact H0.out,by rw [HR.out] <;> rfl⟩⟩
 have d0 : (ce != 0)=false:=by simp [h0]
 have HR0 : Hid (er=if de=0 then (if [] ∈ A then 11 else 0) else de):=by show _=_;rw [HE.out,JT h0]
 have HD1:=Z5 (HD.out h0);have HH1:=Z5 (HH.out h0);have HA1:=Z5 (HA.out h0);obtain ⟨m,rfl,Y⟩:=HN.out h0;rw [JQ] at HH1 HA1 Z;have y1:=HX.out.af hb1;have c0:=y1.cell 0 rfl;have c1:=y1.cell 1 rfl;have c2:=y1.cell 2 rfl;have c3:=y1.cell 3 rfl;have c4:=y1.cell 4 rfl;clear y1 h0 HD HH HA HN HE HK;go_wp2_with fail;refine (HD1.out w1 C).mono ?_;rintro e w2 ⟨hb2,⟨h1,rfl⟩ | ⟨h1,aW,nW,cW,rfl,hM⟩⟩
 ·have G:=NX C hb2;have d1 : (de != 0)=true:=by simpa using h1
  have HR : Hid (er=de):=by show _=_;rw [HR0.out,JR h1]
  have H1:=Z5 h1;clear c0 c1 c2 c3 c4 h1;go_wp2_with fail;go_ret2;exact ⟨G,.inl ⟨by rw [HR.out];exact H1.out,by rw [HR.out] <;> rfl⟩⟩
 have G:=NX C hb2;have HR : Hid (er=if [] ∈ A then 11 else 0):=by show _=_;rw [HR0.out,JT h1]
 have HM:=Z5 hM;have x2:=(HX.out.af hb1).af hb2;clear c0 c1 c2 c3 c4 h1 hM;have c3:=x2.cell 3 rfl;have heq:=λ(w : World) (a : OA) (l c : Nat)=>Go.run_eql_slice_nil (P:=prog) w 22 3 a l c underlying22;clear x2;go_wp2_with fail;go_loopw [7,25] (λsv iv wr=>∃(k : Nat) (a1 : OA) (c1 : Nat),k<=m/\iv = .int .i64 k/\sv = .slice a1 k c1/\(∃R,aT wr w2.heap.size a1 k c1 R (A.take k))/\OC w2 wr/\Hid (∀j,j<k->ai A j ≠ [])) (λ_ iv _=>m - (intOf iv).toNat);case atStart=>exact ⟨0,none,0,JU _,rfl,rfl,⟨[],by simpa using Oe w2 w2.heap.size⟩,JP _ _,λj hj=>by omega⟩
 case round =>
  obtain ⟨k,a1,c1,hk,rfl,rfl,⟨R,hO⟩,S,hne⟩:=hrel
  generalize wr=V at *
  by_cases hlt : k<m
  ·have Hh:=Z5 (HH1.out k V aW nW cW hlt (HM.out.af S))
   have U : k<A.length:=by rw [Z.out];exact hlt
   have Hmem : Hid (ai A k ∈ A):=by show _ ∈ _;rw [aE U];exact Kp U
   have HxL:=Z5 (HA1.out k hlt)
   have Htk : Hid (A.take (k+1)=A.take k ++ [ai A k]):=by show _=_;rw [JW U,aE U]
   have Hne1 : Hid (ai A k ≠ []->∀j,j<k+1->ai A j ≠ []):=λh j hj=>by
    by_cases e : j=k
    ·subst e;exact h
    ·exact hne.out j (by omega)
   obtain ⟨x,hx⟩ : ∃x,ai A k=x:=⟨_,rfl⟩
   rw [hx] at Hh Hmem HxL Htk Hne1
   have hsz:=S.size
   have hF3:=NX G S
   clear hx U hne
   go_wp2_with fail
   refine Hh.out.mono ?_
   rintro e w3 ⟨D,ar,nr,cr,rfl,X⟩
   have hF4:=NX hF3 D
   by_cases h0 : x=[]
   ·have hin : ar.isNone=true:=by rw [X.2];exact Kc h0
    have B : Hid (er=11):=by show _=_;rw [HR.out,JT (by rw [<- h0];exact Hmem.out)]
    clear h0 X hO
    go_wp2_with fail
    go_ret2
    exact ⟨hF4,.inl ⟨by rw [B.out];decide,by rw [B.out] <;> rfl⟩⟩
   have hin : ar.isNone=false:=by rw [X.2];exact Kb h0
   have hnx : nr=m:=by rw [<- X.1.len];exact HxL.out h0
   have hxq1 : Ints w3 ar m x:=by rw [<- hnx];exact X.1
   have Hcl:=Z5 (dx ar m cr x (w:=w3) hxq1 (by omega))
   have Hn2:=Z5 (Hne1.out h0)
   have hO3:=hO.af D
   clear h0 X hxq1 hO
   go_wp2_with fail
   refine Hcl.out.mono ?_
   rintro e w4 ⟨a3,I,rfl,H,hb4⟩
   have hbn:=an w4 (.cells #[.slice a3 x.length I] 22)
   have hO4:=hO3.af (NX hb4 hbn)
   have hb34:=NX D hb4
   have hs4 : w2.heap.size<=(w4.alloc (.cells #[.slice a3 x.length I] 22)).heap.size:=by have h1:=hb34.size;simp;omega
   have F:=Z5 H
   clear H Hcl Hh
   go_wp2_with (at_builtin;refine aS rfl _ _ 25 22 rfl (.slice none 0 0) 24 underlying25 dO rfl w2.heap.size a1 k c1 _ rfl hO4.own ⟨w4.heap.size,0,none⟩ 1 (.slice a3 x.length I) rfl (bf w4 _ _) rfl (by omega) (by unfold maxLen;omega) hs4 ?_;intro a5 c5 w5 hown5 z hap5)
   go_roundw
   case rel =>
    have hown4 : (w4.alloc (.cells #[.slice a3 x.length I] 22)).ownsRow w2.heap.size 3 1 (.slice a3 x.length I) x.length (x.map (Value.int .i64)) :=
     bd (bp F.out (an _ _)) (J4 hsz D.size)
    have hra : a3 ≠ none->¬ bX a1 R (ablk a3):=λh0 hI=>by have h1:=(ba F.out h0).1;have h2:=(hO3.lt _ hI).2;omega
    have hP:=Ob hO4 hown4 hra hown5 z hap5
    have hb5 : OC w2 w5:=N0 (NX S (NX hb34 hbn)) hO4.own z (JO _) hs4
    exact ⟨k+1,a5,c5,by omega,by go_num,rfl,⟨_,by rw [Htk.out];exact hP⟩,hb5,Hn2.out⟩
   case measure=>simp [intOf] <;> omega
  ·obtain rfl : k=m:=by omega
   rw [JX (by rw [Z.out];exact JO _)] at hO
   have B : Hid (er=0):=by show _=_;rw [HR.out,JR];intro h;obtain ⟨j,hj,hj2⟩:=ga h;exact hne.out j (by rw [<- Z.out];exact hj) hj2
   have hF:=NX G S
   have HO:=Z5 hO.je
   have HO2 : Hid (0<k->w.heap.size<=ablk a1):=λh0=>J4 G.size (dT hO.own h0).1
   clear hO
   go_wp2_with fail
   go_ret2
   exact ⟨hF,.inr ⟨B.out,a1,c1,by rw [Z.out] <;> rfl,by rw [Z.out];exact HO.out,by rw [Z.out];exact HO2.out⟩⟩
def mxS (A : Ll) (m : Nat) : Nat->Int
 | 0=>0
 | k+1=>max (mxS A m k) ((eO (ai A k) m k).length : Int)
def GI (P M : Int) (mod : LI) (N : Int) (L : Ll) : Int:=if jt P M mod N L=0 then mxS (dK P M mod N.toNat L) N.toNat N.toNat else 0
theorem q9 (P M : Int) (am : OA) (D cm : Nat) (mod : LI) (N : Int) (a : OA) (n c : Nat) (L : Ll) (w : World) (Y : Ints w am D mod) (hi : bu w a n L) :
  Calls prog 20 #[.agg #[.int .i64 P,.int .i64 M,.slice am D cm,.int .i64 N,.slice a n c]] w λe w'=>e = .returned (.tuple #[.int .i64 (GI P M mod N L),.int .i64 (jt P M mod N L)])/\OC w w':=by
 have HK : Hid (∀V,OC w V->Calls prog 60 #[.agg #[.int .i64 P,.int .i64 M,.slice am D cm,.int .i64 N,.slice a n c]] V (ud (jt P M mod N L) (dK P M mod N.toNat L) V)):=λV hV=>tT P M am D cm mod N a n c L V (Y.af hV) (hi.af hV);have HV : Hid (GI P M mod N L=if jt P M mod N L=0 then mxS (dK P M mod N.toNat L) N.toNat N.toNat else 0):=rfl;have HL : Hid (jt P M mod N L=0->∃m : Nat,N=m/\m<=64/\(dK P M mod N.toNat L).length=m/\∀k,k<m->(ai (dK P M mod N.toNat L) k).length=m):=λh=>by
  have j : aJ P M mod N L=0:=by
   unfold jt at h;split at h
   ·assumption
   ·rename_i j;exact absurd h j
  obtain ⟨m,rfl,_,U,_⟩:=aY j;rw [jt,JT j,JQ] at h;rw [JQ];have hl : (dK P M mod m L).length=m:=by rw [dK,J5,KU]
  refine ⟨m,rfl,U,hl,λk hk=>?_⟩;have X : ai (dK P M mod m L) k ∈ dK P M mod m L:=by rw [aE (by rw [hl];exact hk)];exact Kp _
  split at h
  ·split at h
   ·cases h
   ·rename_i h2;rw [mU hk] at X ⊢;exact qO j λe=>h2 (by rw [<- e];exact X)
  ·rename_i h1;exact absurd h h1
 generalize GI P M mod N L=v at *;generalize jt P M mod N L=er at *;generalize dK P M mod N.toNat L=A at *;clear Y hi;go_enter func20,ntmps20;go_upto_region 1 with fail;obtain ⟨W,hW⟩ : ∃W : World,W=w.alloc (.cells #[.int .i64 P,.int .i64 M,.slice am D cm,.int .i64 N,.slice a n c] 27):=⟨_,rfl⟩
 rw [<- hW];have B : OC w W:=by rw [hW];exact an _ _
 have C : aO W w.heap.size [.int .i64 P,.int .i64 M,.slice am D cm,.int .i64 N,.slice a n c]:=by rw [hW];exact NY _ _ _ rfl
 have E:=Z5 B;have c0:=C.cell 0 rfl;have c1:=C.cell 1 rfl;have c2:=C.cell 2 rfl;have c3:=C.cell 3 rfl;have c4:=C.cell 4 rfl;clear hW C B;go_wp2_with fail;refine (HK.out W E.out).mono ?_;rintro e w1 ⟨hb1,⟨h1,rfl⟩ | ⟨h1,aA,cA,rfl,hM,_⟩⟩
 ·have F:=NX E.out hb1;have d1 : (er != 0)=true:=by simpa using h1
  have HR : Hid (v=0):=by show _=_;rw [HV.out,JR h1]
  clear c0 c1 c2 c3 c4 h1 HL;go_wp2_with fail;go_ret2;exact ⟨by rw [HR.out] <;> rfl,F⟩
 have F:=NX E.out hb1;have HR : Hid (v=mxS A N.toNat N.toNat):=by show _=_;rw [HV.out,JT h1]
 have H1 : Hid (er=0):=h1;obtain ⟨m,rfl,U,I,hAk⟩:=HL.out h1;rw [JQ] at HR;rw [I] at hM;have HM:=Z5 hM;have HAk:=Z5 hAk;have hplA:=hM.pl;rw [I];clear c0 c1 c2 c3 c4 h1 hM hAk HL HV HK I;go_wp2_with fail;go_loopw [6,19] (λsv iv wr=>∃k : Nat,k<=m/\iv = .int .i64 k/\sv = .int .i64 (mxS A m k)/\OC w1 wr) (λ_ iv _=>m - (intOf iv).toNat);case atStart=>exact ⟨0,JU _,rfl,rfl,JP _ _⟩
 case round =>
  obtain ⟨k,hk,rfl,rfl,K⟩:=hrel
  generalize wr=V at *
  by_cases z : k<m
  ·obtain ⟨ra,G,rc,hcell,Z⟩:=(HM.out.af K).cell k z
   have hrn : G=m:=by rw [<- Z.len];exact HAk.out k z
   subst hrn
   have HS:=Z5 (gB ra G rc (ai A k) k V Z (by omega))
   have Hm : Hid (mxS A G (k+1)=max (mxS A G k) ((eO (ai A k) G k).length : Int)):=rfl
   generalize eO (ai A k) G k=S at *
   generalize mxS A G k=y at *
   clear Z
   go_wp2_with fail
   refine HS.out.mono ?_
   rintro e w4 ⟨a4,k4,rfl,H,hb4⟩
   have hb5:=NX K hb4
   clear H
   go_wp2_with fail
   go_roundw
   case rel=>exact ⟨k+1,by omega,by go_num,by rw [Hm.out] <;> exact congrArg _ (by split <;> omega),hb5⟩
   case measure=>simp [intOf] <;> omega
  ·obtain rfl : k=m:=by omega
   have hF:=NX F K
   go_wp2_with fail
   go_ret2
   exact ⟨by rw [HR.out,H1.out] <;> rfl,hF⟩
theorem qt {P M : Int} {mod : LI} {m : Nat} {L : Ll} (U : aJ P M mod m L=0) (i : Nat) :
  dy P M mod m [bM m (i : Int)]=0/\aJ P M mod m (bU (ah P M.toNat mod) [bM m (i : Int)] m)=0 /\
  bH (ah P M.toNat mod).ops m (L ++ bU (ah P M.toNat mod) [bM m (i : Int)] m)=bH (ah P M.toNat mod).ops m (L ++ [bM m (i : Int)]) /\
  aJ P M mod m (bH (ah P M.toNat mod).ops m (L ++ [bM m (i : Int)]))=0:=by
 obtain ⟨N,e,Y,Z,F,S⟩:=aY U;obtain rfl : m=N:=by omega
 have X : bs (ah P M.toNat mod).El m [bM m (i : Int)]:=λr K=>by rw [List.mem_singleton.1 K];exact kD F m i
 have V:=(aN U).1;have I:=jL U;exact ⟨jI V (by omega) (by simp) X,tn V X Y Z (by simp),GY F S X,tn V (lp S X) Y Z (by simp;omega)⟩
theorem rE (P M : Int) (am : OA) (B cm : Nat) (mod : LI) (m : Nat) (a : OA) (n c : Nat) (L : Ll) (i : Nat) (w : World) (K : Ints w am B mod) (hi : bu w a n L) (hE : aJ P M mod m L=0) (him : i<m) :
  Calls prog 74 #[.agg #[.int .i64 P,.int .i64 M,.slice am B cm,.int .i64 m,.slice a n c],.int .i64 i] w λe w' =>
   ∃a1 c1 a2 c2,e = .returned (.tuple #[.agg #[.int .i64 P,.int .i64 M,.slice a1 mod.length c1,.int .i64 m,.slice a2 (cJ P M mod m L i).length c2],.int .i64 0])/\Ints w' a1 mod.length mod/\bu w' a2 (cJ P M mod m L i).length (cJ P M mod m L i)/\OC w w':=by
 obtain ⟨f1,f2,f3,f4⟩:=qt hE i;have hm64:=(aN hE).2.2.1;have hm1:=(aN hE).2.1;have hmn : B<=8:=by have:=jd (aN hE).1;rw [<- K.len];exact this
 have hml : mod.length<=8:=jd (aN hE).1;have H : Hid (∀V a1 c1,OC w V->bu V a1 1 [bM m (i : Int)]->Calls prog 68 #[.agg #[.int .i64 P,.int .i64 M,.slice am B cm],.agg #[.int .i64 m,.slice a1 1 c1]] V λe w'=>∃a1 c1 a2 c2,e = .returned (.tuple #[.agg #[.int .i64 P,.int .i64 M,.slice a1 mod.length c1,.int .i64 m,.slice a2 (bU (ah P M.toNat mod) [bM m (i : Int)] m).length c2],.int .i64 0]) /\
   Ints w' a1 mod.length mod/\bu w' a2 (bU (ah P M.toNat mod) [bM m (i : Int)] m).length (bU (ah P M.toNat mod) [bM m (i : Int)] m)/\OC V w'):=λV a1 c1 hV h1=>by refine (po P M am B cm mod m a1 1 c1 _ V (K.af hV) h1 f1 (by omega) (by omega) (by omega)).mono ?_;rintro e w' ⟨a2,c2,a3,S,rfl,h2,h3,h4⟩;exact ⟨a2,c2,a3,S,rfl,h2.ints,h3.je,h4⟩
 have I : Hid (∀V a2 c2 a3 S,OC w V->Ints V a2 mod.length mod->bu V a3 (bU (ah P M.toNat mod) [bM m (i : Int)] m).length (bU (ah P M.toNat mod) [bM m (i : Int)] m) ->
   Calls prog 126 #[.agg #[.int .i64 P,.int .i64 M,.slice am B cm,.int .i64 m,.slice a n c],.agg #[.int .i64 P,.int .i64 M,.slice a2 mod.length c2,.int .i64 m,.slice a3 (bU (ah P M.toNat mod) [bM m (i : Int)] m).length S]] V λe w' =>
   ∃a1 c1 a2 c2,e = .returned (.tuple #[.agg #[.int .i64 P,.int .i64 M,.slice a1 mod.length c1,.int .i64 m,.slice a2 (bH (ah P M.toNat mod).ops m (L ++ [bM m (i : Int)])).length c2],.int .i64 0]) /\
   Ints w' a1 mod.length mod/\bu w' a2 (bH (ah P M.toNat mod).ops m (L ++ [bM m (i : Int)])).length (bH (ah P M.toNat mod).ops m (L ++ [bM m (i : Int)]))/\OC V w'):=λV a2 c2 a3 S hV h1 h2=>by have h:=yy P M am B cm mod m a n c L a2 mod.length c2 a3 _ S _ V (K.af hV) (hi.af hV) h1 h2 hE f2 (by omega);rw [f3] at h;refine h.mono ?_;rintro e w' ⟨a4,c4,a5,c5,rfl,h2,h3,h4⟩;exact ⟨a4,c4,a5,c5,rfl,h2.ints,h3.je,h4⟩
 have HDu : Hid (∀V a2 c2 a3 S,Ints V a2 mod.length mod->bu V a3 (bH (ah P M.toNat mod).ops m (L ++ [bM m (i : Int)])).length (bH (ah P M.toNat mod).ops m (L ++ [bM m (i : Int)])) ->
   Calls prog 80 #[.agg #[.int .i64 P,.int .i64 M,.slice a2 mod.length c2,.int .i64 m,.slice a3 (bH (ah P M.toNat mod).ops m (L ++ [bM m (i : Int)])).length S]] V λe w' =>
   ∃a1 c1 a2 c2,e = .returned (.tuple #[.agg #[.int .i64 P,.int .i64 M,.slice a1 mod.length c1,.int .i64 m,.slice a2 (cJ P M mod m L i).length c2],.int .i64 0]) /\
   bJ V.heap.size w' a1 mod.length mod/\b8 V.heap.size w' a2 (cJ P M mod m L i).length (cJ P M mod m L i)/\OC V w'):=λV a2 c2 a3 S h1 h2 =>
  qL P M a2 mod.length c2 mod m a3 _ S _ V h1 h2 f4 (by omega)
 have hux : (List.replicate m (0 : Int)).set i 1=bM m i:=by rw [bM,JQ]
 have Hux:=Z5 hux;obtain ⟨u,hu⟩ : ∃u,bM m (i : Int)=u:=⟨_,rfl⟩
 have Hul : Hid (u.length=m):=by show _=_;rw [<- hu,<- hux];simp
 rw [hu] at H Hux;clear f1 f2 f3 f4 K hi hE hux;rw [hu] at I HDu;generalize bU (ah P M.toNat mod) [u] m=U1 at *;generalize bH (ah P M.toNat mod).ops m (L ++ [u])=U2 at *;generalize cJ P M mod m L i=U3 at *;obtain ⟨Z,hnm⟩ : ∃Z,mod.length=Z:=⟨_,rfl⟩
 obtain ⟨q1,hq1⟩ : ∃q,U1.length=q:=⟨_,rfl⟩
 obtain ⟨q2,hq2⟩ : ∃q,U2.length=q:=⟨_,rfl⟩
 obtain ⟨q3,hq3⟩ : ∃q,U3.length=q:=⟨_,rfl⟩
 rw [hnm,hq1] at H I;rw [hq2] at I;rw [hnm,hq2,hq3] at HDu;rw [hnm,hq3];clear hu hnm hq1 hq2 hq3 hml;go_enter func74,ntmps74;go_upto_region 1 with fail;obtain ⟨W,hW⟩ : ∃W : World,W=(w.alloc (.cells #[.int .i64 P,.int .i64 M,.slice am B cm,.int .i64 m,.slice a n c] 27)).alloc (.cells #[.int .i64 0,.int .i64 0,.slice none 0 0,.int .i64 0,.slice none 0 0] 27):=⟨_,rfl⟩
 rw [<- hW];have hbW : OC w W:=by rw [hW];exact bT _ _ _
 have hsW : W.heap.size=w.heap.size+2:=by rw [hW];simp
 have x0 : aO W w.heap.size [.int .i64 P,.int .i64 M,.slice am B cm,.int .i64 m,.slice a n c]:=by rw [hW];exact (NY _ _ _ rfl).alloc _
 have z0 : aO W (w.heap.size+1) [.int .i64 0,.int .i64 0,.slice none 0 0,.int .i64 0,.slice none 0 0]:=by rw [hW];exact NY _ _ _ (by simp)
 clear hW;have HX : Hid (∀V,OC W V->V.cell? ⟨w.heap.size,0,none⟩=some (.int .i64 P)/\V.cell? ⟨w.heap.size,1,none⟩=some (.int .i64 M)/\V.cell? ⟨w.heap.size,2,none⟩=some (.slice am B cm)/\V.cell? ⟨w.heap.size,3,none⟩=some (.int .i64 m)/\V.cell? ⟨w.heap.size,4,none⟩=some (.slice a n c)):=λV hV=>by have x1:=x0.af hV;exact ⟨x1.cell 0 rfl,x1.cell 1 rfl,x1.cell 2 rfl,x1.cell 3 rfl,x1.cell 4 rfl⟩
 have HZ:=Z5 z0;have HbW:=Z5 hbW;have HsW:=Z5 hsW;clear x0 z0 hbW hsW;obtain ⟨c0,c1,c2,S,c4⟩:=HX.out W (JP _ _);have hm64' : m<=64:=by omega
 go_upto_region 2 with (at_make;refine ch rfl _ _ 22 3 rfl (.int .i64 0) 8 underlying22 aV rfl m rfl rfl (by omega) (by unfold maxLen;omega) ?_;intro a5 w5 N hbel hge hlt5)
 clear c0 c1 c2 S c4;rw [<- Lr] at N;obtain ⟨hints,U⟩:=NZ N;have hpl5:=hints.pl;have cz:=hints.cell i him;have fz:=(U (by omega)).2 i him;have hB:=(U (by omega)).1;have him1 : (i : Int)<m:=by omega
 have F:=bC N i him (.int .i64 1);rw [<- Kh,Hux.out] at F;have j : OC W (w5.setCell ⟨ablk a5,aL a5+i,none⟩ (.int .i64 1)):=hbel.setCell hB _;have HI5:=Z5 (NZ F).1;clear N hints U F hge hlt5;go_upto_region 3 with fail;obtain ⟨X,hX⟩ : ∃X,w5.setCell ⟨ablk a5,aL a5+i,none⟩ (.int .i64 1)=X:=⟨_,rfl⟩
 rw [hX] at j HI5 ⊢;clear cz fz hB hX hbel;obtain ⟨c0,c1,c2,S,c4⟩:=HX.out X j;obtain ⟨Y,hY⟩ : ∃Y : World,Y=X.alloc (.cells #[.slice a5 m m] 22):=⟨_,rfl⟩
 have A : OC X Y:=by rw [hY];exact an _ _
 have hM1 : bu Y (some ⟨X.heap.size,0,none⟩) 1 [u]:=by
  refine ⟨rfl,λ_=>rfl,by unfold maxLen;omega,λk hk=>?_⟩;obtain rfl : k=0:=by omega
  refine ⟨a5,m,m,?_,HI5.out.af A⟩;rw [hY];exact aF _ _ _ rfl 0
 have hF5:=NX HbW.out (NX j A);have HC:=Z5 (H.out Y (some ⟨X.heap.size,0,none⟩) 1 hF5 hM1);have HY:=Z5 (JZ hY A);clear hY A hM1;go_wp2_with fail;rw [<- HY.out.1];refine HC.out.mono ?_;rintro e w6 ⟨a6,c6,a7,c7,rfl,hI6,hM6,hb6⟩;have hb16:=NX (NX j HY.out.2) hb6;have D:=an w6 (.cells #[.int .i64 P,.int .i64 M,.slice a6 Z c6,.int .i64 m,.slice a7 q1 c7] 27);have HB6 : Hid (∀V,Below (w6.alloc (.cells #[.int .i64 P,.int .i64 M,.slice a6 Z c6,.int .i64 m,.slice a7 q1 c7] 27)).heap.size (w6.alloc (.cells #[.int .i64 P,.int .i64 M,.slice a6 Z c6,.int .i64 m,.slice a7 q1 c7] 27)) V->V.cell? ⟨w6.heap.size,0,none⟩=some (.int .i64 P)/\V.cell? ⟨w6.heap.size,1,none⟩=some (.int .i64 M)/\V.cell? ⟨w6.heap.size,2,none⟩=some (.slice a6 Z c6)/\V.cell? ⟨w6.heap.size,3,none⟩=some (.int .i64 m)/\V.cell? ⟨w6.heap.size,4,none⟩=some (.slice a7 q1 c7)):=λV hV=>by have y:=(NY w6 [.int .i64 P,.int .i64 M,.slice a6 Z c6,.int .i64 m,.slice a7 q1 c7] 27 rfl).af hV;exact ⟨y.cell 0 rfl,y.cell 1 rfl,y.cell 2 rfl,y.cell 3 rfl,y.cell 4 rfl⟩
 have hF6:=NX HbW.out (NX hb16 D);have HC2:=Z5 (I.out _ a6 c6 a7 c7 hF6 (hI6.af D) (hM6.af D));clear c0 c1 c2 S c4 HC hI6 hM6;go_upto_region 6 with fail;obtain ⟨V6,hV6⟩ : ∃V6,w6.alloc (.cells #[.int .i64 P,.int .i64 M,.slice a6 Z c6,.int .i64 m,.slice a7 q1 c7] 27)=V6:=⟨_,rfl⟩
 rw [hV6] at HB6 HC2 D hF6 ⊢;have hb17:=NX hb16 D;obtain ⟨c0,c1,c2,S,c4⟩:=HX.out V6 hb17;obtain ⟨d0,d1,d2,d3,d4⟩:=HB6.out V6 (JP _ _);clear hV6;go_wp2_with fail;refine HC2.out.mono ?_;rintro e w8 ⟨a8,c8,a9,c9,rfl,hI8,hM8,hb8⟩;have z:=an w8 (.cells #[.int .i64 P,.int .i64 M,.slice a8 Z c8,.int .i64 m,.slice a9 q2 c9] 27);have HC3:=Z5 (HDu.out _ a8 c8 a9 c9 (hI8.af z) (hM8.af z));have y8 : aO (w8.alloc (.cells #[.int .i64 P,.int .i64 M,.slice a8 Z c8,.int .i64 m,.slice a9 q2 c9] 27)) w8.heap.size [.int .i64 P,.int .i64 M,.slice a8 Z c8,.int .i64 m,.slice a9 q2 c9]:=NY _ _ _ rfl;clear c0 c1 c2 S c4 d0 d1 d2 d3 d4 HC2 hI8 hM8;go_upto_region 9 with fail;obtain ⟨V8,hV8⟩ : ∃V8,w8.alloc (.cells #[.int .i64 P,.int .i64 M,.slice a8 Z c8,.int .i64 m,.slice a9 q2 c9] 27)=V8:=⟨_,rfl⟩
 rw [hV8] at HC3 z y8 ⊢;have E:=NX hb17 (NX hb8 z);have d0:=y8.cell 0 rfl;have d1:=y8.cell 1 rfl;have d2:=y8.cell 2 rfl;have d3:=y8.cell 3 rfl;have d4:=y8.cell 4 rfl;clear hV8 y8;go_wp2_with fail;refine HC3.out.mono ?_;rintro e w9 ⟨aa,ca,ab,cb,rfl,hI9,hM9,hb9⟩;have C:=HZ.out.af (NX E hb9);have z0:=C.cell 0 rfl;have z1:=C.cell 1 rfl;have z2:=C.cell 2 rfl;have z3:=C.cell 3 rfl;have z4:=C.cell 4 rfl;have f0:=C.frozen 0;have f1:=C.frozen 1;have f2:=C.frozen 2;have f3:=C.frozen 3;have f4:=C.frozen 4;have hs:=HsW.out;have hs1:=E.size;have hbF:=NX HbW.out (NX E hb9);have G:=Z5 (JZ (((((hI9.setCell (p:=⟨w.heap.size+1,0,none⟩) (by simp;omega) (.int .i64 P)).setCell (p:=⟨w.heap.size+1,1,none⟩) (by simp;omega) (.int .i64 M)).setCell (p:=⟨w.heap.size+1,2,none⟩) (by simp;omega) (.slice aa Z ca)).setCell (p:=⟨w.heap.size+1,3,none⟩) (by simp;omega) (.int .i64 m)).setCell (p:=⟨w.heap.size+1,4,none⟩) (by simp;omega) (.slice ab q3 cb)).ints
  (JZ (((((hM9.setCell (p:=⟨w.heap.size+1,0,none⟩) (by simp;omega) (.int .i64 P)).setCell (p:=⟨w.heap.size+1,1,none⟩) (by simp;omega) (.int .i64 M)).setCell (p:=⟨w.heap.size+1,2,none⟩) (by simp;omega) (.slice aa Z ca)).setCell (p:=⟨w.heap.size+1,3,none⟩) (by simp;omega) (.int .i64 m)).setCell (p:=⟨w.heap.size+1,4,none⟩) (by simp;omega) (.slice ab q3 cb)).je
   (((((hbF.setCell (p:=⟨w.heap.size+1,0,none⟩) (by simp) (.int .i64 P)).setCell (p:=⟨w.heap.size+1,1,none⟩) (by simp) (.int .i64 M)).setCell (p:=⟨w.heap.size+1,2,none⟩) (by simp) (.slice aa Z ca)).setCell (p:=⟨w.heap.size+1,3,none⟩) (by simp) (.int .i64 m)).setCell (p:=⟨w.heap.size+1,4,none⟩) (by simp) (.slice ab q3 cb))))
 clear d0 d1 d2 d3 d4 C hI9 hM9;go_wp2_with fail;exact bodyPost_ret (v:=.tuple #[.agg #[.int .i64 P,.int .i64 M,.slice aa Z ca,.int .i64 m,.slice ab q3 cb],.int .i64 0]) (by simp [results,results74,go_sem,z0,z1,z2,z3,z4]) rfl ⟨aa,ca,ab,cb,rfl,G.out.1,G.out.2.1,G.out.2.2⟩
theorem vX (P M : Int) (am : OA) (U cm : Nat) (S : OA) (n I : Nat) (b : LI) (w : World) (hi : Ints w S n b) :
  Calls prog 271 #[.agg #[.int .i64 P,.int .i64 M,.slice am U cm],.slice S n I,.int .i64 n] w λe w'=>e = .returned (.int .i64 (gX (aH P M) b))/\OC w w':=by
 have K:=Z5 (λV (G : OC w V)=>kd P M am U cm S n I b V (hi.af G));have E : ((n : Int) != n)=false:=by simp
 go_enter func271,ntmps271;go_upto_region 1 with fail;obtain ⟨W,X⟩ : ∃W : World,W=w.alloc (.cells #[.int .i64 P,.int .i64 M,.slice am U cm] 24):=⟨_,rfl⟩
 rw [<- X];have Z : OC w W:=by rw [X];exact an _ _
 have Y : aO W w.heap.size [.int .i64 P,.int .i64 M,.slice am U cm]:=by rw [X];exact NY _ _ _ rfl
 have c0:=Y.cell 0 rfl;have c1:=Y.cell 1 rfl;have c2:=Y.cell 2 rfl;have H:=Z5 (K.out W Z);clear X Y K;go_wp2_with fail;refine H.out.mono ?_;rintro e F ⟨rfl,N⟩;have hF:=NX Z N;go_wp2_with fail;go_ret;exact ⟨rfl,hF⟩
theorem zy (P M : Int) (am : OA) (mn cm : Nat) (mod : LI) (k : Nat) (aA : OA) (t cA : Nat) (A : Ll) (ab : OA) (cb : Nat) (b : LI) (w : World) (hmod : Ints w am mn mod) (hi : bu w aA t A) (hb : Ints w ab t b) (hB : bq P M mod=true)
  (hR : bs (ah P M.toNat mod).El k A) (hbe : ∀x ∈ b,(ah P M.toNat mod).El x) (hpl : (aC (ah P M.toNat mod).ops (gW A b) k).2.length=t) (hk : k<=64) (ht : t<=64) :
  Calls prog 264 #[.agg #[.int .i64 P,.int .i64 M,.slice am mn cm],.agg #[.int .i64 k,.slice aA t cA],.slice ab t cb] w λe w' =>
   ∃a1 c1,e = .returned (.tuple #[.slice a1 k c1,.int .i64 0])/\Ints w' a1 k (vl (ah P M.toNat mod).ops A b k)/\OC w w':=by
 have HC:=Z5 (FC am mn cm k aA t cA hmod hi hB hR (by omega) (by omega));have hinv:=kT (P:=P) (M:=M) (mod:=mod) (by rw [bW];exact hB);have F:=dH hB;have hAl:=hi.len;have hbl:=hb.len;have G:=AS hR (by omega) hbe;have C : (gW A b).length=t:=by rw [iR (by omega),hAl]
 have HJn : Hid (∀i,i<t->(gW A b).take (i+1)=(gW A b).take i ++ [ai A i ++ [nth b i]]/\(ai A i).length=k):=λi hi'=>by rw [JW (by rw [C];exact hi'),<- aE (by rw [C];exact hi'),nQ (by omega) (by omega)];exact ⟨rfl,(hR.row (i:=i) (by omega)).1⟩
 unfold vl;have HVe : Hid (∀V,OC w V->Calls prog 271 #[.agg #[.int .i64 P,.int .i64 M,.slice am mn cm],.slice ab t cb,.int .i64 t] V λe w'=>e = .returned (.int .i64 0)/\OC V w'):=λV hV=>by
  have h:=vX P M am mn cm ab t cb b V (hb.af hV);have hq : ((ah P M.toNat mod).q : Int)=aH P M:=by obtain ⟨m1,e1,_,h1,_⟩:=fE hB;rw [show M.toNat=m1 by omega];exact h1
  have he : gX (aH P M) b=0:=by unfold gX;rw [JT];rw [<- hq];unfold ez;rw [Ky];intro x hx;have h2:=hbe x hx;simpa [gV,cX.El] using h2
  rw [he] at h;exact h
 obtain ⟨J,hJ⟩ : ∃J,gW A b=J:=⟨_,rfl⟩
 rw [hJ] at G C HJn hpl ⊢;obtain ⟨M',rfl,hel,_,hF,hA,_⟩:=fE hB;obtain ⟨M2,e2,hrf,hmods⟩:=dI (by rw [bW];exact hB);obtain rfl : M'=M2:=by omega
 rw [JQ] at G hinv hpl ⊢;have hEw0:=gO F (by rw [JQ];exact G) k (by omega);rw [JQ] at hEw0;have H:=(fJ F (by rw [JQ];exact G) k (by omega)).1;rw [JQ] at H;rw [<- hel] at G;have hag:=(gy hA hF.cl G k (by omega)).1;have HEl : Hid (∀V ab cb,OC w V->bu V ab t J->Calls prog 179 #[.agg #[.int .i64 P,.int .i64 M',.slice am mn cm],.slice ab t cb,.int .i64 k] V λe w' =>
   OC V w'/\∃a1 c1 ap cp,e = .returned (.tuple #[.slice a1 t c1,.slice ap t cp])/\bu w' a1 t (aC (ah P M' mod).ops J k).1/\Ints w' ap t (aC (ah P M' mod).ops J k).2):=λV ab cb hV hM=>by refine (oM P M' am mn cm mod ab t cb k (k+1) J V ⟨hrf,hmods V am mn (hmod.af hV)⟩ hM G (by omega) (by omega) (by omega) hinv).mono ?_;rintro e w' ⟨a4,c4,R4,ap,cp,rfl,hO,hP,hb'⟩;rw [<- hag] at hO hP ⊢;rw [C] at hO ⊢;rw [hpl] at hP ⊢;exact ⟨hb',a4,c4,ap,cp,rfl,hO.je,(NZ hP).1⟩
 obtain ⟨E,hE⟩ : ∃E,(aC (ah P M' mod).ops J k).1=E:=⟨_,rfl⟩
 obtain ⟨Pv,hPv⟩ : ∃Pv,(aC (ah P M' mod).ops J k).2=Pv:=⟨_,rfl⟩
 have hEl : E.length=t:=by rw [<- hE,bL];exact C
 rw [hE] at HEl hEw0 H ⊢;rw [hPv] at HEl hpl H ⊢;have HEw : Hid (∀j,j<t->(ai E j).length=k+1):=λj hj=>(hEw0.row (i:=j) (by omega)).1;have HPb : Hid (∀j,j<t->∃p : Nat,nth Pv j=p/\p<k):=λj hj=>by have h:=H.lt j (by omega);exact ⟨(nth Pv j).toNat,by omega,by omega⟩
 rw [hpl];have HJl:=Z5 C;have Hbl:=Z5 hbl;clear hB hR hinv hel hF hA e2 hrf hmods hag hE hPv hmod F G hJ C hAl hEw0 H hEl hpl hbe hbl;go_enter func264,ntmps264;go_wp2_with fail;obtain ⟨W,hW⟩ : ∃W : World,W=(w.alloc (.cells #[.int .i64 P,.int .i64 M',.slice am mn cm] 24)).alloc (.cells #[.int .i64 k,.slice aA t cA] 94):=⟨_,rfl⟩
 rw [<- hW];have hbW : OC w W:=by rw [hW];exact bT _ _ _
 have x0 : aO W w.heap.size [.int .i64 P,.int .i64 M',.slice am mn cm]:=by rw [hW];exact (NY _ _ _ rfl).alloc _
 have x1 : aO W (w.heap.size+1) [.int .i64 k,.slice aA t cA]:=by rw [hW];exact NY _ _ _ (by simp)
 have HS : Hid (∀V,OC W V->(V.cell? ⟨w.heap.size,0,none⟩=some (.int .i64 P)/\V.cell? ⟨w.heap.size,1,none⟩=some (.int .i64 M')/\V.cell? ⟨w.heap.size,2,none⟩=some (.slice am mn cm))/\V.cell? ⟨w.heap.size+1,0,none⟩=some (.int .i64 k)/\V.cell? ⟨w.heap.size+1,1,none⟩=some (.slice aA t cA)):=λV hV=>by have r0:=x0.af hV;have r1:=x1.af hV;exact ⟨⟨r0.cell 0 rfl,r0.cell 1 rfl,r0.cell 2 rfl⟩,r1.cell 0 rfl,r1.cell 1 rfl⟩
 have HbW:=Z5 hbW;clear hW x0 x1 hbW;refine (HC.out W HbW.out).mono ?_;rintro e w1 ⟨rfl,hb1⟩;obtain ⟨⟨f0,f1,f2⟩,m0,m1⟩:=HS.out w1 hb1;have Hve:=Z5 (HVe.out w1 (NX HbW.out hb1));clear HC HVe;go_wp2_with fail;refine Hve.out.mono ?_;rintro e X ⟨rfl,hb2⟩;have hbX:=NX hb1 hb2;have hbwX:=NX HbW.out hbX;have hpla:=hi.pl;have hplb:=hb.pl;have hiX:=hi.af hbwX;have hbXi:=hb.af hbwX;clear f0 f1 f2 m0 m1 Hve hb1 hb2 hi hb;go_wp2_with fail;go_loopw [9,10] (λov iv wr=>∃(i : Nat) (ac : OA) (cc : Nat),i<=t/\iv = .int .i64 i/\ov = .slice ac i cc/\(∃R,aT wr X.heap.size ac i cc R (J.take i))/\OC X wr) (λ_ iv _=>t - (intOf iv).toNat);case atStart=>exact ⟨0,none,0,JU _,rfl,rfl,⟨[],by simpa using Oe X X.heap.size⟩,JP _ _⟩
 case round =>
  obtain ⟨i,ac,cc,hik,rfl,rfl,⟨R,hO⟩,hbr⟩:=hrel
  by_cases I : i<t
  ·obtain ⟨ra,rn,rc,D,Y⟩:=hiX.cell i I
   have hcb:=hbXi.cell i I
   obtain ⟨hst,hrl⟩:=HJn.out i I
   have hrn : rn=k:=by rw [<- Y.len];exact hrl
   obtain rfl : k=rn:=hrn.symm
   obtain ⟨Di,hDi⟩ : ∃Di,ai A i=Di:=⟨_,rfl⟩
   obtain ⟨x,hx⟩ : ∃x,nth b i=x:=⟨_,rfl⟩
   rw [hDi] at Y hst hrl
   rw [hx] at hcb hst
   have hplr:=Y.pl
   have HS2 : Hid (∀V,OC X V->V.cell? ⟨w.heap.size+1,1,none⟩=some (.slice aA t cA)/\V.cell? ⟨ablk aA,aL aA+i,none⟩=some (.slice ra k rc)/\V.cell? ⟨ablk ab,aL ab+i,none⟩=some (.int .i64 x)/\Ints V ra k Di/\OC X V):=λV hV =>
    ⟨(HS.out V (NX hbX hV)).2.2,aB hV D,aB hV hcb,Y.af hV,hV⟩
   have Hst:=Z5 hst
   have Hdl:=Z5 hrl
   have HO:=Z5 (JZ hO hbr)
   have hsz:=hbr.size
   have Z:=Z5 hbr
   have N:=gg wr 3
   have hO2 : ((wr.alloc (.cells #[.int .i64 x] 3)).alloc (.cells #[] 3)).ownsRow wr.heap.size 3 1 (.slice (some ⟨wr.heap.size+1,0,none⟩) 0 0) 0 []:=by have h:=bd (gg (wr.alloc (.cells #[.int .i64 x] 3)) 3) (B':=wr.heap.size) (by simp);rwa [L6] at h
   clear D Y hst hrl hDi hO hrn hx hcb
   go_wp2_with fail
   go_region_held3 (λV=>V.cell? ⟨w.heap.size+1,1,none⟩=some (.slice aA t cA)/\V.cell? ⟨ablk aA,aL aA+i,none⟩=some (.slice ra k rc)/\V.cell? ⟨ablk ab,aL ab+i,none⟩=some (.int .i64 x)/\Ints V ra k Di/\OC X V)
    ((refine HS2.out _ ?_;first | exact hb7 | exact NX Z.out hb5 | exact NX Z.out hb4 | exact Z.out.drew | exact (NX Z.out (an _ _)).drew | exact NX Z.out (an _ _) | exact (NX Z.out (bT _ _ _)).drew | exact NX Z.out (bT _ _ _) | exact N1 (NX Z.out hb5) _ | exact N1 (NX Z.out hb4) _ | assumption | (go_split_ands;assumption) | (go_split_ands;exact N1 (by assumption) _)))
    (first
     | (obtain ⟨_,_,_,hIr,hB9⟩:=(by assumption : _/\_/\_/\Ints _ ra k Di/\OC X _);refine fg (by rfl) (.tmp 37) (.tmp 42) 22 3 (by rfl) (.int .i64 0) 8 underlying22 aV (by rfl) wr.heap.size _ 0 0 [] (by rfl) (by first | exact N | exact N.alloc _ | exact hO2) ra k rc (Di.map (Value.int .i64)) (by rfl) hplr (by rw [J5];exact Hdl.out) (N7 hIr) (ints_oneCell _ _) (by omega) (by unfold maxLen;omega) (by first | exact (an wr _).size | exact (bT wr _ _).size) ?_;intro a4 c4 w4 U K hap4;have hb4 : OC wr w4:=(by first | exact N0 (e:=3) (xs:=[]) (an wr _) (by first | exact N | exact N.alloc _ | exact hO2) K (JO _) (an wr _).size | exact N0 (e:=3) (xs:=[]) (an wr _).drew (by first | exact N | exact N.alloc _ | exact hO2) K (JO _) (an wr _).drew.size | exact N0 (e:=3) (xs:=[]) (bT wr _ _) (by first | exact N | exact N.alloc _ | exact hO2) K (JO _) (bT wr _ _).size | exact N0 (e:=3) (xs:=[]) (bT wr _ _).drew (by first | exact N | exact N.alloc _ | exact hO2) K (JO _) (bT wr _ _).drew.size);rw [LJ] at U ⊢;rw [KL] at U;(first | (have hc4:=cT (ad:=⟨wr.heap.size+1,0,none⟩) (v:=.int .i64 x) K (ew _ _ _ (by simp)) (.inr (by simp))) | (have hc4:=cT (ad:=⟨wr.heap.size,0,none⟩) (v:=.int .i64 x) K (br (ew _ _ _ rfl) _) (.inr (by simp))) | skip))
     | (refine fg (by rfl) (.tmp 43) (.tmp 48) 22 3 (by rfl) (.int .i64 0) 8 underlying22 aV (by rfl) wr.heap.size a4 k c4 (Di.map (Value.int .i64)) (by rfl) (by first | exact U | exact U.alloc _) _ 1 1 [.int .i64 x] (by rfl) (λ_=>rfl) rfl (by intro j hj;obtain rfl : j=0:=(by omega);first | exact ew _ _ _ rfl | exact hc4) (by intro y hy;simp at hy;subst hy;rfl) (by omega) (by unfold maxLen;omega) (by first | exact hb4.size | exact (N1 hb4 _).size) ?_;intro a5 c5 w5 hown5 hgr5 hap5;have hb5 : OC wr w5:=(by first | exact N0 (N1 hb4 _) (U.alloc _) hgr5 (JO _) (N1 hb4 _).size | exact N0 hb4 U hgr5 (JO _) hb4.size);have hO5:=Z5 (HO.out.1.af (NX hb5 (an w5 (.cells #[.slice a5 (k+1) c5] 22))));have hEb:=Z5 (N1 (NX Z.out hb5) (.cells #[.slice a5 (k+1) c5] 22)))
     | (refine fg (by rfl) (.tmp 36) (.tmp 50) 25 22 (by rfl) (.slice none 0 0) 24 underlying25 dO (by rfl) X.heap.size ac i cc _ (by rfl) (by exact hO5.out.own) _ 1 1 [.slice a5 (k+1) c5] (by rfl) (λ_=>rfl) rfl (by intro j hj;obtain rfl : j=0:=(by omega);exact ew _ _ _ rfl) (by intro y hy;simp at hy;subst hy;rfl) (by omega) (by unfold maxLen;omega) (by exact hEb.out.size) ?_;intro a6 c6 w6 hown6 hgr6 hap6;have hb7 : OC X w6:=(by first | exact N0 hEb.out hO5.out.own hgr6 (JO _) hEb.out.size | exact N0 hEb.out.drew (by exact hO5.out.own) hgr6 (JO _) hEb.out.drew.size)))
   all_goals (
    go_wp2_with fail
    go_roundw
    case rel =>
     have hown9 : (w5.alloc (.cells #[.slice a5 (k+1) c5] 22)).ownsRow X.heap.size 3 1 (.slice a5 (Di ++ [x]).length c5) (Di ++ [x]).length ((Di ++ [x]).map (Value.int .i64)):=by rw [J0,Hdl.out,Ko];exact bd (bp hown5 (an _ _)) hsz
     have hra : a5 ≠ none->¬ bX ac R (ablk a5):=λh0 hI=>by have h1:=(ba hown5 h0).1;have h2:=(HO.out.1.lt _ hI).2;omega
     have hl : (Di ++ [x]).length=k+1:=by rw [J0,Hdl.out];rfl
     have hP:=Ob hO5.out hown9 hra (by rw [hl];exact hown6) hgr6 hap6
     exact ⟨i+1,a6,c6,by omega,by go_num,rfl,⟨_,by rw [Hst.out];exact hP⟩,hb7⟩
    case measure=>simp [intOf] <;> omega)
  ·obtain rfl : i=t:=by omega
   have hE2 : J.take i=J:=JX (by rw [HJl.out];exact JO _)
   rw [hE2] at hO
   have hbwr:=NX hbwX hbr
   have hbWr:=NX hbX hbr
   have Hel:=Z5 (HEl.out wr ac cc hbwr hO.je)
   obtain ⟨⟨f0,f1,f2⟩,m0,m1⟩:=HS.out wr hbWr
   clear hE2 hO hiX HEl HJn
   go_wp2_with fail
   refine Hel.out.mono ?_
   rintro e X2 ⟨hb3,ae,ce,ap,cp,rfl,hEm,hPi⟩
   have hbX2:=NX hbWr hb3
   have hplE:=hEm.pl
   have hplP:=hPi.pl
   clear f0 f1 f2 m0 m1 Hel hb3 hbr hbwr hbWr
   have hii : decide ((i : Int)<(i : Int))=false:=by simp
   go_wp2_with fail
   go_loopw [13] (λiv ws=>iv = .int .i64 i/\ws=X2) (λ_ _=>0)
   case atStart=>exact ⟨rfl,rfl⟩
   case round =>
    obtain ⟨rfl,rfl⟩:=hrel
    obtain ⟨_,m0,m1⟩:=HS.out wr hbX2
    clear hii
    generalize wr=X3 at *
    go_wp2_with (at_make;refine ch rfl _ _ 22 3 rfl (.int .i64 0) 8 underlying22 aV rfl k rfl rfl (by omega) (by unfold maxLen;omega) ?_;intro a5 w5 S hbel hge I)
    have hown0 : w5.ownsRow X3.heap.size 3 1 (.slice a5 k k) k ((solTo k E Pv 0).map (Value.int .i64)):=by simpa [solTo] using S
    clear S
    go_loopw [15] (λjv ws=>∃j : Nat,j<=i/\jv = .int .i64 j/\ws.ownsRow X3.heap.size 3 1 (.slice a5 k k) k ((solTo k E Pv j).map (Value.int .i64))/\OC X3 ws) (λjv _=>i - (intOf jv).toNat)
    case atStart=>exact ⟨0,JU _,rfl,hown0,hbel⟩
    case round =>
     clear hown0 hbel
     obtain ⟨j,hji,rfl,S,hbs⟩:=hrel
     have hbW5:=NX hbX2 hbs
     by_cases I : j<i
     ·obtain ⟨p,hp,hpk⟩:=HPb.out j I
      obtain ⟨ra,rn,rc,z,B⟩:=hEm.cell j I
      have hrn : rn=k+1:=by rw [<- B.len];exact HEw.out j I
      have D:=aB hbs z
      have Y:=B.af hbs
      have hkr : k<rn:=by omega
      have ck:=Y.cell k hkr
      have cp':=(hPi.af hbs).cell j I
      rw [hp] at cp'
      have hplr:=Y.pl
      obtain ⟨hi5,hm5⟩:=NZ S
      have c5:=hi5.cell p hpk
      have f5:=(hm5 (by omega)).2 p hpk
      have hpl5:=hi5.pl
      have Hst : Hid (solTo k E Pv (j+1)=(solTo k E Pv j).set p (nth (ai E j) k)):=by show _=_;rw [solTo,hp];rfl
      obtain ⟨x,hx⟩ : ∃x,nth (ai E j) k=x:=⟨_,rfl⟩
      obtain ⟨x5,hx5⟩ : ∃x5,nth (solTo k E Pv j) p=x5:=⟨_,rfl⟩
      rw [hx] at ck Hst
      rw [hx5] at c5
      obtain ⟨_,m0',m1'⟩:=HS.out wr hbW5
      have hj1 : (j : Int)<i:=by omega
      have hk1 : (k : Int)<rn:=by omega
      have hp1 : (p : Int)<k:=by omega
      have Hown:=Z5 S
      have Hbs:=Z5 hbs
      have hszs:=hbs.size
      clear hx hx5 Y B z hi5 hm5 S hrn hp
      go_wp2_with fail
      go_still_tail 14,(by kernel_rfl)
      change wpList _ _ _ _ _ wr.drew
      generalize hwd : wr.drew=wd
      have fd : wd.frozen? ⟨ablk a5,aL a5+p,none⟩=false:=by rw [<- hwd];exact f5
      have cd : wd.cell? ⟨ablk a5,aL a5+p,none⟩=some (.int .i64 x5):=by rw [<- hwd];exact c5
      have Hwd:=Z5 hwd
      clear hwd
      go_wp2_with fail
      go_roundw
      case rel =>
       obtain rfl:=Hwd.out
       have h1:=bC (w:=wr.drew) Hown.out p hpk (.int .i64 x)
       rw [<- Kh,<- Hst.out] at h1
       exact ⟨j+1,by omega,by go_num,h1,Hbs.out.drew.setCell (by have:=(ba Hown.out (by have:=hpl5 (by omega);rw [this];simp)).1;exact this) _⟩
      case measure=>simp [intOf] <;> omega
     ·obtain rfl : j=i:=by omega
      have HF:=Z5 (JZ (NZ S).1 (NX HbW.out hbW5))
      clear S
      go_wp2_with fail
      go_ret2
      exact ⟨a5,k,rfl,HF.out.1,HF.out.2⟩
def fD (P M : Int) (mod : LI) (N : Int) (L : Ll) (y : LI) : Int:=if aJ P M mod N L=0 then ld (aH P M) y N.toNat else aJ P M mod N L
theorem pf (P M : Int) (am : OA) (V cm : Nat) (mod : LI) (N : Int) (a : OA) (n c : Nat) (L : Ll) (C : OA) (D cy : Nat) (y : LI) (w : World) (K : Ints w am V mod) (hi : bu w a n L) (hy : Ints w C D y) :
  Calls prog 137 #[.agg #[.int .i64 P,.int .i64 M,.slice am V cm,.int .i64 N,.slice a n c],.slice C D cy] w λe w'=>e = .returned (.int .i64 (fD P M mod N L y))/\OC w w':=by
 go_enter func137,ntmps137;go_wp2_with fail;obtain ⟨U,H⟩ : ∃U : World,U=w.alloc (.cells #[.int .i64 P,.int .i64 M,.slice am V cm,.int .i64 N,.slice a n c] 27):=⟨_,rfl⟩
 rw [<- H];have Z : OC w U:=by rw [H];exact an _ _
 have A : aO U w.heap.size [.int .i64 P,.int .i64 M,.slice am V cm,.int .i64 N,.slice a n c]:=by rw [H];exact NY _ _ _ rfl
 have j:=Z5 A;clear H A;refine (rG P M am V cm mod N a n c L U (K.af Z) (hi.af Z)).mono ?_;rintro e w1 ⟨rfl,I⟩;have Y:=NX Z I;have S:=j.out.af I;have c0:=S.cell 0 rfl;have c1:=S.cell 1 rfl;have c2:=S.cell 2 rfl;have c3:=S.cell 3 rfl;have c4:=S.cell 4 rfl;clear S;by_cases X : aJ P M mod N L=0
 ·have B : Hid (fD P M mod N L y=ld (aH P M) y N.toNat):=JT X;obtain ⟨m,rfl,_⟩:=cZ X;have G:=Z5 (xM P M am V cm C D cy y m w1 (hy.af Y));rw [X];clear X;go_wp2_with fail;refine G.out.mono ?_;rintro e w2 ⟨rfl,F⟩;have E:=NX Y F;go_wp2_with fail;go_ret;exact ⟨by rw [B.out,JQ];rfl,E⟩
 ·have B : Hid (fD P M mod N L y=aJ P M mod N L):=JR X;have z : (aJ P M mod N L == 0)=false:=by simpa using X
  clear X;generalize aJ P M mod N L=er at *;go_wp2_with fail;go_ret;exact ⟨by rw [B.out];rfl,Y⟩
theorem F3 (P M : Int) (mod : LI) (N : Int) (L : Ll) (y : LI) (W : Int) : et P M mod N L y W=if fD P M mod N L y=0 then (if W<0\/N<W then 6 else 0) else fD P M mod N L y:=by
 unfold et fD;by_cases Z : aJ P M mod N L=0
 ·rw [JT Z,JT Z];obtain ⟨m,rfl,_⟩:=cZ Z;have Y : ((ah P M.toNat mod).q : Int)=aH P M:=by obtain ⟨m1,e1,_,h1,_⟩:=fE (aN Z).1;rw [show M.toNat=m1 by omega];exact h1
  rw [JQ,<- Y];unfold ld gX;by_cases h1 : (y.length : Int) ≠ m
  ·rw [JT h1,JR (by omega),JR (by omega)]
  ·rw [JR h1,JT (show y.length=m by omega)];cases h2 : ez (ah P M.toNat mod).q y
   ·simp
   ·simp
 ·rw [JR Z,JR Z,JR Z]
theorem uA (P M : Int) (am : OA) (H cm : Nat) (mod : LI) (N : Int) (a : OA) (n c : Nat) (L : Ll) (A : OA) (B cy : Nat) (y : LI) (W : Int) (w : World) (I : Ints w am H mod) (hi : bu w a n L) (hy : Ints w A B y) :
  Calls prog 129 #[.agg #[.int .i64 P,.int .i64 M,.slice am H cm,.int .i64 N,.slice a n c],.slice A B cy,.int .i64 W] w λe w'=>e = .returned (.int .i64 (et P M mod N L y W))/\OC w w':=by
 obtain ⟨K,X⟩ : ∃K,et P M mod N L y W=K:=⟨_,rfl⟩
 rw [X];rw [F3] at X;have Z:=Z5 X;clear X;go_enter func129,ntmps129;go_wp2_with fail;obtain ⟨U,D⟩ : ∃U : World,U=w.alloc (.cells #[.int .i64 P,.int .i64 M,.slice am H cm,.int .i64 N,.slice a n c] 27):=⟨_,rfl⟩
 rw [<- D];have Y : OC w U:=by rw [D];exact an _ _
 have z : aO U w.heap.size [.int .i64 P,.int .i64 M,.slice am H cm,.int .i64 N,.slice a n c]:=by rw [D];exact NY _ _ _ rfl
 have j:=Z5 z;clear D z;refine (pf P M am H cm mod N a n c L A B cy y U (I.af Y) (hi.af Y) (hy.af Y)).mono ?_;rintro e w1 ⟨rfl,G⟩;have V:=NX Y G;have c3:=(j.out.af G).cell 3 rfl;generalize fD P M mod N L y=E at *;by_cases C : E=0
 ·subst C;by_cases h3 : W<0
  ·have S : Hid (K=6):=by show _=_;rw [<- Z.out,JT rfl,JT (.inl h3)]
   have d3 : decide (W<0)=true:=by simpa using h3
   clear h3 Z;go_wp2_with fail;go_ret;exact ⟨by rw [S.out];rfl,V⟩
  have d3 : decide (W<0)=false:=by simpa using h3
  by_cases F : N<W
  ·have S : Hid (K=6):=by show _=_;rw [<- Z.out,JT rfl,JT (.inr F)]
   have d4 : decide (N<W)=true:=by simpa using F
   clear h3 F Z;go_wp2_with fail;go_ret;exact ⟨by rw [S.out];rfl,V⟩
  have d4 : decide (N<W)=false:=by simpa using F
  have S : Hid (K=0):=by show _=_;rw [<- Z.out,JT rfl,JR (by omega)]
  clear h3 F Z;go_wp2_with fail;go_ret;exact ⟨by rw [S.out];rfl,V⟩
 ·have hE2 : (E == 0)=false:=by simpa using C
  have S : Hid (K=E):=by show _=_;rw [<- Z.out,JR C]
  clear C Z;go_wp2_with fail;go_ret;exact ⟨by rw [S.out];rfl,V⟩
def jc (q : Nat) (l : LI) : List Bool:=(List.range q).map λ(y : Nat)=>decide ((y : Int) ∈ l)
theorem Ck (q : Nat) (l : LI) : (jc q l).length=q:=by simp [jc]
theorem zm {q y : Nat} (l : LI) (h : y<q) : pJ (jc q l) y=decide ((y : Int) ∈ l):=by rw [mZ (by rw [Ck];exact h)];simp [jc]
theorem CN {q y : Nat} (l : LI) : (jc q l).set y true=jc q (l ++ [(y : Int)]):=by
 refine KW (by simp [jc]) λi h1 h2=>?_;rw [NK];simp only [jc,KF,Lt,KN,Kx];split
 ·rename_i h;subst h;simp
 ·rename_i h;have : ¬ (i : Int)=y:=by omega
  simp [this]
theorem BX (q : Nat) : jc q []=List.replicate q false:=by refine KW (by simp [jc]) λi h1 h2=>?_;simp [jc]
section
variable {O : aM} {El : Int->Prop} {q : Nat} {g : Int}
def Be (O : aM) (n x : Nat) : LI:=rtTo O n (x - 1)
def BB (O : aM) (U : LI) (N x : Nat) : LI:=fi O U N (x - 1)
theorem Fz (n : Nat) : Be O n 1=[]:=rfl
theorem xC {n x : Nat} (h1 : 1<=x) (h : eZ O (x : Int) n=1) : Be O n (x+1)=Be O n x ++ [(x : Int)]:=by
 obtain ⟨j,rfl⟩ : ∃j,x=j+1:=⟨x - 1,by omega⟩
 have e : ((j+1 : Nat) : Int)=(j : Int)+1:=by omega
 rw [e] at h ⊢;show rtTo O n (j+1)=rtTo O n j ++ _;rw [rtTo,JT h]
theorem wP {n x : Nat} (h1 : 1<=x) (h : eZ O (x : Int) n ≠ 1) : Be O n (x+1)=Be O n x:=by
 obtain ⟨j,rfl⟩ : ∃j,x=j+1:=⟨x - 1,by omega⟩
 have e : ((j+1 : Nat) : Int)=(j : Int)+1:=by omega
 rw [e] at h;show rtTo O n (j+1)=rtTo O n j;rw [rtTo,JR h]
theorem uc (n : Nat) : ∀x,(Be O n x).length<=x
 | 0=>by simp [Be,rtTo]
 | 1=>by simp [Be,rtTo]
 | x+2=>by
  by_cases h : eZ O ((x+1 : Nat) : Int) n=1
  ·rw [xC (by omega) h,J0];have:=uc n (x+1);simp;omega
  ·rw [wP (by omega) h];have:=uc n (x+1);omega
theorem F0 (U : LI) (N : Nat) : BB O U N 1=[]:=rfl
theorem EA {U : LI} {N x : Nat} (h1 : 1<=x) (h : (BB O U N x).length<N) (h2 : ¬ (x : Int) ∈ BB O U N x) : BB O U N (x+1)=BB O U N x ++ dn (U.map (O.mul (x : Int))):=by
 obtain ⟨j,rfl⟩ : ∃j,x=j+1:=⟨x - 1,by omega⟩
 have e : ((j+1 : Nat) : Int)=(j : Int)+1:=by omega
 rw [e] at h2 ⊢;show fi O U N (j+1)=fi O U N j ++ _;rw [fi,JT ⟨h,h2⟩]
theorem Fs {U : LI} {N x : Nat} (h1 : 1<=x) (h2 : (x : Int) ∈ BB O U N x) : BB O U N (x+1)=BB O U N x:=by
 obtain ⟨j,rfl⟩ : ∃j,x=j+1:=⟨x - 1,by omega⟩
 have e : ((j+1 : Nat) : Int)=(j : Int)+1:=by omega
 rw [e] at h2;show fi O U N (j+1)=fi O U N j;rw [fi,JR λh=>h.2 h2]
theorem EY {U : LI} {N x : Nat} (Z : x<=q) (h : N<=(BB O U N x).length) : BB O U N x=BB O U N q:=by have h1:=BE (O:=O) U N (k:=x - 1) h (q - 1 - (x - 1));show fi O U N (x - 1)=fi O U N (q - 1);rw [<- h1];congr 1;omega
end
section
variable {P M : Int} {mod : LI} {c r k : Int}
theorem I4 (h : bq P M mod=false) : AW P M mod c r k=1:=by unfold AW;rw [JT h]
theorem I8 (h : bq P M mod=true) (h1 : c<1\/64<c\/r<1\/64<r\/k<1\/64<k) : AW P M mod c r k=6:=by unfold AW;rw [JR (by rw [h];simp),JT h1]
theorem Io (h : bq P M mod=true) {Q c r k : Nat} (Y : (ah P M.toNat mod).q=Q+1) (h1 : 1<=c/\c<=64) (h2 : 1<=r/\r<=64) (h3 : 1<=k/\k<=64) :
  AW P M mod c r k=if Q % (r+1) ≠ 0\/Q / (r+1)<c then 10 else if 64<c * (r+1) then 4 else if c * r<k then 9 else 0:=by
 unfold AW;rw [JR (by rw [h];simp),JR (by omega),Y];have e1 : (((Q+1 : Nat) : Int) - 1) % ((r : Int)+1)=((Q % (r+1) : Nat) : Int):=by rw [show ((Q+1 : Nat) : Int) - 1=(Q : Int) by omega,Lp];rfl
 have U : (((Q+1 : Nat) : Int) - 1) / ((r : Int)+1)=((Q / (r+1) : Nat) : Int):=by rw [show ((Q+1 : Nat) : Int) - 1=(Q : Int) by omega,Int.natCast_ediv];rfl
 rw [e1,U];have X : (c : Int) * ((r : Int)+1)=((c * (r+1) : Nat) : Int):=by simp
 have V : (c : Int) * (r : Int)=((c * r : Nat) : Int):=by simp
 rw [X,V];have c1 : ((Q % (r+1) : Nat) : Int) ≠ 0\/((Q / (r+1) : Nat) : Int)<(c : Int) ↔ Q % (r+1) ≠ 0\/Q / (r+1)<c:=by omega
 have c2 : (64 : Int)<((c * (r+1) : Nat) : Int) ↔ 64<c * (r+1):=by omega
 have Z : ((c * r : Nat) : Int)<(k : Int) ↔ c * r<k:=by omega
 simp only [c1,c2,Z]
end
def Fv (P M : Int) (mod : LI) (c r k : Nat) : Ll:=bH (ah P M.toNat mod).ops ((r+1) * c) (IC (ah P M.toNat mod).ops (ah P M.toNat mod).q r c k)
theorem Gf {P M : Int} {mod : LI} (S : bq P M mod=true) {Q c r k : Nat} (K : (ah P M.toNat mod).q=Q+1) (E : 1<=r) (hd : Q % (r+1)=0) (I : c<=Q / (r+1)) :
  let G:=ah P M.toNat mod
  (Be G.ops (r+1) (Q+1)).length=r+1/\(∀x ∈ Be G.ops (r+1) (Q+1),G.El x)/\(BB G.ops (Be G.ops (r+1) (Q+1)) ((r+1) * c) (Q+1))=yF G.ops G.q r c /\
  (yF G.ops G.q r c).length=(r+1) * c/\(∀x ∈ yF G.ops G.q r c,G.El x/\x ≠ 0)/\(r+1) * c<=Q:=by
 intro G;have F:=dH S;obtain ⟨g,N⟩:=pB S;have Z : G.q - 1=Q:=by show (ah P M.toNat mod).q - 1=Q;omega
 have X : (r+1) ∣ G.q - 1:=by rw [Z];exact MY hd
 have Y : (r+1) * c<=Q:=by have h1:=K4 (r+1) I;have h2:=Nat.mul_div_le Q (r+1);omega
 obtain ⟨hI,H⟩:=DN F N (s:=r+1) (c:=c) (by omega) X (by rw [show (ah P M.toNat mod).q - 1=Q from Z];exact Y);refine ⟨?_,?_,?_,H,λx U=>hI.el x U,Y⟩
 ·have:=AV F N (n:=r+1) (by omega) X;rw [show (ah P M.toNat mod).q - 1=Q from Z] at this;exact this
 ·intro x U;have V : x ∈ rtTo G.ops (r+1) Q:=U;obtain ⟨h1,h2,_⟩:=gJ.1 V;show 0<=x/\x<_;rw [show (((ah P M.toNat mod).q : Nat) : Int)=(Q : Int)+1 by rw [K];simp];omega
 ·unfold yF BB Be;rw [show (ah P M.toNat mod).q - 1=Q from Z];simp
theorem CU {w : World} {b : Nat} {P : Int} {M q : Nat} {ex lg : LI} (Z n : Nat) (h : ya w b P M q ex lg) (hx0 : Z ≠ 0) (hx1 : Z<q) (hn : n<=1000000) :
  Calls prog 65 #[.pointer (some ⟨b,0,none⟩),.int .i64 Z,.int .i64 n] w λe w'=>∃k,e = .returned (.tuple #[.int .i64 (if n=0 then 1 else nth ex ((nth lg Z * ((n : Int) % ((q : Int) - 1))) % ((q : Int) - 1)).toNat),.int .i64 0])/\w'=w.drewN k:=by
 obtain ⟨ae,ce,C,X⟩:=h.ce;obtain ⟨al,cl,hcl,N⟩:=h.cl;have hcq:=h.cq;have hx' : ((Z : Int) == 0)=false:=by rw [beq_eq_false_iff_ne];omega
 have H:=h.lb Z (by omega);have cx:=N.cell Z (by omega);have G:=X.pl;have hpl:=N.pl;have hq2:=h.q2;have B:=h.q256;have K:=Z5 (ek Z h (by omega) (by omega));obtain ⟨k,rfl⟩ : ∃k,q=k+1:=⟨q - 1,by omega⟩
 rw [L9] at C X G;have hk1 : 1<=k:=by omega
 have e1 : ((k+1 : Nat) : Int) - 1=(k : Int):=by omega
 rw [e1] at H ⊢;by_cases Y : n=0
 ·subst Y;rw [JT rfl];clear e1 H;go_enter func65,ntmps65;go_wp2_with fail;refine K.out.mono ?_;rintro e w' ⟨rfl,rfl⟩;go_wp2_with fail;go_ret2;exact ⟨0,rfl,rfl⟩
 rw [JR Y];have d0 : ((n : Int) == 0)=false:=by simpa using Y
 obtain ⟨l,j⟩ : ∃l : Nat,nth lg Z=l:=⟨(nth lg Z).toNat,by omega⟩
 obtain ⟨y,I⟩ : ∃y : Nat,n % k=y:=⟨_,rfl⟩
 have hyk : y<k:=by rw [<- I];exact LM _ (by omega)
 obtain ⟨z,V⟩ : ∃z : Nat,(l * y) % k=z:=⟨_,rfl⟩
 have D : z<k:=by rw [<- V];exact LM _ (by omega)
 rw [j] at cx H ⊢;have hlb : l<k:=by omega
 have E : l * y<=255 * 255:=LY (by omega) (by omega);have hV : ((l : Int) * ((n : Int) % (k : Int)) % (k : Int)).toNat=z:=by
  have e2 : (l : Int) * ((n : Int) % (k : Int)) % (k : Int)=((l * (n % k) % k : Nat) : Int):=by rw [Lp,M4,Lp]
  rw [e2,JQ,I,V]
 rw [hV];have ck:=X.cell z D;have U : (k : Int)+1 - 1=(k : Int):=by omega
 have w1' : IntKind.i64.wrap (((k+1 : Nat) : Int) - 1)=(k : Int):=by rw [e1];exact J3 _ (by omega)
 have w1'' : IntKind.i64.wrap ((k : Int) + 1 - 1) = (k : Int) := by rw [U]; exact J3 _ (by omega)
 have r1 : ((n : Nat) : Int).tmod (k : Nat)=((y : Nat) : Int):=by rw [K3 (by omega),<- I];simp
 have w2' : IntKind.i64.wrap ((y : Int)+(k : Int))=(y : Int)+(k : Int):=J3 _ (by omega);have r2 : ((y : Int)+(k : Int)).tmod (k : Nat)=((y : Nat) : Int):=by rw [K3 (by omega),Int.add_emod_right];exact MF (by omega) (by omega)
 obtain ⟨p,A⟩ : ∃p : Nat,l * y=p:=⟨_,rfl⟩
 have S : (l : Int) * (y : Int)=(p : Int):=by rw [<- A];simp
 have hp2 : p<=255 * 255:=by omega
 have w3 : IntKind.i64.wrap ((l : Int) * (y : Int))=(p : Int):=by rw [S];exact J3 _ (by omega)
 rw [A] at V;have r3 : ((p : Nat) : Int).tmod (k : Nat)=((z : Nat) : Int):=by rw [K3 (by omega),<- V];simp
 have F : (k : Int) ≠ 0:=by omega
 have hkb : ((k : Int) == 0)=false:=by simpa using F
 have hzi : (z : Int)<k:=by omega
 have hxi : (Z : Int)<((k+1 : Nat) : Int):=by omega
 have hxi2 : (Z : Int)<(k : Int)+1:=by omega
 clear A S V hV I j E e1 U Y;go_enter func65,ntmps65;go_wp2_with fail;refine K.out.mono ?_;rintro e w' ⟨rfl,rfl⟩;go_wp2_with fail;go_quiet (fail);go_wp2;go_ret2;exact ⟨_,rfl,rfl⟩
theorem JE {w : World} {b : Nat} {P M : Int} {mod : LI} (S : bq P M mod=true) {x : Int} (n : Nat) (h : ee w b (ah P M.toNat mod)) (V : (ah P M.toNat mod).El x) (h0 : x ≠ 0) (N : n<=1000000) :
  Calls prog 65 #[.pointer (some ⟨b,0,none⟩),.int .i64 x,.int .i64 n] w λe w'=>∃k,e = .returned (.tuple #[.int .i64 (eZ (ah P M.toNat mod).ops x n),.int .i64 0])/\w'=w.drewN k:=by
 have U:=GQ S V h0 n;have X:=V;unfold cX.El at X;obtain ⟨Z,rfl⟩ : ∃Z : Nat,x=Z:=⟨x.toNat,by omega⟩
 have h1:=CU Z n h (by omega) (by omega) N;have e : (if n=0 then 1 else nth (ah P M.toNat mod).ex ((nth (ah P M.toNat mod).lg Z * ((n : Int) % (((ah P M.toNat mod).q : Int) - 1))) % (((ah P M.toNat mod).q : Int) - 1)).toNat)=eZ (ah P M.toNat mod).ops Z n:=by
  by_cases Y : n=0
  ·subst Y;rw [JT rfl];rfl
  ·rw [JR Y,<- U];unfold Ip;rw [JQ]
 rw [e] at h1;exact h1
def vQ (P M : Int) (mod : LI) (m : Nat) (L : Ll) (k : Nat) : Int × Ll:=kI P M mod m (cJ P M mod m L k) (ai (dK P M mod m L) k) ((gU (ai (dK P M mod m L) k) : Int) - 1)
def lcTo (P M : Int) (mod : LI) (m : Nat) (L : Ll) : Nat->Int
 | 0=>0
 | k+1=>if lcTo P M mod m L k=0 then (vQ P M mod m L k).1 else lcTo P M mod m L k
theorem sU {P M : Int} {mod : LI} {m : Nat} {L : Ll} {k : Nat} {e : Int} (h : lcTo P M mod m L k=e) (he : e ≠ 0) : ∀d,lcTo P M mod m L (k+d)=e
 | 0=>h
 | d+1=>by have Z:=sU h he d;show (if lcTo P M mod m L (k+d)=0 then _ else lcTo P M mod m L (k+d))=e;rw [Z,JR he]
def A6 (P M : Int) (mod : LI) (N : Int) (L : Ll) : Int:=if jt P M mod N L=0 then lcTo P M mod N.toNat L N.toNat else jt P M mod N L
def sK (P M : Int) (mod : LI) (m : Nat) (L : Ll) (k : Nat) : List Ll:=(List.range k).map λ(r : Nat)=>if (vQ P M mod m L r).1=0 then (vQ P M mod m L r).2 else []
def vP (P M : Int) (mod : LI) (N : Int) (L : Ll) (w : World) (e : Ending) (w' : World) : Prop :=
 OC w w'/\((A6 P M mod N L ≠ 0/\e = .returned (.tuple #[.agg #[.slice none 0 0,.slice none 0 0],.int .i64 (A6 P M mod N L)])) \/
  (A6 P M mod N L=0/\∃Y cs Z ct,e = .returned (.tuple #[.agg #[.slice Y N.toNat cs,.slice Z N.toNat ct],.int .i64 0])/\bu w' Y N.toNat (dK P M mod N.toNat L)/\gq w' Z N.toNat (sK P M mod N.toNat L N.toNat)))
theorem Cn {P M : Int} {mod : LI} {N : Int} {L : Ll} (h : jt P M mod N L=0) : aJ P M mod N L=0/\vR P M mod N.toNat L=0/\¬ [] ∈ dK P M mod N.toNat L:=by
 unfold jt at h;split at h
 ·rename_i h1;split at h
  ·rename_i h2;split at h
   ·cases h
   ·rename_i h3;exact ⟨h1,h2,h3⟩
  ·rename_i h2;exact absurd h h2
 ·rename_i h1;exact absurd h h1
theorem wU {P M : Int} {mod : LI} {m : Nat} {L : Ll} : (dK P M mod m L).length=m:=by rw [dK,J5,KU]
theorem ET {P M : Int} {mod : LI} {m : Nat} {L : Ll} (Y : aJ P M mod m L=0) (h : ¬ [] ∈ dK P M mod m L) {k : Nat} (X : k<m) : ai (dK P M mod m L) k ≠ []/\(ai (dK P M mod m L) k).length=m/\ai (dK P M mod m L) k ∈ tS P M mod m L/\nth (ai (dK P M mod m L) k) k=1:=by
 have hm : ai (dK P M mod m L) k ∈ dK P M mod m L:=fp (by rw [wU];exact X);have hne : ai (dK P M mod m L) k ≠ []:=λe=>h (by rw [<- e];exact hm);rw [mU X] at hne ⊢;rcases vp Y (k : Int) with ⟨h3,_⟩ | ⟨h3,Z,_⟩
 ·exact absurd h3 hne
 ·rw [JQ] at Z;exact ⟨hne,qO Y hne,h3,Z⟩
theorem zF {x : LI} : gU x<=x.length:=by rw [<- yB (x:=x) (m:=x.length) rfl];unfold Ee;exact J4 (by rw [J5];exact Mj _ _) (by rw [KU];exact JO _)
theorem qs {X Z : World} {t : TypeId} (hb : Below (X.alloc (.cells #[.slice none 0 0] t)).heap.size (X.alloc (.cells #[.slice none 0 0] t)) Z) : aO Z X.heap.size [.slice none 0 0] :=
 (NY X [.slice none 0 0] t rfl).af hb
theorem tM {X Z : World} {t : TypeId} (hb : Below (X.alloc (.cells #[.slice none 0 0] t)).drew.heap.size (X.alloc (.cells #[.slice none 0 0] t)).drew Z) : aO Z X.heap.size [.slice none 0 0] :=
 (NY X [.slice none 0 0] t rfl).af (NX (JP _ _).drew hb)
theorem sE (P M : Int) (am : OA) (mn cm : Nat) (mod : LI) (N : Int) (a : OA) (n c : Nat) (L : Ll) (w : World) (C : Ints w am mn mod) (hi : bu w a n L) :
  Calls prog 28 #[.agg #[.int .i64 P,.int .i64 M,.slice am mn cm,.int .i64 N,.slice a n c]] w (vP P M mod N L w):=by
 have HA : Hid (∀V,OC w V->Calls prog 60 #[.agg #[.int .i64 P,.int .i64 M,.slice am mn cm,.int .i64 N,.slice a n c]] V (ud (jt P M mod N L) (dK P M mod N.toNat L) V)):=λV Y=>tT P M am mn cm mod N a n c L V (C.af Y) (hi.af Y);have HErr : Hid (∀V S,A6 P M mod N L=S->S ≠ 0->OC w V->vP P M mod N L w (.returned (.tuple #[.agg #[.slice none 0 0,.slice none 0 0],.int .i64 S])) V):=λV S h1 h2 h3=>⟨h3,.inl ⟨by rw [h1];exact h2,by rw [h1]⟩⟩
 have HE1 : Hid (jt P M mod N L ≠ 0->A6 P M mod N L=jt P M mod N L):=λh=>by rw [A6,JR h]
 have HG : Hid (jt P M mod N L=0->∃m : Nat,N=m/\m<=64/\(dK P M mod N.toNat L).length=m/\mod.length<=8 /\
   (∀k,k<m->(ai (dK P M mod N.toNat L) k).length=m/\gU (ai (dK P M mod N.toNat L) k)<=m) /\
   (∀V (k : Nat),k<m->OC w V->Calls prog 74 #[.agg #[.int .i64 P,.int .i64 M,.slice am mn cm,.int .i64 m,.slice a n c],.int .i64 k] V λe w' =>
    ∃a1 c1 a2 c2,e = .returned (.tuple #[.agg #[.int .i64 P,.int .i64 M,.slice a1 mod.length c1,.int .i64 m,.slice a2 (cJ P M mod N.toNat L k).length c2],.int .i64 0])/\Ints w' a1 mod.length mod/\bu w' a2 (cJ P M mod N.toNat L k).length (cJ P M mod N.toNat L k)/\OC V w') /\
   (∀V a1 c1 a2 c2 (k : Nat) ra rc,Ints V a1 mod.length mod->bu V a2 (cJ P M mod N.toNat L k).length (cJ P M mod N.toNat L k)->Ints V ra m (ai (dK P M mod N.toNat L) k)->Calls prog 75 #[.agg #[.int .i64 P,.int .i64 M,.slice a1 mod.length c1,.int .i64 m,.slice a2 (cJ P M mod N.toNat L k).length c2],.slice ra m rc,.int .i64 ((gU (ai (dK P M mod N.toNat L) k) : Int) - 1)] V
    (A0 (if (vQ P M mod N.toNat L k).1=0 then (vQ P M mod N.toNat L k).2 else []) (vQ P M mod N.toNat L k).1 V)) /\
   (∀k,lcTo P M mod N.toNat L k=0->lcTo P M mod N.toNat L (k+1)=(vQ P M mod N.toNat L k).1) /\
   (∀k S,k<=m->lcTo P M mod N.toNat L k=S->S ≠ 0->A6 P M mod N L=S)/\(lcTo P M mod N.toNat L m=0->A6 P M mod N L=0) /\
   (∀as' cs Z ct V,A6 P M mod N L=0->bu V as' m (dK P M mod N.toNat L)->gq V Z m (sK P M mod N.toNat L m)->OC w V->vP P M mod N L w (.returned (.tuple #[.agg #[.slice as' m cs,.slice Z m ct],.int .i64 0])) V)):=λh=>by
  obtain ⟨hE,_,hne⟩:=Cn h;obtain ⟨m,rfl,_,hm64,_⟩:=aY hE;rw [JQ] at hne ⊢;refine ⟨m,rfl,hm64,wU,jd (aN hE).1,λk hk=>?_,λV k hk Y=>?_,λV a1 c1 a2 c2 k ra rc h1 h2 h3=>?_,λk hk=>?_,λk S hk h1 h2=>?_,λh1=>?_,λas' cs Z ct V h0 h1 h2 h3=>?_⟩
  ·have h1:=(ET hE hne hk).2.1;exact ⟨h1,by have:=zF (x:=ai (dK P M mod m L) k);omega⟩
  ·exact rE P M am mn cm mod m a n c L k V (C.af Y) (hi.af Y) hE hk
  ·exact (ou P M a1 _ c1 mod m a2 _ c2 _ ra m rc _ _ V h1 h2 h3).mono λe w' h=>h.Jb
  ·rw [lcTo,JT hk]
  ·rw [A6,JT h,JQ];have h3:=sU h1 h2 (m - k);rw [show k+(m - k)=m by omega] at h3;exact h3
  ·rw [A6,JT h,JQ];exact h1
  ·refine ⟨h3,.inr ⟨h0,as',cs,Z,ct,?_,?_,?_⟩⟩
   ·rw [JQ]
   ·rw [JQ];exact h1
   ·rw [JQ];exact h2
 have HTs : Hid (∀k,sK P M mod N.toNat L (k+1)=sK P M mod N.toNat L k ++ [if (vQ P M mod N.toNat L k).1=0 then (vQ P M mod N.toNat L k).2 else []]):=λk=>by unfold sK;rw [K5];simp
 have HT0 : Hid (sK P M mod N.toNat L 0=[]/\lcTo P M mod N.toNat L 0=0):=⟨rfl,rfl⟩
 generalize vP P M mod N L w=Post at *;generalize A6 P M mod N L=ce at *;generalize jt P M mod N L=ae at *;generalize lcTo P M mod N.toNat L=CT at *;generalize sK P M mod N.toNat L=TT at *;generalize vQ P M mod N.toNat L=bl at *;generalize cJ P M mod N.toNat L=vc at *;generalize dK P M mod N.toNat L=A at *;have HI:=Z5 (JZ C hi);clear C hi;go_enter func28,ntmps28;go_upto_region 1 with fail;obtain ⟨W,hW⟩ : ∃W : World,W=(w.alloc (.cells #[.int .i64 P,.int .i64 M,.slice am mn cm,.int .i64 N,.slice a n c] 27)).alloc (.cells #[.slice none 0 0,.slice none 0 0] 48):=⟨_,rfl⟩
 rw [<- hW];have hbW : OC w W:=by rw [hW];exact bT _ _ _
 have hsW : W.heap.size=w.heap.size+2:=by rw [hW];simp
 have x0 : aO W w.heap.size [.int .i64 P,.int .i64 M,.slice am mn cm,.int .i64 N,.slice a n c]:=by rw [hW];exact (NY _ _ _ rfl).alloc _
 have z0 : aO W (w.heap.size+1) [.slice none 0 0,.slice none 0 0]:=by rw [hW];exact NY _ _ _ (by simp)
 clear hW;have HX : Hid (∀V,OC W V->V.cell? ⟨w.heap.size,0,none⟩=some (.int .i64 P)/\V.cell? ⟨w.heap.size,1,none⟩=some (.int .i64 M)/\V.cell? ⟨w.heap.size,2,none⟩=some (.slice am mn cm)/\V.cell? ⟨w.heap.size,3,none⟩=some (.int .i64 N)/\V.cell? ⟨w.heap.size,4,none⟩=some (.slice a n c)):=λV Y=>by have x1:=x0.af Y;exact ⟨x1.cell 0 rfl,x1.cell 1 rfl,x1.cell 2 rfl,x1.cell 3 rfl,x1.cell 4 rfl⟩
 have HZ : Hid (∀V,OC W V->V.cell? ⟨w.heap.size+1,0,none⟩=some (.slice none 0 0)/\V.cell? ⟨w.heap.size+1,1,none⟩=some (.slice none 0 0)/\V.frozen? ⟨w.heap.size+1,0,none⟩=false/\V.frozen? ⟨w.heap.size+1,1,none⟩=false/\w.heap.size+1<V.heap.size /\
   ∀x y,OC w ((V.setCell ⟨w.heap.size+1,0,none⟩ x).setCell ⟨w.heap.size+1,1,none⟩ y)):=λV Y=>by have z1:=z0.af Y;exact ⟨z1.cell 0 rfl,z1.cell 1 rfl,z1.frozen 0,z1.frozen 1,z1.1,λx y=>((NX hbW Y).setCell (p:=⟨w.heap.size+1,0,none⟩) (by simp) _).setCell (p:=⟨w.heap.size+1,1,none⟩) (by simp) _⟩
 have HbW:=Z5 hbW;have HsW:=Z5 hsW;clear x0 z0 hbW hsW;obtain ⟨c0,c1,c2,c3,c4⟩:=HX.out W (JP _ _);go_wp2_with fail;refine (HA.out W HbW.out).mono ?_;rintro e I ⟨hb1,⟨h1,rfl⟩ | ⟨h1,aA,cA,rfl,hM,hlo⟩⟩
 ·obtain ⟨z3,z4,f3,f4,_,G⟩:=HZ.out I hb1;have d1 : (ae != 0)=true:=by simpa using h1
  have HF:=Z5 (HErr.out _ ae (HE1.out h1) h1 (G (.slice none 0 0) (.slice none 0 0)));clear c0 c1 c2 c3 c4 h1 HG G;go_wp2_with fail;exact bodyPost_ret (v:=.tuple #[.agg #[.slice none 0 0,.slice none 0 0],.int .i64 ae]) (by simp [results,results28,go_sem,z3,z4]) rfl HF.out
 have hF1:=NX HbW.out hb1;obtain ⟨m,rfl,hm64,hAl,hm8,hrow,hze,hbu,hcs,hcn,hc0,hpo⟩:=HG.out h1;have HR:=Z5 hrow;have HZe:=Z5 hze;have HBu:=Z5 hbu;have HCs:=Z5 (JZ hcs (JZ hcn (JZ hc0 hpo)));rw [hAl] at hM hlo;rw [hAl];have HLo:=Z5 hlo;have HM:=Z5 hM;have hplA:=hM.pl;have d1 : (ae != 0)=false:=by simp [h1]
 obtain ⟨nm,hnm⟩ : ∃nm,mod.length=nm:=⟨_,rfl⟩
 rw [hnm] at HZe HBu;clear c0 c1 c2 c3 c4 h1 HG hrow hze hbu hcs hcn hc0 hpo hM hAl HE1 HA hm8 hnm hlo;go_upto_region 5 with fail;obtain ⟨X,hX⟩ : ∃X,I.alloc (.cells #[.slice aA m cA,.slice none 0 0] 48)=X:=⟨_,rfl⟩
 rw [hX];have hbX : OC I X:=by rw [<- hX];exact an _ _
 have hC0 : kr I.heap.size X I.heap.size (.slice aA m cA) none 0 []:=kr.start (JO _) (by rw [<- hX];exact NY _ _ _ rfl);clear hX;have hs1:=hb1.size;have hsw:=HsW.out;go_wp2_with fail;go_loopw [25] (λiv wr=>∃(k : Nat) (Z : OA) (ct : Nat) (tt : List TX),k<=m/\iv = .int .i64 k/\kr I.heap.size wr I.heap.size (.slice aA m cA) Z ct tt/\Hid (tt.length=k)/\Hid (tt.map TX.T=TT k)/\Hid (CT k=0)/\OC I wr) (λiv _=>m - (intOf iv).toNat);case atStart=>exact ⟨0,none,0,[],JU _,rfl,hC0,rfl,HT0.out.1.symm,HT0.out.2,hbX⟩
 case round =>
  clear hC0 hbX
  obtain ⟨k,Z,ct,tt,hk,rfl,hI,Htl,Htt,Hct,E⟩:=hrel
  by_cases hlt : k<m
  ·obtain ⟨ra,rn,rc,hcell,hrw⟩:=(HM.out.af E).cell k hlt
   obtain ⟨hrl,hwt⟩:=HR.out k hlt
   have hrn : rn=m:=by rw [<- hrw.len];exact hrl
   subst hrn
   have hF2:=NX hF1 E
   have HZk:=Z5 (HZe.out wr k hlt hF2)
   have HRw:=Z5 hrw
   have HI2:=Z5 (JZ hI E)
   have hCt1:=HCs.out.1 k Hct.out
   have HTk:=Z5 (HTs.out k)
   obtain ⟨wt,D⟩ : ∃wt,gU (ai A k)=wt:=⟨_,rfl⟩
   have HBk : Hid (∀V a1 c1 a2 c2,Ints V a1 nm mod->bu V a2 (vc k).length (vc k)->Ints V ra rn (ai A k)->Calls prog 75 #[.agg #[.int .i64 P,.int .i64 M,.slice a1 nm c1,.int .i64 rn,.slice a2 (vc k).length c2],.slice ra rn rc,.int .i64 ((wt : Int) - 1)] V (A0 (if (bl k).1=0 then (bl k).2 else []) (bl k).1 V)):=λV a1 c1 a2 c2 h1 h2 h3=>by rw [<- D];exact HBu.out V a1 c1 a2 c2 k ra rc h1 h2 h3
   have HWt : Hid (∀V,Ints V ra rn (ai A k)->Calls prog 76 #[.slice ra rn rc] V λe w'=>e = .returned (.int .i64 (wt : Nat))/\OC V w'):=λV Y=>by rw [<- D];exact nS ra rn rc _ V Y (by omega)
   rw [D] at hwt
   have w1' : IntKind.i64.wrap ((wt : Int) - 1)=(wt : Int) - 1:=J3 _ (by omega)
   obtain ⟨vk,hvk⟩ : ∃vk,vc k=vk:=⟨_,rfl⟩
   obtain ⟨qv,hqv⟩ : ∃q,vk.length=q:=⟨_,rfl⟩
   rw [hvk,hqv] at HZk HBk
   obtain ⟨bk,hbk⟩ : ∃bk,bl k=bk:=⟨_,rfl⟩
   rw [hbk] at HBk HTk hCt1
   obtain ⟨S,T0⟩:=bk
   have HCt1 : Hid (CT (k+1)=S):=hCt1
   obtain ⟨T,hT⟩ : ∃T,(if ((S,T0) : Int × Ll).1=0 then ((S,T0) : Int × Ll).2 else [])=T:=⟨_,rfl⟩
   rw [hT] at HBk HTk
   have hpr:=hrw.pl
   obtain ⟨c0,c1,c2,c3,c4⟩:=HX.out wr (NX hb1 E)
   clear hrl D hvk hqv hbk hT hCt1 hrw hI
   go_wp2_with fail
   refine HZk.out.mono ?_
   rintro e w3 ⟨a3,k3,a4,k4,rfl,hI3,hM3,hb3⟩
   have hn3:=an w3 (.cells #[.int .i64 P,.int .i64 M,.slice a3 nm k3,.int .i64 rn,.slice a4 qv k4] 27)
   have y3 : aO (w3.alloc (.cells #[.int .i64 P,.int .i64 M,.slice a3 nm k3,.int .i64 rn,.slice a4 qv k4] 27)) w3.heap.size [.int .i64 P,.int .i64 M,.slice a3 nm k3,.int .i64 rn,.slice a4 qv k4]:=NY _ _ _ rfl
   have hI3':=hI3.af hn3
   have hM3':=hM3.af hn3
   clear c0 c1 c2 c3 c4 hI3 hM3
   go_upto_region 9 with fail
   obtain ⟨z,hV3⟩ : ∃z,w3.alloc (.cells #[.int .i64 P,.int .i64 M,.slice a3 nm k3,.int .i64 rn,.slice a4 qv k4] 27)=z:=⟨_,rfl⟩
   rw [hV3] at hn3 y3 hI3' hM3' ⊢
   have hbV3:=NX hb3 hn3
   have hrV3:=HRw.out.af hbV3
   have hbw3:=NX E hbV3
   obtain ⟨g3,hg3⟩ : ∃g,w3.heap.size=g:=⟨_,rfl⟩
   rw [hg3] at y3 ⊢
   have HS5 : Hid (∀V,OC z V->V.cell? ⟨g3,0,none⟩=some (.int .i64 P)/\V.cell? ⟨g3,1,none⟩=some (.int .i64 M)/\V.cell? ⟨g3,2,none⟩=some (.slice a3 nm k3)/\V.cell? ⟨g3,3,none⟩=some (.int .i64 rn)/\V.cell? ⟨g3,4,none⟩=some (.slice a4 qv k4)/\OC z V):=λV Y=>by have y:=y3.af Y;exact ⟨y.cell 0 rfl,y.cell 1 rfl,y.cell 2 rfl,y.cell 3 rfl,y.cell 4 rfl,Y⟩
   have HW3:=Z5 (λV (Y : OC z V)=>HWt.out V (hrV3.af Y))
   have HB3:=Z5 (λV (Y : OC z V)=>HBk.out V a3 k3 a4 k4 (hI3'.af Y) (hM3'.af Y) (hrV3.af Y))
   have HV3:=Z5 (JZ hbV3 hbw3)
   clear hV3 hg3 hI3' hM3' hrV3 HBk HWt HZk hn3 hb3 y3
   obtain ⟨c0,c1,c2,c3,c4,_⟩:=HS5.out z (JP _ _)
   unfold A0 at HB3
   go_upto_region 11 with fail
   go_cut [10,11] (λv10 v11 wx=>v10 = .int .i64 S/\∃g ar H cr,v11 = .pointer (some ⟨g,0,none⟩)/\Hid (aO wx g [.slice ar H cr])/\Hid (z.heap.size<=g)/\Hid (b8 z.heap.size wx ar H T)/\Hid (H<=cr)/\OC z wx)
   case first =>
    go_region_held3 (λV=>V.cell? ⟨g3,0,none⟩=some (.int .i64 P)/\V.cell? ⟨g3,1,none⟩=some (.int .i64 M)/\V.cell? ⟨g3,2,none⟩=some (.slice a3 nm k3)/\V.cell? ⟨g3,3,none⟩=some (.int .i64 rn)/\V.cell? ⟨g3,4,none⟩=some (.slice a4 qv k4)/\OC z V)
     ((refine HS5.out _ ?_;first | exact (JP _ _).drew | assumption | (go_split_ands;first | assumption | exact NX (by assumption) (an _ _) | exact (NX (by assumption) (an _ _)).drew | exact NX (by assumption) (by assumption) | exact Mn (by assumption) (by first | exact hB5.size | exact hB4.size | simp) _)))
     (first
      | (go_at_call 76;((with_reducible refine (HW3.out _ (by go_split_ands;assumption)).mono ?_);rintro e w4 ⟨rfl,hb4⟩;have hB4 : OC z w4:=(by go_split_ands;exact NX (by assumption) hb4);(first | (have HB4:=Z5 (tM hb4)) | (have HB4:=Z5 (qs hb4)) | skip)))
      | (go_at_call 75;((with_reducible refine (HB3.out _ (by go_split_ands;assumption)).mono ?_);rintro e w5 ⟨ar,H,cr,rfl,hM5,hc5,hb5⟩;have hB5 : OC z w5:=(by go_split_ands;exact NX (by assumption) hb5);have HM5:=Z5 hM5;have HC5:=Z5 hc5;clear hM5 hc5;(first | (have HB5:=Z5 (tM hb5)) | (have HB5:=Z5 (qs hb5)) | (have HB5:=Z5 (HB4.out.af hb5)) | skip);(first | (have z0:=HB5.out.cell 0 rfl;have f0:=HB5.out.frozen 0) | skip))))
    all_goals (
     go_wp2_with fail
     go_meet
     first
      | exact ⟨rfl,_,ar,H,cr,rfl,NY w5 [.slice ar H cr] _ rfl,hB5.size,(HM5.out.af (an _ _)).mono (by first | exact hB4.size | exact (NX hB4 (an _ _)).size),HC5.out,by go_split_ands;assumption⟩
      | exact ⟨rfl,_,ar,H,cr,rfl,HB5.out.setCell 0 (.slice ar H cr),(by first | exact hB4.size | exact JO _),(HM5.out.setCell (by first | exact HB4.out.1 | simp) _).mono (by first | exact hB4.size | exact (NX hB4 (an _ _)).size),HC5.out,by go_split_ands;assumption⟩)
   obtain ⟨rfl,g,ar,H,cr,rfl,HBx,Hg3,HMT,HCr,hbV⟩:=hcut
   generalize wc=V5 at *
   have U:=NX HV3.out.2 hbV
   clear c0 c1 c2 c3 c4
   by_cases her : S=0
   rotate_left
   ·obtain ⟨z3,z4,f3,f4,_,G⟩:=HZ.out V5 (NX hb1 U)
    have d2 : (S != 0)=true:=by simpa using her
    have HF:=Z5 (HErr.out _ S (HCs.out.2.1 (k+1) S (by omega) HCt1.out her) her (G (.slice none 0 0) (.slice none 0 0)))
    clear her G
    go_wp2_with fail
    exact bodyPost_ret (v:=.tuple #[.agg #[.slice none 0 0,.slice none 0 0],.int .i64 S]) (by simp [results,results28,go_sem,z3,z4]) rfl HF.out
   ·subst her
    have K:=HI2.out.1.af (NX HV3.out.1 hbV)
    have hMA : gk (TA I.heap.size I.heap.size Z) V5 ar H T:=HMT.out.H7 λb hb=>Kl (HI2.out.1.lt b hb) HV3.out.1.size
    have F : tt.length=k:=Htl.out
    have B : T.length=H:=HMT.out.len
    have b1:=K.box.cell 1 rfl
    have g1:=K.box.frozen 1
    have t0:=HBx.out.cell 0 rfl
    have hto:=(K.af (an V5 (.cells #[.slice ar H cr] 103))).tow
    have hcn2:=bf V5 (.slice ar H cr) 103
    have b1':=br b1 (.cells #[.slice ar H cr] 103)
    rw [F] at b1 b1' hto
    have hs9 : I.heap.size<=(V5.alloc (.cells #[.slice ar H cr] 103)).heap.size:=by have:=U.size;simp;omega
    have hlt5 : I.heap.size<V5.heap.size:=K.box.1
    have HI5:=Z5 (JZ K (JZ hMA (JZ B U)))
    have Hlt5:=Z5 hlt5
    have Hatb:=Z5 K.at1
    clear K hMA B U hlt5
    go_wp2_with (at_builtin;refine vm rfl _ _ 46 103 rfl (.agg #[.slice none 0 0]) 24 underlying46 Gj rfl I.heap.size Z k ct _ rfl hto ⟨V5.heap.size,0,none⟩ 1 (.slice ar H cr) rfl hcn2 rfl (by omega) (by unfold maxLen;omega) hs9 ?_;intro a6 c6 w6 hown6 hgr6 hap6;have b6:=cT (ad:=⟨I.heap.size,1,none⟩) hgr6 b1' Hatb.out;have g6 : w6.frozen? ⟨I.heap.size,1,none⟩=false:=sx hgr6 (by simp;have:=Hlt5.out;omega) (ed Hlt5.out g1 _) Hatb.out)
    go_roundw
    case rel =>
     obtain ⟨K,hMA,B,U⟩:=HI5.out
     have hown6' : w6.ownsRow I.heap.size 103 1 (.slice a6 (tt.length+1) c6) (tt.length+1) (tt.map H6 ++ [H6 ⟨ar,cr,T⟩]):=by rw [F,show H6 ⟨ar,cr,T⟩ = .slice ar H cr by show Value.slice _ _ _=_;rw [B]];exact hown6
     obtain ⟨hI7,hbp⟩:=K.Jg (x:=⟨ar,cr,T⟩) (by show gk _ _ ar T.length T;rw [B];exact hMA) (by show T.length<=cr;rw [B];exact HCr.out) hown6' (by rw [F];exact hgr6) hap6
     have hbr7:=hbp _ U
     rw [F] at hI7 hbr7
     exact ⟨k+1,a6,c6,tt ++ [⟨ar,cr,T⟩],by omega,by go_num,hI7,by show _=_;rw [J0,F];rfl,by show _=_;rw [Ko,Htt.out,HTk.out];rfl,HCt1.out,hbr7⟩
    case measure=>simp [intOf] <;> omega
  ·obtain rfl : k=m:=by omega
   obtain ⟨z3,z4,f3,f4,_,G⟩:=HZ.out wr (NX hb1 E)
   have b0:=hI.box.cell 0 rfl
   have b1:=hI.box.cell 1 rfl
   rw [Htl.out] at b1
   have hI2:=(hI.set (p:=⟨w.heap.size+1,0,none⟩) (by show w.heap.size+1<I.heap.size;omega) (.slice aA k cA)).set (p:=⟨w.heap.size+1,1,none⟩) (by show w.heap.size+1<I.heap.size;omega) (.slice Z k ct)
   have q2:=hI2.trees
   rw [Htl.out,Htt.out] at q2
   have hMk : bu ((wr.setCell ⟨w.heap.size+1,0,none⟩ (.slice aA k cA)).setCell ⟨w.heap.size+1,1,none⟩ (.slice Z k ct)) aA k A:=by
    have hne : ∀j,0<k->(⟨w.heap.size+1,j,none⟩ : Addr).block ≠ ablk aA:=λj h0 e=>by have h3:=HLo.out h0;rw [<- e] at h3;have h4 : W.heap.size<=w.heap.size+1:=h3;omega
    have hz4 : (wr.setCell ⟨w.heap.size+1,0,none⟩ (.slice aA k cA)).cell? ⟨w.heap.size+1,1,none⟩=some (.slice none 0 0):=by rw [J7 _ _ _ _ (by simp)];exact z4
    exact (((HM.out.af E).mB z3 (hne 0) _).mB hz4 (hne 1) _)
   have HF:=Z5 (HCs.out.2.2.2 aA cA Z ct _ (HCs.out.2.2.1 Hct.out) hMk q2 (G (.slice aA k cA) (.slice Z k ct)))
   clear hI hI2 q2 G hMk
   go_wp2_with fail
   exact bodyPost_ret (v:=.tuple #[.agg #[.slice aA k cA,.slice Z k ct],.int .i64 0]) (by simp [results,results28,go_sem,z3,z4]) rfl HF.out
def kq (l : LI) : Bool:=l.all λy=>y == 0
theorem EU {l : LI} : kq l=true ↔ ∀y ∈ l,y=0:=by
 unfold kq;rw [Ky];constructor
 ·intro h y Z;simpa using h y Z
 ·intro h y Z;simpa using h y Z
theorem F9 (l : LI) : l.any (λy=>y != 0) = !(kq l):=by
 unfold kq;induction l with
 | nil=>rfl
 | cons x l Z =>
  rw [List.any_cons,Np,Z,Bool.not_and];rfl
theorem C1 (x : Int) (w : World) : Calls prog 265 #[.int .i64 x] w λe w'=>e = .returned (.bool (x != 0))/\w=w':=by go_enter func265,ntmps265;go_wp2;go_ret;exact ⟨rfl,rfl⟩
theorem xz (p : Int->Bool) (a : OA) (n c : Nat) (l : LI) (w : World) (hi : Ints w a n l) (I : ∀k,k<n->Calls prog 265 #[.int .i64 (nth l k)] w λe w'=>e = .returned (.bool (p (nth l k)))/\w=w') :
  Calls prog 111 #[.slice a n c,.func (.func 265) #[] #[]] w λe w'=>∃z : Int,e = .returned (.int .i64 z)/\(0<=z ↔ l.any p=true)/\w=w':=by
 have D:=hi.pl;have V:=hi.max;have E:=Z5 I;have H:=Z5 hi.len;unfold maxLen at V;clear I;go_enter func111,ntmps111;go_wp2_with fail;go_loop [8] (λK=>∃k : Nat,k<=n/\K = .int .i64 k/\Hid (∀j,j<k->p (nth l j)=false)) (λK=>n - (intOf K).toNat);case atStart=>exact ⟨0,JU _,rfl,λj N=>by omega⟩
 case round =>
  obtain ⟨k,B,rfl,Y⟩:=hrel
  by_cases X : k<n
  ·have A:=hi.cell k X
   have Z:=E.out k X
   obtain ⟨z,U⟩ : ∃z,p (nth l k)=z:=⟨_,rfl⟩
   rw [U] at Z
   have G:=Z5 Z
   cases z
   ·have F : Hid (∀j,j<k+1->p (nth l j)=false):=λj N=>by
     by_cases e : j=k
     ·subst e;exact U
     ·exact Y.out j (by omega)
    clear U Z Y
    go_wp2_with fail
    refine G.out.mono ?_
    rintro e w' ⟨rfl,rfl⟩
    go_wp2_with fail
    go_round
    case rel=>exact ⟨k+1,by omega,by go_num,F.out⟩
    case measure=>simp [intOf] <;> omega
   ·have S : Hid (l.any p=true):=by show _=_;rw [L5];exact ⟨nth l k,aI (by rw [H.out];exact X),U⟩
    clear U Z Y
    go_wp2_with fail
    refine G.out.mono ?_
    rintro e w' ⟨rfl,rfl⟩
    go_wp2_with fail
    go_ret
    exact ⟨k,rfl,⟨λ_=>by first | exact S.out | exact List.any_eq_true.1 S.out,λ_=>LO _⟩,rfl⟩
  ·obtain rfl : k=n:=by omega
   have S : Hid (l.any p=false):=by show _=_;rw [Mf];intro x C;obtain ⟨j,N,rfl⟩:=List.mem_iff_getElem.1 C;have:=Y.out j (by rw [<- H.out];exact N);rw [aj N] at this;rw [this];decide
   go_wp2_with fail
   go_ret
   exact ⟨-1,rfl,⟨λh=>absurd h (by omega),λh=>by have h2 : l.any p=true:=(by first | exact h | exact List.any_eq_true.2 h);rw [S.out] at h2;exact absurd h2 (by decide)⟩,rfl⟩
theorem rH (p : Int->Bool) (a : OA) (n c : Nat) (l : LI) (w : World) (hi : Ints w a n l) (V : ∀k,k<n->Calls prog 265 #[.int .i64 (nth l k)] w λe w'=>e = .returned (.bool (p (nth l k)))/\w=w') :
  Calls prog 53 #[.slice a n c,.func (.func 265) #[] #[]] w λe w'=>e = .returned (.bool (l.any p))/\w=w':=by
 have U:=Z5 (xz p a n c l w hi V);clear V;go_enter func53,ntmps53;go_wp2_with fail;refine U.out.mono ?_;rintro e w' ⟨z,rfl,Z,rfl⟩;by_cases h0 : 0<=z
 ·have Y : Hid (l.any p=true):=Z.1 h0;have X : decide (0<=z)=true:=by simpa using h0
  clear Z h0;go_wp2_with fail;go_ret;exact ⟨aU Y.out.symm,rfl⟩
 ·have Y : Hid (l.any p=false):=by
   show _=_;cases h : l.any p
   ·rfl
   ·exact absurd (Z.2 h) h0
  have X : decide (0<=z)=false:=by simpa using h0
  clear Z h0;go_wp2_with fail;go_ret;exact ⟨aU Y.out.symm,rfl⟩
theorem BW (a : OA) (n c : Nat) (l : LI) (w : World) (hi : Ints w a n l) :
  Calls prog 243 #[.slice a n c] w λe w'=>e = .returned (.bool (kq l))/\w=w':=by
 have Z:=rH (λy=>y != 0) a n c l w hi λk V=>C1 (nth l k) w;rw [F9] at Z;obtain ⟨z,Y⟩ : ∃z,kq l=z:=⟨_,rfl⟩
 rw [Y] at Z ⊢;have X:=Z5 Z;clear Z Y;go_enter func243,ntmps243;go_wp2_with fail;refine X.out.mono ?_;rintro e w' ⟨rfl,rfl⟩;cases z
 ·go_wp2_with fail;go_ret;exact ⟨rfl,rfl⟩
 ·go_wp2_with fail;go_ret;exact ⟨rfl,rfl⟩
theorem ui {w : World} {b : Nat} {G : cX} (m : Nat) (a : OA) (n c : Nat) (R : Ll) (ap : OA) (cp : Nat) (V : LI) (H : OA) (F : Nat) (x : LI)
  (h : ee w b G) (hi : bu w a n R) (D : Ints w ap n V) (A : Ints w H m x) (X : BS.Ok G.El m ⟨R,V⟩) (S : Vc G.El m x) (B : n<=1000000) (hm : m<=1000000) :
  Calls prog 192 #[.agg #[.pointer (some ⟨b,0,none⟩),.int .i64 m,.slice a n c,.slice ap n cp],.slice H m F] w
   λe w'=>e = .returned (.bool (kq (redTo G.ops R V x n)))/\OC w w':=by
 obtain ⟨z,N⟩ : ∃z,kq (redTo G.ops R V x n)=z:=⟨_,rfl⟩
 rw [N];have j:=Z5 N;clear N;go_enter func192,ntmps192;go_wp2_with fail;obtain ⟨W,K⟩ : ∃W : World,W=w.alloc (.cells #[.pointer (some ⟨b,0,none⟩),.int .i64 m,.slice a n c,.slice ap n cp] 210):=⟨_,rfl⟩
 rw [<- K];have Z : OC w W:=by rw [K];exact an _ _
 clear K;refine (yX m a n c R ap cp V H F x (h.af Z) (hi.af Z) (D.af Z) (A.af Z) X S B hm).mono ?_;rintro e C ⟨a1,c1,v2,rfl,U,I⟩;have Y:=BW a1 m c1 _ C U;rw [j.out] at Y;have E:=Z5 Y;have hF:=NX Z I;clear U X S Y;go_wp2_with fail;refine E.out.mono ?_;rintro e w2 ⟨rfl,rfl⟩;go_wp2_with fail;go_ret;exact ⟨rfl,hF⟩
def hasB (P M : Int) (mod : LI) (m : Nat) (L : Ll) (x : LI) : Bool:=kq (redTo (ah P M.toNat mod).ops L (bh (ah P M.toNat mod) L m) x L.length)
theorem sQ (P M : Int) (am : OA) (mn cm : Nat) (mod : LI) (m : Nat) (a : OA) (n c : Nat) (L : Ll) (ax : OA) (cx : Nat) (x : LI) (w : World) (hmod : Ints w am mn mod) (hi : bu w a n L) (hx : Ints w ax m x)
  (hE : aJ P M mod m L=0) (hxe : Vc (ah P M.toNat mod).El m x) :
  Calls prog 135 #[.agg #[.int .i64 P,.int .i64 M,.slice am mn cm],.agg #[.int .i64 m,.slice a n c],.slice ax m cx] w λe w'=>e = .returned (.tuple #[.bool (hasB P M mod m L x),.int .i64 0])/\OC w w':=by
 obtain ⟨z,A⟩ : ∃z,hasB P M mod m L x=z:=⟨_,rfl⟩
 rw [A];unfold hasB at A;have S:=hi.len;obtain ⟨m',em,hm1,hm64,F,hR⟩:=aY hE;obtain rfl : m=m':=by omega
 have hn : n<=256:=by rw [<- S];exact (cZ hE).choose_spec.2.2.2.1
 obtain ⟨h5,h6⟩:=eB (aN hE).2.2.2;rw [JQ] at h6;have N : bH (ah P M.toNat mod).ops m L=L:=h6;have Z:=(bS F hR).1;have hlen:=bY F hR;rw [N] at Z hlen;have hOk : BS.Ok (ah P M.toNat mod).El m ⟨L,bh (ah P M.toNat mod) L m⟩:=(mW hR Z hlen).ok;have hpl : (bh (ah P M.toNat mod) L m).length=n:=by rw [<- S];exact hlen.symm
 rw [S] at A;have H0:=Z5 A;have H:=Z5 hOk;have Hsp:=Z5 (aN hE).2.2.2;have B:=Z5 hxe;clear A hOk h5 h6 N Z hlen em F hR hE S hxe;go_enter func135,ntmps135;go_wp2_with fail;obtain ⟨W,hW⟩ : ∃W : World,W=(w.alloc (.cells #[.int .i64 P,.int .i64 M,.slice am mn cm] 24)).alloc (.cells #[.int .i64 m,.slice a n c] 94):=⟨_,rfl⟩
 rw [<- hW];have I : OC w W:=by rw [hW];exact bT _ _ _
 clear hW;refine (jl P M am mn cm mod m a n c L W (hmod.af I) (hi.af I)).mono ?_;rintro e w1 ⟨hb1,⟨he,_⟩ | ⟨_,m',b,hm',ap,cp,rfl,hG,hbl,hP⟩⟩
 ·exact absurd Hsp.out he
 obtain rfl : m=m':=by omega
 have Y:=NX I hb1;have U:=hP.ints;rw [hpl] at U ⊢;obtain ⟨Pv,X⟩ : ∃Pv,bh (ah P M.toNat mod) L m=Pv:=⟨_,rfl⟩
 obtain ⟨G,D⟩ : ∃G,ah P M.toNat mod=G:=⟨_,rfl⟩
 rw [D] at X hG H0 H B;rw [X] at H0 H;have hp2 : Ints w1 ap n Pv:=by rw [D,X] at U;exact U
 have C:=an w1 (.cells #[.pointer (some ⟨b,0,none⟩),.int .i64 m,.slice a n c,.slice ap n cp] 210);have K:=NX Y C;have HWd:=Z5 (vD m a n c ap n cp ax cx x (hG.gf.af C) (hx.af K) B.out);have HHs : Hid (∀V,OC w1 V->Calls prog 192 #[.agg #[.pointer (some ⟨b,0,none⟩),.int .i64 m,.slice a n c,.slice ap n cp],.slice ax m cx] V λe w'=>e = .returned (.bool z)/\OC V w'):=λV hV=>by rw [<- H0.out];exact ui m a n c L ap cp Pv ax cx x (hG.gf.af hV) (hi.af (NX Y hV)) (hp2.af hV) (hx.af (NX Y hV)) H.out B.out (by omega) (by omega)
 have k0:=NY w1 [.pointer (some ⟨b,0,none⟩),.int .i64 m,.slice a n c,.slice ap n cp] 210 rfl;have HX:=Z5 k0;clear hpl X D hG hbl hP U hp2 hm' k0;go_wp2_with fail;refine HWd.out.mono ?_;rintro e w3 ⟨rfl,E⟩;have x3:=HX.out.af E;have k0:=x3.cell 0 rfl;have k1:=x3.cell 1 rfl;have k2:=x3.cell 2 rfl;have k3:=x3.cell 3 rfl;have Hh:=Z5 (HHs.out w3 (NX C E));have j:=NX K E;clear HWd HHs x3;go_wp2_with fail;refine Hh.out.mono ?_;rintro e w4 ⟨rfl,hb4⟩;have hF:=NX j hb4;go_wp2_with fail;go_ret2;exact ⟨rfl,hF⟩
theorem sg (P M : Int) (am : OA) (U cm : Nat) (mod : LI) (N : Int) (a : OA) (n c : Nat) (L : Ll) (E : OA) (nx D : Nat) (x : LI) (w : World) (X : Ints w am U mod) (hi : bu w a n L) (j : Ints w E nx x) :
  Calls prog 134 #[.agg #[.int .i64 P,.int .i64 M,.slice am U cm,.int .i64 N,.slice a n c],.slice E nx D] w λe w'=>e = .returned (.int .i64 (fD P M mod N L x))/\OC w w':=by
 go_enter func134,ntmps134;go_wp2_with fail;obtain ⟨W,I⟩ : ∃W : World,W=w.alloc (.cells #[.int .i64 P,.int .i64 M,.slice am U cm,.int .i64 N,.slice a n c] 27):=⟨_,rfl⟩
 rw [<- I];have V : OC w W:=by rw [I];exact an _ _
 have G : aO W w.heap.size [.int .i64 P,.int .i64 M,.slice am U cm,.int .i64 N,.slice a n c]:=by rw [I];exact NY _ _ _ rfl
 clear I;refine (df P M am U cm mod N a n c L W (X.af V) (hi.af V)).mono ?_;rintro e z ⟨rfl,K⟩;have Z:=NX V K;have S:=G.af K;have c0:=S.cell 0 rfl;have c1:=S.cell 1 rfl;have c2:=S.cell 2 rfl;have c3:=S.cell 3 rfl;by_cases Y : aJ P M mod N L=0;rotate_left
 ·have B : (aJ P M mod N L != 0)=true:=by simpa using Y
  have F : Hid (fD P M mod N L x=aJ P M mod N L):=JR Y;clear Y G S;generalize aJ P M mod N L=er at *;go_wp2_with fail;go_ret;exact ⟨aK F.out.symm,Z⟩
 obtain ⟨m,rfl,_⟩:=cZ Y;have C : ((ah P M.toNat mod).q : Int)=aH P M:=by obtain ⟨m1,e1,_,h1,_⟩:=fE (aN Y).1;rw [show M.toNat=m1 by omega];exact h1
 have F : Hid (fD P M mod m L x=ld (ah P M.toNat mod).q x m):=by show _=_;rw [fD,JT Y,C,JQ]
 have A:=Z5 (sM P M am U cm mod E nx D x m z (X.af Z) (j.af Z) (aN Y).1);rw [Y];clear Y G S C;go_wp2_with fail;refine A.out.mono ?_;rintro e w2 ⟨rfl,H⟩;have hF:=NX Z H;go_wp2_with fail;go_ret;exact ⟨aK F.out.symm,hF⟩
theorem lE {P M : Int} {mod : LI} {N : Int} {L : Ll} {x : LI} (h : fD P M mod N L x=0) : aJ P M mod N L=0/\Vc (ah P M.toNat mod).El N.toNat x:=by
 unfold fD at h;by_cases Z : aJ P M mod N L=0
 ·rw [JT Z] at h;have V : ((ah P M.toNat mod).q : Int)=aH P M:=by obtain ⟨m1,e1,_,h1,_⟩:=fE (aN Z).1;rw [show M.toNat=m1 by omega];exact h1
  refine ⟨Z,?_⟩;unfold ld at h;by_cases Y : x.length=N.toNat
  ·rw [JT Y] at h;refine ⟨Y,λy X=>?_⟩;unfold gX at h;by_cases he : ez (aH P M) x=true
   ·unfold ez at he;have h1:=List.all_eq_true.1 he y X;unfold gV at h1;simp at h1;exact ⟨h1.1,by have:=h1.2;omega⟩
   ·rw [JR he] at h;exact absurd h (by decide)
  ·rw [JR Y] at h;exact absurd h (by decide)
 ·rw [JR Z] at h;exact absurd h Z
def jX (P M : Int) (mod : LI) (N : Int) (L : Ll) (x : LI) : Bool:=if fD P M mod N L x=0 then hasB P M mod N.toNat L x else false
theorem uw (P M : Int) (am : OA) (Y cm : Nat) (mod : LI) (N : Int) (a : OA) (n c : Nat) (L : Ll) (D : OA) (nx C : Nat) (x : LI) (w : World) (Z : Ints w am Y mod) (hi : bu w a n L) (hx : Ints w D nx x) :
  Calls prog 81 #[.agg #[.int .i64 P,.int .i64 M,.slice am Y cm,.int .i64 N,.slice a n c],.slice D nx C] w λe w'=>e = .returned (.tuple #[.bool (jX P M mod N L x),.int .i64 (fD P M mod N L x)])/\OC w w':=by
 have S : Hid (fD P M mod N L x=0->∀V,OC w V->Calls prog 135 #[.agg #[.int .i64 P,.int .i64 M,.slice am Y cm],.agg #[.int .i64 N,.slice a n c],.slice D nx C] V λe w'=>e = .returned (.tuple #[.bool (jX P M mod N L x),.int .i64 0])/\OC V w'):=λh V U=>by
  obtain ⟨E,F⟩:=lE h;rw [jX,JT h];obtain ⟨m,rfl,_⟩:=cZ E;rw [JQ] at F ⊢;have e1 : nx=m:=by rw [<- hx.len];exact F.1
  subst e1;exact sQ P M am Y cm mod nx a n c L D C x V (Z.af U) (hi.af U) (hx.af U) E F
 have G : Hid (∀V,OC w V->Calls prog 134 #[.agg #[.int .i64 P,.int .i64 M,.slice am Y cm,.int .i64 N,.slice a n c],.slice D nx C] V λe w'=>e = .returned (.int .i64 (fD P M mod N L x))/\OC V w'):=λV U =>
  sg P M am Y cm mod N a n c L D nx C x V (Z.af U) (hi.af U) (hx.af U)
 have HN : Hid (fD P M mod N L x ≠ 0->jX P M mod N L x=false):=λh=>by rw [jX,JR h]
 clear Z hi hx;obtain ⟨er,j⟩ : ∃er,fD P M mod N L x=er:=⟨_,rfl⟩
 obtain ⟨z,hz⟩ : ∃z,jX P M mod N L x=z:=⟨_,rfl⟩
 rw [j] at G HN S ⊢;rw [hz] at HN S ⊢;clear j hz;go_enter func81,ntmps81;go_wp2_with fail;obtain ⟨W,hW⟩ : ∃W : World,W=w.alloc (.cells #[.int .i64 P,.int .i64 M,.slice am Y cm,.int .i64 N,.slice a n c] 27):=⟨_,rfl⟩
 rw [<- hW];have I : OC w W:=by rw [hW];exact an _ _
 have x0 : aO W w.heap.size [.int .i64 P,.int .i64 M,.slice am Y cm,.int .i64 N,.slice a n c]:=by rw [hW];exact NY _ _ _ rfl
 have HX:=Z5 x0;have HbW:=Z5 I;clear hW x0;refine (G.out W I).mono ?_;rintro e w1 ⟨rfl,H⟩;have X:=NX HbW.out H;by_cases E : er=0;rotate_left
 ·have hE2 : (er != 0)=true:=by simpa using E
  have HN2:=Z5 (HN.out E);clear E;go_wp2_with fail;go_ret2;exact ⟨by rw [HN2.out];rfl,X⟩
 subst E;have A:=Z5 (S.out rfl);have hS : ∀V,OC w1 V->V.cell? ⟨w.heap.size,0,none⟩=some (.int .i64 P)/\V.cell? ⟨w.heap.size,1,none⟩=some (.int .i64 M)/\V.cell? ⟨w.heap.size,2,none⟩=some (.slice am Y cm)/\V.cell? ⟨w.heap.size,3,none⟩=some (.int .i64 N)/\V.cell? ⟨w.heap.size,4,none⟩=some (.slice a n c)/\OC w1 V:=λV U=>by have B:=HX.out.af (NX H U);exact ⟨B.cell 0 rfl,B.cell 1 rfl,B.cell 2 rfl,B.cell 3 rfl,B.cell 4 rfl,U⟩
 have HS:=Z5 hS;have K:=Z5 X;clear hS G I H X S HN;go_wp2_with fail;go_region_held3 (λV=>V.cell? ⟨w.heap.size,0,none⟩=some (.int .i64 P)/\V.cell? ⟨w.heap.size,1,none⟩=some (.int .i64 M)/\V.cell? ⟨w.heap.size,2,none⟩=some (.slice am Y cm)/\V.cell? ⟨w.heap.size,3,none⟩=some (.int .i64 N)/\V.cell? ⟨w.heap.size,4,none⟩=some (.slice a n c)/\OC w1 V)
  ((refine HS.out _ ?_;first | exact (JP _ _).drew | (go_split_ands;exact NX (by assumption) (by assumption))))
  (first
   | (go_at_call 91;((with_reducible refine (mL P M am Y cm N a n c _).mono ?_);rintro e w6 ⟨rfl,hb6⟩))
   | (go_at_call 135;((with_reducible refine (A.out _ (NX K.out (by go_split_ands;assumption))).mono ?_);rintro e w8 ⟨rfl,hb8⟩)))
 all_goals (
  go_wp2_with fail
  go_ret2
  exact ⟨rfl,NX K.out (by go_split_ands;assumption)⟩)
section
variable {O : aM} {El : Int->Prop} {m : Nat} {R : Ll} {Q : LI}
theorem mR {l : LI} : kq l=true ↔ ∀k,k<l.length->nth l k=0:=by
 rw [EU];constructor
 ·intro h k Z;exact h _ (aI Z)
 ·intro h y Y;obtain ⟨k,Z,rfl⟩:=List.mem_iff_getElem.1 Y;have h1:=h k Z;rwa [aj Z] at h1
theorem we (F : bI O El) (S : bs El m R) (Z : BS.Ok El m ⟨R,Q⟩) {v : LI} (U : Vc El m v) : ∀k,k<=R.length->RS O El m R (λx=>nth (redTo O R Q v k) x)->RS O El m R (λx=>nth v x)
 | 0,_,h=>h
 | k+1,N,h=>by have hu : Vc El m (redTo O R Q v k):=Oj F Z U k (show k<=R.length by omega);have X : (nth Q k).toNat<m:=Z.pl (show k<R.length by omega);have V : Vc El m (ai R k):=Z.row (show k<R.length by omega);refine we F S Z U k (by omega) ((Ox F S h (.row F (i:=k) (by omega)) (hu.at X)).congr λx Y=>?_);have h1:=hu.at Y;have h2:=F.cl.mul _ _ (hu.at X) (V.at Y);rw [redTo,e9 F hu V X Y,F.mul_comm _ _ (V.at Y) (hu.at X),F.add_assoc _ _ _ h1 (F.cl.neg _ h2) h2,F.j6 h2,F.add_zero _ h1]
def eU (O : aM) (R : Ll) (v : LI) : Nat->LI
 | 0=>v
 | k+1=>bN O (eU O R v k) (O.neg (nth v (fnz (ai R k)))) (ai R k)
theorem ER (F : bI O El) (N : bs El m R) (X : j5 R Q m) (V : mb R Q) {k : Nat} (Y : k<Q.length) (h1 : (1 : Int) ≠ 0) : fnz (ai R k)=(nth Q k).toNat:=by have Z : k<R.length:=Kl Y X.le;have hb:=X.lt k Y;have S:=N.row Z;refine vd _ _ (by rw [S.1];omega) (λj U=>V.lead k j Y U) ?_;rw [X.one k k Y Z,JT rfl];exact h1
theorem mD (F : bI O El) (X : bs El m R) {v : LI} (Z : Vc El m v) (U : ∀k,k<R.length->fnz (ai R k)<m) : ∀k,k<=R.length->Vc El m (eU O R v k)
 | 0,_=>Z
 | k+1,N=>by
  have Y:=mD F X Z U k (by omega);have V : Vc El m (ai R k):=X.row (i:=k) (by omega);have S : (ai R k).length=(eU O R v k).length:=by rw [V.1,Y.1]
  rw [eU];exact ⟨by rw [cR _ _ _ _ S];exact Y.1,lk F.cl Y.2 V.2 (F.cl.neg _ (Z.at (U k (by omega))))⟩
theorem l8 (F : bI O El) (S : bs El m R) {v : LI} (Y : Vc El m v) (U : ∀k,k<R.length->fnz (ai R k)<m) {k : Nat} (X : k<R.length) {x : Nat} (V : x<m) :
  nth (eU O R v (k+1)) x=O.add (nth (eU O R v k) x) (O.mul (O.neg (nth v (fnz (ai R k)))) (nth (ai R k) x)):=by
 have Z:=mD F S Y U k (by omega);have K:=S.row X;have N:=F.cl.neg _ (Y.at (U k X));rw [eU,fb _ _ _ _ _ (by rw [K.1,Z.1]) (by rw [Z.1];exact V)];split
 ·rename_i h0;rw [h0,F.cQ N,F.add_zero _ (Z.at V)]
 ·rfl
theorem xO (F : bI O El) (Z : bs El m R) {v : LI} (Y : Vc El m v) (X : ∀k,k<R.length->fnz (ai R k)<m) (h : RS O El m R (λx=>nth v x)) : ∀k,k<=R.length->RS O El m R (λx=>nth (eU O R v k) x)
 | 0,_=>h
 | k+1,S=>by have V:=F.cl.neg _ (Y.at (X k (by omega)));refine (Ox F Z (xO F Z Y X h k (by omega)) (.row F (i:=k) (by omega)) V).congr λx U=>?_;rw [l8 F Z Y X (by omega) U,F.mul_comm _ _ V (N2 (Z.row (i:=k) (by omega)) U)]
theorem tV (F : bI O El) (X : bs El m R) {v : LI} (V : Vc El m v) (S : ∀k,k<R.length->fnz (ai R k)<m) : ∀k,k<=R.length->RS O El m R (λx=>nth (eU O R v k) x)->RS O El m R (λx=>nth v x)
 | 0,_,h=>h
 | k+1,K,h=>by have Z:=V.at (S k (by omega));have N:=F.cl.neg _ Z;have U : Vc El m (ai R k):=X.row (i:=k) (by omega);have hu:=mD F X V S k (by omega);refine tV F X V S k (by omega) ((Ox F X h (.row F (i:=k) (by omega)) Z).congr λx Y=>?_);have h1:=hu.at Y;have h2:=F.cl.mul _ _ N (U.at Y);have h3:=F.cl.mul _ _ (U.at Y) Z;rw [l8 F X V S (by omega) Y,F.add_assoc _ _ _ h1 h2 h3,F.mul_comm _ _ N (U.at Y),F.mul_neg (U.at Y) Z,F.j6 h3,F.add_zero _ h1]
theorem re (F : bI O El) (I : bs El m R) (U : j5 R Q m) (hlen : R.length=Q.length) (Z : ∀k,k<R.length->fnz (ai R k)=(nth Q k).toNat) {v : LI} (S : Vc El m v) {j : Nat} (H : j<R.length) : ∀k,k<=R.length ->
  nth (eU O R v k) (nth Q j).toNat=if j<k then 0 else nth v (nth Q j).toNat
 | 0,_=>by rw [JR (by omega)];rfl
 | k+1,N=>by
  have K : ∀k,k<R.length->fnz (ai R k)<m:=λk N=>by rw [Z k N];have:=U.lt k (by omega);omega
  have hb:=U.lt j (by omega);have X : (nth Q j).toNat<m:=by omega
  have Y:=S.at X;have V:=S.at (K k (by omega));have G:=re F I U hlen Z S H k (by omega);rw [l8 F I S K (by omega) X,G,U.one j k (by omega) (by omega)];by_cases e : k=j
  ·subst e;rw [JR (by omega),JT rfl,JT (by omega),F.gR (F.cl.neg _ V),Z k (by omega),F.add_neg _ Y]
  ·rw [JR e,F.cQ (F.cl.neg _ V)];by_cases h1 : j<k
   ·rw [JT h1,JT (by omega),F.add_zero _ F.zero]
   ·rw [JR h1,JR (by omega),F.add_zero _ Y]
end
section
variable {P M : Int} {mod : LI} {m : Nat} {L : Ll}
theorem tq (N : aJ P M mod m L=0) : j5 L (bh (ah P M.toNat mod) L m) m/\mb L (bh (ah P M.toNat mod) L m)/\L.length=(bh (ah P M.toNat mod) L m).length:=by
 obtain ⟨I,e,H,U,F,K⟩:=aY N;obtain rfl : m=I:=by omega
 have S:=(eB (aN N).2.2.2).2;rw [JQ] at S;have V : bH (ah P M.toNat mod).ops m L=L:=S;obtain ⟨X,Y⟩:=bS F K;have Z:=bY F K;rw [V] at X Z Y;exact ⟨X,Y,Z⟩
theorem ES (U : aJ P M mod m L=0) {x : LI} (Y : Vc (ah P M.toNat mod).El m x) : hasB P M mod m L x=true ↔ RS (ah P M.toNat mod).ops (ah P M.toNat mod).El m L (λi=>nth x i):=by
 obtain ⟨N,e,K,V,F,X⟩:=aY U;obtain rfl : m=N:=by omega
 obtain ⟨S,I,hlen⟩:=tq U;have hI:=mW X S hlen;have Z : Vc (ah P M.toNat mod).El m (redTo (ah P M.toNat mod).ops L (bh (ah P M.toNat mod) L m) x L.length):=Oj F hI.ok Y L.length (JO _);unfold hasB;rw [mR,Z.1];constructor
 ·intro h;exact we F X hI.ok Y L.length (JO _) (Oz F h)
 ·intro h;exact EF F X S hlen Y h
theorem wH (K : aJ P M mod m L=0) {x : LI} (U : Vc (ah P M.toNat mod).El m x) : (∀k,k<L.length->fnz (ai L k)<m) /\
  (kq (eU (ah P M.toNat mod).ops L x L.length)=true ↔ RS (ah P M.toNat mod).ops (ah P M.toNat mod).El m L (λi=>nth x i)):=by
 obtain ⟨I,e,G,N,F,Z⟩:=aY K;obtain rfl : m=I:=by omega
 obtain ⟨V,H,hlen⟩:=tq K;have Y : ∀k,k<L.length->fnz (ai L k)=(nth (bh (ah P M.toNat mod) L m) k).toNat:=λk S=>ER F Z V H (by omega) (by decide);have X : ∀k,k<L.length->fnz (ai L k)<m:=λk S=>by rw [Y k S];have:=V.lt k (by omega);omega
 refine ⟨X,?_⟩;rw [mR,(mD F Z U X L.length (JO _)).1];constructor
 ·intro h;exact tV F Z U X L.length (JO _) (Oz F h)
 ·intro h;exact qi F Z V (xO F Z U X h L.length (JO _)) λj E=>by rw [re F Z V hlen Y U (by omega) L.length (JO _),JT (by omega)]
theorem Ew (Z : aJ P M mod m L=0) {x : LI} (Y : Vc (ah P M.toNat mod).El m x) : kq (eU (ah P M.toNat mod).ops L x L.length)=hasB P M mod m L x:=by have h1:=ES Z Y;have h2:=(wH Z Y).2;cases h3 : kq (eU (ah P M.toNat mod).ops L x L.length) <;> cases X : hasB P M mod m L x <;> simp_all
end
section
open Go.RowKit
end
end Go.Proofs.YthglbncgemdcbaaGreat
