import Derived.Test.YthglbncgemdcbaaGreatBO22
namespace Go.Proofs.YthglbncgemdcbaaGreat
set_option linter.all false
set_option maxRecDepth 100000
set_option maxHeartbeats 8000000
open Go.RowKit Go.Proofs.Tryz
def BB (l:Lz):Bool:=l.all λy=>y == 0
theorem JZ (l:Lz):l.any (λy=>y != 0) = !(BB l):=by
 unfold BB;induction l with
 | nil=>rfl
 | cons x l Z =>
  rw [List.any_cons,Qx,Z,Bool.not_and];rfl
theorem FZ (x:Int) (w:ej):Calls prog 265 #[cG x] w λe w'=>e = .returned (.bool (x != 0))/\w=w':=by go_enter func265,ntmps265;go_wp2;go_ret;exact ⟨rfl,rfl⟩
theorem AF (p:Int->Bool) (a:OA) (n c:Nat) (l:Lz) (w:ej) (hi:Ints w a n l) (I:∀k,k<n->Calls prog 265 #[cG (nth l k)] w λe w'=>e = .returned (.bool (p (nth l k)))/\w=w') :
  Calls prog 111 #[.slice a n c,.func (.func 265) #[] #[]] w λe w'=>∃z:Int,e = .returned (cG z)/\(0<=z ↔ l.any p=true)/\w=w':=by
 have F:=hi.pl;have V:=hi.max;have E:=Z5 I;have G:=Z5 hi.len;unfold maxLen at V;clear I;go_enter func111,ntmps111;go_wp2_with fail;go_loop [8] (λK=>∃k:Nat,k<=n/\K = cG k/\Hid (∀j,j<k->p (nth l j)=false)) (λK=>n - (intOf K).toNat);case atStart=>exact ⟨0,Nb _,rfl,λj N=>by omega⟩
 case round =>
  obtain ⟨k,A,rfl,Y⟩:=hrel
  by_cases X:k<n
  ·have B:=hi.cell k X
   have Z:=E k X
   obtain ⟨z,U⟩:∃z,p (nth l k)=z:=⟨_,rfl⟩
   rw [U] at Z
   have H:=Z5 Z
   cases z
   ·have C:Hid (∀j,j<k+1->p (nth l j)=false):=λj N=>by
     by_cases e:j=k
     ·subst e;exact U
     ·exact Y j (by omega)
    clear U Z Y
    go_wp2_with fail
    refine H.mono ?_
    rintro e w' ⟨rfl,rfl⟩
    go_wp2_with fail
    go_round
    case rel=>exact ⟨k+1,by omega,by go_num,C⟩
    case measure=>simp [intOf]<;>omega
   ·have S:Hid (l.any p=true):=by show _=_;rw [PG];exact ⟨nth l k,aG (by rw [G.out];exact X),U⟩
    clear U Z Y
    go_wp2_with fail
    refine H.mono ?_
    rintro e w' ⟨rfl,rfl⟩
    go_wp2_with fail
    go_ret
    exact ⟨k,rfl,⟨λ_=>by first|exact S.out|exact List.any_eq_true.1 S.out,λ_=>Pj _⟩,rfl⟩
  ·obtain rfl:k=n:=by omega
   have S:Hid (l.any p=false):=by show _=_;rw [P0];intro x D;obtain ⟨j,N,rfl⟩:=List.mem_iff_getElem.1 D;have:=Y j (by rw [<- G.out];exact N);rw [an N] at this;rw [this];decide
   go_wp2_with fail
   go_ret
   exact ⟨-1,rfl,⟨λh=>absurd h (by omega),λh=>by have h2:l.any p=true:=(by first|exact h|exact List.any_eq_true.2 h);rw [S.out] at h2;exact absurd h2 (by decide)⟩,rfl⟩
theorem tN (p:Int->Bool) (a:OA) (n c:Nat) (l:Lz) (w:ej) (hi:Ints w a n l) (V:∀k,k<n->Calls prog 265 #[cG (nth l k)] w λe w'=>e = .returned (.bool (p (nth l k)))/\w=w') :
  Calls prog 53 #[.slice a n c,.func (.func 265) #[] #[]] w λe w'=>e = .returned (.bool (l.any p))/\w=w':=by
 have U:=Z5 (AF p a n c l w hi V);clear V;go_enter func53,ntmps53;go_wp2_with fail;refine U.mono ?_;rintro e w' ⟨z,rfl,Z,rfl⟩;by_cases h0:0<=z
 ·have Y:Hid (l.any p=true):=Z.1 h0;have X:decide (0<=z)=true:=by simpa using h0
  clear Z h0;go_wp2_with fail;go_ret;exact ⟨ba Y.symm,rfl⟩
 ·have Y:Hid (l.any p=false):=by
   show _=_;cases h:l.any p
   ·rfl
   ·exact absurd (Z.2 h) h0
  have X:decide (0<=z)=false:=by simpa using h0
  clear Z h0;go_wp2_with fail;go_ret;exact ⟨ba Y.symm,rfl⟩
theorem Fo (a:OA) (n c:Nat) (l:Lz) (w:ej) (hi:Ints w a n l) :
  Calls prog 243 #[.slice a n c] w λe w'=>e = .returned (.bool (BB l))/\w=w':=by
 have Z:=tN (λy=>y != 0) a n c l w hi λk V=>FZ (nth l k) w;rw [JZ] at Z;obtain ⟨z,Y⟩:∃z,BB l=z:=⟨_,rfl⟩
 rw [Y] at Z ⊢;have X:=Z5 Z;clear Z Y;go_enter func243,ntmps243;go_wp2_with fail;refine X.mono ?_;rintro e w' ⟨rfl,rfl⟩;cases z
 ·go_wp2_with fail;go_ret;exact ⟨rfl,rfl⟩
 ·go_wp2_with fail;go_ret;exact ⟨rfl,rfl⟩
theorem wh {w:ej} {b:Nat} {G:bX} (m:Nat) (a:OA) (n c:Nat) (R:ZZ) (ap:OA) (cp:Nat) (U:Lz) (N:OA) (F:Nat) (x:Lz)
  (h:dg w b G) (hi:bP w a n R) (C:Ints w ap n U) (A:Ints w N m x) (S:BS.Ok G.El m ⟨R,U⟩) (X:Vc G.El m x) (E:n<=1000000) (hm:m<=1000000) :
  Calls prog 192 #[.agg #[ea b 0,cG m,.slice a n c,.slice ap n cp],.slice N m F] w
   λe w'=>e = .returned (.bool (BB (redTo G.ops R U x n)))/\SJ w w':=by
 obtain ⟨z,H⟩:∃z,BB (redTo G.ops R U x n)=z:=⟨_,rfl⟩
 rw [H];have r:=Z5 H;clear H;go_enter func192,ntmps192;go_wp2_with fail;obtain ⟨W,I⟩:∃W:ej,W=w.alloc (.cells #[ea b 0,cG m,.slice a n c,.slice ap n cp] 210):=⟨_,rfl⟩
 rw [<- I];have Z:SJ w W:=by rw [I];exact aD _ _
 clear I;refine (BH m a n c R ap cp U N F x (h.ai Z) (hi.ai Z) (C.ai Z) (A.ai Z) S X E hm).mono ?_;rintro e D ⟨a1,c1,v2,rfl,V,K⟩;have Y:=Fo a1 m c1 _ D V;rw [r.out] at Y;have B:=Z5 Y;have hF:=RU Z K;clear V S X Y;go_wp2_with fail;refine B.mono ?_;rintro e j ⟨rfl,rfl⟩;go_wp2_with fail;go_ret;exact ⟨rfl,hF⟩
def hasB (P M:Int) (mod:Lz) (m:Nat) (L:ZZ) (x:Lz):Bool:=BB (redTo (ah P M.toNat mod).ops L (bu (ah P M.toNat mod) L m) x L.length)
theorem uG (P M:Int) (am:OA) (mn cm:Nat) (mod:Lz) (m:Nat) (a:OA) (n c:Nat) (L:ZZ) (ax:OA) (cx:Nat) (x:Lz) (w:ej) (hmod:Ints w am mn mod) (hi:bP w a n L) (hx:Ints w ax m x)
  (j:aI P M mod m L=0) (hxe:Vc (ah P M.toNat mod).El m x) :
  Calls prog 135 #[.agg #[cG P,cG M,.slice am mn cm],.agg #[cG m,.slice a n c],.slice ax m cx] w λe w'=>e = ec #[.bool (hasB P M mod m L x),cG 0]/\SJ w w':=by
 obtain ⟨z,A⟩:∃z,hasB P M mod m L x=z:=⟨_,rfl⟩
 rw [A];unfold hasB at A;have U:=hi.len;obtain ⟨m',em,hm1,hm64,F,hR⟩:=aT j;obtain rfl:m=m':=by omega
 have hn:n<=256:=by rw [<- U];exact (eh j).choose_spec.2.2.2.1
 obtain ⟨h5,h6⟩:=dF (aX j).2.2.2;rw [M9] at h6;have K:bI (ah P M.toNat mod).ops m L=L:=h6;have Z:=(dc F hR).1;have hlen:=cU F hR;rw [K] at Z hlen;have hOk:BS.Ok (ah P M.toNat mod).El m ⟨L,bu (ah P M.toNat mod) L m⟩:=(rD hR Z hlen).ok;have hpl:(bu (ah P M.toNat mod) L m).length=n:=by rw [<- U];exact hlen.symm
 rw [U] at A;have H0:=Z5 A;have C:=Z5 hOk;have Hsp:=Z5 (aX j).2.2.2;have D:=Z5 hxe;clear A hOk h5 h6 K Z hlen em F hR j U hxe;go_enter func135,ntmps135;go_wp2_with fail;obtain ⟨W,hW⟩:∃W:ej,W=(w.alloc (.cells #[cG P,cG M,.slice am mn cm] 24)).alloc (.cells #[cG m,.slice a n c] 94):=⟨_,rfl⟩
 rw [<- hW];have H:SJ w W:=by rw [hW];exact dP _ _ _
 clear hW;refine (jZ P M am mn cm mod m a n c L W (hmod.ai H) (hi.ai H)).mono ?_;rintro e w1 ⟨hb1,⟨he,_⟩ | ⟨_,m',b,hm',ap,cp,rfl,hG,hbl,hP⟩⟩
 ·exact absurd Hsp.out he
 obtain rfl:m=m':=by omega
 have Y:=RU H hb1;have X:=hP.ints;rw [hpl] at X ⊢;obtain ⟨Pv,S⟩:∃Pv,bu (ah P M.toNat mod) L m=Pv:=⟨_,rfl⟩
 obtain ⟨G,E⟩:∃G,ah P M.toNat mod=G:=⟨_,rfl⟩
 rw [E] at S hG H0 C D;rw [S] at H0 C;have hp2:Ints w1 ap n Pv:=by rw [E,S] at X;exact X
 have I:=aD w1 (.cells #[ea b 0,cG m,.slice a n c,.slice ap n cp] 210);have N:=RU Y I;have HWd:=Z5 (yB m a n c ap n cp ax cx x (hG.gf.ai I) (hx.ai N) D.out);have r:Hid (∀V,SJ w1 V->Calls prog 192 #[.agg #[ea b 0,cG m,.slice a n c,.slice ap n cp],.slice ax m cx] V λe w'=>e = .returned (.bool z)/\SJ V w'):=λV hV=>by rw [<- H0.out];exact wh m a n c L ap cp Pv ax cx x (hG.gf.ai hV) (hi.ai (RU Y hV)) (hp2.ai hV) (hx.ai (RU Y hV)) C.out D.out (by omega) (by omega)
 have k0:=RV w1 [ea b 0,cG m,.slice a n c,.slice ap n cp] 210 rfl;have HX:=Z5 k0;clear hpl S E hG hbl hP X hp2 hm' k0;go_wp2_with fail;refine HWd.mono ?_;rintro e w3 ⟨rfl,B⟩;have x3:=HX.ai B;have k0:=x3.cell 0 rfl;have k1:=x3.cell 1 rfl;have k2:=x3.cell 2 rfl;have k3:=x3.cell 3 rfl;have Hh:=Z5 (r w3 (RU I B));have hbw3:=RU N B;clear HWd r x3;go_wp2_with fail;refine Hh.mono ?_;rintro e w4 ⟨rfl,hb4⟩;have hF:=RU hbw3 hb4;go_wp2_with fail;go_ret2;exact ⟨rfl,hF⟩
theorem uH (P M:Int) (am:OA) (U I:Nat) (mod:Lz) (N:Int) (a:OA) (n c:Nat) (L:ZZ) (F:OA) (C A:Nat) (x:Lz) (w:ej) (X:Ints w am U mod) (hi:bP w a n L) (hx:Ints w F C x) :
  Calls prog 134 #[.agg #[cG P,cG M,.slice am U I,cG N,.slice a n c],.slice F C A] w λe w'=>e = .returned (cG (lU P M mod N L x))/\SJ w w':=by
 go_enter func134,ntmps134;go_wp2_with fail;obtain ⟨W,H⟩:∃W:ej,W=w.alloc (.cells #[cG P,cG M,.slice am U I,cG N,.slice a n c] 27):=⟨_,rfl⟩
 rw [<- H];have V:SJ w W:=by rw [H];exact aD _ _
 have G:aQ W w.heap.size [cG P,cG M,.slice am U I,cG N,.slice a n c]:=by rw [H];exact RV _ _ _ rfl
 clear H;refine (cH P M am U I mod N a n c L W (X.ai V) (hi.ai V)).mono ?_;rintro e r ⟨rfl,K⟩;have Z:=RU V K;have S:=G.ai K;have c0:=S.cell 0 rfl;have c1:=S.cell 1 rfl;have c2:=S.cell 2 rfl;have c3:=S.cell 3 rfl;by_cases Y:aI P M mod N L=0;rotate_left
 ·have z:(aI P M mod N L != 0)=true:=by simpa using Y
  have D:Hid (lU P M mod N L x=aI P M mod N L):=M8 Y;clear Y G S;generalize aI P M mod N L=er at *;go_wp2_with fail;go_ret;exact ⟨aK D.symm,Z⟩
 obtain ⟨m,rfl,_⟩:=eh Y;have B:((ah P M.toNat mod).q:Int)=aO P M:=by obtain ⟨m1,e1,_,h1,_⟩:=kR (aX Y).1;rw [show M.toNat=m1 by omega];exact h1
 have D:Hid (lU P M mod m L x=uz (ah P M.toNat mod).q x m):=by show _=_;rw [lU,M7 Y,B,M9]
 have j:=Z5 (uh P M am U I mod F C A x m r (X.ai Z) (hx.ai Z) (aX Y).1);rw [Y];clear Y G S B;go_wp2_with fail;refine j.mono ?_;rintro e w2 ⟨rfl,E⟩;have hF:=RU Z E;go_wp2_with fail;go_ret;exact ⟨aK D.symm,hF⟩
theorem vB {P M:Int} {mod:Lz} {N:Int} {L:ZZ} {x:Lz} (h:lU P M mod N L x=0):aI P M mod N L=0/\Vc (ah P M.toNat mod).El N.toNat x:=by
 unfold lU at h;by_cases Z:aI P M mod N L=0
 ·rw [M7 Z] at h;have X:((ah P M.toNat mod).q:Int)=aO P M:=by obtain ⟨m1,e1,_,h1,_⟩:=kR (aX Z).1;rw [show M.toNat=m1 by omega];exact h1
  refine ⟨Z,?_⟩;unfold uz at h;by_cases Y:x.length=N.toNat
  ·rw [M7 Y] at h;refine ⟨Y,λy hy=>?_⟩;unfold lJ at h;by_cases he:fC (aO P M) x=true
   ·unfold fC at he;have h1:=List.all_eq_true.1 he y hy;unfold jx at h1;simp at h1;exact ⟨h1.1,by have:=h1.2;omega⟩
   ·rw [M8 he] at h;exact absurd h (by decide)
  ·rw [M8 Y] at h;exact absurd h (by decide)
 ·rw [M8 Z] at h;exact absurd h Z
def uq (P M:Int) (mod:Lz) (N:Int) (L:ZZ) (x:Lz):Bool:=if lU P M mod N L x=0 then hasB P M mod N.toNat L x else false
theorem wk (P M:Int) (am:OA) (Y U:Nat) (mod:Lz) (N:Int) (a:OA) (n c:Nat) (L:ZZ) (B:OA) (C r:Nat) (x:Lz) (w:ej) (Z:Ints w am Y mod) (hi:bP w a n L) (hx:Ints w B C x) :
  Calls prog 81 #[.agg #[cG P,cG M,.slice am Y U,cG N,.slice a n c],.slice B C r] w λe w'=>e = ec #[.bool (uq P M mod N L x),cG (lU P M mod N L x)]/\SJ w w':=by
 have K:Hid (lU P M mod N L x=0->∀V,SJ w V->Calls prog 135 #[.agg #[cG P,cG M,.slice am Y U],.agg #[cG N,.slice a n c],.slice B C r] V λe w'=>e = ec #[.bool (uq P M mod N L x),cG 0]/\SJ V w'):=λh V S=>by
  obtain ⟨E,H⟩:=vB h;rw [uq,M7 h];obtain ⟨m,rfl,_⟩:=eh E;rw [M9] at H ⊢;have e1:C=m:=by rw [<- hx.len];exact H.1
  subst e1;exact uG P M am Y U mod C a n c L B r x V (Z.ai S) (hi.ai S) (hx.ai S) E H
 have D:Hid (∀V,SJ w V->Calls prog 134 #[.agg #[cG P,cG M,.slice am Y U,cG N,.slice a n c],.slice B C r] V λe w'=>e = .returned (cG (lU P M mod N L x))/\SJ V w'):=λV S =>
  uH P M am Y U mod N a n c L B C r x V (Z.ai S) (hi.ai S) (hx.ai S)
 have HN:Hid (lU P M mod N L x ≠ 0->uq P M mod N L x=false):=λh=>by rw [uq,M8 h]
 clear Z hi hx;obtain ⟨er,A⟩:∃er,lU P M mod N L x=er:=⟨_,rfl⟩
 obtain ⟨z,hz⟩:∃z,uq P M mod N L x=z:=⟨_,rfl⟩
 rw [A] at D HN K ⊢;rw [hz] at HN K ⊢;clear A hz;go_enter func81,ntmps81;go_wp2_with fail;obtain ⟨W,hW⟩:∃W:ej,W=w.alloc (.cells #[cG P,cG M,.slice am Y U,cG N,.slice a n c] 27):=⟨_,rfl⟩
 rw [<- hW];have F:SJ w W:=by rw [hW];exact aD _ _
 have x0:aQ W w.heap.size [cG P,cG M,.slice am Y U,cG N,.slice a n c]:=by rw [hW];exact RV _ _ _ rfl
 have HX:=Z5 x0;have HbW:=Z5 F;clear hW x0;refine (D W F).mono ?_;rintro e w1 ⟨rfl,G⟩;have X:=RU HbW.out G;by_cases E:er=0;rotate_left
 ·have hE2:(er != 0)=true:=by simpa using E
  have HN2:=Z5 (HN E);clear E;go_wp2_with fail;go_ret2;exact ⟨by rw [HN2.out];rfl,X⟩
 subst E;have j:=Z5 (K rfl);have hS:∀V,SJ w1 V->V.cell? ⟨w.heap.size,0,none⟩=some (cG P)/\V.cell? ⟨w.heap.size,1,none⟩=some (cG M)/\V.cell? ⟨w.heap.size,2,none⟩=some (.slice am Y U)/\V.cell? ⟨w.heap.size,3,none⟩=some (cG N)/\V.cell? ⟨w.heap.size,4,none⟩=some (.slice a n c)/\SJ w1 V:=λV S=>by have x1:=HX.ai (RU G S);exact ⟨x1.cell 0 rfl,x1.cell 1 rfl,x1.cell 2 rfl,x1.cell 3 rfl,x1.cell 4 rfl,S⟩
 have HS:=Z5 hS;have I:=Z5 X;clear hS D F G X K HN;go_wp2_with fail;go_region_held3 (λV=>V.cell? ⟨w.heap.size,0,none⟩=some (cG P)/\V.cell? ⟨w.heap.size,1,none⟩=some (cG M)/\V.cell? ⟨w.heap.size,2,none⟩=some (.slice am Y U)/\V.cell? ⟨w.heap.size,3,none⟩=some (cG N)/\V.cell? ⟨w.heap.size,4,none⟩=some (.slice a n c)/\SJ w1 V)
  ((refine HS _ ?_;first|exact (M5 _ _).drew|(go_split_ands;exact RU (by assumption) (by assumption))))
  (first
   | (go_at_call 91;((with_reducible refine (oh P M am Y U N a n c _).mono ?_);rintro e w6 ⟨rfl,hb6⟩))
   | (go_at_call 135;((with_reducible refine (j.out _ (RU I.out (by go_split_ands;assumption))).mono ?_);rintro e w8 ⟨rfl,hb8⟩)))
 all_goals (
  go_wp2_with fail
  go_ret2
  exact ⟨rfl,RU I.out (by go_split_ands;assumption)⟩)
theorem Gt {w:ej} {B:Nat} {e:TypeId} {a:OA} {n c k:Nat} {xs:List Value} (h:w.ownsRow B e 1 (.slice a n c) n xs) (N:k<=n):w.ownsRow B e 1 (.slice a k c) k (xs.take k):=by
 have S:=jd h;refine ⟨by rw [NH];omega,?_⟩;rcases h.2 with ⟨Z,h0⟩ | ⟨g,cap,cur,Z,Y,X,hle,hm,V,U⟩
 ·cases Z
  obtain rfl:k=0:=by omega
  exact .inl ⟨rfl,rfl⟩
 ·cases Z
  refine .inr ⟨g,c,cur,rfl,Y,X,by omega,hm,V,?_⟩;rw [<- U,List.take_take];congr 1;omega
theorem aS.take {B:Nat} {w:ej} {a:OA} {n c k:Nat} {R:Z4} {L:ZZ} (h:aS w B a n c R L) (X:k<=n):aS w B a k c (R.take k) (L.take k):=by
 have U:=h.rl;have S:=h.ll;have Z:∀ {i},i<k->aM (R.take k) i=aM R i:=λ{i} hi=>by rw [fK (show i<(R.take k).length by rw [NH];omega),fK (by omega),PX]
 have V:∀ {i},i<k->aj (L.take k) i=aj L i:=λ{i} hi=>by rw [aH (show i<(L.take k).length by rw [NH];omega),aH (by omega),PX]
 refine ⟨by rw [NH];omega,by rw [NH];omega,?_,λi hi=>?_,λi hi=>?_,λi j hi Y=>?_⟩
 ·rw [<- Rw];exact Gt h.own X
 ·rw [Z hi,V hi];exact h.row i (by omega)
 ·rw [Z hi];exact h.ue i (by omega)
 ·rw [Z hi,Z Y];exact h.sep i j (by omega) (by omega)
def mb (G:bX) (L:ZZ) (m:Nat) (w:ej) (e:Ending) (w':ej):Prop :=
 ∃a c R ap cp,e = ec #[.slice a (bu G L m).length c,.slice ap (bu G L m).length cp]/\aS w' w.heap.size a (bu G L m).length c R (b8 G L m)/\bH w.heap.size w' ap (bu G L m).length (bu G L m)/\SJ w w'
def AH (O:aL) (L:ZZ) (m:Nat) (w:ej) (e:Ending) (w':ej):Prop :=
 ∃a c R ap cp,e = ec #[.slice a (aE O L m).2.length c,.slice ap (aE O L m).2.length cp]/\aS w' w.heap.size a (aE O L m).2.length c R ((aE O L m).1.take (aE O L m).2.length)/\bH w.heap.size w' ap (aE O L m).2.length (aE O L m).2/\SJ w w'
theorem qM (P M:Int) (am:OA) (N B:Nat) (mod:Lz) (a:OA) (n c Z:Nat) (L:ZZ) (w:ej) (G:Ints w am N mod) (hi:bP w a n L)
  (A:bw P M mod=true) (F:bz (ah P M.toNat mod).El Z L) (hlen:Z<=1000000) (hn:n<=1000000) :
  Calls prog 124 #[.agg #[cG P,cG M,.slice am N B],.slice a n c,cG Z] w (mb (ah P M.toNat mod) L Z w):=by
 have hinv:=nZ (P:=P) (M:=M) (mod:=mod) (by rw [eU];exact A);obtain ⟨k,rfl,D,_,hF,hA,_⟩:=kR A;obtain ⟨k',e2,K,Y⟩:=jt (by rw [eU];exact A);obtain rfl:k=k':=by omega
 rw [M9] at F hinv ⊢;rw [<- D] at F;have hE:=(lk hA hF.cl F Z (M4 _)).1;have Hlen:=Z5 hi.len;have Hc:Hid (∀V,SJ w V->Calls prog 179 #[.agg #[cG P,cG k,.slice am N B],.slice a n c,cG Z] V (j8 (ah P k mod).ops L Z V)):=λV hV=>by have h:=vA P k am N B mod a n c Z Z L V ⟨K,Y V am N (G.ai hV)⟩ (hi.ai hV) F (M4 _) hlen hn hinv;unfold j8 at h ⊢;rw [hE];exact h
 show Calls prog 124 _ w (AH (ah P k mod).ops L Z w);obtain ⟨O,j⟩:∃O,(ah P k mod).ops=O:=⟨_,rfl⟩
 rw [j] at Hc ⊢;clear j hinv F D hF hA e2 K Y hE A;go_enter func124,ntmps124;go_wp2_with fail;obtain ⟨W,r⟩:∃W:ej,W=w.alloc (.cells #[cG P,cG k,.slice am N B] 24):=⟨_,rfl⟩
 rw [<- r];have X:SJ w W:=by rw [r];exact aD _ _
 clear r;refine (Hc W X).mono ?_;rintro e w1 ⟨a1,c1,R1,ap,cp,rfl,C,I,z⟩;have S:=eO O L Z;have U:=o7 C.own;have H:=(SF I).mono X.size;have E:=(C.take (k:=(aE O L Z).2.length) S.2).mono X.size;have HF:Hid (AH O L Z w (ec #[.slice a1 (aE O L Z).2.length c1,.slice ap (aE O L Z).2.length cp]) w1):=⟨a1,c1,_,ap,cp,rfl,E,H,RU X z⟩
 have hle:(aE O L Z).2.length<=c1:=Np S.2 U;clear H E I U S;generalize (aE O L Z).2.length=k at *;go_wp2_with fail;go_ret2;simpa using HF.out
def ldTo (P:Lz) (m:Nat):Nat->Lz
 | 0=>(List.range m).map λ_=>-1
 | i+1=>(ldTo P m i).set (nth P i).toNat i
def pj (m k:Nat):Lz:=(List.range m).map λi=>if i<k then -1 else 0
theorem Az (P:Lz) (m:Nat):∀i,(ldTo P m i).length=m
 | 0=>by simp [ldTo]
 | i+1=>by rw [ldTo,N8];exact Az P m i
theorem Io {P:Lz} {m:Nat} (Z:∀j,j<P.length->0<=nth P j/\nth P j<m) {c:Nat} (Y:c<m):∀i,i<=P.length->(0<=nth (ldTo P m i) c ↔ ∃j,j<i/\nth P j=c)
 | 0,_=>by
  rw [ldTo,dN _ _ _ Y];constructor
  ·intro h;omega
  ·rintro ⟨j,U,_⟩;omega
 | i+1,hi=>by
  have V:=Io Z Y i (by omega);have hb:=Z i (by omega);rw [ldTo,eT _ _ _ _ (by rw [Az];omega)];by_cases e:c=(nth P i).toNat
  ·rw [M7 e];exact ⟨λ_=>⟨i,by omega,by omega⟩,λ_=>by omega⟩
  ·rw [M8 e,V];constructor
   ·rintro ⟨j,h1,h2⟩;exact ⟨j,by omega,h2⟩
   ·rintro ⟨j,h1,h2⟩;by_cases X:j=i
    ·subst X;omega
    ·exact ⟨j,by omega,h2⟩
theorem LR {P:Lz} {m:Nat} (Y:∀j,j<P.length->0<=nth P j/\nth P j<m) {c:Nat} (X:c<m):(0<=nth (ldTo P m P.length) c ↔ (c:Int) ∈ P):=by
 rw [Io Y X _ (M4 _)];constructor
 ·rintro ⟨j,h1,h2⟩;rw [<- h2];exact aG h1
 ·intro h;obtain ⟨j,Z,e⟩:=List.mem_iff_getElem.1 h;exact ⟨j,Z,by rw [an Z];exact e⟩
theorem LH {m k:Nat} (Z:k<m):(pj m k).set k (-1)=pj m (k+1):=by
 refine Ou (by simp [pj]) λi h1 h2=>?_;simp only [pj,RC,Oc,O1];by_cases e:k=i
 ·subst e;rw [M7 rfl,M7 (by omega)]
 ·rw [M8 e];by_cases h:i<k
  ·rw [M7 h,M7 (by omega)]
  ·rw [M8 h,M8 (by omega)]
def oC (G:bX) (L:ZZ) (m:Nat) (w:ej) (e:Ending) (w':ej):Prop :=
 ∃a c R,e = .returned (.slice a (bt G L m).length c)/\aS w' w.heap.size a (bt G L m).length c R (bt G L m)/\SJ w w'
theorem FH (P M:Int) (am:OA) (mn cm:Nat) (mod:Lz) (m:Nat) (a:OA) (n c:Nat) (L:ZZ) (w:ej) (hmod:Ints w am mn mod) (hi:bP w a n L)
  (hB:bw P M mod=true) (hR:bz (ah P M.toNat mod).El m L) (hm:m<=1000) (hn:n<=1000000) :
  Calls prog 157 #[.agg #[cG P,cG M,.slice am mn cm],.slice a n c,cG m] w (oC (ah P M.toNat mod) L m w):=by
 have F:=dY hB;have hmo:=hmod;have HC1:Hid (∀V,SJ w V->Calls prog 124 #[.agg #[cG P,cG M,.slice am mn cm],.slice a n c,cG m] V (mb (ah P M.toNat mod) L m V)):=λV hV =>
  qM P M am mn cm mod a n c m L V (hmod.ai hV) (hi.ai hV) hB hR (by omega) hn
 have HC2:Hid (∀V a1 n1 c1 L1,SJ w V->bP V a1 n1 L1->bz (ah P M.toNat mod).El m L1->n1<=1000000->Calls prog 124 #[.agg #[cG P,cG M,.slice am mn cm],.slice a1 n1 c1,cG m] V (mb (ah P M.toNat mod) L1 m V)):=λV a1 n1 c1 L1 hV h1 h2 h3 =>
  qM P M am mn cm mod a1 n1 c1 m L1 V (hmod.ai hV) h1 hB h2 (by omega) h3
 obtain ⟨N,rfl,hel,_,_,hA,_⟩:=kR hB;obtain ⟨k',e2,hrf,_⟩:=jt (by rw [eU];exact hB);obtain rfl:N=k':=by omega
 rw [M9] at hR F HC1 HC2 ⊢;have HNg:Hid (∀(V:ej) (x:Int),(ah P N mod).El x->Calls prog 107 #[.agg #[cG P,cG N,.slice am mn cm],cG x] V λe w'=>e = .returned (cG ((ah P N mod).ops.neg x))/\SJ V w'):=λV x hx =>
  zl P N am mn cm x V hrf (hrf.jx (by rw [hel];exact hx))
 obtain ⟨hPv,hLd⟩:=dc F hR;have hRc:bz (ah P N mod).El m (b8 (ah P N mod) L m):=dk F hR;have hcl:(b8 (ah P N mod) L m).length=(bu (ah P N mod) L m).length:=ek _ L m;have HPv:Hid (lK (b8 (ah P N mod) L m) (bu (ah P N mod) L m) m):=hPv;have hrws:∀k,k<=m->bz (ah P N mod).El m (dn (ah P N mod).ops m (b8 (ah P N mod) L m) (bu (ah P N mod) L m) k):=by
  intro k;induction k with
  | zero=>intro _ r hr;simp [dn] at hr
  | succ k ih =>
   intro hk r hr
   rw [dn] at hr
   split at hr
   ·exact ih (by omega) r hr
   ·rw [NW,NR] at hr
    rcases hr with hr | rfl
    ·exact ih (by omega) r hr
    ·exact kI F hRc hPv hcl (by omega) _ (M4 _)
 have Hrws:=Z5 hrws;have Hdl:Hid (bt (ah P N mod) L m=b8 (ah P N mod) (dn (ah P N mod).ops m (b8 (ah P N mod) L m) (bu (ah P N mod) L m) m) m):=rfl;have Hcp:Hid (∀c,c<m->∀i,i<(bu (ah P N mod) L m).length->(ah P N mod).El (nth (aj (b8 (ah P N mod) L m) i) c)):=λc hc i hi=>R0 (hRc.row (by rw [hcl];exact hi)) hc;have Hrl:Hid (∀i,i<(bu (ah P N mod) L m).length->(aj (b8 (ah P N mod) L m) i).length=m):=λi hi=>(hRc.row (by rw [hcl];exact hi)).1;have Hkp:Hid (∀c i,kerTo (ah P N mod).ops m (b8 (ah P N mod) L m) (bu (ah P N mod) L m) c (i+1)=(kerTo (ah P N mod).ops m (b8 (ah P N mod) L m) (bu (ah P N mod) L m) c i).set (nth (bu (ah P N mod) L m) i).toNat ((ah P N mod).ops.neg (nth (aj (b8 (ah P N mod) L m) i) c))):=λc i=>rfl;have Hk0:Hid (∀c,kerTo (ah P N mod).ops m (b8 (ah P N mod) L m) (bu (ah P N mod) L m) c 0=(List.replicate m 0).set c 1):=λc=>rfl;have Hplt:Hid (∀j,j<(bu (ah P N mod) L m).length->0<=nth (bu (ah P N mod) L m) j/\nth (bu (ah P N mod) L m) j<m):=HPv.lt;have Hld:Hid (∀c,c<m->(0<=nth (ldTo (bu (ah P N mod) L m) m (bu (ah P N mod) L m).length) c ↔ (c:Int) ∈ bu (ah P N mod) L m)):=λc hc=>LR HPv.lt hc;unfold mb at HC1;unfold oC;obtain ⟨G,hGG⟩:∃G,ah P N mod=G:=⟨_,rfl⟩
 rw [hGG] at HC1 HC2 HNg Hrws Hdl Hcp Hrl Hkp Hk0 Hplt Hld hcl ⊢;obtain ⟨D,hD⟩:∃D,bt G L m=D:=⟨_,rfl⟩
 rw [hD] at Hdl ⊢;obtain ⟨R,hRR⟩:∃R,b8 G L m=R:=⟨_,rfl⟩
 obtain ⟨I,hPP⟩:∃I,bu G L m=I:=⟨_,rfl⟩
 rw [hRR,hPP] at HC1 Hrws Hdl Hcp Hkp Hk0 Hrl;rw [hPP] at Hplt Hld hcl;rw [hRR] at hcl;obtain ⟨t,ht⟩:∃t,I.length=t:=⟨_,rfl⟩
 have Ht:=Z5 ht;rw [ht] at HC1 Hcp Hrl Hplt Hld hcl;clear hB hel hA e2 hrf hPv hLd hRc HPv hrws hR F hGG hD hRR hPP hmod ht;go_enter func157,ntmps157;go_wp2_with fail;obtain ⟨W,hW⟩:∃W:ej,W=w.alloc (.cells #[cG P,cG N,.slice am mn cm] 24):=⟨_,rfl⟩
 rw [<- hW];have hbW:SJ w W:=by rw [hW];exact aD _ _
 have x0:aQ W w.heap.size [cG P,cG N,.slice am mn cm]:=by rw [hW];exact RV _ _ _ rfl
 have HX:=Z5 x0;have HbW:=Z5 hbW;clear hW x0;refine (HC1 W hbW).mono ?_;rintro e U ⟨a2,c2,R2,ap,cp,rfl,hO2,hp2,hbU⟩;have hMM:=hO2.lL;have hII:=hp2.ints;have hplP:=hII.pl;have hplR:=hMM.pl;have hmaxP:=hII.max;have hmaxR:=hMM.max;unfold maxLen at hmaxP hmaxR;have hbwU:=RU hbW hbU;clear hO2 hp2 HC1 hbW;go_wp2_with (at_make;refine bR rfl _ _ 22 3 rfl (cG 0) 8 underlying22 br rfl m rfl rfl (by omega) (by unfold maxLen;omega) ?_;intro a4 w4 B hb4 hge4 hlt4);have hown4':w4.ownsRow U.heap.size 3 1 (.slice a4 m m) m ((pj m 0).map (Value.int .i64)):=by
  have e:pj m 0=List.replicate m 0:=by refine Ou (by simp [pj]) λi h1 h2=>?_;simp [pj]
  rw [e];simpa using B
 clear B;go_loopw [10] (λiv wr=>∃k:Nat,k<=m/\iv = cG k/\wr.ownsRow U.heap.size 3 1 (.slice a4 m m) m ((pj m k).map (Value.int .i64))/\SJ U wr) (λiv _=>m - (intOf iv).toNat);case atStart=>exact ⟨0,Nb _,rfl,hown4',hb4⟩
 case round =>
  clear hown4' hb4 hge4 hlt4
  obtain ⟨k,hk,rfl,S,K⟩:=hrel
  by_cases hlt:k<m
  ·obtain ⟨C,hm4⟩:=RW S
   have hpl4:=C.pl
   have c4:=C.cell k hlt
   have f4:=(hm4 (by omega)).2 k hlt
   have hB4:=(hm4 (by omega)).1
   have Hown:=Z5 S
   clear S C hm4
   go_wp2_with fail
   go_roundw
   case rel =>
    have h1:=bA Hown.out k hlt (cG (-1))
    rw [<- Ny,LH hlt] at h1
    exact ⟨k+1,by omega,by go_num,h1,K.setCell hB4 _⟩
   case measure=>simp [intOf]<;>omega
  ·obtain rfl:k=m:=by omega
   have hown0:wr.ownsRow U.heap.size 3 1 (.slice a4 k k) k ((ldTo I k 0).map (Value.int .i64)):=by
    have e:pj k k=ldTo I k 0:=by refine Ou (by simp [pj,ldTo]) λi h1 h2=>?_;simp only [pj,ldTo,Oc,O1];rw [M7 (by simpa [pj] using h1)]
    rw [<- e];exact S
   clear S
   go_wp2_with fail
   go_loopw [11] (λiv wr=>∃i:Nat,i<=t/\iv = cG i/\wr.ownsRow U.heap.size 3 1 (.slice a4 k k) k ((ldTo I k i).map (Value.int .i64))/\SJ U wr) (λiv _=>t - (intOf iv).toNat)
   case atStart=>exact ⟨0,Nb _,rfl,hown0,K⟩
   case round =>
    clear hown0 K
    obtain ⟨i,hi',rfl,S,K⟩:=hrel
    by_cases hlt:i<t
    ·have cpi:=(hII.ai K).cell i hlt
     have hpb:=Hplt i hlt
     obtain ⟨z,hz⟩:∃z:Nat,nth I i=z:=⟨(nth I i).toNat,by omega⟩
     have hzm:z<k:=by omega
     have Hst:Hid (ldTo I k (i+1)=(ldTo I k i).set z i):=by show _=_;rw [ldTo,hz,M9]
     rw [hz] at cpi
     obtain ⟨C,hm4⟩:=RW S
     have hpl4:=C.pl
     have c4:=C.cell z hzm
     have f4:=(hm4 (by omega)).2 z hzm
     have hB4:=(hm4 (by omega)).1
     have Hown:=Z5 S
     clear S C hm4 hz hpb
     go_wp2_with fail
     go_roundw
     case rel =>
      have h1:=bA Hown.out z hzm (cG i)
      rw [<- Ny,<- Hst.out] at h1
      exact ⟨i+1,by omega,by go_num,h1,K.setCell hB4 _⟩
     case measure=>simp [intOf]<;>omega
    ·obtain rfl:i=t:=by omega
     obtain ⟨LD,hLD⟩:∃LD,ldTo I k i=LD:=⟨_,rfl⟩
     rw [hLD] at S Hld
     clear hLD
     obtain ⟨C,_⟩:=RW S
     have hpl4:=C.pl
     have hU:=hMM.ai K
     have hIU:=hII.ai K
     have hbwr:=RU hbwU K
     have HY:Hid (∀V,SJ wr V->V.cell? ⟨w.heap.size,0,none⟩=some (cG P)/\V.cell? ⟨w.heap.size,1,none⟩=some (cG N)/\V.cell? ⟨w.heap.size,2,none⟩=some (.slice am mn cm)):=λV hV=>by have x1:=HX.ai (RU (RU hbU K) hV);exact ⟨x1.cell 0 rfl,x1.cell 1 rfl,x1.cell 2 rfl⟩
     have hsW:=hbwr.size
     have Hbwr:=Z5 hbwr
     generalize wr=X at *
     clear S hMM hII K hbU hbwU hbwr
     go_wp2_with fail
     go_loopw [12,13] (λov iv wr=>∃(j:Nat) (a1:OA) (c1:Nat),j<=k/\iv = cG j/\ov = .slice a1 (eW I j).length c1/\(∃Rr,aS wr X.heap.size a1 (eW I j).length c1 Rr (dn G.ops k R I j))/\SJ X wr) (λ_ iv _=>k - (intOf iv).toNat)
     case atStart=>exact ⟨0,none,0,Nb _,rfl,rfl,⟨[],aS.K8 X X.heap.size⟩,M5 _ _⟩
     case round =>
      obtain ⟨j,a1,c1,hj,rfl,rfl,⟨Rr,hO⟩,K⟩:=hrel
      have hnk:=Cr I j
      by_cases E:j<k
      ·have cld:=(C.ai K).cell j E
       have A:=Hld j E
       obtain ⟨v,hv⟩:∃v,nth LD j=v:=⟨_,rfl⟩
       rw [hv] at cld A
       clear hv
       by_cases H:(j:Int) ∈ I
       ·have hN:Hid (eW I (j+1)=eW I j):=by show _=_;rw [eW,M7 H]
        have hKk:Hid (dn G.ops k R I (j+1)=dn G.ops k R I j):=by show _=_;rw [dn,M7 H]
        have hv0:decide (0<=v)=true:=by simpa using A.2 H
        clear H A
        go_wp2_with fail
        go_roundw
        case rel=>exact ⟨j+1,a1,c1,by omega,by go_num,by rw [hN.out],⟨Rr,by rw [hN.out,hKk.out];exact hO⟩,K⟩
        case measure=>simp [intOf]<;>omega
       ·have hN:Hid (eW I (j+1)=eW I j ++ [j]):=by show _=_;rw [eW,M8 H]
        have hKk:Hid (dn G.ops k R I (j+1)=dn G.ops k R I j ++ [kerTo G.ops k R I j i]):=by show _=_;rw [dn,M8 H,Ht.out]
        have hv0:decide (0<=v)=false:=by simpa using λh=>H (A.1 h)
        clear H A
        generalize wr=Y at *
        go_wp2_with (at_make;refine bR rfl _ _ 22 3 rfl (cG 0) 8 underlying22 br rfl k rfl rfl (by omega) (by unfold maxLen;omega) ?_;intro a5 w5 hown5 hbel5 hge5 hlt5;obtain ⟨hi5,hm5⟩:=RW (l:=List.replicate k 0) (by simpa using hown5);have hc5:=hi5.cell j E;have hf5:=(hm5 (by omega)).2 j E;have hpl5:=hi5.pl)
        have hB5:=(hm5 (by omega)).1
        have hx0:=bA hown5 j E (cG 1)
        have hx0':(w5.setCell ⟨ablk a5,aN a5+j,none⟩ (cG 1)).ownsRow Y.heap.size 3 1 (.slice a5 k k) k ((kerTo G.ops k R I j 0).map (Value.int .i64)):=by rw [Hk0.out,Ny,OB];exact hx0
        have hbx0:=hbel5.setCell (p:=⟨ablk a5,aN a5+j,none⟩) hB5 (cG 1)
        clear hx0 hown5 hbel5 hge5 hlt5 hi5 hm5 hc5 hf5
        go_loopw [15] (λiv wx=>∃q:Nat,q<=i/\iv = cG q/\wx.ownsRow Y.heap.size 3 1 (.slice a5 k k) k ((kerTo G.ops k R I j q).map (Value.int .i64))/\SJ Y wx) (λiv _=>i - (intOf iv).toNat)
        case atStart=>exact ⟨0,Nb _,rfl,hx0',hbx0⟩
        case round =>
         clear hx0' hbx0
         obtain ⟨q,hq',rfl,S,hbx⟩:=hrel
         by_cases hlq:q<i
         ·have hpb:=Hplt q hlq
          obtain ⟨z,hz⟩:∃z:Nat,nth I q=z:=⟨(nth I q).toNat,by omega⟩
          have hzm:z<k:=by omega
          obtain ⟨ra,rn,rc,hcell,hrow⟩:=(hU.ai K).cell q hlq
          have hrn:rn=k:=by rw [<- hrow.len];exact Hrl q hlq
          subst hrn
          have hpr:=hrow.pl
          have hel:=Hcp j E q hlq
          have Hst:Hid (kerTo G.ops rn R I j (q+1)=(kerTo G.ops rn R I j q).set z (G.ops.neg (nth (aj R q) j))):=by show _=_;rw [Hkp.out,hz,M9]
          obtain ⟨x9,hx9⟩:∃x,nth (aj R q) j=x:=⟨_,rfl⟩
          rw [hx9] at hel Hst
          have Hng:Hid (∀V,Calls prog 107 #[.agg #[cG P,cG N,.slice am mn cm],cG x9] V λe w'=>e = .returned (cG (G.ops.neg x9))/\SJ V w'):=λV=>HNg V x9 hel
          have HS:Hid (∀V,SJ Y V->V.cell? ⟨w.heap.size,0,none⟩=some (cG P)/\V.cell? ⟨w.heap.size,1,none⟩=some (cG N)/\V.cell? ⟨w.heap.size,2,none⟩=some (.slice am mn cm)/\V.cell? ⟨ablk ap,aN ap+q,none⟩=some (cG z)/\V.cell? ⟨ablk a2,aN a2+q,none⟩=some (.slice ra rn rc)/\V.cell? ⟨ablk ra,aN ra+j,none⟩=some (cG x9)):=λV hV=>by
           obtain ⟨y1,y2,y3⟩:=HY V (RU K hV);refine ⟨y1,y2,y3,?_,?_,?_⟩
           ·have h:=(hIU.ai (RU K hV)).cell q hlq;rwa [hz] at h
           ·exact aC hV hcell
           ·have h:=(hrow.ai hV).cell j E;rwa [hx9] at h
          obtain ⟨hi6,hm6⟩:=RW S
          have hpl6:=hi6.pl
          have HB6:=Z5 (hm6 (by omega)).1
          have HK:Hid (∀V,SJ wr V->(∃u,V.cell? ⟨ablk a5,aN a5+z,none⟩=some u)/\V.frozen? ⟨ablk a5,aN a5+z,none⟩=false/\V.ownsRow Y.heap.size 3 1 (.slice a5 rn rn) rn ((kerTo G.ops rn R I j q).map (Value.int .i64))):=λV hV=>by have o:=bj S hV;obtain ⟨h1,h2⟩:=RW o;exact ⟨⟨_,h1.cell z hzm⟩,(h2 (by omega)).2 z hzm,o⟩
          have Hbx:=Z5 hbx
          clear hz hpb hx9 hel S hi6 hm6 hrow hcell hbx
          go_wp2_with fail
          go_region_held3 (λV=>V.cell? ⟨w.heap.size,0,none⟩=some (cG P)/\V.cell? ⟨w.heap.size,1,none⟩=some (cG N)/\V.cell? ⟨w.heap.size,2,none⟩=some (.slice am mn cm)/\V.cell? ⟨ablk ap,aN ap+q,none⟩=some (cG z)/\V.cell? ⟨ablk a2,aN a2+q,none⟩=some (.slice ra rn rc)/\V.cell? ⟨ablk ra,aN ra+j,none⟩=some (cG x9))
           ((refine HS _ ?_;first|exact Hbx.drew|exact RU Hbx.out hb7|exact (RU Hbx.out hb7).setCell HB6.out _))
           (first
            | (go_at_call 107;((with_reducible refine (Hng.out _).mono ?_);rintro e w6 ⟨rfl,hb6⟩;have hb7:SJ wr w6:=RU (M5 _ _).drew hb6;obtain ⟨⟨v9,k9⟩,f9,o9⟩:=HK.out w6 hb7)))
          clear k9 f9
          go_wp2_with fail
          go_roundw
          case rel =>
           have h:=bA o9 z hzm (cG (G.ops.neg x9))
           rw [<- Ny,<- Hst.out] at h
           exact ⟨q+1,by omega,by go_num,h,(RU Hbx.out hb7).setCell HB6.out _⟩
          case measure=>simp [intOf]<;>omega
         ·obtain rfl:q=i:=by omega
          obtain ⟨Z,hZ⟩:∃Z,kerTo G.ops k R I j q=Z:=⟨_,rfl⟩
          have hZl:Z.length=k:=by rw [<- hZ];exact gz _ _ _ _ _ _
          rw [hZ] at S hKk
          have HZl:=Z5 hZl
          have hO3:=hO.ai (RU hbx (aD wr (.cells #[.slice a5 k k] 22)))
          have hsz:=K.size
          have hsx:=hbx.size
          have hs3:X.heap.size<=(wr.alloc (.cells #[.slice a5 k k] 22)).heap.size:=by simp;omega
          have hcn:=bh wr (.slice a5 k k) 22
          clear hZ hZl
          go_wp2_with (at_builtin;refine bd rfl _ _ 25 22 rfl ds 24 underlying25 ed rfl X.heap.size a1 (eW I j).length c1 _ rfl hO3.own ⟨wr.heap.size,0,none⟩ 1 (.slice a5 k k) rfl hcn rfl (by omega) (by unfold maxLen;omega) hs3 ?_;intro a7 c7 w7 hown7 hgr7 hap7)
          go_roundw
          case rel =>
           have hb4':SJ Y (wr.alloc (.cells #[.slice a5 k k] 22)):=RU hbx (aD _ _)
           have B:(wr.alloc (.cells #[.slice a5 k k] 22)).ownsRow X.heap.size 3 1 (.slice a5 Z.length k) Z.length (Z.map (Value.int .i64)):=by rw [HZl.out];exact bq (bj S (aD _ _)) hsz
           have hra:a5 ≠ none->¬ bN a1 Rr (ablk a5):=λh0 hI=>by have h1:=(aP S h0).1;have h2:=(hO.lt _ hI).2;omega
           have hP:=Ss hO3 B hra (by rw [HZl.out];exact hown7) hgr7 hap7
           have hb5:SJ X w7:=RY (RU K hb4') hO3.own hgr7 (M4 _) (Np hsz hb4'.size)
           exact ⟨j+1,a7,c7,by omega,by go_num,by rw [hN.out];simp,⟨_,by rw [hN.out,hKk.out,Ni];exact hP⟩,hb5⟩
          case measure=>simp [intOf]<;>omega
      ·obtain rfl:j=k:=by omega
       obtain ⟨y1,y2,y3⟩:=HY wr K
       have hcan:=HC2 wr a1 (eW I j).length c1 (dn G.ops j R I j) (RU Hbwr.out K) hO.lL (Hrws j (M4 _)) (by omega)
       unfold mb at hcan
       have hlen8:(bu G (dn G.ops j R I j) j).length=D.length:=by rw [Hdl.out,ek]
       rw [hlen8,<- Hdl.out] at hcan
       obtain ⟨d,hd⟩:∃d,D.length=d:=⟨_,rfl⟩
       rw [hd] at hcan
       have Hd:=Z5 hd
       have Hcan:=Z5 hcan
       have hbF:=RU Hbwr.out K
       clear hcan hlen8 hd
       go_wp2_with fail
       refine Hcan.mono ?_
       rintro e w8 ⟨a8,c8,R8,ap8,cp8,rfl,hO8,hp8,hb8⟩
       have HF:Hid (aS w8 w.heap.size a8 d c8 R8 D/\SJ w w8):=⟨hO8.mono hbF.size,RU hbF hb8⟩
       clear hO8 hp8 Hcan
       go_wp2_with fail
       go_ret
       rw [Hd.out]
       exact ⟨a8,c8,R8,rfl,HF.1,HF.2⟩
theorem Cs {w:ej} {b:Nat} {G:bX} (q:Nat) (x:Int) (X:w.cell? ⟨q,0,none⟩=some (ea b 0)) (h:dg w b G) :
  Calls prog 54 #[cG x,ea q 0] w λe w'=>e = .returned (.bool (!(decide (0<=x) && decide (x<G.q))))/\w=w':=by
 go_enter func54,ntmps54;go_wp2_with fail;refine (Mc x h).mono ?_;rintro e w' ⟨rfl,rfl⟩;obtain ⟨z,Z⟩:∃z,(decide (0<=x) && decide (x<G.q))=z:=⟨_,rfl⟩
 have Y:=Z5 Z;rw [Z];clear Z;cases z
 ·go_wp2_with fail;go_ret;exact ⟨ba (by rw [Y.out];rfl),rfl⟩
 ·go_wp2_with fail;go_ret;exact ⟨ba (by rw [Y.out];rfl),rfl⟩
theorem wL (p:Int->Bool) (q:Nat) (a:OA) (n c:Nat) (l:Lz) (w:ej) (hi:Ints w a n l) (I:∀k,k<n->Calls prog 54 #[cG (nth l k),ea q 0] w λe w'=>e = .returned (.bool (p (nth l k)))/\w=w') :
  Calls prog 111 #[.slice a n c,.func (.func 54) #[] #[ea q 0]] w λe w'=>∃z:Int,e = .returned (cG z)/\(0<=z ↔ l.any p=true)/\w=w':=by
 have F:=hi.pl;have V:=hi.max;have E:=Z5 I;have G:=Z5 hi.len;unfold maxLen at V;clear I;go_enter func111,ntmps111;go_wp2_with fail;go_loop [8] (λK=>∃k:Nat,k<=n/\K = cG k/\Hid (∀j,j<k->p (nth l j)=false)) (λK=>n - (intOf K).toNat);case atStart=>exact ⟨0,Nb _,rfl,λj N=>by omega⟩
 case round =>
  obtain ⟨k,A,rfl,Y⟩:=hrel
  by_cases X:k<n
  ·have B:=hi.cell k X
   have Z:=E k X
   obtain ⟨z,U⟩:∃z,p (nth l k)=z:=⟨_,rfl⟩
   rw [U] at Z
   have H:=Z5 Z
   cases z
   ·have C:Hid (∀j,j<k+1->p (nth l j)=false):=λj N=>by
     by_cases e:j=k
     ·subst e;exact U
     ·exact Y j (by omega)
    clear U Z Y
    go_wp2_with fail
    refine H.mono ?_
    rintro e w' ⟨rfl,rfl⟩
    go_wp2_with fail
    go_round
    case rel=>exact ⟨k+1,by omega,by go_num,C⟩
    case measure=>simp [intOf]<;>omega
   ·have S:Hid (l.any p=true):=by show _=_;rw [PG];exact ⟨nth l k,aG (by rw [G.out];exact X),U⟩
    clear U Z Y
    go_wp2_with fail
    refine H.mono ?_
    rintro e w' ⟨rfl,rfl⟩
    go_wp2_with fail
    go_ret
    exact ⟨k,rfl,⟨λ_=>by first|exact S.out|exact List.any_eq_true.1 S.out,λ_=>Pj _⟩,rfl⟩
  ·obtain rfl:k=n:=by omega
   have S:Hid (l.any p=false):=by show _=_;rw [P0];intro x D;obtain ⟨j,N,rfl⟩:=List.mem_iff_getElem.1 D;have:=Y j (by rw [<- G.out];exact N);rw [an N] at this;rw [this];decide
   go_wp2_with fail
   go_ret
   exact ⟨-1,rfl,⟨λh=>absurd h (by omega),λh=>by have h2:l.any p=true:=(by first|exact h|exact List.any_eq_true.2 h);rw [S.out] at h2;exact absurd h2 (by decide)⟩,rfl⟩
theorem qU (p:Int->Bool) (q:Nat) (a:OA) (n c:Nat) (l:Lz) (w:ej) (hi:Ints w a n l) (V:∀k,k<n->Calls prog 54 #[cG (nth l k),ea q 0] w λe w'=>e = .returned (.bool (p (nth l k)))/\w=w') :
  Calls prog 53 #[.slice a n c,.func (.func 54) #[] #[ea q 0]] w λe w'=>e = .returned (.bool (l.any p))/\w=w':=by
 have U:=Z5 (wL p q a n c l w hi V);clear V;go_enter func53,ntmps53;go_wp2_with fail;refine U.mono ?_;rintro e w' ⟨z,rfl,Z,rfl⟩;by_cases h0:0<=z
 ·have Y:Hid (l.any p=true):=Z.1 h0;have X:decide (0<=z)=true:=by simpa using h0
  clear Z h0;go_wp2_with fail;go_ret;exact ⟨ba Y.symm,rfl⟩
 ·have Y:Hid (l.any p=false):=by
   show _=_;cases h:l.any p
   ·rfl
   ·exact absurd (Z.2 h) h0
  have X:decide (0<=z)=false:=by simpa using h0
  clear Z h0;go_wp2_with fail;go_ret;exact ⟨ba Y.symm,rfl⟩
def Bn (P M:Int) (mod:Lz) (N:Int) (L:ZZ) (i:Int) (y:Lz):Int :=
 if jY P M mod N L i=0 then (if (y.length:Int) ≠ N then 4 else if fC (ah P M.toNat mod).q y=false then 2 else sd P M mod N.toNat L i) else jY P M mod N L i
def JN (P M:Int) (mod:Lz) (N:Int) (L:ZZ) (i:Int) (y:Lz):Int :=
 if Bn P M mod N L i y=0 then repTo (ah P M.toNat mod).ops (gZ P M mod N.toNat L i) y (jg P M mod N.toNat L i) (jg P M mod N.toNat L i).length else 0
theorem uU {P M:Int} {mod:Lz} {N:Int} {L:ZZ} {i:Int} (h:jY P M mod N L i=0):aI P M mod N L=0/\0<=i/\i<N:=by
 unfold jY at h;split at h
 ·rename_i Z;split at h
  ·cases h
  ·exact ⟨Z,by omega,by omega⟩
 ·rename_i Z;exact absurd h Z
theorem ym (P M:Int) (am:OA) (A cm:Nat) (mod:Lz) (N:Int) (a:OA) (n c:Nat) (L:ZZ) (i:Int) (ay:OA) (I cy:Nat) (y:Lz) (w:ej) (K:Ints w am A mod) (hi:bP w a n L) (hy:Ints w ay I y) :
  Calls prog 17 #[.agg #[cG P,cG M,.slice am A cm,cG N,.slice a n c],cG i,.slice ay I cy] w λe w'=>e = ec #[cG (JN P M mod N L i y),cG (Bn P M mod N L i y)]/\SJ w w':=by
 have HP:Hid (∀V,SJ w V->Calls prog 47 #[.agg #[cG P,cG M,.slice am A cm,cG N,.slice a n c],cG i] V λe w'=>e = .returned (cG (jY P M mod N L i))/\SJ V w'):=λV hV=>mw P M am A cm mod N a n c L i V (K.ai hV) (hi.ai hV);have HH:Hid (jY P M mod N L i=0->∀V,SJ w V->Calls prog 48 #[.agg #[cG P,cG M,.slice am A cm,cG N,.slice a n c],cG i] V (nX (sd P M mod N.toNat L i) (jg P M mod N.toNat L i) (oF P M mod N.toNat L i) V)):=λh V hV=>by
  obtain ⟨hE,h0,h1⟩:=uU h;obtain ⟨m,rfl,_⟩:=aT hE;obtain ⟨j,rfl⟩:∃j:Nat,i=j:=⟨i.toNat,by omega⟩
  rw [M9];exact qC P M am A cm mod m j a n c L V (K.ai hV) (hi.ai hV) hE (by omega)
 have HNw:Hid (jY P M mod N L i=0->∀V,SJ w V->Calls prog 52 #[.agg #[cG P,cG M,.slice am A cm]] V λe w'=>∃b,e = ec #[ea b 0,cG 0]/\dg w' b (ah P M.toNat mod)/\SJ V w'):=λh V hV=>by
  obtain ⟨hE,_,_⟩:=uU h;refine (dh P M am A cm mod V (K.ai hV)).mono ?_;rintro e w' (⟨h1,_⟩ | ⟨_,b,h2,h3,_,h4⟩)
  ·rw [(aX hE).1] at h1;cases h1
  ·exact ⟨b,h2,h3.gf,h4⟩
 have HS:Hid (∀k,k<(jg P M mod N.toNat L i).length->0<=nth (jg P M mod N.toNat L i) k/\nth (jg P M mod N.toNat L i) k<N.toNat):=λk hk=>by have h:=aG hk;rw [jg] at h;exact Dl h
 have HC:Hid (∀k,k<(jg P M mod N.toNat L i).length->nth (oF P M mod N.toNat L i) k=(ah P M.toNat mod).neg (nth (gZ P M mod N.toNat L i) (nth (jg P M mod N.toNat L i) k).toNat)):=λk hk=>by rw [oF];rw [an (by simpa using hk),Oc,an hk]
 have HE:Hid (Bn P M mod N L i y=if jY P M mod N L i=0 then (if (I:Int) ≠ N then 4 else if fC (ah P M.toNat mod).q y=false then 2 else sd P M mod N.toNat L i) else jY P M mod N L i):=by show _=_;rw [Bn,hy.len]
 have HV:Hid (JN P M mod N L i y=if Bn P M mod N L i y=0 then repTo (ah P M.toNat mod).ops (gZ P M mod N.toNat L i) y (jg P M mod N.toNat L i) (jg P M mod N.toNat L i).length else 0):=rfl;have HY:Hid (y.length=I):=hy.len;have HEl:Hid (fC (ah P M.toNat mod).q y=true->(ah P M.toNat mod).vn y):=λh=>Au h;have HI:Hid (Ints w ay I y):=hy;generalize JN P M mod N L i y=v at *;generalize Bn P M mod N L i y=er at *;generalize jY P M mod N L i=pe at *;generalize sd P M mod N.toNat L i=he at *;generalize oF P M mod N.toNat L i=C at *;generalize jg P M mod N.toNat L i=S at *;generalize gZ P M mod N.toNat L i=d at *;generalize ah P M.toNat mod=G at *;clear K hi hy;go_enter func17,ntmps17;go_upto_region 1 with fail;obtain ⟨W,hW⟩:∃W:ej,W=w.alloc (.cells #[cG P,cG M,.slice am A cm,cG N,.slice a n c] 27):=⟨_,rfl⟩
 rw [<- hW];have hbW:SJ w W:=by rw [hW];exact aD _ _
 have x0:aQ W w.heap.size [cG P,cG M,.slice am A cm,cG N,.slice a n c]:=by rw [hW];exact RV _ _ _ rfl
 have HX:=Z5 x0;have HbW:=Z5 hbW;have c0:=x0.cell 0 rfl;have c1:=x0.cell 1 rfl;have c2:=x0.cell 2 rfl;have c3:=x0.cell 3 rfl;have c4:=x0.cell 4 rfl;clear hW x0 hbW;go_wp2_with fail;refine (HP W HbW.out).mono ?_;rintro e w1 ⟨rfl,hb1⟩;have hF1:=RU HbW.out hb1;clear c0 c1 c2 c3 c4;by_cases h0:pe=0;rotate_left
 ·have d0:(pe != 0)=true:=by simpa using h0
  have F:Hid (er=pe):=by show _=_;rw [HE.out,M8 h0]
  have Z:Hid (v=0):=by show _=_;rw [HV.out,M8 (by rw [F.out];exact h0)]
  clear h0 HH HNw;go_wp2_with fail;go_ret2;exact ⟨by rw [F.out,Z.out]<;>rfl,hF1⟩
 have d0:(pe != 0)=false:=by simp [h0]
 have HR0:Hid (er=if (I:Int) ≠ N then 4 else if fC G.q y=false then 2 else he):=by show _=_;rw [HE.out,M7 h0]
 have HH1:=Z5 (HH h0);have HN1:=Z5 (HNw h0);have y1:=HX.ai hb1;have c0:=y1.cell 0 rfl;have c1:=y1.cell 1 rfl;have c2:=y1.cell 2 rfl;clear y1 h0 HH HNw HE HP;go_wp2_with fail;refine (HN1 w1 hF1).mono ?_;rintro e w2 ⟨b,rfl,hG2,hb2⟩;have hF2:=RU hF1 hb2;clear c0 c1 c2;have hb3:=aD w2 (.cells #[ea b 0] 79);have hc3:=bh w2 (ea b 0) 79;have X:=RU hF2 hb3;obtain ⟨U,hU⟩:∃U:ej,U=w2.alloc (.cells #[ea b 0] 79):=⟨_,rfl⟩
 have hG3:=hG2.ai hb3;rw [<- hU] at hb3 hc3 X hG3;have x3:=(HX.ai hb1).ai (RU hb2 hb3);have c3:=x3.cell 3 rfl;have r:=Z5 (qU (λx=>!(decide (0<=x) && decide (x<G.q))) w2.heap.size ay I cy y U (HI.ai X) λk hk=>Cs w2.heap.size (nth y k) hc3 hG3);rw [xX] at r;have hmf:∀(fn:Fn) (first cap:Array Value) (w:ej),(Instr.makeFunc fn first cap).run prog w = .ok (.func fn first cap) w:=λ_ _ _ _=>rfl;have HU:=Z5 hU;have HG3:=Z5 hG3;have Hc3:=Z5 hc3;have Hx3:=Z5 x3;clear x3 hG2 hG3;go_upto_region 7 with fail;rw [<- hU];clear hU;by_cases h1:(I:Int) ≠ N
 ·have F:Hid (er=4):=by show _=_;rw [HR0.out,M7 h1]
  have Z:Hid (v=0):=by show _=_;rw [HV.out,M8 (by rw [F.out];decide)]
  have d1:((I:Int) != N)=true:=by simpa using h1
  clear h1;go_wp2_with fail;go_ret2;exact ⟨by rw [F.out,Z.out]<;>rfl,X⟩
 have HR1:Hid (er=if fC G.q y=false then 2 else he):=by show _=_;rw [HR0.out,M8 h1]
 obtain rfl:(I:Int)=N:=Classical.not_not.1 h1;have d1:((I:Int) != I)=false:=by simp
 clear h1;obtain ⟨z,hz⟩:∃z,fC G.q y=z:=⟨_,rfl⟩
 rw [hz] at r HR1 HEl;clear hz;cases z
 ·have F:Hid (er=2):=by show _=_;rw [HR1.out];rfl
  have Z:Hid (v=0):=by show _=_;rw [HV.out,M8 (by rw [F.out];decide)]
  go_wp2_with fail;refine r.mono ?_;rintro e w' ⟨rfl,rfl⟩;go_wp2_with fail;go_ret2;exact ⟨by rw [F.out,Z.out]<;>rfl,X⟩
 have F:Hid (er=he):=by show _=_;rw [HR1.out];rfl
 have HYe:Hid (G.vn y):=HEl rfl;have c0:=Hx3.cell 0 rfl;have c1:=Hx3.cell 1 rfl;have c2:=Hx3.cell 2 rfl;have c4:=Hx3.cell 4 rfl;go_wp2_with fail;refine r.mono ?_;rintro e w' ⟨rfl,rfl⟩;go_wp2_with fail;refine (HH1 _ X).mono ?_;rintro e w4 ⟨hb4,⟨h1,rfl⟩ | ⟨h1,a2,k2,a3,k3,rfl,hI2,hI3⟩⟩
 ·have B:=RU X hb4;have H1:=Z5 h1;have Z:Hid (v=0):=by show _=_;rw [HV.out,M8 (by rw [F.out];exact H1)]
  have d2:(he != 0)=true:=by simpa using h1
  clear c0 c1 c2 c3 c4 h1;go_wp2_with fail;go_ret2;exact ⟨by rw [F.out,Z.out]<;>rfl,B⟩
 have B:=RU X hb4;have Z:Hid (v=repTo G.ops d y S S.length):=by show _=_;rw [HV.out,M7 (by rw [F.out];exact h1)]
 have HR3:Hid (er=0):=by show _=_;rw [F.out];exact h1
 have hG4:=HG3.ai hb4;have hc4:=aC hb4 Hc3.out;have HI2:=Z5 hI2;have HI3:=Z5 hI3;have HI4:=Z5 (HI.ai B);have HG4:=Z5 hG4;have D:=hI2.max;unfold maxLen at D;have hp2:=hI2.pl;have hp3:=hI3.pl;have hpy:=(HI.ai B).pl;obtain ⟨q,hq⟩:∃q,S.length=q:=⟨_,rfl⟩
 rw [hq] at HI2 HI3 D hp2 hp3 HS HC Z ⊢;clear c0 c1 c2 c3 c4 hI2 hI3 hG4 hq h1;go_wp2_with fail;go_loopw [13,54] (λvv iv wr=>∃k:Nat,k<=q/\iv = cG k/\vv = cG (repTo G.ops d y S k)/\bm w4 wr) (λ_ iv _=>q - (intOf iv).toNat);case atStart=>exact ⟨0,Nb _,rfl,rfl,Sa _⟩
 case round =>
  obtain ⟨k,hk,rfl,rfl,hdr⟩:=hrel
  generalize wr=V at *
  by_cases E:k<q
  ·have H:=hdr.below
   have cS:=(HI2.ai H).cell k E
   have cC:=(HI3.ai H).cell k E
   obtain ⟨hs0,hs1⟩:=HS k E
   obtain ⟨j,hj⟩:∃j:Nat,nth S k=j:=⟨(nth S k).toNat,by omega⟩
   have hjn:j<I:=by omega
   have Hk:Hid (repTo G.ops d y S (k+1)=G.add (repTo G.ops d y S k) (G.mul (nth C k) (nth y j))):=by show _=_;rw [HC k E,repTo,hj,M9];rfl
   rw [hj] at cS
   have cY:=(HI4.ai H).cell j hjn
   have cP:=aC H hc4
   have Y:dg V b G:=HG4.ai H
   have elC:G.El (nth C k):=by rw [HC k E];exact bX.uc Y _
   have elY:G.El (nth y j):=HYe _ (aG (by rw [HY.out];exact hjn))
   have elV:G.El (repTo G.ops d y S k):=by
    cases k with
    | zero=>exact ⟨Pu _,by have:=Y.q2;show (0:Int)<_;omega⟩
    | succ k=>exact bX.GR Y _ _
   generalize repTo G.ops d y S k=rv at *
   generalize nth C k=cv at *
   generalize nth y j=yv at *
   have elm:∀x y,G.El (G.mul x y):=λx y=>Sr Y x y
   have HG:Hid (dg V.drew b G/\∀n,dg (V.drewN n) b G):=⟨Y.ai (M5 _ _).drew,λn=>Y.drewN n⟩
   have Hdr:=Z5 hdr
   clear hs0 hs1 hj Y H
   go_wp2_with fail
   go_region_law ((first
    | (go_simp;go_at_call 57;((with_reducible refine (lp cv yv HG.out.1 elC elY).mono ?_);rintro e w5 ⟨m5,rfl,rfl⟩))
    | (go_simp;go_at_call 57;((with_reducible refine (lp cv yv (HG.out.2 _) elC elY).mono ?_);rintro e w5 ⟨m5,rfl,rfl⟩))
    | (go_simp;go_at_call 56;((with_reducible refine (Kb rv (G.mul cv yv) (HG.out.2 _) elV (elm _ _)).mono ?_);rintro e w6 ⟨m6,rfl,rfl⟩))))
   all_goals (
    go_wp2_with fail
    go_roundw
    case rel=>exact ⟨k+1,by omega,by go_num,by rw [Hk.out],Hdr.trans ⟨_,rfl⟩⟩
    case measure=>simp [intOf]<;>omega)
  ·obtain rfl:k=q:=by omega
   have hF:=RU B hdr.below
   go_wp2_with fail
   go_ret2
   exact ⟨by rw [Z.out,HR3.out]<;>rfl,hF⟩
def insS (x:Int):Lz->Lz
 | []=>[x]
 | y :: l=>if x<=y then x :: y :: l else y :: insS x l
def qo:Lz->Lz
 | []=>[]
 | x :: l=>insS x (qo l)
theorem p9 (x:Int):∀l,(insS x l).Perm (x :: l)
 | []=>Rb _
 | y :: l=>by
  rw [insS];split
  ·exact Rb _
  ·exact ((p9 x l).cons y).trans (List.Perm.swap x y l)
theorem wa (x:Int):∀ {l:Lz},l.Pairwise (λa b=>a<=b)->(insS x l).Pairwise (λa b=>a<=b)
 | [],_=>by simp [insS]
 | y :: l,h=>by
  rw [insS];rw [Pg] at h;split
  ·rename_i Z;rw [Pg,Pg];refine ⟨λa ha=>?_,h.1,h.2⟩;rcases List.mem_cons.1 ha with rfl | ha
   ·exact Z
   ·have:=h.1 a ha;omega
  ·rename_i Z;rw [Pg];refine ⟨λa ha=>?_,wa x h.2⟩;rcases List.mem_cons.1 ((p9 x l).mem_iff.1 ha) with rfl | ha
   ·omega
   ·exact h.1 a ha
theorem sD:∀l,(qo l).Perm l
 | []=>Rb _
 | x :: l=>(p9 x (qo l)).trans ((sD l).cons x)
theorem tL:∀l,(qo l).Pairwise (λa b=>a<=b)
 | []=>by simp [qo]
 | x :: l=>wa x (tL l)
theorem ql (l:Lz):bF l=qo l:=(oc (tL l) (sD l)).symm
def rQ (O:aL) (L:ZZ) (m:Nat) (C:kW) (s z:Lz):Lz:=qo (yH O L (qo z ++ frTo false (s ++ z) m) (if C.cos=true then m else C.M))
theorem AW (O:aL) (L:ZZ) (m:Nat) (C:kW) (s z:Lz):e8 O L m C s z=rQ O L m C s z:=by unfold e8 rQ i9;rw [ql,ql]
def bldI (O:aL) (L:ZZ) (m:Nat) (C:kW):Nat->Lz->Lz->ZZ->Int × ZZ
 | 0,s,z,T=>if eB O L m C s (rQ O L m C s z)=true then if T.length=65536 then (8,[]) else (0,T ++ [rQ O L m C s z]) else (11,[])
 | d+1,s,z,T=>if eB O L m C s (rQ O L m C s z)=true then if T.length=65536 then (8,[]) else gT (bldI O L m C d) s z (AZ C s z (rQ O L m C s z)) (T ++ [rQ O L m C s z]) else (11,[])
theorem D1 (O:aL) (L:ZZ) (m:Nat) (C:kW):∀d,jX O L m C d=bldI O L m C d
 | 0=>by funext s z T;rw [jX,bldI,AW]
 | d+1=>by funext s z T;rw [jX,bldI,AW,D1 O L m C d]
theorem Df (O:aL) (L:ZZ) (m:Nat) (C:kW):vW O L m C=bldI O L m C C.W [] [] []:=by rw [vW,D1]
theorem BR {P M:Int} {mod:Lz} {m:Nat} {L:ZZ} (X:aI P M mod m L=0):b8 (ah P M.toNat mod) (bt (ah P M.toNat mod) L m) m=bt (ah P M.toNat mod) L m:=by
 obtain ⟨V,e,U,Y,F,Z⟩:=aT X;obtain rfl:m=V:=by omega
 exact qb F (jA F (dk F Z) (dc F Z).1 (cU F Z))
theorem uL (P M:Int) (am:OA) (U S:Nat) (mod:Lz) (m:Nat) (a:OA) (n c:Nat) (L:ZZ) (w:ej) (Z:Ints w am U mod) (hi:bP w a n L) (K:aI P M mod m L=0) :
  Calls prog 99 #[.agg #[cG P,cG M,.slice am U S,cG m,.slice a n c]] w (oC (ah P M.toNat mod) L m w):=by
 have G:Hid (∀V,SJ w V->Calls prog 157 #[.agg #[cG P,cG M,.slice am U S],.slice a n c,cG m] V (oC (ah P M.toNat mod) L m V)):=λV E=>by
  obtain ⟨N',e,r,C,F,hR⟩:=aT K;obtain rfl:m=N':=by omega
  have hn:=hi.len;have hl:=iM K;exact FH P M am U S mod m a n c L V (Z.ai E) (hi.ai E) (aX K).1 hR (by omega) (by omega)
 clear Z hi K;unfold oC at G ⊢;generalize bt (ah P M.toNat mod) L m=D at *;go_enter func99,ntmps99;go_upto_region 1 with fail;obtain ⟨W,N⟩:∃W:ej,W=w.alloc (.cells #[cG P,cG M,.slice am U S,cG m,.slice a n c] 27):=⟨_,rfl⟩
 rw [<- N];have Y:SJ w W:=by rw [N];exact aD _ _
 have X:aQ W w.heap.size [cG P,cG M,.slice am U S,cG m,.slice a n c]:=by rw [N];exact RV _ _ _ rfl
 have c0:=X.cell 0 rfl;have c1:=X.cell 1 rfl;have c2:=X.cell 2 rfl;have z:=X.cell 3 rfl;have c4:=X.cell 4 rfl;clear N X;go_wp2_with fail;refine (G W Y).mono ?_;rintro e w1 ⟨a1,A,R,rfl,H,I⟩;have j:=Y.size;have hF:=RU Y I;have B:=Z5 (aS.mono H j);clear H c0 c1 c2 z c4;go_wp2_with fail;go_ret;exact ⟨a1,A,R,rfl,B,hF⟩
def mF (P M:Int) (mod:Lz) (N:Int) (L:ZZ) (w:ej) (e:Ending) (w':ej):Prop :=
 SJ w w'/\((aI P M mod N L ≠ 0/\e = ec #[.agg #[cG 0,cG 0,ds,cG 0,ds],cG (aI P M mod N L)]) \/
  (aI P M mod N L=0/\∃a1 c1 a2 c2,e = ec #[.agg #[cG P,cG M,.slice a1 mod.length c1,cG N,.slice a2 (bt (ah P M.toNat mod) L N.toNat).length c2],cG 0]/\Ints w' a1 mod.length mod /\
   bP w' a2 (bt (ah P M.toNat mod) L N.toNat).length (bt (ah P M.toNat mod) L N.toNat)))
theorem KL {P M:Int} {mod:Lz} {m:Nat} {L:ZZ} (Z:aI P M mod m L=0):(bt (ah P M.toNat mod) L m).length<=m:=iM (pD Z).1
theorem yT (P M:Int) (am:OA) (I C:Nat) (mod:Lz) (N:Int) (a:OA) (n c:Nat) (L:ZZ) (w:ej) (X:Ints w am I mod) (hi:bP w a n L) :
  Calls prog 45 #[.agg #[cG P,cG M,.slice am I C,cG N,.slice a n c]] w (mF P M mod N L w):=by
 have HK:Hid (∀V,SJ w V->Calls prog 35 #[.agg #[cG P,cG M,.slice am I C,cG N,.slice a n c]] V λe w'=>e = .returned (cG (aI P M mod N L))/\SJ V w'):=λV K=>Cn P M am I C mod N a n c L V (X.ai K) (hi.ai K);have HPa:Hid (aI P M mod N L=0->∀V,SJ w V->Calls prog 99 #[.agg #[cG P,cG M,.slice am I C,cG N,.slice a n c]] V λe w'=>∃a1 k1,e = .returned (.slice a1 (bt (ah P M.toNat mod) L N.toNat).length k1)/\bP w' a1 (bt (ah P M.toNat mod) L N.toNat).length (bt (ah P M.toNat mod) L N.toNat)/\SJ V w'):=λH V K=>by obtain ⟨m,rfl,_⟩:=aT H;rw [M9];refine (uL P M am I C mod m a n c L V (X.ai K) (hi.ai K) H).mono ?_;rintro e w' ⟨a1,k1,R,rfl,hO,hb⟩;exact ⟨a1,k1,rfl,hO.lL,hb⟩
 have HMk:Hid (aI P M mod N L=0->∀V a1 k1,SJ w V->bP V a1 (bt (ah P M.toNat mod) L N.toNat).length (bt (ah P M.toNat mod) L N.toNat)->Calls prog 72 #[.agg #[cG P,cG M,.slice am I C],.slice a1 (bt (ah P M.toNat mod) L N.toNat).length k1,cG N] V λe w' =>
   ∃a2 c2 a3 G,e = .returned (.agg #[cG P,cG M,.slice a2 mod.length c2,cG N,.slice a3 (bt (ah P M.toNat mod) L N.toNat).length G])/\bH V.heap.size w' a2 mod.length mod/\bJ V.heap.size w' a3 (bt (ah P M.toNat mod) L N.toNat).length (bt (ah P M.toNat mod) L N.toNat)/\SJ V w'):=λH V a1 k1 K hM=>by
  obtain ⟨m,rfl,hm1,hm64,F,hR⟩:=aT H;rw [M9] at hM ⊢;have hmn:I<=8:=by have:=mB (aX H).1;rw [<- X.len];exact this
  have hRd:bz (ah P M.toNat mod).El m (bt (ah P M.toNat mod) L m):=by
   obtain ⟨N',e,_,_,_,hR'⟩:=aT (pD H).1;obtain rfl:m=N':=by omega
   exact hR'
  have h:=An P M am I C mod m a1 (bt (ah P M.toNat mod) L m).length k1 (bt (ah P M.toNat mod) L m) V (X.ai K) hM (aX H).1 hRd (by omega) (by have h6:=KL H;omega) (by omega);unfold sA at h;rw [BR H] at h;exact h
 have E:Hid (∀a2 c2 a3 G w',aI P M mod N L=0->SJ w w'->Ints w' a2 mod.length mod->bP w' a3 (bt (ah P M.toNat mod) L N.toNat).length (bt (ah P M.toNat mod) L N.toNat) ->
   mF P M mod N L w (ec #[.agg #[cG P,cG M,.slice a2 mod.length c2,cG N,.slice a3 (bt (ah P M.toNat mod) L N.toNat).length G],cG 0]) w'):=λa2 c2 a3 G w' H hb h1 h2=>⟨hb,.inr ⟨H,a2,c2,a3,G,rfl,h1,h2⟩⟩
 have HNo:Hid (∀w',aI P M mod N L ≠ 0->SJ w w'->mF P M mod N L w (ec #[.agg #[cG 0,cG 0,ds,cG 0,ds],cG (aI P M mod N L)]) w'):=λw' h hb=>⟨hb,.inl ⟨h,rfl⟩⟩
 generalize mF P M mod N L w=Post at *;generalize aI P M mod N L=ce at *;obtain ⟨q,hq⟩:∃q,(bt (ah P M.toNat mod) L N.toNat).length=q:=⟨_,rfl⟩
 rw [hq] at HPa HMk E;clear hq;generalize bt (ah P M.toNat mod) L N.toNat=D at *;have hHm:=Z5 X;clear X hi hHm;go_enter func45,ntmps45;go_wp2_with fail;obtain ⟨W,hW⟩:∃W:ej,W=(w.alloc (.cells #[cG P,cG M,.slice am I C,cG N,.slice a n c] 27)).alloc (.cells #[cG 0,cG 0,ds,cG 0,ds] 27):=⟨_,rfl⟩
 rw [<- hW];have A:SJ w W:=by rw [hW];exact dP _ _ _
 have hsW:W.heap.size=w.heap.size+2:=by rw [hW];simp
 have x0:aQ W w.heap.size [cG P,cG M,.slice am I C,cG N,.slice a n c]:=by rw [hW];exact (RV _ _ _ rfl).alloc _
 have z0:aQ W (w.heap.size+1) [cG 0,cG 0,ds,cG 0,ds]:=by rw [hW];exact RV _ _ _ (by simp)
 clear hW;have hS:∀V,SJ W V->V.cell? ⟨w.heap.size,0,none⟩=some (cG P)/\V.cell? ⟨w.heap.size,1,none⟩=some (cG M)/\V.cell? ⟨w.heap.size,2,none⟩=some (.slice am I C)/\V.cell? ⟨w.heap.size,3,none⟩=some (cG N)/\V.cell? ⟨w.heap.size,4,none⟩=some (.slice a n c) /\
   aQ V (w.heap.size+1) [cG 0,cG 0,ds,cG 0,ds]:=λV K=>by have x1:=x0.ai K;exact ⟨x1.cell 0 rfl,x1.cell 1 rfl,x1.cell 2 rfl,x1.cell 3 rfl,x1.cell 4 rfl,z0.ai K⟩
 have HS:=Z5 hS;have HbW:=Z5 A;have HsW:=Z5 hsW;refine (HK W A).mono ?_;rintro e B ⟨rfl,S⟩;have U:=RU A S;have hs1:w.heap.size+2<=B.heap.size:=by rw [<- hsW];exact S.size
 have Hs1:=Z5 hs1;clear hS x0 z0 A hsW hs1;have HS5:Hid (∀(V:ej) (v0 v1 v2 v3 v4:Value),SJ w V->SJ w (((((V.setCell ⟨w.heap.size+1,0,none⟩ v0).setCell ⟨w.heap.size+1,1,none⟩ v1).setCell ⟨w.heap.size+1,2,none⟩ v2).setCell ⟨w.heap.size+1,3,none⟩ v3).setCell ⟨w.heap.size+1,4,none⟩ v4)):=λV v0 v1 v2 v3 v4 h =>
  (((((h.setCell (p:=⟨w.heap.size+1,0,none⟩) (by simp) _).setCell (p:=⟨w.heap.size+1,1,none⟩) (by simp) _).setCell (p:=⟨w.heap.size+1,2,none⟩) (by simp) _).setCell (p:=⟨w.heap.size+1,3,none⟩) (by simp) _).setCell (p:=⟨w.heap.size+1,4,none⟩) (by simp) _)
 by_cases h0:ce=0;rotate_left
 ·have d0:(ce != 0)=true:=by simpa using h0
  obtain ⟨_,_,_,_,_,Z⟩:=HS B S;have z0:=Z.cell 0 rfl;have z1:=Z.cell 1 rfl;have z2:=Z.cell 2 rfl;have z3:=Z.cell 3 rfl;have z4:=Z.cell 4 rfl;have f0:=Z.frozen 0;have f1:=Z.frozen 1;have f2:=Z.frozen 2;have f3:=Z.frozen 3;have f4:=Z.frozen 4;have HF:=Z5 (HNo _ h0 (HS5 B (cG 0) (cG 0) ds (cG 0) ds U));clear h0 Z;go_wp2_with fail;exact bodyPost_ret (v:=.tuple #[.agg #[cG 0,cG 0,ds,cG 0,ds],cG ce]) (by simp [results,results45,go_sem,z0,z1,z2,z3,z4]) rfl HF.out
 have d0:(ce != 0)=false:=by simp [h0]
 have HPa1:=Z5 (HPa h0);have HMk1:=Z5 (HMk h0);have HSet:Hid (∀(V:ej) (a2:OA) (c2:Nat) (a3:OA) (G:Nat),SJ B V->bH B.heap.size V a2 mod.length mod->bJ B.heap.size V a3 q D->Post (ec #[.agg #[cG P,cG M,.slice a2 mod.length c2,cG N,.slice a3 q G],cG 0]) (((((V.setCell ⟨w.heap.size+1,0,none⟩ (cG P)).setCell ⟨w.heap.size+1,1,none⟩ (cG M)).setCell ⟨w.heap.size+1,2,none⟩ (.slice a2 mod.length c2)).setCell ⟨w.heap.size+1,3,none⟩ (cG N)).setCell ⟨w.heap.size+1,4,none⟩ (.slice a3 q G))):=λV a2 c2 a3 G K hN hM=>by
  have h1:=Hs1.out;refine E a2 c2 a3 G _ h0 (HS5 V _ _ _ _ _ (RU U K)) ?_ ?_
  ·exact (((((hN.setCell (p:=⟨w.heap.size+1,0,none⟩) (by simp;omega) _).setCell (p:=⟨w.heap.size+1,1,none⟩) (by simp;omega) _).setCell (p:=⟨w.heap.size+1,2,none⟩) (by simp;omega) _).setCell (p:=⟨w.heap.size+1,3,none⟩) (by simp;omega) _).setCell (p:=⟨w.heap.size+1,4,none⟩) (by simp;omega) _).ints
  ·exact (((((hM.setCell (p:=⟨w.heap.size+1,0,none⟩) (by simp;omega) _).setCell (p:=⟨w.heap.size+1,1,none⟩) (by simp;omega) _).setCell (p:=⟨w.heap.size+1,2,none⟩) (by simp;omega) _).setCell (p:=⟨w.heap.size+1,3,none⟩) (by simp;omega) _).setCell (p:=⟨w.heap.size+1,4,none⟩) (by simp;omega) _).lL
 obtain ⟨c0,c1,c2,G,c4,_⟩:=HS B S;clear h0 HPa HMk E HNo HK;go_upto_region 4 with fail;go_region_law ((first
  | (go_simp;go_at_call 99;((with_reducible refine (HPa1.out _ (by first|exact U.drew|exact U)).mono ?_);rintro e w3 ⟨a3,k3,rfl,hM3,hb3⟩;have Y:SJ B w3:=(by first|exact RU (M5 _ _).drew hb3|exact hb3);obtain ⟨g0,g1,g2,g3,g4,_⟩:=HS.out w3 (RU S Y)))
  | (go_simp;go_at_call 72;((with_reducible refine (HMk1.out _ a3 k3 (by first|exact RU U Y|exact (RU U Y).drew) (by first|exact hM3|exact hM3.ai (M5 _ _).drew)).mono ?_);rintro e w5 ⟨a5,k5,a6,k6,rfl,j,r,hb5⟩;have z:SJ B w5:=(by first|exact RU Y hb5|exact RU Y.drew hb5);have HFi:=Z5 (HSet.out w5 a5 k5 a6 k6 z (by first|exact j.mono Y.size|exact j.mono Y.drew.size) (by first|exact r.mono Y.size|exact r.mono Y.drew.size));obtain ⟨_,_,_,_,_,Z⟩:=HS.out w5 (RU S z);have z0:=Z.cell 0 rfl;have z1:=Z.cell 1 rfl;have z2:=Z.cell 2 rfl;have z3:=Z.cell 3 rfl;have z4:=Z.cell 4 rfl;have f0:=Z.frozen 0;have f1:=Z.frozen 1;have f2:=Z.frozen 2;have f3:=Z.frozen 3;have f4:=Z.frozen 4;clear Z j r))))
 all_goals (
  go_wp2_with fail
  exact bodyPost_ret (v:=.tuple #[.agg #[cG P,cG M,.slice a5 mod.length k5,cG N,.slice a6 q k6],cG 0]) (by simp [results,results45,go_sem,z0,z1,z2,z3,z4]) rfl HFi.out)
section
open Go.RowKit
end
section
variable {O:aL} {El:Int->Prop} {m:Nat} {R:ZZ} {Q:Lz}
end
section
variable {P M:Int} {mod:Lz} {m:Nat} {L:ZZ}
end
section
open Go.RowKit
end
end Go.Proofs.YthglbncgemdcbaaGreat
