import Derived.Test.YthglbncgemdcbaaGreatCE20
import Derived.Test.YthglbncgemdcbaaGreatCE19
namespace Go.Proofs.YthglbncgemdcbaaGreat
set_option linter.all false
set_option maxRecDepth 100000
set_option maxHeartbeats 8000000
open Go.RowKit Go.Proofs.Tryz
theorem gW (a:OA) (n c:Nat) (x:LI) (i:Int) (w:World) (h:Ints w a n x) (hn:n<=1000000) :
  Calls prog 61 #[.slice a n c,cG i] w (cQ w (b8 x n i)):=by
 have G:Hid (∀k:Nat,nth x k ≠ 0->(k:Int) ≠ i->b8 x (k+1) i=b8 x k i ++ [(k:Int)]):=λk h1 h2=>by rw [l6,KX ⟨h1,h2⟩]
 have F:Hid (∀k:Nat,nth x k=0\/(k:Int)=i->b8 x (k+1) i=b8 x k i):=λk h1=>by rw [l6,KY];rintro ⟨h2,h3⟩;rcases h1 with h1 | h1;exact h2 h1;exact h3 h1
 have H:Hid (∀k,(b8 x k i).length<=k):=λk=>iI _ _ _;have HI:=Z5 h;have hpl:=h.pl;have r:=h.max;unfold maxLen at r;obtain ⟨Z,B⟩:∃Z:Nat->LI,(λk=>b8 x k i)=Z:=⟨_,rfl⟩
 have E:∀k,b8 x k i=Z k:=λk=>by rw [<- B]
 simp only [E] at G F H ⊢;have C:Hid (Z 0=[]):=by rw [<- B];rfl
 clear E B h;go_enter func61,ntmps61;go_wp2_with fail;go_loopw [5,10] (λov z wr=>∃(k g:Nat) (a1:OA) (c1:Nat),k<=n/\z = cG k/\Hid ((Z k).length=g)/\ov = .slice a1 g c1/\wr.ownsRow w.heap.size 3 1 (.slice a1 g c1) g ((Z k).map (Value.int .i64))/\PY w wr) (λ_ z _=>n - (intOf z).toNat);case atStart=>exact ⟨0,0,none,0,K0 _,rfl,by show _=_;rw [C.out];rfl,rfl,by rw [C.out];exact cU,KU _ _⟩
 case round =>
  obtain ⟨j,g,a2,c2,hj,rfl,S,rfl,Y,X⟩:=hrel
  by_cases D:j<n
  ·have hgk:g<=j:=by have h:=H j;rw [S.out] at h;omega
   have cj:=(HI.af X).cell j D
   have O:=G j
   have Q:=F j
   obtain ⟨y,hy⟩:∃y,nth x j=y:=⟨_,rfl⟩
   rw [hy] at cj O Q
   clear hy
   by_cases V:y=0
   ·have N:=Z5 (Q (.inl V))
    have d1:(y != 0)=false:=by simpa using V
    clear O Q V
    go_wp2_with fail
    go_roundw
    case rel=>exact ⟨j+1,g,a2,c2,by omega,by go_num,by show _=_;rw [N.out];exact S.out,rfl,by rw [N.out];exact Y,X⟩
    case measure=>simp [intOf] <;> omega
   have d1:(y != 0)=true:=by simpa using V
   by_cases U:(j:Int)=i
   ·have N:=Z5 (Q (.inr U))
    have d2:((j:Int) != i)=false:=by simpa using U
    clear O Q V U
    go_wp2_with fail
    go_roundw
    case rel=>exact ⟨j+1,g,a2,c2,by omega,by go_num,by show _=_;rw [N.out];exact S.out,rfl,by rw [N.out];exact Y,X⟩
    case measure=>simp [intOf] <;> omega
   ·have N:=Z5 (O V U)
    have d2:((j:Int) != i)=true:=by simpa using U
    clear O Q V U
    have hsz:=X.size
    have A:=bm wr (cG j) 3
    go_wp2_with (at_builtin;refine aS rfl _ _ 22 3 rfl (cG 0) 8 underlying22 bh rfl w.heap.size a2 g c2 _ rfl (Y.alloc _) ⟨wr.heap.size,0,none⟩ 1 (cG j) rfl A rfl (by omega) (by unfold maxLen;omega) (by simp;omega) ?_;intro a5 c5 w5 L K hap5)
    go_roundw
    case rel =>
     refine ⟨j+1,g+1,a5,c5,by omega,by go_num,by show _=_;rw [N.out,K6,S.out];rfl,rfl,by rw [N.out];simpa using L,Pp (Pq X _) (Y.alloc _) K (KT _) (Pq X _).size⟩
    case measure=>simp [intOf] <;> omega
  ·obtain rfl:j=n:=by omega
   have HR:Hid (∀e,e=Ending.returned (.slice a2 g c2)->cQ w (Z j) e wr):=λe he=>⟨a2,c2,by rw [S.out];exact he,by rw [S.out];exact Y,X⟩
   clear Y
   go_wp2_with fail
   go_ret
   exact HR _ rfl
theorem oa (a:OA) (n c:Nat) (x:LI) (w:World) (h:Ints w a n x) (X:n<=1000000) :
  Calls prog 76 #[.slice a n c] w λe w'=>e = .returned (cG (iK x:Nat))/\PY w w':=by
 have Z:=h.len;have Y:=Z5 (gW a n c x (-1) w h X);have hw:(b8 x n (-1)).length=iK x:=by rw [rU x n (-1) (.inl (by omega))];exact rO Z
 have V:=Z5 hw;clear h Z hw;go_enter func76,ntmps76;go_wp2_with fail;refine Y.mono ?_;rintro e U ⟨a1,c1,rfl,_,hb⟩;rw [V.out];go_wp2_with fail;go_ret;exact ⟨rfl,hb⟩
def lE (w:World) (a:OA) (n:Nat) (x:LI):Prop:=Ints w a n x/\a.isNone=decide (x=[])
theorem lE.af {w w':World} {a:OA} {n:Nat} {x:LI} (h:lE w a n x) (hb:PY w w'):lE w' a n x:=⟨h.1.af hb,h.2⟩
theorem nu (a:OA) (n c:Nat) (W:Ll) (m i:Nat) (w:World) (hW:bw w a n W) (hm:∀r ∈ W,r.length=m) (hi:i<m) (hm64:m<=64) :
  Calls prog 102 #[.slice a n c,cG i] w λe w'=>PY w w'/\∃ar nr cr,e = .returned (.slice ar nr cr)/\lE w' ar nr (bstL m i W n):=by
 have hln:=hW.len;have HM:=Z5 hW;have hpl:=hW.pl;have hmx:=hW.max;unfold maxLen at hmx;have j:Hid (∀k,k<n->(ai W k).length=m):=λk hk=>hm _ (eZ (by omega));have HSup:Hid (∀V b k c x,k<=1000000->Ints V b k x->Calls prog 61 #[.slice b k c,cG i] V (cQ V (b8 x k i))):=λV b k c x hk h=>gW b k c x i V h hk;have Heq:=Z5 (λ(w:World) (a:OA) (l c:Nat)=>Go.run_eql_slice_nil (P:=prog) w 22 3 a l c underlying22);clear hW hm hln;go_enter func102,ntmps102;go_wp2_with fail;go_loopw [5,12] (λbv iv wr=>∃(k:Nat) (N:OA) (Z A:Nat) (b:LI),k<=n/\iv = cG k/\bv = .slice N Z A/\Hid (bstL m i W k=b)/\Hid (b=[]\/b.length=m)/\Hid (lE wr N Z b)/\PY w wr) (λ_ iv _=>n - (intOf iv).toNat);case atStart=>exact ⟨0,none,0,0,[],K0 _,rfl,rfl,rfl,.inl rfl,⟨Pu _ _,rfl⟩,KU _ _⟩
 case round =>
  obtain ⟨k,N,Z,A,b,hk,rfl,rfl,Hst,C,Hb,G⟩:=hrel
  generalize wr=V at *
  by_cases hlt:k<n
  ·obtain ⟨ar,O,cr,hcell,Y⟩:=(HM.af G).cell k hlt
   have hmr:O=m:=by rw [<- Y.len];exact j k hlt
   subst hmr
   have hri:=Y.cell i hi
   have hplr:=Y.pl
   have hrn:ar.isNone=false:=by
    cases ar with
    | none=>have:=Y.pl (by omega);cases this
    | some x=>rfl
   obtain ⟨r,hr⟩:∃r,ai W k=r:=⟨_,rfl⟩
   have B:r.length=O:=by rw [<- hr];exact j k hlt
   rw [hr] at Y hri
   have Hnx:Hid (bstL O i W (k+1)=vX O i b r):=by show _=_;rw [bstL,Hst.out,hr]
   clear hr
   obtain ⟨y,hy⟩:∃y,nth r i=y:=⟨_,rfl⟩
   rw [hy] at hri
   have hii:(i:Int)<(O:Int):=by omega
   by_cases L:y=1
   rotate_left
   ·have d1:(y != 1)=true:=by simpa using L
    have S:Hid (bstL O i W (k+1)=b):=by show _=_;rw [Hnx.out,vX,KY (by rw [KV,hy];exact L)]
    clear hy L Y
    go_wp2_with fail
    go_roundw
    case rel=>exact ⟨k+1,N,Z,A,b,by omega,by go_num,rfl,S,C,Hb,G⟩
    case measure=>simp [intOf] <;> omega
   have d1:(y != 1)=false:=by simpa using L
   have S:Hid (bstL O i W (k+1)=if b=[]\/fu (b8 r O i) (b8 b O i)=true then r else b):=by show _=_;rw [Hnx.out,vX,KX (by rw [KV,hy];exact L)]
   have Hr:Hid (lE V ar O r):=⟨Y,by rw [hrn];exact (Lp λe=>by rw [e] at B;simp at B;omega).symm⟩
   have Hrl:=Z5 B
   have heq:=Heq.out
   clear hy L hrn Hnx B
   rcases C.out with hb0 | D
   ·have hin:N.isNone=true:=by rw [Hb.2];exact Lj hb0
    have U:Hid (bstL O i W (k+1)=r):=by show _=_;rw [S.out,KX (.inl hb0)]
    clear hb0 Y
    go_wp2_with fail
    go_roundw
    case rel=>exact ⟨k+1,ar,O,cr,r,by omega,by go_num,rfl,U,.inr Hrl.out,Hr,G⟩
    case measure=>simp [intOf] <;> omega
   have hbn:b ≠ []:=λe=>by rw [e] at D;simp at D;omega
   have hin:N.isNone=false:=by rw [Hb.2];exact Lp hbn
   have hnb:Z=O:=by rw [<- Hb.1.len];exact D
   subst hnb
   have HS1:=Z5 (HSup V ar Z cr r (by omega) Y)
   obtain ⟨s,hs⟩:∃s,b8 r Z i=s:=⟨_,rfl⟩
   obtain ⟨t,ht⟩:∃t,b8 b Z i=t:=⟨_,rfl⟩
   have hsl:s.length<=Z:=by rw [<- hs];exact iI _ _ _
   have htl:t.length<=Z:=by rw [<- ht];exact iI _ _ _
   have HSt:Hid (∀V',PY V V'->Calls prog 61 #[.slice N Z A,cG i] V' (cQ V' t)):=λV' hV'=>by rw [<- ht];exact HSup V' N Z A b (by omega) (Hb.1.af hV')
   rw [hs] at HS1
   rw [hs,ht] at S
   clear hs ht Y D
   have Hbn:=Z5 hbn
   clear hbn
   go_wp2_with fail
   refine HS1.mono ?_
   rintro e w1 ⟨a1,k1,rfl,H,E⟩
   have HS2:=Z5 (HSt w1 E)
   have Ho1:=Z5 H
   clear H
   go_wp2_with fail
   refine HS2.mono ?_
   rintro e w2 ⟨a2,k2,rfl,K,F⟩
   have Q:=Pm G (Pm E F)
   have z:=Z5 (xE a1 s.length k1 s a2 t.length k2 t w2 ((Pn Ho1.out).1.af F) (Pn K).1)
   have Hb2:Hid (lE w2 N Z b):=Hb.af (Pm E F)
   have Hr2:Hid (lE w2 ar Z r):=Hr.af (Pm E F)
   clear K hcell hri
   by_cases h1:s.length<t.length
   ·have U:Hid (bstL Z i W (k+1)=r):=by show _=_;rw [S.out,KX (.inr (gR.2 (.inl h1)))]
    go_wp2_with fail
    go_roundw
    case rel=>exact ⟨k+1,ar,Z,cr,r,by omega,by go_num,rfl,U,.inr Hrl.out,Hr2,Q⟩
    case measure=>simp [intOf] <;> omega
   ·by_cases h2:s.length=t.length
    ·have hd2:((s.length:Int) == (t.length:Int))=true:=by simp;omega
     have hle:t.length<=s.length:=by omega
     by_cases h3:cmpL s t<0
     ·have U:Hid (bstL Z i W (k+1)=r):=by show _=_;rw [S.out,KX (.inr (gR.2 (.inr ⟨h2,h3⟩)))]
      have hd3:decide (cmpL s t<0)=true:=by simpa using h3
      clear h1 h2 h3
      go_wp2_with (go_at_call 159;refine z.mono ?_;rintro e w' ⟨rfl,rfl⟩)
      go_roundw
      case rel=>exact ⟨k+1,ar,Z,cr,r,by omega,by go_num,rfl,U,.inr Hrl.out,Hr2,Q⟩
      case measure=>simp [intOf] <;> omega
     ·have U:Hid (bstL Z i W (k+1)=b):=by
       show _=_;rw [S.out,KY λX=>?_];rcases X with X | X
       ·exact Hbn X
       ·rcases gR.1 X with X | X
        ·exact h1 X
        ·exact h3 X.2
      have hd3:decide (cmpL s t<0)=false:=by simpa using h3
      clear h1 h2 h3
      go_wp2_with (go_at_call 159;refine z.mono ?_;rintro e w' ⟨rfl,rfl⟩)
      go_roundw
      case rel=>exact ⟨k+1,N,Z,A,b,by omega,by go_num,rfl,U,C,Hb2,Q⟩
      case measure=>simp [intOf] <;> omega
    ·have U:Hid (bstL Z i W (k+1)=b):=by
      show _=_;rw [S.out,KY λX=>?_];rcases X with X | X
      ·exact Hbn X
      ·rcases gR.1 X with X | X
       ·exact h1 X
       ·exact h2 X.1
     have hd2:((s.length:Int) == (t.length:Int))=false:=by simp;omega
     have hle:t.length<=s.length:=by omega
     clear h1 h2
     go_wp2_with fail
     go_roundw
     case rel=>exact ⟨k+1,N,Z,A,b,by omega,by go_num,rfl,U,C,Hb2,Q⟩
     case measure=>simp [intOf] <;> omega
  ·obtain rfl:k=n:=by omega
   have HR:Hid (PY w V/\∃ar nr cr,Ending.returned (.slice N Z A) = .returned (.slice ar nr cr)/\lE V ar nr (bstL m i W k)):=⟨G,N,Z,A,rfl,by rw [Hst.out];exact Hb⟩
   go_wp2_with fail
   go_ret
   exact HR
theorem tX (n:Int) (w:World):Calls prog 64 #[cG n] w λe w'=>e = .returned (.bool (decide (1<=n) && decide (n<=64)))/\w'=w:=by
 go_enter func64,ntmps64;by_cases h1:1<=n
 ·have d1:decide (1<=n)=true:=Lj h1;have H1:=Z5 h1;clear h1;go_wp2_with fail;go_ret;exact ⟨by first | (simp;done) | (simp;intro _;exact H1),rfl⟩
 ·have d1:decide (1<=n)=false:=Lp h1;have H1:=Z5 h1;clear h1;go_wp2_with fail;go_ret;exact ⟨by first | (simp;done) | (simp;intro h;exact absurd h H1.out),rfl⟩
def vj (n k r:Int):Int:=if n<1\/64<n\/k<1\/n<k\/r<1\/n<r then 6 else 0
def vQ (n k r:Int):Int:=if n<1\/64<n\/k<1\/n<k\/r<1\/n<r then 0 else n - k - (k+r - 1).tdiv r+2
theorem I4 {n k r:Int} (h:n<1\/64<n\/k<1\/n<k\/r<1\/n<r):vj n k r=6/\vQ n k r=0:=by unfold vj vQ;rw [KX h,KX h];exact ⟨rfl,rfl⟩
theorem Jy {n k r:Int} (h:¬ (n<1\/64<n\/k<1\/n<k\/r<1\/n<r)):vj n k r=0/\vQ n k r=n - k - (k+r - 1).tdiv r+2:=by unfold vj vQ;rw [KY h,KY h];exact ⟨rfl,rfl⟩
theorem zQ (n k r:Int) (w:World):Calls prog 22 #[cG n,cG k,cG r] w λe w'=>e = .returned (.tuple #[cG (vQ n k r),cG (vj n k r)])/\w'=w:=by
 have Y:Hid ((n<1\/64<n\/k<1\/n<k\/r<1\/n<r)->vj n k r=6/\vQ n k r=0):=I4;have H:Hid (¬ (n<1\/64<n\/k<1\/n<k\/r<1\/n<r)->vj n k r=0/\vQ n k r=n - k - (k+r - 1).tdiv r+2):=Jy;obtain ⟨E,L⟩:∃E,vj n k r=E:=⟨_,rfl⟩
 obtain ⟨V,K⟩:∃V,vQ n k r=V:=⟨_,rfl⟩
 rw [L,K] at Y H ⊢;clear L K;go_enter func22,ntmps22;by_cases h1:n<1
 ·have d1:decide (n<1)=true:=Lj h1;have Z:=Z5 (Y (.inl h1));clear h1;go_wp2_with fail;go_ret2;exact ⟨by rw [Z.1,Z.2] <;> rfl,rfl⟩
 have d1:decide (n<1)=false:=Lp h1;by_cases h2:64<n
 ·have d2:decide (64<n)=true:=Lj h2;have Z:=Z5 (Y (.inr (.inl h2)));clear h1 h2;go_wp2_with fail;go_ret2;exact ⟨by rw [Z.1,Z.2] <;> rfl,rfl⟩
 have d2:decide (64<n)=false:=Lp h2;by_cases h3:k<1
 ·have d3:decide (k<1)=true:=Lj h3;have Z:=Z5 (Y (.inr (.inr (.inl h3))));clear h1 h2 h3;go_wp2_with fail;go_ret2;exact ⟨by rw [Z.1,Z.2] <;> rfl,rfl⟩
 have d3:decide (k<1)=false:=Lp h3;by_cases X:n<k
 ·have d4:decide (n<k)=true:=Lj X;have Z:=Z5 (Y (.inr (.inr (.inr (.inl X)))));clear h1 h2 h3 X;go_wp2_with fail;go_ret2;exact ⟨by rw [Z.1,Z.2] <;> rfl,rfl⟩
 have d4:decide (n<k)=false:=Lp X;by_cases U:r<1
 ·have d5:decide (r<1)=true:=Lj U;have Z:=Z5 (Y (.inr (.inr (.inr (.inr (.inl U))))));clear h1 h2 h3 X U;go_wp2_with fail;go_ret2;exact ⟨by rw [Z.1,Z.2] <;> rfl,rfl⟩
 have d5:decide (r<1)=false:=Lp U;by_cases S:n<r
 ·have d6:decide (n<r)=true:=Lj S;have Z:=Z5 (Y (.inr (.inr (.inr (.inr (.inr S))))));clear h1 h2 h3 X U S;go_wp2_with fail;go_ret2;exact ⟨by rw [Z.1,Z.2] <;> rfl,rfl⟩
 have d6:decide (n<r)=false:=Lp S;have Z:=Z5 (H (by omega));have O:0<=(k+r - 1).tdiv r:=Int.tdiv_nonneg (by omega) (by omega);have N:(k+r - 1).tdiv r<=k+r - 1:=Int.tdiv_le_self _ (by omega);obtain ⟨q,G⟩:∃q,(k+r - 1).tdiv r=q:=⟨_,rfl⟩
 rw [G] at O N Z;have z:IntKind.i64.wrap (n - k)=n - k:=La _ (by omega);have B:IntKind.i64.wrap (k+r)=k+r:=La _ (by omega);have j:IntKind.i64.wrap (k+r - 1)=k+r - 1:=La _ (by omega);have A:IntKind.i64.wrap q=q:=La _ (by omega);have D:IntKind.i64.wrap (n - k - q)=n - k - q:=La _ (by omega);have C:IntKind.i64.wrap (n - k - q+2)=n - k - q+2:=La _ (by omega);have Q:r ≠ 0:=by omega
 have F:(r == 0)=false:=by simpa using Q
 go_wp2_with fail;go_ret2;exact ⟨by rw [Z.1,Z.2] <;> rfl,rfl⟩
def jT (P M:Int) (mod:LI) (N:Int) (L:Ll) (i:Int):Int:=if aI P M mod N L=0 then (if i<0\/N<=i then 6 else 0) else aI P M mod N L
theorem lY (P M:Int) (am:OA) (S cm:Nat) (mod:LI) (N:Int) (a:OA) (n c:Nat) (L:Ll) (i:Int) (w:World) (Z:Ints w am S mod) (hi:bw w a n L) :
  Calls prog 47 #[.agg #[cG P,cG M,.slice am S cm,cG N,.slice a n c],cG i] w λe w'=>e = .returned (cG (jT P M mod N L i))/\PY w w':=by
 have K:Hid (∀V,PY w V->Calls prog 88 #[.agg #[cG P,cG M,.slice am S cm,cG N,.slice a n c]] V λe w'=>e = .returned (cG (aI P M mod N L))/\PY V w'):=λV D=>dn P M am S cm mod N a n c L V (Z.af D) (hi.af D);have O:Hid (jT P M mod N L i=if aI P M mod N L=0 then (if i<0\/N<=i then 6 else 0) else aI P M mod N L):=rfl;obtain ⟨E,F⟩:∃E,jT P M mod N L i=E:=⟨_,rfl⟩
 obtain ⟨ce,Y⟩:∃ce,aI P M mod N L=ce:=⟨_,rfl⟩
 rw [F,Y] at O;rw [Y] at K;rw [F];clear F Y Z hi;go_enter func47,ntmps47;go_upto_region 1 with fail;obtain ⟨W,G⟩:∃W:World,W=w.alloc (.cells #[cG P,cG M,.slice am S cm,cG N,.slice a n c] 27):=⟨_,rfl⟩
 rw [<- G];have H:PY w W:=by rw [G];exact an _ _
 have U:aQ W w.heap.size [cG P,cG M,.slice am S cm,cG N,.slice a n c]:=by rw [G];exact Po _ _ _ rfl
 have B:=Z5 U;have c0:=U.cell 0 rfl;have c1:=U.cell 1 rfl;have c2:=U.cell 2 rfl;have C:=U.cell 3 rfl;have c4:=U.cell 4 rfl;clear G U;go_wp2_with fail;refine (K W H).mono ?_;rintro e A ⟨rfl,Q⟩;have hF:=Pm H Q;clear c0 c1 c2 C c4;have C:=(B.af Q).cell 3 rfl;by_cases h0:ce=0;rotate_left
 ·have d0:(ce != 0)=true:=by simpa using h0
  have X:Hid (E=ce):=by show _=_;rw [O.out,KY h0]
  clear h0;go_wp2_with fail;go_ret;exact ⟨aN X.symm,hF⟩
 have d0:(ce != 0)=false:=by simpa using h0
 by_cases h1:i<0
 ·have d1:decide (i<0)=true:=Lj h1;have X:Hid (E=6):=by show _=_;rw [O.out,KX h0,KX (.inl h1)]
  clear h0 h1;go_wp2_with fail;go_ret;exact ⟨aN X.symm,hF⟩
 have d1:decide (i<0)=false:=Lp h1;by_cases h2:N<=i
 ·have d2:decide (N<=i)=true:=Lj h2;have X:Hid (E=6):=by show _=_;rw [O.out,KX h0,KX (.inr h2)]
  clear h0 h1 h2;go_wp2_with fail;go_ret;exact ⟨aN X.symm,hF⟩
 ·have d2:decide (N<=i)=false:=Lp h2;have X:Hid (E=0):=by show _=_;rw [O.out,KX h0,KY (by omega)]
  clear h0 h1 h2;go_wp2_with fail;go_ret;exact ⟨aN X.symm,hF⟩
theorem wC (P M:Int) (am:OA) (X cm:Nat) (mod:LI) (m:Nat) (a:OA) (k c:Nat) (L:Ll) (w:World) (K:aI P M mod m L=0) (Z:Ints w am X mod) (hi:bw w a k L)
  (Y:jP (ah P M.toNat mod).q k ≠ 0) :
  Calls prog 158 #[.agg #[cG P,cG M,.slice am X cm,cG m,.slice a k c]] w λe w'=>e = .returned (.tuple #[ds,cG (jP (ah P M.toNat mod).q k)])/\PY w w':=by
 have N:Hid (∀V,PY w V->Calls prog 210 #[.agg #[cG P,cG M,.slice am X cm,cG m,.slice a k c]] V λe w'=>e = .returned (.tuple #[cG (oq (ah P M.toNat mod).q k),cG (jP (ah P M.toNat mod).q k)])/\PY V w') :=
  λV H=>zL P M am X cm mod m a k c L V K (Z.af H) (hi.af H)
 generalize oq (ah P M.toNat mod).q k=v at *;generalize jP (ah P M.toNat mod).q k=f at *;have d0:(f != 0)=true:=by simpa using Y
 clear Y Z hi K;go_enter func158,ntmps158;go_upto_region 1 with fail;obtain ⟨W,Q⟩:∃W:World,W=w.alloc (.cells #[cG P,cG M,.slice am X cm,cG m,.slice a k c] 27):=⟨_,rfl⟩
 rw [<- Q];have S:PY w W:=by rw [Q];exact an _ _
 have U:aQ W w.heap.size [cG P,cG M,.slice am X cm,cG m,.slice a k c]:=by rw [Q];exact Po _ _ _ rfl
 have c0:=U.cell 0 rfl;have c1:=U.cell 1 rfl;have c2:=U.cell 2 rfl;have G:=U.cell 3 rfl;have c4:=U.cell 4 rfl;clear Q U;go_wp2_with fail;refine (N W S).mono ?_;rintro e F ⟨rfl,O⟩;have hF:=Pm S O;clear c0 c1 c2 G c4;go_wp2_with fail;go_ret2;exact ⟨rfl,hF⟩
def vm (P M:Int) (mod:LI) (m:Nat) (L:Ll):Int:=jP (ah P M.toNat mod).q (aU (ah P M.toNat mod) L m).length
def lC (P M:Int) (mod:LI) (m:Nat) (L:Ll) (w:World) (e:Ending) (w':World):Prop :=
 PY w w'/\((vm P M mod m L ≠ 0/\e = .returned (.tuple #[ds,cG (vm P M mod m L)])) \/
  (vm P M mod m L=0/\∃a k c,e = .returned (.tuple #[.slice a k c,cG 0])/\bw w' a k (oD P M mod m L)))
theorem BD (P M:Int) (am:OA) (Y cm:Nat) (mod:LI) (m:Nat) (a:OA) (n c:Nat) (L:Ll) (w:World) (S:aI P M mod m L=0) (Z:Ints w am Y mod) (hi:bw w a n (aU (ah P M.toNat mod) L m)) :
  Calls prog 158 #[.agg #[cG P,cG M,.slice am Y cm,cG m,.slice a n c]] w (lC P M mod m L w):=by
 have V:=(gS S).1;have X:=hi.len;by_cases h:vm P M mod m L=0
 ·have Q:((ah P M.toNat mod).q:Int) ^ (aU (ah P M.toNat mod) L m).length<=65536:=by
   unfold vm jP at h;split at h
   ·assumption
   ·cases h
  have h2:(ah P M.toNat mod).q ^ n<=65536:=by
   rw [<- X];have e:((ah P M.toNat mod).q:Int) ^ (aU (ah P M.toNat mod) L m).length=(((ah P M.toNat mod).q ^ (aU (ah P M.toNat mod) L m).length:Nat):Int):=by simp
   rw [e] at Q;omega
  refine (DN P M am Y cm mod m a n c _ w _ V Z hi rfl h2).mono ?_;rintro e w' ⟨U,co,rfl,O,hb⟩;exact ⟨hb,.inr ⟨h,U,_,co,rfl,O⟩⟩
 ·have h2:jP (ah P M.toNat mod).q n ≠ 0:=by rw [<- X];exact h
  refine (wC P M am Y cm mod m a n c _ w V Z hi h2).mono ?_;rintro e w' ⟨rfl,hb⟩;refine ⟨hb,.inl ⟨h,?_⟩⟩;unfold vm;rw [X]
theorem rP (P M:Int) (am:OA) (Y cm:Nat) (mod:LI) (m:Nat) (a:OA) (n c:Nat) (L:Ll) (w:World) (Z:Ints w am Y mod) (hi:bw w a n L) (hE:aI P M mod m L=0) :
  Calls prog 101 #[.agg #[cG P,cG M,.slice am Y cm,cG m,.slice a n c]] w (lC P M mod m L w):=by
 have hmn:Y<=8:=by have:=jH (aL hE).1;rw [<- Z.len];exact this
 have HD:Hid (∀V,PY w V->Calls prog 80 #[.agg #[cG P,cG M,.slice am Y cm,cG m,.slice a n c]] V (kp P M mod m L V)):=λV hV=>tj P M am Y cm mod m a n c L V (Z.af hV) (hi.af hV) hE (by omega);have j:Hid (∀V a1 n1 c1 a2 n2 c2,Ints V a1 n1 mod->bw V a2 n2 (aU (ah P M.toNat mod) L m)->Calls prog 158 #[.agg #[cG P,cG M,.slice a1 n1 c1,cG m,.slice a2 n2 c2]] V (lC P M mod m L V)) :=
  λV a1 n1 c1 a2 n2 c2 h1 h2=>BD P M a1 n1 c1 mod m a2 n2 c2 L V hE h1 h2
 unfold kp at HD;unfold lC at j ⊢;generalize aU (ah P M.toNat mod) L m=D at *;generalize vm P M mod m L=f at *;generalize oD P M mod m L=S at *;obtain ⟨r,A⟩:∃r,mod.length=r:=⟨_,rfl⟩
 obtain ⟨nd,F⟩:∃nd,D.length=nd:=⟨_,rfl⟩
 rw [A,F] at HD;clear Z hi hE hmn A F;go_enter func101,ntmps101;go_upto_region 1 with fail;obtain ⟨W,hW⟩:∃W:World,W=w.alloc (.cells #[cG P,cG M,.slice am Y cm,cG m,.slice a n c] 27):=⟨_,rfl⟩
 rw [<- hW];have C:PY w W:=by rw [hW];exact an _ _
 have O:aQ W w.heap.size [cG P,cG M,.slice am Y cm,cG m,.slice a n c]:=by rw [hW];exact Po _ _ _ rfl
 have c0:=O.cell 0 rfl;have c1:=O.cell 1 rfl;have c2:=O.cell 2 rfl;have B:=O.cell 3 rfl;have c4:=O.cell 4 rfl;have K:=Z5 C;clear hW O C;go_wp2_with fail;refine (HD W K.out).mono ?_;rintro e w1 ⟨a1,k1,a2,k2,rfl,E,G,hb1⟩;obtain ⟨U,z⟩:∃U:World,U=w1.alloc (.cells #[cG P,cG M,.slice a1 r k1,cG m,.slice a2 nd k2] 27):=⟨_,rfl⟩
 have X:PY w1 U:=by rw [z];exact an _ _
 have N:aQ U w1.heap.size [cG P,cG M,.slice a1 r k1,cG m,.slice a2 nd k2]:=by rw [z];exact Po _ _ _ rfl
 have hF:=Pm K.out (Pm hb1 X);have HC:=Z5 (j U a1 r k1 a2 nd k2 (E.ints.af X) (G.iZ.af X));clear c0 c1 c2 B c4 E G;have c0:=N.cell 0 rfl;have c1:=N.cell 1 rfl;have c2:=N.cell 2 rfl;have B:=N.cell 3 rfl;have c4:=N.cell 4 rfl;rw [z] at c0 c1 c2 B c4;have HU:=Z5 z;clear z N;go_wp2_with fail;rw [<- HU.out];refine HC.mono ?_;rintro e w2 ⟨H,⟨h1,rfl⟩ | ⟨h1,a3,k3,c3',rfl,hM⟩⟩
 ·have Q:=Pm hF H;clear c0 c1 c2 B c4;go_wp2_with fail;go_ret2;exact ⟨Q,.inl ⟨h1,rfl⟩⟩
 ·have Q:=Pm hF H;have HM:=Z5 hM;clear c0 c1 c2 B c4 hM;go_wp2_with fail;go_ret2;exact ⟨Q,.inr ⟨h1,a3,k3,c3',rfl,HM⟩⟩
def rh (P M:Int) (mod:LI) (m:Nat) (L:Ll) (i:Int):Int:=if vm P M mod m L=0 then (if gE P M mod m L i=[] then 11 else 0) else vm P M mod m L
def i5 (P M:Int) (mod:LI) (m:Nat) (L:Ll) (i:Int):LI:=b8 (gE P M mod m L i) m i
def nU (P M:Int) (mod:LI) (m:Nat) (L:Ll) (i:Int):LI:=(i5 P M mod m L i).map λj=>(ah P M.toNat mod).neg (nth (gE P M mod m L i) j.toNat)
def nZ (Z:Int) (S C:LI) (w:World) (e:Ending) (w':World):Prop :=
 PY w w'/\((Z ≠ 0/\e = .returned (.tuple #[ds,ds,cG Z])) \/
  (Z=0/\∃a c a2 c2,e = .returned (.tuple #[.slice a S.length c,.slice a2 S.length c2,cG 0])/\Ints w' a S.length S/\Ints w' a2 S.length C))
theorem qj (P M:Int) (am:OA) (B cm:Nat) (mod:LI) (m i:Nat) (a:OA) (n c:Nat) (L:Ll) (w:World) (N:Ints w am B mod) (hi:bw w a n L) (hE:aI P M mod m L=0) (him:i<m) :
  Calls prog 48 #[.agg #[cG P,cG M,.slice am B cm,cG m,.slice a n c],cG i] w (nZ (rh P M mod m L i) (i5 P M mod m L i) (nU P M mod m L i) w):=by
 have U:m<=64:=by obtain ⟨N',e,hm1,U,F,hR⟩:=aZ hE;omega
 have HD:Hid (∀V,PY w V->Calls prog 101 #[.agg #[cG P,cG M,.slice am B cm,cG m,.slice a n c]] V (lC P M mod m L V)):=λV E=>rP P M am B cm mod m a n c L V (N.af E) (hi.af E) hE;have HNw:Hid (∀V,PY w V->Calls prog 52 #[.agg #[cG P,cG M,.slice am B cm]] V λe w'=>∃b,e = .returned (.tuple #[.pointer (some ⟨b,0,none⟩),cG 0])/\dU w' b (ah P M.toNat mod)/\PY V w'):=λV E=>by
  refine (dH P M am B cm mod V (N.af E)).mono ?_;rintro e w' (⟨h1,_⟩ | ⟨_,b,h2,h3,_,h4⟩)
  ·rw [(aL hE).1] at h1;cases h1
  ·exact ⟨b,h2,h3.gf,h4⟩
 have HH:Hid (∀V aW nW cW,bw V aW nW (oD P M mod m L)->Calls prog 102 #[.slice aW nW cW,cG i] V λe w'=>PY V w'/\∃ar nr cr,e = .returned (.slice ar nr cr)/\lE w' ar nr (gE P M mod m L i)):=λV aW nW cW hW=>by
  have h:=nu aW nW cW (oD P M mod m L) m i V hW (λr hr=>((pJ hE).1 hr).1.1) him U;have e:gE P M mod m L (i:Nat)=bstL m (i:Nat) (oD P M mod m L) nW:=by rw [gE,hW.len]
  rw [e];exact h
 have A:=xd hE (i:Int);have HEl:Hid (gE P M mod m L i ≠ []->(ah P M.toNat mod).Ch (gE P M mod m L i)/\(gE P M mod m L i).length=m):=λhne=>by
  rcases A with ⟨h,_⟩ | ⟨h,_,_⟩
  ·exact absurd h hne
  ·obtain ⟨h1,_⟩:=(pJ hE).1 h;exact ⟨h1.2,h1.1⟩
 have H:Hid (rh P M mod m L i=if vm P M mod m L=0 then (if gE P M mod m L i=[] then 11 else 0) else vm P M mod m L):=rfl;obtain ⟨x,hx⟩:∃x,gE P M mod m L i=x:=⟨_,rfl⟩
 have HC:Hid (nU P M mod m L i=(i5 P M mod m L i).map λj=>(ah P M.toNat mod).neg (nth x j.toNat)):=by rw [<- hx];rfl
 have HS:Hid (i5 P M mod m L i=b8 x m i):=by rw [<- hx];rfl
 rw [hx] at HH HEl H;unfold lC at HD;generalize rh P M mod m L i=er at *;generalize nU P M mod m L i=C at *;generalize i5 P M mod m L i=S at *;generalize vm P M mod m L=f at *;generalize oD P M mod m L=Dw at *;generalize ah P M.toNat mod=G at *;clear N hi hE hx A;go_enter func48,ntmps48;go_upto_region 1 with fail;obtain ⟨W,hW⟩:∃W:World,W=w.alloc (.cells #[cG P,cG M,.slice am B cm,cG m,.slice a n c] 27):=⟨_,rfl⟩
 rw [<- hW];have hbW:PY w W:=by rw [hW];exact an _ _
 have x0:aQ W w.heap.size [cG P,cG M,.slice am B cm,cG m,.slice a n c]:=by rw [hW];exact Po _ _ _ rfl
 have HX:=Z5 x0;have HbW:=Z5 hbW;have c0:=x0.cell 0 rfl;have c1:=x0.cell 1 rfl;have c2:=x0.cell 2 rfl;have c3:=x0.cell 3 rfl;have c4:=x0.cell 4 rfl;clear hW x0 hbW;go_wp2_with fail;refine (HD W HbW.out).mono ?_;rintro e w1 ⟨hb1,⟨h1,rfl⟩ | ⟨h1,aW,nW,cW,rfl,hM⟩⟩
 ·have hF:=Pm HbW.out hb1;have d0:(f != 0)=true:=by simpa using h1
  have HR:Hid (er=f):=by show _=_;rw [H.out,KY h1]
  have H1:=Z5 h1;clear c0 c1 c2 c3 c4 h1;go_wp2_with fail;go_ret3;exact ⟨hF,.inl ⟨by rw [HR.out];exact H1.out,by rw [HR.out] <;> rfl⟩⟩
 have HM:=Z5 hM;have hF1:=Pm HbW.out hb1;have H1:=Z5 h1;clear c0 c1 c2 c3 c4 hM h1;have y1:=HX.af hb1;have c0:=y1.cell 0 rfl;have c1:=y1.cell 1 rfl;have c2:=y1.cell 2 rfl;clear y1;go_wp2_with fail;refine (HNw w1 hF1).mono ?_;rintro e w2 ⟨b,rfl,hG2,hb2⟩;have hF2:=Pm hF1 hb2;have HG:=Z5 hG2;have HH2:=Z5 (HH w2 aW nW cW (HM.af hb2));clear c0 c1 c2 hG2;go_wp2_with fail;refine HH2.mono ?_;rintro e w3 ⟨hb3,ax,nx,cx,rfl,Z⟩;have hF3:=Pm hF2 hb3;have heq:=λ(w:World) (a:OA) (l c:Nat)=>Go.run_eql_slice_nil (P:=prog) w 22 3 a l c underlying22;by_cases h0:x=[]
 ·have hin:ax.isNone=true:=by rw [Z.2];exact Lj h0
  have HR:Hid (er=11):=by show _=_;rw [H.out,KX H1.out,KX h0]
  clear h0 Z;go_wp2_with fail;go_ret3;exact ⟨hF3,.inl ⟨by rw [HR.out];decide,by rw [HR.out] <;> rfl⟩⟩
 have hin:ax.isNone=false:=by rw [Z.2];exact Lp h0
 have HR:Hid (er=0):=by show _=_;rw [H.out,KX H1.out,KY h0]
 obtain ⟨hxe,hxl⟩:=HEl h0;have hnx:nx=m:=by rw [<- Z.1.len];exact hxl
 subst hnx;have HX3:=Z5 Z.1;have HSu:=Z5 (gW ax nx cx x i w3 Z.1 (by omega));rw [<- HS.out] at HSu;have Hxe:=Z5 hxe;have Hxl:=Z5 hxl;have HSb:Hid (∀j,j<S.length->0<=nth S j/\nth S j<nx):=λj hj=>by have h:=aG hj;rw [HS.out] at h;exact CY (by rw [HS.out];exact h)
 clear h0 Z hxe hxl;go_wp2_with fail;refine HSu.mono ?_;rintro e w4 ⟨a4,k4,rfl,Y,hb4⟩;have hF4:=Pm hF3 hb4;have HI4:=Z5 (Pn Y).1;have hpl4:=(Pn Y).1.pl;obtain ⟨q,hq⟩:∃q,S.length=q:=⟨_,rfl⟩
 have hq64:q<=64:=by rw [<- hq,HS.out];exact K9 (iI _ _ _) U
 rw [hq] at HI4 hpl4 HSb ⊢;have Hq:=Z5 hq;have HG4:Hid (∀V,PY w4 V->dU V b G/\Ints V ax nx x/\Ints V a4 q S):=λV E=>⟨HG.af (Pm hb3 (Pm hb4 E)),HX3.af (Pm hb4 E),HI4.af E⟩
 have hplx:=HX3.pl;clear Y hq;go_wp2_with fail;go_loopw [12,42] (λcv iv wr=>∃(k:Nat) (a5:OA) (c5:Nat),k<=q/\iv = cG k/\cv = .slice a5 k c5/\wr.ownsRow w4.heap.size 3 1 (.slice a5 k c5) k (((S.take k).map λj=>G.neg (nth x j.toNat)).map (Value.int .i64))/\PY w4 wr) (λ_ iv _=>q - (intOf iv).toNat);case atStart=>exact ⟨0,none,0,K0 _,rfl,rfl,cU,KU _ _⟩
 case round =>
  obtain ⟨k,a5,c5,hk,rfl,rfl,X,Q⟩:=hrel
  generalize wr=V at *
  by_cases K:k<q
  ·obtain ⟨hG,hIx,hIs⟩:=HG4 V Q
   have ck:=hIs.cell k K
   obtain ⟨hs0,hs1⟩:=HSb k K
   have Htk:Hid (S.take (k+1)=S.take k ++ [nth S k]):=by show _=_;rw [K4 (by rw [Hq.out];exact K),aj (by rw [Hq.out];exact K)]
   obtain ⟨j,hj⟩:∃j:Nat,nth S k=j:=⟨(nth S k).toNat,by omega⟩
   rw [hj] at ck hs1 Htk
   have hjn:j<nx:=by omega
   have cx:=hIx.cell j hjn
   have hye:=Hxe.nth (i:=j) (by rw [Hxl.out];exact hjn)
   have HNg:=Z5 (IT (nth x j) hG hye)
   have Hown:=Z5 X
   obtain ⟨y,hy⟩:∃y,nth x j=y:=⟨_,rfl⟩
   rw [hy] at cx HNg
   obtain ⟨z,hz⟩:∃z,G.neg y=z:=⟨_,rfl⟩
   rw [hz] at HNg
   have Hz:Hid (G.neg (nth x j)=z):=by rw [hy];exact hz
   clear hG hIx hIs hs0 hj hye X hy hz
   have hsz:=Q.size
   go_wp2_with fail
   refine HNg.mono ?_
   rintro e w6 ⟨m6,rfl,rfl⟩
   have O:=bf Hown.out (Pw ⟨m6,rfl⟩)
   have D:=Pm Q (Pw ⟨m6,rfl⟩)
   have hcn:=bm (V.drewN m6) (cG z) 3
   go_wp2_with (at_builtin;refine aS rfl _ _ 22 3 rfl (cG 0) 8 underlying22 bh rfl w4.heap.size a5 k c5 _ rfl (O.alloc _) ⟨(V.drewN m6).heap.size,0,none⟩ 1 (cG z) rfl hcn rfl (by omega) (by unfold maxLen;omega) (by simp;omega) ?_;intro a7 c7 w7 hown7 hgr7 hap7)
   go_roundw
   case rel=>exact ⟨k+1,a7,c7,by omega,by go_num,rfl,by rw [Htk.out,LJ,LJ];simpa [Hz.out] using hown7,Pp (Pq D _) (O.alloc _) hgr7 (KT _) (Pq D _).size⟩
   case measure=>simp [intOf] <;> omega
  ·obtain rfl:k=q:=by omega
   have hIC:Ints V a5 k C:=by have h:=(Pn X).1;rw [<- Hq.out,N9] at h;rw [HC.out];rw [Hq.out] at h;exact h
   have HP:Hid (nZ er S C w (.returned (.tuple #[.slice a4 k k4,.slice a5 k c5,cG 0])) V):=⟨Pm hF4 Q,.inr ⟨HR,a4,k4,a5,c5,by rw [Hq.out],by rw [Hq.out];exact HI4.af Q,by rw [Hq.out];exact hIC⟩⟩
   clear X hIC
   go_wp2_with fail
   go_ret3
   exact HP
def Eu (P M:Int) (mod:LI) (N:Int) (L:Ll) (i:Int):Int:=if jT P M mod N L i=0 then rh P M mod N.toNat L i else jT P M mod N L i
theorem tC (P M:Int) (am:OA) (X cm:Nat) (mod:LI) (N:Int) (a:OA) (n c:Nat) (L:Ll) (i:Int) (w:World) (Z:Ints w am X mod) (hi:bw w a n L) :
  Calls prog 15 #[.agg #[cG P,cG M,.slice am X cm,cG N,.slice a n c],cG i] w (nZ (Eu P M mod N L i) (i5 P M mod N.toNat L i) (nU P M mod N.toNat L i) w):=by
 have HP:Hid (∀V,PY w V->Calls prog 47 #[.agg #[cG P,cG M,.slice am X cm,cG N,.slice a n c],cG i] V λe w'=>e = .returned (cG (jT P M mod N L i))/\PY V w'):=λV B=>lY P M am X cm mod N a n c L i V (Z.af B) (hi.af B);have HH:Hid (jT P M mod N L i=0->∀V,PY w V->Calls prog 48 #[.agg #[cG P,cG M,.slice am X cm,cG N,.slice a n c],cG i] V (nZ (rh P M mod N.toNat L i) (i5 P M mod N.toNat L i) (nU P M mod N.toNat L i) V)):=λh V B=>by
  unfold jT at h;split at h
  ·rename_i z;split at h
   ·cases h
   ·obtain ⟨m,rfl,_⟩:=aZ z;obtain ⟨j,rfl⟩:∃j:Nat,i=j:=⟨i.toNat,by omega⟩
    rw [KV];exact qj P M am X cm mod m j a n c L V (Z.af B) (hi.af B) z (by omega)
  ·rename_i z;exact absurd h z
 have HE:Hid (Eu P M mod N L i=if jT P M mod N L i=0 then rh P M mod N.toNat L i else jT P M mod N L i):=rfl;generalize Eu P M mod N L i=er at *;generalize jT P M mod N L i=r at *;generalize rh P M mod N.toNat L i=he at *;generalize i5 P M mod N.toNat L i=S at *;generalize nU P M mod N.toNat L i=C at *;clear Z hi;go_enter func15,ntmps15;go_upto_region 1 with fail;obtain ⟨W,hW⟩:∃W:World,W=w.alloc (.cells #[cG P,cG M,.slice am X cm,cG N,.slice a n c] 27):=⟨_,rfl⟩
 rw [<- hW];have D:PY w W:=by rw [hW];exact an _ _
 have U:aQ W w.heap.size [cG P,cG M,.slice am X cm,cG N,.slice a n c]:=by rw [hW];exact Po _ _ _ rfl
 have HX:=Z5 U;have H:=Z5 D;have c0:=U.cell 0 rfl;have c1:=U.cell 1 rfl;have c2:=U.cell 2 rfl;have c3:=U.cell 3 rfl;have c4:=U.cell 4 rfl;clear hW U D;go_wp2_with fail;refine (HP W H.out).mono ?_;rintro e w1 ⟨rfl,E⟩;have Y:=Pm H.out E;clear c0 c1 c2 c3 c4;by_cases h0:r=0;rotate_left
 ·have d0:(r != 0)=true:=by simpa using h0
  have O:Hid (er=r):=by show _=_;rw [HE.out,KY h0]
  have H0:=Z5 h0;clear h0 HH;go_wp2_with fail;go_ret3;exact ⟨Y,.inl ⟨by rw [O.out];exact H0.out,by rw [O.out] <;> rfl⟩⟩
 have d0:(r != 0)=false:=by simpa using h0
 have O:Hid (er=he):=by show _=_;rw [HE.out,KX h0]
 have HC:=Z5 (HH h0 w1 Y);have K:=HX.af E;have c0:=K.cell 0 rfl;have c1:=K.cell 1 rfl;have c2:=K.cell 2 rfl;have c3:=K.cell 3 rfl;have c4:=K.cell 4 rfl;clear K h0 HH;go_wp2_with fail;refine HC.mono ?_;rintro e w2 ⟨F,⟨h1,rfl⟩ | ⟨h1,a2,k2,a3,k3,rfl,G,A⟩⟩
 ·have Q:=Pm Y F;have H1:=Z5 h1;clear c0 c1 c2 c3 c4 h1;go_wp2_with fail;go_ret3;exact ⟨Q,.inl ⟨by rw [O.out];exact H1.out,by rw [O.out] <;> rfl⟩⟩
 ·have Q:=Pm Y F;have H1:=Z5 (K3 h1 (K3 G A));clear c0 c1 c2 c3 c4 h1 G A;go_wp2_with fail;go_ret3;exact ⟨Q,.inr ⟨by rw [O.out];exact H1.1,a2,k2,a3,k3,rfl,H1.2.1,H1.2.2⟩⟩
def bW (P M:Int) (mod:LI) (m:Nat) (L:Ll):Ll:=(List.range m).map λi=>gE P M mod m L (i:Nat)
def fy (P M:Int) (mod:LI) (N:Int) (L:Ll):Int :=
 if aI P M mod N L=0 then (if vm P M mod N.toNat L=0 then (if [] ∈ bW P M mod N.toNat L then 11 else 0) else vm P M mod N.toNat L) else aI P M mod N L
def oQ (Z:Int) (A:Ll) (w:World) (e:Ending) (w':World):Prop :=
 PY w w'/\((Z ≠ 0/\e = .returned (.tuple #[ds,cG Z])) \/
  (Z=0/\∃a c,e = .returned (.tuple #[.slice a A.length c,cG 0])/\bw w' a A.length A/\(0<A.length->w.heap.size<=ablk a)))
theorem lX {P M:Int} {mod:LI} {m:Nat} {L:Ll} {k:Nat} (Z:k<m):ai (bW P M mod m L) k=gE P M mod m L (k:Nat):=by rw [bW,aE (by simpa using Z)];simp
theorem rI {P M:Int} {mod:LI} {m:Nat} {L:Ll} {i:Int} (Z:aI P M mod m L=0) (h:gE P M mod m L i ≠ []):(gE P M mod m L i).length=m:=by
 rcases xd Z i with ⟨h1,_⟩ | ⟨h1,_,_⟩
 ·exact absurd h1 h
 ·exact ((pJ Z).1 h1).1.1
theorem uh (P M:Int) (am:OA) (mn cm:Nat) (mod:LI) (N:Int) (a:OA) (n c:Nat) (L:Ll) (w:World) (G:Ints w am mn mod) (hi:bw w a n L) :
  Calls prog 60 #[.agg #[cG P,cG M,.slice am mn cm,cG N,.slice a n c]] w (oQ (fy P M mod N L) (bW P M mod N.toNat L) w):=by
 have HK:Hid (∀V,PY w V->Calls prog 88 #[.agg #[cG P,cG M,.slice am mn cm,cG N,.slice a n c]] V λe w'=>e = .returned (cG (aI P M mod N L))/\PY V w'):=λV hV=>dn P M am mn cm mod N a n c L V (G.af hV) (hi.af hV);have HD:Hid (aI P M mod N L=0->∀V,PY w V->Calls prog 101 #[.agg #[cG P,cG M,.slice am mn cm,cG N,.slice a n c]] V (lC P M mod N.toNat L V)):=λF V hV=>by obtain ⟨m,rfl,_⟩:=aZ F;rw [KV];exact rP P M am mn cm mod m a n c L V (G.af hV) (hi.af hV) F
 have HN:Hid (aI P M mod N L=0->∃m:Nat,N=m/\m<=64):=λF=>by obtain ⟨m,e,_,Y,_⟩:=aZ F;exact ⟨m,e,Y⟩
 have HH:Hid (aI P M mod N L=0->∀(k:Nat) (V:World) (aW:OA) (nW cW:Nat),k<N.toNat->bw V aW nW (oD P M mod N.toNat L)->Calls prog 102 #[.slice aW nW cW,cG k] V λe w'=>PY V w'/\∃ar nr cr,e = .returned (.slice ar nr cr)/\lE w' ar nr (ai (bW P M mod N.toNat L) k)):=λF k V aW nW cW hk hW=>by
  obtain ⟨m,rfl,_,Y,_⟩:=aZ F;rw [KV] at hk hW ⊢;rw [lX hk];have h:=nu aW nW cW (oD P M mod m L) m k V hW (λr hr=>((pJ F).1 hr).1.1) hk Y;have e:gE P M mod m L (k:Nat)=bstL m (k:Nat) (oD P M mod m L) nW:=by rw [gE,hW.len]
  rw [e];exact h
 have HA:Hid (aI P M mod N L=0->∀k,k<N.toNat->ai (bW P M mod N.toNat L) k ≠ []->(ai (bW P M mod N.toNat L) k).length=N.toNat):=λF k hk h=>by obtain ⟨m,rfl,_⟩:=aZ F;rw [KV] at hk h ⊢;rw [lX hk] at h ⊢;exact rI F h
 have Z:Hid ((bW P M mod N.toNat L).length=N.toNat):=by show _=_;rw [bW,Lc,Ma]
 have HE:Hid (fy P M mod N L=if aI P M mod N L=0 then (if vm P M mod N.toNat L=0 then (if [] ∈ bW P M mod N.toNat L then 11 else 0) else vm P M mod N.toNat L) else aI P M mod N L):=rfl;unfold lC at HD;generalize fy P M mod N L=er at *;generalize bW P M mod N.toNat L=A at *;generalize aI P M mod N L=ce at *;generalize vm P M mod N.toNat L=de at *;generalize oD P M mod N.toNat L=Dw at *;clear G hi;go_enter func60,ntmps60;go_upto_region 1 with fail;obtain ⟨W,hW⟩:∃W:World,W=w.alloc (.cells #[cG P,cG M,.slice am mn cm,cG N,.slice a n c] 27):=⟨_,rfl⟩
 rw [<- hW];have hbW:PY w W:=by rw [hW];exact an _ _
 have x0:aQ W w.heap.size [cG P,cG M,.slice am mn cm,cG N,.slice a n c]:=by rw [hW];exact Po _ _ _ rfl
 have HX:=Z5 x0;have HbW:=Z5 hbW;have c0:=x0.cell 0 rfl;have c1:=x0.cell 1 rfl;have c2:=x0.cell 2 rfl;have c3:=x0.cell 3 rfl;have c4:=x0.cell 4 rfl;clear hW x0 hbW;go_wp2_with fail;refine (HK W HbW.out).mono ?_;rintro e w1 ⟨rfl,hb1⟩;have D:=Pm HbW.out hb1;clear c0 c1 c2 c3 c4;by_cases h0:ce=0;rotate_left
 ·have d0:(ce != 0)=true:=by simpa using h0
  have HR:Hid (er=ce):=by show _=_;rw [HE.out,KY h0]
  have H0:=Z5 h0;clear h0 HD HH HA HN;go_wp2_with fail;go_ret2;exact ⟨D,.inl ⟨by rw [HR.out];exact H0.out,by rw [HR.out] <;> rfl⟩⟩
 have d0:(ce != 0)=false:=by simp [h0]
 have HR0:Hid (er=if de=0 then (if [] ∈ A then 11 else 0) else de):=by show _=_;rw [HE.out,KX h0]
 have HD1:=Z5 (HD h0);have HH1:=Z5 (HH h0);have HA1:=Z5 (HA h0);obtain ⟨m,rfl,Y⟩:=HN h0;rw [KV] at HH1 HA1 Z;have y1:=HX.af hb1;have c0:=y1.cell 0 rfl;have c1:=y1.cell 1 rfl;have c2:=y1.cell 2 rfl;have c3:=y1.cell 3 rfl;have c4:=y1.cell 4 rfl;clear y1 h0 HD HH HA HN HE HK;go_wp2_with fail;refine (HD1 w1 D).mono ?_;rintro e w2 ⟨hb2,⟨h1,rfl⟩ | ⟨h1,aW,nW,cW,rfl,hM⟩⟩
 ·have H:=Pm D hb2;have d1:(de != 0)=true:=by simpa using h1
  have HR:Hid (er=de):=by show _=_;rw [HR0.out,KY h1]
  have H1:=Z5 h1;clear c0 c1 c2 c3 c4 h1;go_wp2_with fail;go_ret2;exact ⟨H,.inl ⟨by rw [HR.out];exact H1.out,by rw [HR.out] <;> rfl⟩⟩
 have H:=Pm D hb2;have HR:Hid (er=if [] ∈ A then 11 else 0):=by show _=_;rw [HR0.out,KX h1]
 have HM:=Z5 hM;have x2:=(HX.af hb1).af hb2;clear c0 c1 c2 c3 c4 h1 hM;have c3:=x2.cell 3 rfl;have heq:=λ(w:World) (a:OA) (l c:Nat)=>Go.run_eql_slice_nil (P:=prog) w 22 3 a l c underlying22;clear x2;go_wp2_with fail;go_loopw [7,25] (λsv iv wr=>∃(k:Nat) (a1:OA) (c1:Nat),k<=m/\iv = cG k/\sv = .slice a1 k c1/\(∃R,aO wr w2.heap.size a1 k c1 R (A.take k))/\PY w2 wr/\Hid (∀j,j<k->ai A j ≠ [])) (λ_ iv _=>m - (intOf iv).toNat);case atStart=>exact ⟨0,none,0,K0 _,rfl,rfl,⟨[],by simpa using PE w2 w2.heap.size⟩,KU _ _,λj hj=>by omega⟩
 case round =>
  obtain ⟨k,a1,c1,hk,rfl,rfl,⟨R,hO⟩,Q,hne⟩:=hrel
  generalize wr=V at *
  by_cases hlt:k<m
  ·have Hh:=Z5 (HH1 k V aW nW cW hlt (HM.af Q))
   have U:k<A.length:=by rw [Z.out];exact hlt
   have Hmem:Hid (ai A k ∈ A):=by show _ ∈ _;rw [aE U];exact Ly U
   have HxL:=Z5 (HA1 k hlt)
   have Htk:Hid (A.take (k+1)=A.take k ++ [ai A k]):=by show _=_;rw [K4 U,aE U]
   have Hne1:Hid (ai A k ≠ []->∀j,j<k+1->ai A j ≠ []):=λh j hj=>by
    by_cases e:j=k
    ·subst e;exact h
    ·exact hne j (by omega)
   obtain ⟨x,hx⟩:∃x,ai A k=x:=⟨_,rfl⟩
   rw [hx] at Hh Hmem HxL Htk Hne1
   have hsz:=Q.size
   have hF3:=Pm H Q
   clear hx U hne
   go_wp2_with fail
   refine Hh.mono ?_
   rintro e w3 ⟨E,ar,nr,cr,rfl,X⟩
   have hF4:=Pm hF3 E
   by_cases h0:x=[]
   ·have hin:ar.isNone=true:=by rw [X.2];exact Lj h0
    have C:Hid (er=11):=by show _=_;rw [HR.out,KX (by rw [<- h0];exact Hmem)]
    clear h0 X hO
    go_wp2_with fail
    go_ret2
    exact ⟨hF4,.inl ⟨by rw [C.out];decide,by rw [C.out] <;> rfl⟩⟩
   have hin:ar.isNone=false:=by rw [X.2];exact Lp h0
   have hnx:nr=m:=by rw [<- X.1.len];exact HxL h0
   have z:Ints w3 ar m x:=by rw [<- hnx];exact X.1
   have Hcl:=Z5 (dp ar m cr x (w:=w3) z (by omega))
   have Hn2:=Z5 (Hne1 h0)
   have hO3:=hO.af E
   clear h0 X z hO
   go_wp2_with fail
   refine Hcl.mono ?_
   rintro e w4 ⟨a3,O,rfl,S,hb4⟩
   have hbn:=an w4 (.cells #[.slice a3 x.length O] 22)
   have hO4:=hO3.af (Pm hb4 hbn)
   have hb34:=Pm E hb4
   have hs4:w2.heap.size<=(w4.alloc (.cells #[.slice a3 x.length O] 22)).heap.size:=by have h1:=hb34.size;simp;omega
   have K:=Z5 S
   clear S Hcl Hh
   go_wp2_with (at_builtin;refine aS rfl _ _ 25 22 rfl ds 24 underlying25 dw rfl w2.heap.size a1 k c1 _ rfl hO4.own ⟨w4.heap.size,0,none⟩ 1 (.slice a3 x.length O) rfl (bm w4 _ _) rfl (by omega) (by unfold maxLen;omega) hs4 ?_;intro a5 c5 w5 hown5 B hap5)
   go_roundw
   case rel =>
    have hown4:(w4.alloc (.cells #[.slice a3 x.length O] 22)).ownsRow w2.heap.size 3 1 (.slice a3 x.length O) x.length (x.map (Value.int .i64)) :=
     aY (bf K.out (an _ _)) (K9 hsz E.size)
    have hra:a3 ≠ none->¬ bQ a1 R (ablk a3):=λh0 hI=>by have h1:=(aT K.out h0).1;have h2:=(hO3.lt _ hI).2;omega
    have hP:=Py hO4 hown4 hra hown5 B hap5
    have hb5:PY w2 w5:=Pp (Pm Q (Pm hb34 hbn)) hO4.own B (KT _) hs4
    exact ⟨k+1,a5,c5,by omega,by go_num,rfl,⟨_,by rw [Htk.out];exact hP⟩,hb5,Hn2⟩
   case measure=>simp [intOf] <;> omega
  ·obtain rfl:k=m:=by omega
   rw [K5 (by rw [Z.out];exact KT _)] at hO
   have C:Hid (er=0):=by show _=_;rw [HR.out,KY];intro h;obtain ⟨j,hj,hj2⟩:=fZ h;exact hne j (by rw [<- Z.out];exact hj) hj2
   have hF:=Pm H Q
   have HO:=Z5 hO.iZ
   have HO2:Hid (0<k->w.heap.size<=ablk a1):=λh0=>K9 H.size (dR hO.own h0).1
   clear hO
   go_wp2_with fail
   go_ret2
   exact ⟨hF,.inr ⟨C,a1,c1,by rw [Z.out] <;> rfl,by rw [Z.out];exact HO.out,by rw [Z.out];exact HO2⟩⟩
def mxS (A:Ll) (m:Nat):Nat->Int
 | 0=>0
 | k+1=>max (mxS A m k) ((b8 (ai A k) m k).length:Int)
def xW (P M:Int) (mod:LI) (N:Int) (L:Ll):Int:=if fy P M mod N L=0 then mxS (bW P M mod N.toNat L) N.toNat N.toNat else 0
theorem lZ (P M:Int) (am:OA) (E cm:Nat) (mod:LI) (N:Int) (a:OA) (n c:Nat) (L:Ll) (w:World) (U:Ints w am E mod) (hi:bw w a n L) :
  Calls prog 20 #[.agg #[cG P,cG M,.slice am E cm,cG N,.slice a n c]] w λe w'=>e = .returned (.tuple #[cG (xW P M mod N L),cG (fy P M mod N L)])/\PY w w':=by
 have HK:Hid (∀V,PY w V->Calls prog 60 #[.agg #[cG P,cG M,.slice am E cm,cG N,.slice a n c]] V (oQ (fy P M mod N L) (bW P M mod N.toNat L) V)):=λV hV=>uh P M am E cm mod N a n c L V (U.af hV) (hi.af hV);have HV:Hid (xW P M mod N L=if fy P M mod N L=0 then mxS (bW P M mod N.toNat L) N.toNat N.toNat else 0):=rfl;have HL:Hid (fy P M mod N L=0->∃m:Nat,N=m/\m<=64/\(bW P M mod N.toNat L).length=m/\∀k,k<m->(ai (bW P M mod N.toNat L) k).length=m):=λh=>by
  have C:aI P M mod N L=0:=by
   unfold fy at h;split at h
   ·assumption
   ·rename_i C;exact absurd h C
  obtain ⟨m,rfl,_,X,_⟩:=aZ C;rw [fy,KX C,KV] at h;rw [KV];have hl:(bW P M mod m L).length=m:=by rw [bW,Lc,Ma]
  refine ⟨m,rfl,X,hl,λk hk=>?_⟩;have Y:ai (bW P M mod m L) k ∈ bW P M mod m L:=by rw [aE (by rw [hl];exact hk)];exact Ly _
  split at h
  ·split at h
   ·cases h
   ·rename_i h2;rw [lX hk] at Y ⊢;exact rI C λe=>h2 (by rw [<- e];exact Y)
  ·rename_i h1;exact absurd h h1
 generalize xW P M mod N L=v at *;generalize fy P M mod N L=er at *;generalize bW P M mod N.toNat L=A at *;clear U hi;go_enter func20,ntmps20;go_upto_region 1 with fail;obtain ⟨W,hW⟩:∃W:World,W=w.alloc (.cells #[cG P,cG M,.slice am E cm,cG N,.slice a n c] 27):=⟨_,rfl⟩
 rw [<- hW];have r:PY w W:=by rw [hW];exact an _ _
 have D:aQ W w.heap.size [cG P,cG M,.slice am E cm,cG N,.slice a n c]:=by rw [hW];exact Po _ _ _ rfl
 have Q:=Z5 r;have c0:=D.cell 0 rfl;have c1:=D.cell 1 rfl;have c2:=D.cell 2 rfl;have c3:=D.cell 3 rfl;have c4:=D.cell 4 rfl;clear hW D r;go_wp2_with fail;refine (HK W Q.out).mono ?_;rintro e w1 ⟨z,⟨h1,rfl⟩ | ⟨h1,aA,cA,rfl,hM,_⟩⟩
 ·have G:=Pm Q.out z;have d1:(er != 0)=true:=by simpa using h1
  have HR:Hid (v=0):=by show _=_;rw [HV.out,KY h1]
  clear c0 c1 c2 c3 c4 h1 HL;go_wp2_with fail;go_ret2;exact ⟨by rw [HR.out] <;> rfl,G⟩
 have G:=Pm Q.out z;have HR:Hid (v=mxS A N.toNat N.toNat):=by show _=_;rw [HV.out,KX h1]
 have H1:Hid (er=0):=h1;obtain ⟨m,rfl,X,F,B⟩:=HL h1;rw [KV] at HR;rw [F] at hM;have HM:=Z5 hM;have HAk:=Z5 B;have hplA:=hM.pl;rw [F];clear c0 c1 c2 c3 c4 h1 hM B HL HV HK F;go_wp2_with fail;go_loopw [6,19] (λsv iv wr=>∃k:Nat,k<=m/\iv = cG k/\sv = cG (mxS A m k)/\PY w1 wr) (λ_ iv _=>m - (intOf iv).toNat);case atStart=>exact ⟨0,K0 _,rfl,rfl,KU _ _⟩
 case round =>
  obtain ⟨k,hk,rfl,rfl,H⟩:=hrel
  generalize wr=V at *
  by_cases j:k<m
  ·obtain ⟨ra,K,rc,hcell,Z⟩:=(HM.af H).cell k j
   have hrn:K=m:=by rw [<- Z.len];exact HAk k j
   subst hrn
   have HS:=Z5 (gW ra K rc (ai A k) k V Z (by omega))
   have Hm:Hid (mxS A K (k+1)=max (mxS A K k) ((b8 (ai A k) K k).length:Int)):=rfl
   generalize b8 (ai A k) K k=S at *
   generalize mxS A K k=y at *
   clear Z
   go_wp2_with fail
   refine HS.mono ?_
   rintro e w4 ⟨a4,k4,rfl,O,hb4⟩
   have hb5:=Pm H hb4
   clear O
   go_wp2_with fail
   go_roundw
   case rel=>exact ⟨k+1,by omega,by go_num,by rw [Hm.out] <;> exact congrArg _ (by split <;> omega),hb5⟩
   case measure=>simp [intOf] <;> omega
  ·obtain rfl:k=m:=by omega
   have hF:=Pm G H
   go_wp2_with fail
   go_ret2
   exact ⟨by rw [HR.out,H1.out] <;> rfl,hF⟩
theorem rX {P M:Int} {mod:LI} {m:Nat} {L:Ll} (V:aI P M mod m L=0) (i:Nat) :
  dE P M mod m [bM m (i:Int)]=0/\aI P M mod m (bZ (ah P M.toNat mod) [bM m (i:Int)] m)=0 /\
  bI (ah P M.toNat mod).ops m (L ++ bZ (ah P M.toNat mod) [bM m (i:Int)] m)=bI (ah P M.toNat mod).ops m (L ++ [bM m (i:Int)]) /\
  aI P M mod m (bI (ah P M.toNat mod).ops m (L ++ [bM m (i:Int)]))=0:=by
 obtain ⟨O,e,Y,Z,F,S⟩:=aZ V;obtain rfl:m=O:=by omega
 have X:bt (ah P M.toNat mod).El m [bM m (i:Int)]:=λr Q=>by rw [List.mem_singleton.1 Q];exact lA F m i
 have U:=(aL V).1;have N:=j6 V;exact ⟨ki U (by omega) (by simp) X,uV U X Y Z (by simp),GJ F S X,uV U (mi S X) Y Z (by simp;omega)⟩
theorem rB (P M:Int) (am:OA) (C cm:Nat) (mod:LI) (m:Nat) (a:OA) (n c:Nat) (L:Ll) (i:Nat) (w:World) (N:Ints w am C mod) (hi:bw w a n L) (hE:aI P M mod m L=0) (him:i<m) :
  Calls prog 74 #[.agg #[cG P,cG M,.slice am C cm,cG m,.slice a n c],cG i] w λe w' =>
   ∃a1 c1 a2 c2,e = .returned (.tuple #[.agg #[cG P,cG M,.slice a1 mod.length c1,cG m,.slice a2 (da P M mod m L i).length c2],cG 0])/\Ints w' a1 mod.length mod/\bw w' a2 (da P M mod m L i).length (da P M mod m L i)/\PY w w':=by
 obtain ⟨f1,f2,f3,f4⟩:=rX hE i;have hm64:=(aL hE).2.2.1;have hm1:=(aL hE).2.1;have hmn:C<=8:=by have:=jH (aL hE).1;rw [<- N.len];exact this
 have hml:mod.length<=8:=jH (aL hE).1;have G:Hid (∀V a1 c1,PY w V->bw V a1 1 [bM m (i:Int)]->Calls prog 68 #[.agg #[cG P,cG M,.slice am C cm],.agg #[cG m,.slice a1 1 c1]] V λe w'=>∃a1 c1 a2 c2,e = .returned (.tuple #[.agg #[cG P,cG M,.slice a1 mod.length c1,cG m,.slice a2 (bZ (ah P M.toNat mod) [bM m (i:Int)] m).length c2],cG 0]) /\
   Ints w' a1 mod.length mod/\bw w' a2 (bZ (ah P M.toNat mod) [bM m (i:Int)] m).length (bZ (ah P M.toNat mod) [bM m (i:Int)] m)/\PY V w'):=λV a1 c1 hV h1=>by refine (pU P M am C cm mod m a1 1 c1 _ V (N.af hV) h1 f1 (by omega) (by omega) (by omega)).mono ?_;rintro e w' ⟨a2,c2,a3,S,rfl,h2,h3,h4⟩;exact ⟨a2,c2,a3,S,rfl,h2.ints,h3.iZ,h4⟩
 have O:Hid (∀V a2 c2 a3 S,PY w V->Ints V a2 mod.length mod->bw V a3 (bZ (ah P M.toNat mod) [bM m (i:Int)] m).length (bZ (ah P M.toNat mod) [bM m (i:Int)] m) ->
   Calls prog 126 #[.agg #[cG P,cG M,.slice am C cm,cG m,.slice a n c],.agg #[cG P,cG M,.slice a2 mod.length c2,cG m,.slice a3 (bZ (ah P M.toNat mod) [bM m (i:Int)] m).length S]] V λe w' =>
   ∃a1 c1 a2 c2,e = .returned (.tuple #[.agg #[cG P,cG M,.slice a1 mod.length c1,cG m,.slice a2 (bI (ah P M.toNat mod).ops m (L ++ [bM m (i:Int)])).length c2],cG 0]) /\
   Ints w' a1 mod.length mod/\bw w' a2 (bI (ah P M.toNat mod).ops m (L ++ [bM m (i:Int)])).length (bI (ah P M.toNat mod).ops m (L ++ [bM m (i:Int)]))/\PY V w'):=λV a2 c2 a3 S hV h1 h2=>by have h:=yZ P M am C cm mod m a n c L a2 mod.length c2 a3 _ S _ V (N.af hV) (hi.af hV) h1 h2 hE f2 (by omega);rw [f3] at h;refine h.mono ?_;rintro e w' ⟨a4,c4,a5,c5,rfl,h2,h3,h4⟩;exact ⟨a4,c4,a5,c5,rfl,h2.ints,h3.iZ,h4⟩
 have HDu:Hid (∀V a2 c2 a3 S,Ints V a2 mod.length mod->bw V a3 (bI (ah P M.toNat mod).ops m (L ++ [bM m (i:Int)])).length (bI (ah P M.toNat mod).ops m (L ++ [bM m (i:Int)])) ->
   Calls prog 80 #[.agg #[cG P,cG M,.slice a2 mod.length c2,cG m,.slice a3 (bI (ah P M.toNat mod).ops m (L ++ [bM m (i:Int)])).length S]] V λe w' =>
   ∃a1 c1 a2 c2,e = .returned (.tuple #[.agg #[cG P,cG M,.slice a1 mod.length c1,cG m,.slice a2 (da P M mod m L i).length c2],cG 0]) /\
   bL V.heap.size w' a1 mod.length mod/\cF V.heap.size w' a2 (da P M mod m L i).length (da P M mod m L i)/\PY V w'):=λV a2 c2 a3 S h1 h2 =>
  tj P M a2 mod.length c2 mod m a3 _ S _ V h1 h2 f4 (by omega)
 have hux:(List.replicate m (0:Int)).set i 1=bM m i:=by rw [bM,KV]
 have Hux:=Z5 hux;obtain ⟨u,hu⟩:∃u,bM m (i:Int)=u:=⟨_,rfl⟩
 have Hul:Hid (u.length=m):=by show _=_;rw [<- hu,<- hux];simp
 rw [hu] at G Hux;clear f1 f2 f3 f4 N hi hE hux;rw [hu] at O HDu;generalize bZ (ah P M.toNat mod) [u] m=U1 at *;generalize bI (ah P M.toNat mod).ops m (L ++ [u])=U2 at *;generalize da P M mod m L i=U3 at *;obtain ⟨Z,A⟩:∃Z,mod.length=Z:=⟨_,rfl⟩
 obtain ⟨q1,hq1⟩:∃q,U1.length=q:=⟨_,rfl⟩
 obtain ⟨q2,hq2⟩:∃q,U2.length=q:=⟨_,rfl⟩
 obtain ⟨q3,hq3⟩:∃q,U3.length=q:=⟨_,rfl⟩
 rw [A,hq1] at G O;rw [hq2] at O;rw [A,hq2,hq3] at HDu;rw [A,hq3];clear hu A hq1 hq2 hq3 hml;go_enter func74,ntmps74;go_upto_region 1 with fail;obtain ⟨W,hW⟩:∃W:World,W=(w.alloc (.cells #[cG P,cG M,.slice am C cm,cG m,.slice a n c] 27)).alloc (.cells #[cG 0,cG 0,ds,cG 0,ds] 27):=⟨_,rfl⟩
 rw [<- hW];have hbW:PY w W:=by rw [hW];exact bY _ _ _
 have hsW:W.heap.size=w.heap.size+2:=by rw [hW];simp
 have x0:aQ W w.heap.size [cG P,cG M,.slice am C cm,cG m,.slice a n c]:=by rw [hW];exact (Po _ _ _ rfl).alloc _
 have z0:aQ W (w.heap.size+1) [cG 0,cG 0,ds,cG 0,ds]:=by rw [hW];exact Po _ _ _ (by simp)
 clear hW;have HX:Hid (∀V,PY W V->V.cell? ⟨w.heap.size,0,none⟩=some (cG P)/\V.cell? ⟨w.heap.size,1,none⟩=some (cG M)/\V.cell? ⟨w.heap.size,2,none⟩=some (.slice am C cm)/\V.cell? ⟨w.heap.size,3,none⟩=some (cG m)/\V.cell? ⟨w.heap.size,4,none⟩=some (.slice a n c)):=λV hV=>by have x1:=x0.af hV;exact ⟨x1.cell 0 rfl,x1.cell 1 rfl,x1.cell 2 rfl,x1.cell 3 rfl,x1.cell 4 rfl⟩
 have HZ:=Z5 z0;have HbW:=Z5 hbW;have HsW:=Z5 hsW;clear x0 z0 hbW hsW;obtain ⟨c0,c1,c2,S,c4⟩:=HX W (KU _ _);have hm64':m<=64:=by omega
 go_upto_region 2 with (at_make;refine bV rfl _ _ 22 3 rfl (cG 0) 8 underlying22 bh rfl m rfl rfl (by omega) (by unfold maxLen;omega) ?_;intro a5 w5 Q j hge hlt5)
 clear c0 c1 c2 S c4;rw [<- Mv] at Q;obtain ⟨hints,U⟩:=Pn Q;have hpl5:=hints.pl;have cz:=hints.cell i him;have fz:=(U (by omega)).2 i him;have hB:=(U (by omega)).1;have him1:(i:Int)<m:=by omega
 have H:=bA Q i him (cG 1);rw [<- Lq,Hux.out] at H;have r:PY W (w5.setCell ⟨ablk a5,aJ a5+i,none⟩ (cG 1)):=j.setCell hB _;have HI5:=Z5 (Pn H).1;clear Q hints U H hge hlt5;go_upto_region 3 with fail;obtain ⟨X,hX⟩:∃X,w5.setCell ⟨ablk a5,aJ a5+i,none⟩ (cG 1)=X:=⟨_,rfl⟩
 rw [hX] at r HI5 ⊢;clear cz fz hB hX j;obtain ⟨c0,c1,c2,S,c4⟩:=HX X r;obtain ⟨Y,hY⟩:∃Y:World,Y=X.alloc (.cells #[.slice a5 m m] 22):=⟨_,rfl⟩
 have B:PY X Y:=by rw [hY];exact an _ _
 have hM1:bw Y (some ⟨X.heap.size,0,none⟩) 1 [u]:=by
  refine ⟨rfl,λ_=>rfl,by unfold maxLen;omega,λk hk=>?_⟩;obtain rfl:k=0:=by omega
  refine ⟨a5,m,m,?_,HI5.af B⟩;rw [hY];exact aF _ _ _ rfl 0
 have hF5:=Pm HbW.out (Pm r B);have HC:=Z5 (G Y (some ⟨X.heap.size,0,none⟩) 1 hF5 hM1);have HY:=Z5 (K3 hY B);clear hY B hM1;go_wp2_with fail;rw [<- HY.1];refine HC.mono ?_;rintro e w6 ⟨a6,c6,a7,c7,rfl,hI6,hM6,hb6⟩;have hb16:=Pm (Pm r HY.2) hb6;have F:=an w6 (.cells #[cG P,cG M,.slice a6 Z c6,cG m,.slice a7 q1 c7] 27);have HB6:Hid (∀V,Below (w6.alloc (.cells #[cG P,cG M,.slice a6 Z c6,cG m,.slice a7 q1 c7] 27)).heap.size (w6.alloc (.cells #[cG P,cG M,.slice a6 Z c6,cG m,.slice a7 q1 c7] 27)) V->V.cell? ⟨w6.heap.size,0,none⟩=some (cG P)/\V.cell? ⟨w6.heap.size,1,none⟩=some (cG M)/\V.cell? ⟨w6.heap.size,2,none⟩=some (.slice a6 Z c6)/\V.cell? ⟨w6.heap.size,3,none⟩=some (cG m)/\V.cell? ⟨w6.heap.size,4,none⟩=some (.slice a7 q1 c7)):=λV hV=>by have y:=(Po w6 [cG P,cG M,.slice a6 Z c6,cG m,.slice a7 q1 c7] 27 rfl).af hV;exact ⟨y.cell 0 rfl,y.cell 1 rfl,y.cell 2 rfl,y.cell 3 rfl,y.cell 4 rfl⟩
 have hF6:=Pm HbW.out (Pm hb16 F);have HC2:=Z5 (O _ a6 c6 a7 c7 hF6 (hI6.af F) (hM6.af F));clear c0 c1 c2 S c4 HC hI6 hM6;go_upto_region 6 with fail;obtain ⟨V6,hV6⟩:∃V6,w6.alloc (.cells #[cG P,cG M,.slice a6 Z c6,cG m,.slice a7 q1 c7] 27)=V6:=⟨_,rfl⟩
 rw [hV6] at HB6 HC2 F hF6 ⊢;have hb17:=Pm hb16 F;obtain ⟨c0,c1,c2,S,c4⟩:=HX V6 hb17;obtain ⟨d0,d1,d2,d3,d4⟩:=HB6 V6 (KU _ _);clear hV6;go_wp2_with fail;refine HC2.mono ?_;rintro e w8 ⟨a8,c8,a9,c9,rfl,hI8,hM8,hb8⟩;have z:=an w8 (.cells #[cG P,cG M,.slice a8 Z c8,cG m,.slice a9 q2 c9] 27);have HC3:=Z5 (HDu _ a8 c8 a9 c9 (hI8.af z) (hM8.af z));have y8:aQ (w8.alloc (.cells #[cG P,cG M,.slice a8 Z c8,cG m,.slice a9 q2 c9] 27)) w8.heap.size [cG P,cG M,.slice a8 Z c8,cG m,.slice a9 q2 c9]:=Po _ _ _ rfl;clear c0 c1 c2 S c4 d0 d1 d2 d3 d4 HC2 hI8 hM8;go_upto_region 9 with fail;obtain ⟨V8,hV8⟩:∃V8,w8.alloc (.cells #[cG P,cG M,.slice a8 Z c8,cG m,.slice a9 q2 c9] 27)=V8:=⟨_,rfl⟩
 rw [hV8] at HC3 z y8 ⊢;have D:=Pm hb17 (Pm hb8 z);have d0:=y8.cell 0 rfl;have d1:=y8.cell 1 rfl;have d2:=y8.cell 2 rfl;have d3:=y8.cell 3 rfl;have d4:=y8.cell 4 rfl;clear hV8 y8;go_wp2_with fail;refine HC3.mono ?_;rintro e w9 ⟨aa,ca,ab,cb,rfl,hI9,hM9,hb9⟩;have K:=HZ.af (Pm D hb9);have z0:=K.cell 0 rfl;have z1:=K.cell 1 rfl;have z2:=K.cell 2 rfl;have z3:=K.cell 3 rfl;have z4:=K.cell 4 rfl;have f0:=K.frozen 0;have f1:=K.frozen 1;have f2:=K.frozen 2;have f3:=K.frozen 3;have f4:=K.frozen 4;have hs:=HsW.out;have hs1:=D.size;have hbF:=Pm HbW.out (Pm D hb9);have E:=Z5 (K3 (((((hI9.setCell (p:=⟨w.heap.size+1,0,none⟩) (by simp;omega) (cG P)).setCell (p:=⟨w.heap.size+1,1,none⟩) (by simp;omega) (cG M)).setCell (p:=⟨w.heap.size+1,2,none⟩) (by simp;omega) (.slice aa Z ca)).setCell (p:=⟨w.heap.size+1,3,none⟩) (by simp;omega) (cG m)).setCell (p:=⟨w.heap.size+1,4,none⟩) (by simp;omega) (.slice ab q3 cb)).ints
  (K3 (((((hM9.setCell (p:=⟨w.heap.size+1,0,none⟩) (by simp;omega) (cG P)).setCell (p:=⟨w.heap.size+1,1,none⟩) (by simp;omega) (cG M)).setCell (p:=⟨w.heap.size+1,2,none⟩) (by simp;omega) (.slice aa Z ca)).setCell (p:=⟨w.heap.size+1,3,none⟩) (by simp;omega) (cG m)).setCell (p:=⟨w.heap.size+1,4,none⟩) (by simp;omega) (.slice ab q3 cb)).iZ
   (((((hbF.setCell (p:=⟨w.heap.size+1,0,none⟩) (by simp) (cG P)).setCell (p:=⟨w.heap.size+1,1,none⟩) (by simp) (cG M)).setCell (p:=⟨w.heap.size+1,2,none⟩) (by simp) (.slice aa Z ca)).setCell (p:=⟨w.heap.size+1,3,none⟩) (by simp) (cG m)).setCell (p:=⟨w.heap.size+1,4,none⟩) (by simp) (.slice ab q3 cb))))
 clear d0 d1 d2 d3 d4 K hI9 hM9;go_wp2_with fail;exact bodyPost_ret (v:=.tuple #[.agg #[cG P,cG M,.slice aa Z ca,cG m,.slice ab q3 cb],cG 0]) (by simp [results,results74,go_sem,z0,z1,z2,z3,z4]) rfl ⟨aa,ca,ab,cb,rfl,E.1,E.2.1,E.2.2⟩
theorem zr (P M:Int) (am:OA) (Y cm:Nat) (Q:OA) (n N:Nat) (b:LI) (w:World) (hi:Ints w Q n b) :
  Calls prog 271 #[.agg #[cG P,cG M,.slice am Y cm],.slice Q n N,cG n] w λe w'=>e = .returned (cG (iO (aK P M) b))/\PY w w':=by
 have O:=Z5 (λV (K:PY w V)=>kV P M am Y cm Q n N b V (hi.af K));have H:((n:Int) != n)=false:=by simp
 go_enter func271,ntmps271;go_upto_region 1 with fail;obtain ⟨W,X⟩:∃W:World,W=w.alloc (.cells #[cG P,cG M,.slice am Y cm] 24):=⟨_,rfl⟩
 rw [<- X];have Z:PY w W:=by rw [X];exact an _ _
 have U:aQ W w.heap.size [cG P,cG M,.slice am Y cm]:=by rw [X];exact Po _ _ _ rfl
 have c0:=U.cell 0 rfl;have c1:=U.cell 1 rfl;have c2:=U.cell 2 rfl;have L:=Z5 (O W Z);clear X U O;go_wp2_with fail;refine L.mono ?_;rintro e G ⟨rfl,S⟩;have hF:=Pm Z S;go_wp2_with fail;go_ret;exact ⟨rfl,hF⟩
theorem As (P M:Int) (am:OA) (mn cm:Nat) (mod:LI) (k:Nat) (aA:OA) (t cA:Nat) (A:Ll) (z:OA) (cb:Nat) (b:LI) (w:World) (hmod:Ints w am mn mod) (hi:bw w aA t A) (hb:Ints w z t b) (hB:bs P M mod=true)
  (hR:bt (ah P M.toNat mod).El k A) (hbe:∀x ∈ b,(ah P M.toNat mod).El x) (hpl:(aD (ah P M.toNat mod).ops (iX A b) k).2.length=t) (hk:k<=64) (ht:t<=64) :
  Calls prog 264 #[.agg #[cG P,cG M,.slice am mn cm],.agg #[cG k,.slice aA t cA],.slice z t cb] w λe w' =>
   ∃a1 c1,e = .returned (.tuple #[.slice a1 k c1,cG 0])/\Ints w' a1 k (wh (ah P M.toNat mod).ops A b k)/\PY w w':=by
 have HC:=Z5 (Iq am mn cm k aA t cA hmod hi hB hR (by omega) (by omega));have hinv:=kd (P:=P) (M:=M) (mod:=mod) (by rw [cB];exact hB);have F:=dO hB;have hAl:=hi.len;have hbl:=hb.len;have L:=CH hR (by omega) hbe;have D:(iX A b).length=t:=by rw [jf (by omega),hAl]
 have HJn:Hid (∀i,i<t->(iX A b).take (i+1)=(iX A b).take i ++ [ai A i ++ [nth b i]]/\(ai A i).length=k):=λi hi'=>by rw [K4 (by rw [D];exact hi'),<- aE (by rw [D];exact hi'),oO (by omega) (by omega)];exact ⟨rfl,(hR.row (i:=i) (by omega)).1⟩
 unfold wh;have HVe:Hid (∀V,PY w V->Calls prog 271 #[.agg #[cG P,cG M,.slice am mn cm],.slice z t cb,cG t] V λe w'=>e = .returned (cG 0)/\PY V w'):=λV hV=>by
  have h:=zr P M am mn cm z t cb b V (hb.af hV);have hq:((ah P M.toNat mod).q:Int)=aK P M:=by obtain ⟨m1,e1,_,h1,_⟩:=eQ hB;rw [show M.toNat=m1 by omega];exact h1
  have he:iO (aK P M) b=0:=by unfold iO;rw [KX];rw [<- hq];unfold ez;rw [LR];intro x hx;have h2:=hbe x hx;simpa [iQ,cZ.El] using h2
  rw [he] at h;exact h
 obtain ⟨J,hJ⟩:∃J,iX A b=J:=⟨_,rfl⟩
 rw [hJ] at L D HJn hpl ⊢;obtain ⟨M',rfl,hel,_,hF,hA,_⟩:=eQ hB;obtain ⟨M2,e2,hrf,hmods⟩:=dQ (by rw [cB];exact hB);obtain rfl:M'=M2:=by omega
 rw [KV] at L hinv hpl ⊢;have C:=iB F (by rw [KV];exact L) k (by omega);rw [KV] at C;have K:=(fV F (by rw [KV];exact L) k (by omega)).1;rw [KV] at K;rw [<- hel] at L;have hag:=(gQ hA hF.cl L k (by omega)).1;have HEl:Hid (∀V z cb,PY w V->bw V z t J->Calls prog 179 #[.agg #[cG P,cG M',.slice am mn cm],.slice z t cb,cG k] V λe w' =>
   PY V w'/\∃a1 c1 ap cp,e = .returned (.tuple #[.slice a1 t c1,.slice ap t cp])/\bw w' a1 t (aD (ah P M' mod).ops J k).1/\Ints w' ap t (aD (ah P M' mod).ops J k).2):=λV z cb hV hM=>by refine (pF P M' am mn cm mod z t cb k (k+1) J V ⟨hrf,hmods V am mn (hmod.af hV)⟩ hM L (by omega) (by omega) (by omega) hinv).mono ?_;rintro e w' ⟨a4,c4,R4,ap,cp,rfl,hO,hP,hb'⟩;rw [<- hag] at hO hP ⊢;rw [D] at hO ⊢;rw [hpl] at hP ⊢;exact ⟨hb',a4,c4,ap,cp,rfl,hO.iZ,(Pn hP).1⟩
 obtain ⟨E,hE⟩:∃E,(aD (ah P M' mod).ops J k).1=E:=⟨_,rfl⟩
 obtain ⟨Pv,hPv⟩:∃Pv,(aD (ah P M' mod).ops J k).2=Pv:=⟨_,rfl⟩
 have hEl:E.length=t:=by rw [<- hE,bN];exact D
 rw [hE] at HEl C K ⊢;rw [hPv] at HEl hpl K ⊢;have HEw:Hid (∀j,j<t->(ai E j).length=k+1):=λj hj=>(C.row (i:=j) (by omega)).1;have HPb:Hid (∀j,j<t->∃p:Nat,nth Pv j=p/\p<k):=λj hj=>by have h:=K.lt j (by omega);exact ⟨(nth Pv j).toNat,by omega,by omega⟩
 rw [hpl];have HJl:=Z5 D;have Hbl:=Z5 hbl;clear hB hR hinv hel hF hA e2 hrf hmods hag hE hPv hmod F L hJ D hAl C K hEl hpl hbe hbl;go_enter func264,ntmps264;go_wp2_with fail;obtain ⟨W,hW⟩:∃W:World,W=(w.alloc (.cells #[cG P,cG M',.slice am mn cm] 24)).alloc (.cells #[cG k,.slice aA t cA] 94):=⟨_,rfl⟩
 rw [<- hW];have hbW:PY w W:=by rw [hW];exact bY _ _ _
 have x0:aQ W w.heap.size [cG P,cG M',.slice am mn cm]:=by rw [hW];exact (Po _ _ _ rfl).alloc _
 have x1:aQ W (w.heap.size+1) [cG k,.slice aA t cA]:=by rw [hW];exact Po _ _ _ (by simp)
 have HS:Hid (∀V,PY W V->(V.cell? ⟨w.heap.size,0,none⟩=some (cG P)/\V.cell? ⟨w.heap.size,1,none⟩=some (cG M')/\V.cell? ⟨w.heap.size,2,none⟩=some (.slice am mn cm))/\V.cell? ⟨w.heap.size+1,0,none⟩=some (cG k)/\V.cell? ⟨w.heap.size+1,1,none⟩=some (.slice aA t cA)):=λV hV=>by have r0:=x0.af hV;have r1:=x1.af hV;exact ⟨⟨r0.cell 0 rfl,r0.cell 1 rfl,r0.cell 2 rfl⟩,r1.cell 0 rfl,r1.cell 1 rfl⟩
 have HbW:=Z5 hbW;clear hW x0 x1 hbW;refine (HC W HbW.out).mono ?_;rintro e w1 ⟨rfl,hb1⟩;obtain ⟨⟨f0,f1,f2⟩,m0,m1⟩:=HS w1 hb1;have Hve:=Z5 (HVe w1 (Pm HbW.out hb1));clear HC HVe;go_wp2_with fail;refine Hve.mono ?_;rintro e X ⟨rfl,hb2⟩;have hbX:=Pm hb1 hb2;have hbwX:=Pm HbW.out hbX;have hpla:=hi.pl;have hplb:=hb.pl;have hiX:=hi.af hbwX;have hbXi:=hb.af hbwX;clear f0 f1 f2 m0 m1 Hve hb1 hb2 hi hb;go_wp2_with fail;go_loopw [9,10] (λov iv wr=>∃(i:Nat) (ac:OA) (cc:Nat),i<=t/\iv = cG i/\ov = .slice ac i cc/\(∃R,aO wr X.heap.size ac i cc R (J.take i))/\PY X wr) (λ_ iv _=>t - (intOf iv).toNat);case atStart=>exact ⟨0,none,0,K0 _,rfl,rfl,⟨[],by simpa using PE X X.heap.size⟩,KU _ _⟩
 case round =>
  obtain ⟨i,ac,cc,hik,rfl,rfl,⟨R,hO⟩,r⟩:=hrel
  by_cases N:i<t
  ·obtain ⟨ra,rn,rc,H,Y⟩:=hiX.cell i N
   have hcb:=hbXi.cell i N
   obtain ⟨hst,hrl⟩:=HJn i N
   have hrn:rn=k:=by rw [<- Y.len];exact hrl
   obtain rfl:k=rn:=hrn.symm
   obtain ⟨Di,hDi⟩:∃Di,ai A i=Di:=⟨_,rfl⟩
   obtain ⟨x,hx⟩:∃x,nth b i=x:=⟨_,rfl⟩
   rw [hDi] at Y hst hrl
   rw [hx] at hcb hst
   have hplr:=Y.pl
   have HS2:Hid (∀V,PY X V->V.cell? ⟨w.heap.size+1,1,none⟩=some (.slice aA t cA)/\V.cell? ⟨ablk aA,aJ aA+i,none⟩=some (.slice ra k rc)/\V.cell? ⟨ablk z,aJ z+i,none⟩=some (cG x)/\Ints V ra k Di/\PY X V):=λV hV =>
    ⟨(HS V (Pm hbX hV)).2.2,aB hV H,aB hV hcb,Y.af hV,hV⟩
   have Hst:=Z5 hst
   have Hdl:=Z5 hrl
   have HO:=Z5 (K3 hO r)
   have hsz:=r.size
   have Z:=Z5 r
   have Q:=fK wr 3
   have hO2:((wr.alloc (.cells #[cG x] 3)).alloc (.cells #[] 3)).ownsRow wr.heap.size 3 1 (.slice (some ⟨wr.heap.size+1,0,none⟩) 0 0) 0 []:=by have h:=aY (fK (wr.alloc (.cells #[cG x] 3)) 3) (B':=wr.heap.size) (by simp);rwa [MZ] at h
   clear H Y hst hrl hDi hO hrn hx hcb
   go_wp2_with fail
   go_region_held3 (λV=>V.cell? ⟨w.heap.size+1,1,none⟩=some (.slice aA t cA)/\V.cell? ⟨ablk aA,aJ aA+i,none⟩=some (.slice ra k rc)/\V.cell? ⟨ablk z,aJ z+i,none⟩=some (cG x)/\Ints V ra k Di/\PY X V)
    ((refine HS2 _ ?_;first | exact hb7 | exact Pm Z.out hb5 | exact Pm Z.out hb4 | exact Z.drew | exact (Pm Z.out (an _ _)).drew | exact Pm Z.out (an _ _) | exact (Pm Z.out (bY _ _ _)).drew | exact Pm Z.out (bY _ _ _) | exact Pq (Pm Z.out hb5) _ | exact Pq (Pm Z.out hb4) _ | assumption | (go_split_ands;assumption) | (go_split_ands;exact Pq (by assumption) _)))
    (first
     | (obtain ⟨_,_,_,hIr,hB9⟩:=(by assumption:_/\_/\_/\Ints _ ra k Di/\PY X _);refine eh (by rfl) (.tmp 37) (.tmp 42) 22 3 (by rfl) (cG 0) 8 underlying22 bh (by rfl) wr.heap.size _ 0 0 [] (by rfl) (by first | exact Q | exact Q.alloc _ | exact hO2) ra k rc (Di.map (Value.int .i64)) (by rfl) hplr (by rw [Lc];exact Hdl) (Px hIr) (ints_oneCell _ _) (by omega) (by unfold maxLen;omega) (by first | exact (an wr _).size | exact (bY wr _ _).size) ?_;intro a4 c4 w4 U O hap4;have hb4:PY wr w4:=(by first | exact Pp (e:=3) (xs:=[]) (an wr _) (by first | exact Q | exact Q.alloc _ | exact hO2) O (KT _) (an wr _).size | exact Pp (e:=3) (xs:=[]) (an wr _).drew (by first | exact Q | exact Q.alloc _ | exact hO2) O (KT _) (an wr _).drew.size | exact Pp (e:=3) (xs:=[]) (bY wr _ _) (by first | exact Q | exact Q.alloc _ | exact hO2) O (KT _) (bY wr _ _).size | exact Pp (e:=3) (xs:=[]) (bY wr _ _).drew (by first | exact Q | exact Q.alloc _ | exact hO2) O (KT _) (bY wr _ _).drew.size);rw [MR] at U ⊢;rw [L3] at U;(first | (have hc4:=bP (ad:=⟨wr.heap.size+1,0,none⟩) (v:=cG x) O (dB _ _ _ (by simp)) (.inr (by simp))) | (have hc4:=bP (ad:=⟨wr.heap.size,0,none⟩) (v:=cG x) O (br (dB _ _ _ rfl) _) (.inr (by simp))) | skip))
     | (refine eh (by rfl) (.tmp 43) (.tmp 48) 22 3 (by rfl) (cG 0) 8 underlying22 bh (by rfl) wr.heap.size a4 k c4 (Di.map (Value.int .i64)) (by rfl) (by first | exact U | exact U.alloc _) _ 1 1 [cG x] (by rfl) (λ_=>rfl) rfl (by intro j hj;obtain rfl:j=0:=(by omega);first | exact dB _ _ _ rfl | exact hc4) (by intro y hy;simp at hy;subst hy;rfl) (by omega) (by unfold maxLen;omega) (by first | exact hb4.size | exact (Pq hb4 _).size) ?_;intro a5 c5 w5 hown5 hgr5 hap5;have hb5:PY wr w5:=(by first | exact Pp (Pq hb4 _) (U.alloc _) hgr5 (KT _) (Pq hb4 _).size | exact Pp hb4 U hgr5 (KT _) hb4.size);have hO5:=Z5 (HO.1.af (Pm hb5 (an w5 (.cells #[.slice a5 (k+1) c5] 22))));have hEb:=Z5 (Pq (Pm Z.out hb5) (.cells #[.slice a5 (k+1) c5] 22)))
     | (refine eh (by rfl) (.tmp 36) (.tmp 50) 25 22 (by rfl) ds 24 underlying25 dw (by rfl) X.heap.size ac i cc _ (by rfl) (by exact hO5.own) _ 1 1 [.slice a5 (k+1) c5] (by rfl) (λ_=>rfl) rfl (by intro j hj;obtain rfl:j=0:=(by omega);exact dB _ _ _ rfl) (by intro y hy;simp at hy;subst hy;rfl) (by omega) (by unfold maxLen;omega) (by exact hEb.size) ?_;intro a6 c6 w6 hown6 hgr6 hap6;have hb7:PY X w6:=(by first | exact Pp hEb.out hO5.own hgr6 (KT _) hEb.size | exact Pp hEb.drew (by exact hO5.own) hgr6 (KT _) hEb.drew.size)))
   all_goals (
    go_wp2_with fail
    go_roundw
    case rel =>
     have hown9:(w5.alloc (.cells #[.slice a5 (k+1) c5] 22)).ownsRow X.heap.size 3 1 (.slice a5 (Di ++ [x]).length c5) (Di ++ [x]).length ((Di ++ [x]).map (Value.int .i64)):=by rw [K6,Hdl.out,LJ];exact aY (bf hown5 (an _ _)) hsz
     have hra:a5 ≠ none->¬ bQ ac R (ablk a5):=λh0 hI=>by have h1:=(aT hown5 h0).1;have h2:=(HO.1.lt _ hI).2;omega
     have hl:(Di ++ [x]).length=k+1:=by rw [K6,Hdl.out];rfl
     have hP:=Py hO5.out hown9 hra (by rw [hl];exact hown6) hgr6 hap6
     exact ⟨i+1,a6,c6,by omega,by go_num,rfl,⟨_,by rw [Hst.out];exact hP⟩,hb7⟩
    case measure=>simp [intOf] <;> omega)
  ·obtain rfl:i=t:=by omega
   have hE2:J.take i=J:=K5 (by rw [HJl.out];exact KT _)
   rw [hE2] at hO
   have hbwr:=Pm hbwX r
   have hbWr:=Pm hbX r
   have Hel:=Z5 (HEl wr ac cc hbwr hO.iZ)
   obtain ⟨⟨f0,f1,f2⟩,m0,m1⟩:=HS wr hbWr
   clear hE2 hO hiX HEl HJn
   go_wp2_with fail
   refine Hel.mono ?_
   rintro e X2 ⟨hb3,ae,ce,ap,cp,rfl,hEm,hPi⟩
   have hbX2:=Pm hbWr hb3
   have hplE:=hEm.pl
   have hplP:=hPi.pl
   clear f0 f1 f2 m0 m1 Hel hb3 r hbwr hbWr
   have hii:decide ((i:Int)<(i:Int))=false:=by simp
   go_wp2_with fail
   go_loopw [13] (λiv ws=>iv = cG i/\ws=X2) (λ_ _=>0)
   case atStart=>exact ⟨rfl,rfl⟩
   case round =>
    obtain ⟨rfl,rfl⟩:=hrel
    obtain ⟨_,m0,m1⟩:=HS wr hbX2
    clear hii
    generalize wr=X3 at *
    go_wp2_with (at_make;refine bV rfl _ _ 22 3 rfl (cG 0) 8 underlying22 bh rfl k rfl rfl (by omega) (by unfold maxLen;omega) ?_;intro a5 w5 S hbel hge N)
    have hown0:w5.ownsRow X3.heap.size 3 1 (.slice a5 k k) k ((solTo k E Pv 0).map (Value.int .i64)):=by simpa [solTo] using S
    clear S
    go_loopw [15] (λjv ws=>∃j:Nat,j<=i/\jv = cG j/\ws.ownsRow X3.heap.size 3 1 (.slice a5 k k) k ((solTo k E Pv j).map (Value.int .i64))/\PY X3 ws) (λjv _=>i - (intOf jv).toNat)
    case atStart=>exact ⟨0,K0 _,rfl,hown0,hbel⟩
    case round =>
     clear hown0 hbel
     obtain ⟨j,hji,rfl,S,hbs⟩:=hrel
     have hbW5:=Pm hbX2 hbs
     by_cases N:j<i
     ·obtain ⟨p,hp,hpk⟩:=HPb j N
      obtain ⟨ra,rn,rc,B,G⟩:=hEm.cell j N
      have hrn:rn=k+1:=by rw [<- G.len];exact HEw j N
      have H:=aB hbs B
      have Y:=G.af hbs
      have hkr:k<rn:=by omega
      have ck:=Y.cell k hkr
      have cp':=(hPi.af hbs).cell j N
      rw [hp] at cp'
      have hplr:=Y.pl
      obtain ⟨hi5,hm5⟩:=Pn S
      have c5:=hi5.cell p hpk
      have f5:=(hm5 (by omega)).2 p hpk
      have hpl5:=hi5.pl
      have Hst:Hid (solTo k E Pv (j+1)=(solTo k E Pv j).set p (nth (ai E j) k)):=by show _=_;rw [solTo,hp];rfl
      obtain ⟨x,hx⟩:∃x,nth (ai E j) k=x:=⟨_,rfl⟩
      obtain ⟨x5,hx5⟩:∃x5,nth (solTo k E Pv j) p=x5:=⟨_,rfl⟩
      rw [hx] at ck Hst
      rw [hx5] at c5
      obtain ⟨_,m0',m1'⟩:=HS wr hbW5
      have hj1:(j:Int)<i:=by omega
      have hk1:(k:Int)<rn:=by omega
      have hp1:(p:Int)<k:=by omega
      have Hown:=Z5 S
      have Hbs:=Z5 hbs
      have hszs:=hbs.size
      clear hx hx5 Y G B hi5 hm5 S hrn hp
      go_wp2_with fail
      go_still_tail 14,(by kernel_rfl)
      change wpList _ _ _ _ _ wr.drew
      generalize hwd:wr.drew=wd
      have fd:wd.frozen? ⟨ablk a5,aJ a5+p,none⟩=false:=by rw [<- hwd];exact f5
      have cd:wd.cell? ⟨ablk a5,aJ a5+p,none⟩=some (cG x5):=by rw [<- hwd];exact c5
      have Hwd:=Z5 hwd
      clear hwd
      go_wp2_with fail
      go_roundw
      case rel =>
       obtain rfl:=Hwd.out
       have h1:=bA (w:=wr.drew) Hown.out p hpk (cG x)
       rw [<- Lq,<- Hst.out] at h1
       exact ⟨j+1,by omega,by go_num,h1,Hbs.drew.setCell (by have:=(aT Hown.out (by have:=hpl5 (by omega);rw [this];simp)).1;exact this) _⟩
      case measure=>simp [intOf] <;> omega
     ·obtain rfl:j=i:=by omega
      have HF:=Z5 (K3 (Pn S).1 (Pm HbW.out hbW5))
      clear S
      go_wp2_with fail
      go_ret2
      exact ⟨a5,k,rfl,HF.1,HF.2⟩
theorem ub (a:OA) (n c:Nat) (l:LI) (v:Int) (w:World) (h:Ints w a n l) :
  Calls prog 236 #[.slice a n c,cG v] w λe w'=>e = .returned (.bool (decide (v ∈ l)))/\w'=w:=by
 have U:=Z5 h.len;have L:=h.pl;have X:=h.max;unfold maxLen at X;go_enter func236,ntmps236;go_wp2_with fail;go_loopw [5] (λO wr=>∃k:Nat,k<=n/\O = cG k/\Hid (oz l v k=false)/\wr=w) (λi _=>n - (intOf i).toNat);case atStart=>exact ⟨0,K0 _,rfl,by show _=_;simp [oz],rfl⟩
 case round =>
  obtain ⟨k,K,rfl,Y,rfl⟩:=hrel
  by_cases Z:k<n
  ·have c1:=h.cell k Z
   have N:=Z5 (ui (l:=l) v (show k<l.length by rw [U.out];exact Z))
   by_cases he:nth l k=v
   ·have S:(nth l k == v)=true:=by rw [he];simp
    have V:Hid (decide (v ∈ l)=true):=by show _=_;rw [<- he];simpa using aG (show k<l.length by rw [U.out];exact Z)
    clear he
    go_wp2_with fail
    go_ret
    exact ⟨aX V.symm,rfl⟩
   ·have S:(nth l k == v)=false:=by simpa using he
    have Q:Hid (oz l v (k+1)=false):=by show _=_;rw [N.out,Y.out,Lp he];rfl
    clear he
    go_wp2_with fail
    go_roundw
    case rel=>exact ⟨k+1,by omega,by go_num,Q,by simp⟩
    case measure=>simp [intOf] <;> omega
  ·obtain rfl:k=n:=by omega
   have V:Hid (decide (v ∈ l)=false):=by show _=_;rw [<- zf v U.out];exact Y
   go_wp2_with fail
   go_ret
   exact ⟨aX V.symm,rfl⟩
theorem zO (l:LI):∀u ∈ l.map (Value.int .i64),u.oneCell'=true:=λu hu=>by obtain ⟨x,_,rfl⟩:=List.mem_map.1 hu;rfl
theorem jz (a:OA) (n c:Nat) (l:LI) (b:OA) (m G:Nat) (N:LI) (w:World) (ha:Ints w a n l) (hb:Ints w b m N) (B:n<=1000000) (hm:m<=1000000) :
  Calls prog 185 #[.slice a n c,.slice b m G] w λe w'=>∃a2 c2,e = .returned (.slice a2 (n+m) c2)/\w'.ownsRow w.heap.size 3 1 (.slice a2 (n+m) c2) (n+m) ((l ++ N).map (Value.int .i64))/\PY w w':=by
 have X:=an w (.cells #[] 3);have U:=ha.af X;have C:=hb.af X;have L:=ha.len;have K:=hb.len;have F:=fK w 3;go_enter func185,ntmps185;go_wp2_with (at_builtin;first
  | (refine en rfl _ _ 22 3 rfl (cG 0) 8 underlying22 bh rfl w.heap.size _ 0 0 [] rfl F a n c (l.map (Value.int .i64)) rfl U.pl (by simp [L]) (Px U) (zO l) (by omega) (by unfold maxLen;omega) X.size ?_;intro a1 c1 D Z Q H;rw [MR] at Z ⊢;rw [L3] at Z;have Y:PY w D:=Pp X F Q (KT _) X.size;have O:=hb.af Y)
  | (refine en rfl _ _ 22 3 rfl (cG 0) 8 underlying22 bh rfl w.heap.size a1 n c1 (l.map (Value.int .i64)) rfl Z b m G (N.map (Value.int .i64)) rfl O.pl (by simp [K]) (Px O) (zO N) (by omega) (by unfold maxLen;omega) Y.size ?_;intro a2 c2 A V S E))
 go_ret;exact ⟨a2,c2,rfl,by rw [LJ];exact V,Pp Y Z S (KT _) Y.size⟩
def oZ (P M:Int) (am:OA) (Y cm:Nat) (m:Nat) (a:OA) (n c:Nat) (Z:OA) (X cy:Nat) (C:js):Value :=
 .agg #[cG P,cG M,.slice am Y cm,cG m,.slice a n c,cG C.M,cG C.W,.slice Z X cy,.bool C.cos]
theorem za (P M:Int) (am:OA) (mn cm:Nat) (m:Nat) (a:OA) (n c:Nat) (ay:OA) (ny cy:Nat) (C:js) (sa:OA) (ns cs:Nat) (s:LI) (az:OA) (nz cz:Nat) (z:LI) (at':OA) (E ct:Nat) (t:LI) (w:World)
  (hs:Ints w sa ns s) (hz:Ints w az nz z) (ht:Ints w at' E t) (hnt:E<=1000000) :
  Calls prog 188 #[oZ P M am mn cm m a n c ay ny cy C,.slice sa ns cs,.slice az nz cz,.slice at' E ct] w (cQ w (jL C s z t)):=by
 have r:=Z5 ht.len;have j:=Z5 hs.len;have hplt:=ht.pl;obtain ⟨K,hK⟩:∃K,jL C s z t=K:=⟨_,rfl⟩
 rw [hK];have HK:=Z5 hK;unfold oZ;clear hK;go_enter func188,ntmps188;go_wp2_with fail;obtain ⟨U,hU⟩:∃U:World,U=w.alloc (.cells #[cG P,cG M,.slice am mn cm,cG m,.slice a n c,cG C.M,cG C.W,.slice ay ny cy,.bool C.cos] 149):=⟨_,rfl⟩
 rw [<- hU];have S:PY w U:=by rw [hU];exact an _ _
 have x0:aQ U w.heap.size [cG P,cG M,.slice am mn cm,cG m,.slice a n c,cG C.M,cG C.W,.slice ay ny cy,.bool C.cos]:=by rw [hU];exact Po _ _ _ rfl
 have HX:=Z5 x0;have hsU:w.heap.size<U.heap.size:=x0.1;clear hU x0;go_loopw [9,10] (λqv iv wr=>∃(k:Nat) (B:OA) (cq:Nat) (out:LI),k<=E/\iv = cG k/\qv = .slice B out.length cq/\Hid (K=out ++ (if s.length<C.W then (t.drop k).filter (λx=>decide (¬ x ∈ z)) else []))/\out.length<=k /\
   wr.ownsRow U.heap.size 3 1 (.slice B out.length cq) out.length (out.map (Value.int .i64))/\PY U wr)
  (λ_ iv _=>E - (intOf iv).toNat)
 case atStart=>exact ⟨0,none,0,[],K0 _,rfl,rfl,(show _=_ by rw [<- HK.out,jL,MK,L3]),K0 _,cU,KU _ _⟩
 case round =>
  obtain ⟨k,B,cq,out,hk,rfl,rfl,L,hln,N,Y⟩:=hrel
  generalize wr=V at *
  have c6:=(HX.af Y).cell 6 rfl
  by_cases hlt:k<E
  ·by_cases hW:ns<C.W
   ·have d1:decide ((ns:Int)<(C.W:Int))=true:=by simp;omega
    have ck:=(ht.af (Pm S Y)).cell k hlt
    have G:k<t.length:=by rw [r.out];exact hlt
    have Hdk:=Z5 (show t.drop k=nth t k :: t.drop (k+1) by rw [aj G];exact LH G)
    have HI:=Z5 (ub az nz cz z (nth t k) V (hz.af (Pm S Y)))
    have Z:s.length<C.W:=by rw [j.out];exact hW
    by_cases X:nth t k ∈ z
    ·have O:decide (nth t k ∈ z)=true:=by simpa using X
     rw [O] at HI
     have H:Hid (K=out ++ (if s.length<C.W then (t.drop (k+1)).filter (λx=>decide (¬ x ∈ z)) else [])):=by show _=_;rw [L.out,Hdk.out,KX Z,KX Z,MA (by simpa using X)]
     clear X O Z
     go_wp2_with fail
     refine HI.mono ?_
     rintro e w6 ⟨rfl,rfl⟩
     go_wp2_with fail
     go_roundw
     case rel=>exact ⟨k+1,B,cq,out,by omega,by go_num,rfl,H,by omega,N,Y⟩
     case measure=>simp [intOf] <;> omega
    ·have O:decide (nth t k ∈ z)=false:=by simpa using X
     rw [O] at HI
     have H:Hid (K=(out ++ [nth t k]) ++ (if s.length<C.W then (t.drop (k+1)).filter (λx=>decide (¬ x ∈ z)) else [])):=by show _=_;rw [L.out,Hdk.out,KX Z,KX Z,MC (by simpa using X),LW];rfl
     obtain ⟨x,hx⟩:∃x,nth t k=x:=⟨_,rfl⟩
     rw [hx] at ck H HI
     have hcn:=bm V (cG x) 3
     have hbn:=an V (.cells #[cG x] 3)
     have F:=Y.size
     clear X O Z hx
     go_wp2_with fail
     refine HI.mono ?_
     rintro e w6 ⟨rfl,rfl⟩
     go_wp2_with (at_builtin;refine aS rfl _ _ 22 3 rfl (cG 0) 8 underlying22 bh rfl U.heap.size B out.length cq _ rfl (N.alloc _) ⟨w6.heap.size,0,none⟩ 1 (cG x) rfl hcn rfl (by omega) (by unfold maxLen;omega) (by simp;omega) ?_;intro a5 c5 w5 D A hap5)
     go_roundw
     case rel =>
      have hb5:PY U w5:=Pp (L5 Y (hbn.mono F)) (N.alloc _) A (KT _) (K9 F hbn.size)
      exact ⟨k+1,a5,c5,out ++ [x],by omega,by go_num,by simp,H,by simp;omega,by simpa using D,hb5⟩
     case measure=>simp [intOf] <;> omega
   ·have d1:decide ((ns:Int)<(C.W:Int))=false:=by simp;omega
    have Ho:Hid (K=out):=by show _=_;rw [L.out,KY (by rw [j.out];exact hW),Mh]
    have Q:=aY N S.size
    have hF:=Pm S Y
    go_wp2_with fail
    go_ret
    exact ⟨B,cq,by rw [Ho.out];rfl,by rw [Ho.out];exact Q,hF⟩
  ·obtain rfl:k=E:=by omega
   have Ho:Hid (K=out):=by show _=_;rw [L.out,L0 (by rw [r.out];exact KT _)];split <;> simp
   have Q:=aY N S.size
   have hF:=Pm S Y
   go_wp2_with fail
   go_ret
   exact ⟨B,cq,by rw [Ho.out];rfl,by rw [Ho.out];exact Q,hF⟩
theorem Du {w:World} {b:Nat} {P:Int} {M q:Nat} {ex lg:LI} (Z n:Nat) (h:xg w b P M q ex lg) (hx0:Z ≠ 0) (hx1:Z<q) (hn:n<=1000000) :
  Calls prog 65 #[.pointer (some ⟨b,0,none⟩),cG Z,cG n] w λe w'=>∃k,e = .returned (.tuple #[cG (if n=0 then 1 else nth ex ((nth lg Z * ((n:Int) % ((q:Int) - 1))) % ((q:Int) - 1)).toNat),cG 0])/\w'=w.drewN k:=by
 obtain ⟨ae,ce,L,X⟩:=h.ce;obtain ⟨al,cl,hcl,S⟩:=h.cl;have hcq:=h.cq;have hx':((Z:Int) == 0)=false:=by rw [beq_eq_false_iff_ne];omega
 have F:=h.lb Z (by omega);have cx:=S.cell Z (by omega);have G:=X.pl;have hpl:=S.pl;have hq2:=h.q2;have E:=h.q256;have U:=Z5 (eB Z h (by omega) (by omega));obtain ⟨k,rfl⟩:∃k,q=k+1:=⟨q - 1,by omega⟩
 rw [M7] at L X G;have hk1:1<=k:=by omega
 have e1:((k+1:Nat):Int) - 1=(k:Int):=by omega
 rw [e1] at F ⊢;by_cases Y:n=0
 ·subst Y;rw [KX rfl];clear e1 F;go_enter func65,ntmps65;go_wp2_with fail;refine U.mono ?_;rintro e w' ⟨rfl,rfl⟩;go_wp2_with fail;go_ret2;exact ⟨0,rfl,rfl⟩
 rw [KY Y];have d0:((n:Int) == 0)=false:=by simpa using Y
 obtain ⟨l,j⟩:∃l:Nat,nth lg Z=l:=⟨(nth lg Z).toNat,by omega⟩
 obtain ⟨y,N⟩:∃y:Nat,n % k=y:=⟨_,rfl⟩
 have hyk:y<k:=by rw [<- N];exact MJ _ (by omega)
 obtain ⟨z,V⟩:∃z:Nat,(l * y) % k=z:=⟨_,rfl⟩
 have D:z<k:=by rw [<- V];exact MJ _ (by omega)
 rw [j] at cx F ⊢;have hlb:l<k:=by omega
 have H:l * y<=255 * 255:=Ng (by omega) (by omega);have A:((l:Int) * ((n:Int) % (k:Int)) % (k:Int)).toNat=z:=by
  have e2:(l:Int) * ((n:Int) % (k:Int)) % (k:Int)=((l * (n % k) % k:Nat):Int):=by rw [MH,Om,MH]
  rw [e2,KV,N,V]
 rw [A];have ck:=X.cell z D;have Q:(k:Int)+1 - 1=(k:Int):=by omega
 have w1':IntKind.i64.wrap (((k+1:Nat):Int) - 1)=(k:Int):=by rw [e1];exact La _ (by omega)
 have B:IntKind.i64.wrap ((k:Int) + 1 - 1) = (k:Int) := by rw [Q]; exact La _ (by omega)
 have r1:((n:Nat):Int).tmod (k:Nat)=((y:Nat):Int):=by rw [Mf (by omega),<- N];simp
 have w2':IntKind.i64.wrap ((y:Int)+(k:Int))=(y:Int)+(k:Int):=La _ (by omega);have r2:((y:Int)+(k:Int)).tmod (k:Nat)=((y:Nat):Int):=by rw [Mf (by omega),Int.add_emod_right];exact N0 (by omega) (by omega)
 obtain ⟨p,K⟩:∃p:Nat,l * y=p:=⟨_,rfl⟩
 have O:(l:Int) * (y:Int)=(p:Int):=by rw [<- K];simp
 have hp2:p<=255 * 255:=by omega
 have w3:IntKind.i64.wrap ((l:Int) * (y:Int))=(p:Int):=by rw [O];exact La _ (by omega)
 rw [K] at V;have r3:((p:Nat):Int).tmod (k:Nat)=((z:Nat):Int):=by rw [Mf (by omega),<- V];simp
 have C:(k:Int) ≠ 0:=by omega
 have hkb:((k:Int) == 0)=false:=by simpa using C
 have hzi:(z:Int)<k:=by omega
 have hxi:(Z:Int)<((k+1:Nat):Int):=by omega
 have r:(Z:Int)<(k:Int)+1:=by omega
 clear K O V A N j H e1 Q Y;go_enter func65,ntmps65;go_wp2_with fail;refine U.mono ?_;rintro e w' ⟨rfl,rfl⟩;go_wp2_with fail;go_quiet (fail);go_wp2;go_ret2;exact ⟨_,rfl,rfl⟩
theorem KA {w:World} {b:Nat} {P M:Int} {mod:LI} (Q:bs P M mod=true) {x:Int} (n:Nat) (h:dU w b (ah P M.toNat mod)) (V:(ah P M.toNat mod).El x) (h0:x ≠ 0) (S:n<=1000000) :
  Calls prog 65 #[.pointer (some ⟨b,0,none⟩),cG x,cG n] w λe w'=>∃k,e = .returned (.tuple #[cG (fB (ah P M.toNat mod).ops x n),cG 0])/\w'=w.drewN k:=by
 have U:=G8 Q V h0 n;have X:=V;unfold cZ.El at X;obtain ⟨Y,rfl⟩:∃Y:Nat,x=Y:=⟨x.toNat,by omega⟩
 have h1:=Du Y n h (by omega) (by omega) S;have e:(if n=0 then 1 else nth (ah P M.toNat mod).ex ((nth (ah P M.toNat mod).lg Y * ((n:Int) % (((ah P M.toNat mod).q:Int) - 1))) % (((ah P M.toNat mod).q:Int) - 1)).toNat)=fB (ah P M.toNat mod).ops Y n:=by
  by_cases Z:n=0
  ·subst Z;rw [KX rfl];rfl
  ·rw [KY Z,<- U];unfold JV;rw [KV]
 rw [e] at h1;exact h1
def iH (P M:Int) (mod:LI) (N:Int) (L:Ll) (y:LI):Int:=if aI P M mod N L=0 then lk (aK P M) y N.toNat else aI P M mod N L
theorem zy (P M:Int) (am:OA) (S cm:Nat) (mod:LI) (N:Int) (a:OA) (n c:Nat) (L:Ll) (H:OA) (C cy:Nat) (y:LI) (w:World) (O:Ints w am S mod) (hi:bw w a n L) (A:Ints w H C y) :
  Calls prog 137 #[.agg #[cG P,cG M,.slice am S cm,cG N,.slice a n c],.slice H C cy] w λe w'=>e = .returned (cG (iH P M mod N L y))/\PY w w':=by
 go_enter func137,ntmps137;go_wp2_with fail;obtain ⟨U,K⟩:∃U:World,U=w.alloc (.cells #[cG P,cG M,.slice am S cm,cG N,.slice a n c] 27):=⟨_,rfl⟩
 rw [<- K];have X:PY w U:=by rw [K];exact an _ _
 have B:aQ U w.heap.size [cG P,cG M,.slice am S cm,cG N,.slice a n c]:=by rw [K];exact Po _ _ _ rfl
 have j:=Z5 B;clear K B;refine (sZ P M am S cm mod N a n c L U (O.af X) (hi.af X)).mono ?_;rintro e z ⟨rfl,Q⟩;have Z:=Pm X Q;have V:=j.af Q;have c0:=V.cell 0 rfl;have c1:=V.cell 1 rfl;have c2:=V.cell 2 rfl;have c3:=V.cell 3 rfl;have c4:=V.cell 4 rfl;clear V;by_cases Y:aI P M mod N L=0
 ·have G:Hid (iH P M mod N L y=lk (aK P M) y N.toNat):=KX Y;obtain ⟨m,rfl,_⟩:=di Y;have F:=Z5 (xI P M am S cm H C cy y m z (A.af Z));rw [Y];clear Y;go_wp2_with fail;refine F.mono ?_;rintro e w2 ⟨rfl,E⟩;have D:=Pm Z E;go_wp2_with fail;go_ret;exact ⟨by rw [G.out,KV];rfl,D⟩
 ·have G:Hid (iH P M mod N L y=aI P M mod N L):=KY Y;have r:(aI P M mod N L == 0)=false:=by simpa using Y
  clear Y;generalize aI P M mod N L=er at *;go_wp2_with fail;go_ret;exact ⟨by rw [G.out];rfl,Z⟩
theorem GU (P M:Int) (mod:LI) (N:Int) (L:Ll) (y:LI) (W:Int):ew P M mod N L y W=if iH P M mod N L y=0 then (if W<0\/N<W then 6 else 0) else iH P M mod N L y:=by
 unfold ew iH;by_cases Z:aI P M mod N L=0
 ·rw [KX Z,KX Z];obtain ⟨m,rfl,_⟩:=di Z;have Y:((ah P M.toNat mod).q:Int)=aK P M:=by obtain ⟨m1,e1,_,h1,_⟩:=eQ (aL Z).1;rw [show M.toNat=m1 by omega];exact h1
  rw [KV,<- Y];unfold lk iO;by_cases h1:(y.length:Int) ≠ m
  ·rw [KX h1,KY (by omega),KY (by omega)]
  ·rw [KY h1,KX (show y.length=m by omega)];cases h2:ez (ah P M.toNat mod).q y
   ·simp
   ·simp
 ·rw [KY Z,KY Z,KY Z]
theorem vU (P M:Int) (am:OA) (H cm:Nat) (mod:LI) (N:Int) (a:OA) (n c:Nat) (L:Ll) (C:OA) (B cy:Nat) (y:LI) (W:Int) (w:World) (G:Ints w am H mod) (hi:bw w a n L) (z:Ints w C B y) :
  Calls prog 129 #[.agg #[cG P,cG M,.slice am H cm,cG N,.slice a n c],.slice C B cy,cG W] w λe w'=>e = .returned (cG (ew P M mod N L y W))/\PY w w':=by
 obtain ⟨Q,X⟩:∃Q,ew P M mod N L y W=Q:=⟨_,rfl⟩
 rw [X];rw [GU] at X;have Z:=Z5 X;clear X;go_enter func129,ntmps129;go_wp2_with fail;obtain ⟨U,D⟩:∃U:World,U=w.alloc (.cells #[cG P,cG M,.slice am H cm,cG N,.slice a n c] 27):=⟨_,rfl⟩
 rw [<- D];have V:PY w U:=by rw [D];exact an _ _
 have A:aQ U w.heap.size [cG P,cG M,.slice am H cm,cG N,.slice a n c]:=by rw [D];exact Po _ _ _ rfl
 have j:=Z5 A;clear D A;refine (zy P M am H cm mod N a n c L C B cy y U (G.af V) (hi.af V) (z.af V)).mono ?_;rintro e w1 ⟨rfl,O⟩;have Y:=Pm V O;have c3:=(j.af O).cell 3 rfl;generalize iH P M mod N L y=E at *;by_cases F:E=0
 ·subst F;by_cases h3:W<0
  ·have S:Hid (Q=6):=by show _=_;rw [<- Z.out,KX rfl,KX (.inl h3)]
   have d3:decide (W<0)=true:=by simpa using h3
   clear h3 Z;go_wp2_with fail;go_ret;exact ⟨by rw [S.out];rfl,Y⟩
  have d3:decide (W<0)=false:=by simpa using h3
  by_cases K:N<W
  ·have S:Hid (Q=6):=by show _=_;rw [<- Z.out,KX rfl,KX (.inr K)]
   have d4:decide (N<W)=true:=by simpa using K
   clear h3 K Z;go_wp2_with fail;go_ret;exact ⟨by rw [S.out];rfl,Y⟩
  have d4:decide (N<W)=false:=by simpa using K
  have S:Hid (Q=0):=by show _=_;rw [<- Z.out,KX rfl,KY (by omega)]
  clear h3 K Z;go_wp2_with fail;go_ret;exact ⟨by rw [S.out];rfl,Y⟩
 ·have r:(E == 0)=false:=by simpa using F
  have S:Hid (Q=E):=by show _=_;rw [<- Z.out,KY F]
  clear F Z;go_wp2_with fail;go_ret;exact ⟨by rw [S.out];rfl,Y⟩
def oS (P M:Int) (mod:LI) (m:Nat) (L:Ll) (k:Nat):Int × Ll:=gM P M mod m (da P M mod m L k) (ai (bW P M mod m L) k) ((iK (ai (bW P M mod m L) k):Int) - 1)
def lcTo (P M:Int) (mod:LI) (m:Nat) (L:Ll):Nat->Int
 | 0=>0
 | k+1=>if lcTo P M mod m L k=0 then (oS P M mod m L k).1 else lcTo P M mod m L k
theorem l8 {P M:Int} {mod:LI} {m:Nat} {L:Ll} {k:Nat} {e:Int} (h:lcTo P M mod m L k=e) (he:e ≠ 0):∀d,lcTo P M mod m L (k+d)=e
 | 0=>h
 | d+1=>by have Z:=l8 h he d;show (if lcTo P M mod m L (k+d)=0 then _ else lcTo P M mod m L (k+d))=e;rw [Z,KY he]
def ky (P M:Int) (mod:LI) (N:Int) (L:Ll):Int:=if fy P M mod N L=0 then lcTo P M mod N.toNat L N.toNat else fy P M mod N L
def gK (P M:Int) (mod:LI) (m:Nat) (L:Ll) (k:Nat):List Ll:=(List.range k).map λ(r:Nat)=>if (oS P M mod m L r).1=0 then (oS P M mod m L r).2 else []
def kM (P M:Int) (mod:LI) (N:Int) (L:Ll) (w:World) (e:Ending) (w':World):Prop :=
 PY w w'/\((ky P M mod N L ≠ 0/\e = .returned (.tuple #[.agg #[ds,ds],cG (ky P M mod N L)])) \/
  (ky P M mod N L=0/\∃Y cs Z ct,e = .returned (.tuple #[.agg #[.slice Y N.toNat cs,.slice Z N.toNat ct],cG 0])/\bw w' Y N.toNat (bW P M mod N.toNat L)/\fQ w' Z N.toNat (gK P M mod N.toNat L N.toNat)))
theorem kc {P M:Int} {mod:LI} {N:Int} {L:Ll} (h:fy P M mod N L=0):aI P M mod N L=0/\vm P M mod N.toNat L=0/\¬ [] ∈ bW P M mod N.toNat L:=by
 unfold fy at h;split at h
 ·rename_i h1;split at h
  ·rename_i h2;split at h
   ·cases h
   ·rename_i h3;exact ⟨h1,h2,h3⟩
  ·rename_i h2;exact absurd h h2
 ·rename_i h1;exact absurd h h1
theorem lD {P M:Int} {mod:LI} {m:Nat} {L:Ll}:(bW P M mod m L).length=m:=by rw [bW,Lc,Ma]
theorem nN {P M:Int} {mod:LI} {m:Nat} {L:Ll} (Z:aI P M mod m L=0) (h:¬ [] ∈ bW P M mod m L) {k:Nat} (Y:k<m):ai (bW P M mod m L) k ≠ []/\(ai (bW P M mod m L) k).length=m/\ai (bW P M mod m L) k ∈ oD P M mod m L/\nth (ai (bW P M mod m L) k) k=1:=by
 have hm:ai (bW P M mod m L) k ∈ bW P M mod m L:=eZ (by rw [lD];exact Y);have hne:ai (bW P M mod m L) k ≠ []:=λe=>h (by rw [<- e];exact hm);rw [lX Y] at hne ⊢;rcases xd Z (k:Int) with ⟨h3,_⟩ | ⟨h3,X,_⟩
 ·exact absurd h3 hne
 ·rw [KV] at X;exact ⟨hne,rI Z hne,h3,X⟩
theorem z7 {x:LI}:iK x<=x.length:=by rw [<- rO (x:=x) (m:=x.length) rfl];unfold sS;exact K9 (by rw [Lc];exact NC _ _) (by rw [Ma];exact KT _)
theorem kI {X Z:World} {t:TypeId} (hb:Below (X.alloc (.cells #[ds] t)).heap.size (X.alloc (.cells #[ds] t)) Z):aQ Z X.heap.size [ds] :=
 (Po X [ds] t rfl).af hb
theorem mb {X Z:World} {t:TypeId} (hb:Below (X.alloc (.cells #[ds] t)).drew.heap.size (X.alloc (.cells #[ds] t)).drew Z):aQ Z X.heap.size [ds] :=
 (Po X [ds] t rfl).af (Pm (KU _ _).drew hb)
theorem mK (P M:Int) (am:OA) (mn cm:Nat) (mod:LI) (N:Int) (a:OA) (n c:Nat) (L:Ll) (w:World) (D:Ints w am mn mod) (hi:bw w a n L) :
  Calls prog 28 #[.agg #[cG P,cG M,.slice am mn cm,cG N,.slice a n c]] w (kM P M mod N L w):=by
 have HA:Hid (∀V,PY w V->Calls prog 60 #[.agg #[cG P,cG M,.slice am mn cm,cG N,.slice a n c]] V (oQ (fy P M mod N L) (bW P M mod N.toNat L) V)):=λV Y=>uh P M am mn cm mod N a n c L V (D.af Y) (hi.af Y);have HErr:Hid (∀V Q,ky P M mod N L=Q->Q ≠ 0->PY w V->kM P M mod N L w (.returned (.tuple #[.agg #[ds,ds],cG Q])) V):=λV Q h1 h2 h3=>⟨h3,.inl ⟨by rw [h1];exact h2,by rw [h1]⟩⟩
 have HE1:Hid (fy P M mod N L ≠ 0->ky P M mod N L=fy P M mod N L):=λh=>by rw [ky,KY h]
 have HG:Hid (fy P M mod N L=0->∃m:Nat,N=m/\m<=64/\(bW P M mod N.toNat L).length=m/\mod.length<=8 /\
   (∀k,k<m->(ai (bW P M mod N.toNat L) k).length=m/\iK (ai (bW P M mod N.toNat L) k)<=m) /\
   (∀V (k:Nat),k<m->PY w V->Calls prog 74 #[.agg #[cG P,cG M,.slice am mn cm,cG m,.slice a n c],cG k] V λe w' =>
    ∃a1 c1 a2 c2,e = .returned (.tuple #[.agg #[cG P,cG M,.slice a1 mod.length c1,cG m,.slice a2 (da P M mod N.toNat L k).length c2],cG 0])/\Ints w' a1 mod.length mod/\bw w' a2 (da P M mod N.toNat L k).length (da P M mod N.toNat L k)/\PY V w') /\
   (∀V a1 c1 a2 c2 (k:Nat) ra rc,Ints V a1 mod.length mod->bw V a2 (da P M mod N.toNat L k).length (da P M mod N.toNat L k)->Ints V ra m (ai (bW P M mod N.toNat L) k)->Calls prog 75 #[.agg #[cG P,cG M,.slice a1 mod.length c1,cG m,.slice a2 (da P M mod N.toNat L k).length c2],.slice ra m rc,cG ((iK (ai (bW P M mod N.toNat L) k):Int) - 1)] V
    (r9 (if (oS P M mod N.toNat L k).1=0 then (oS P M mod N.toNat L k).2 else []) (oS P M mod N.toNat L k).1 V)) /\
   (∀k,lcTo P M mod N.toNat L k=0->lcTo P M mod N.toNat L (k+1)=(oS P M mod N.toNat L k).1) /\
   (∀k Q,k<=m->lcTo P M mod N.toNat L k=Q->Q ≠ 0->ky P M mod N L=Q)/\(lcTo P M mod N.toNat L m=0->ky P M mod N L=0) /\
   (∀as' cs Z ct V,ky P M mod N L=0->bw V as' m (bW P M mod N.toNat L)->fQ V Z m (gK P M mod N.toNat L m)->PY w V->kM P M mod N L w (.returned (.tuple #[.agg #[.slice as' m cs,.slice Z m ct],cG 0])) V)):=λh=>by
  obtain ⟨hE,_,hne⟩:=kc h;obtain ⟨m,rfl,_,hm64,_⟩:=aZ hE;rw [KV] at hne ⊢;refine ⟨m,rfl,hm64,lD,jH (aL hE).1,λk hk=>?_,λV k hk Y=>?_,λV a1 c1 a2 c2 k ra rc h1 h2 h3=>?_,λk hk=>?_,λk Q hk h1 h2=>?_,λh1=>?_,λas' cs Z ct V h0 h1 h2 h3=>?_⟩
  ·have h1:=(nN hE hne hk).2.1;exact ⟨h1,by have:=z7 (x:=ai (bW P M mod m L) k);omega⟩
  ·exact rB P M am mn cm mod m a n c L k V (D.af Y) (hi.af Y) hE hk
  ·exact (pr P M a1 _ c1 mod m a2 _ c2 _ ra m rc _ _ V h1 h2 h3).mono λe w' h=>h.Je
  ·rw [lcTo,KX hk]
  ·rw [ky,KX h,KV];have h3:=l8 h1 h2 (m - k);rw [show k+(m - k)=m by omega] at h3;exact h3
  ·rw [ky,KX h,KV];exact h1
  ·refine ⟨h3,.inr ⟨h0,as',cs,Z,ct,?_,?_,?_⟩⟩
   ·rw [KV]
   ·rw [KV];exact h1
   ·rw [KV];exact h2
 have HTs:Hid (∀k,gK P M mod N.toNat L (k+1)=gK P M mod N.toNat L k ++ [if (oS P M mod N.toNat L k).1=0 then (oS P M mod N.toNat L k).2 else []]):=λk=>by unfold gK;rw [Mn];simp
 have HT0:Hid (gK P M mod N.toNat L 0=[]/\lcTo P M mod N.toNat L 0=0):=⟨rfl,rfl⟩
 generalize kM P M mod N L w=Post at *;generalize ky P M mod N L=ce at *;generalize fy P M mod N L=ae at *;generalize lcTo P M mod N.toNat L=CT at *;generalize gK P M mod N.toNat L=TT at *;generalize oS P M mod N.toNat L=bl at *;generalize da P M mod N.toNat L=vc at *;generalize bW P M mod N.toNat L=A at *;have HI:=Z5 (K3 D hi);clear D hi;go_enter func28,ntmps28;go_upto_region 1 with fail;obtain ⟨W,hW⟩:∃W:World,W=(w.alloc (.cells #[cG P,cG M,.slice am mn cm,cG N,.slice a n c] 27)).alloc (.cells #[ds,ds] 48):=⟨_,rfl⟩
 rw [<- hW];have hbW:PY w W:=by rw [hW];exact bY _ _ _
 have hsW:W.heap.size=w.heap.size+2:=by rw [hW];simp
 have x0:aQ W w.heap.size [cG P,cG M,.slice am mn cm,cG N,.slice a n c]:=by rw [hW];exact (Po _ _ _ rfl).alloc _
 have z0:aQ W (w.heap.size+1) [ds,ds]:=by rw [hW];exact Po _ _ _ (by simp)
 clear hW;have HX:Hid (∀V,PY W V->V.cell? ⟨w.heap.size,0,none⟩=some (cG P)/\V.cell? ⟨w.heap.size,1,none⟩=some (cG M)/\V.cell? ⟨w.heap.size,2,none⟩=some (.slice am mn cm)/\V.cell? ⟨w.heap.size,3,none⟩=some (cG N)/\V.cell? ⟨w.heap.size,4,none⟩=some (.slice a n c)):=λV Y=>by have x1:=x0.af Y;exact ⟨x1.cell 0 rfl,x1.cell 1 rfl,x1.cell 2 rfl,x1.cell 3 rfl,x1.cell 4 rfl⟩
 have HZ:Hid (∀V,PY W V->V.cell? ⟨w.heap.size+1,0,none⟩=some ds/\V.cell? ⟨w.heap.size+1,1,none⟩=some ds/\V.frozen? ⟨w.heap.size+1,0,none⟩=false/\V.frozen? ⟨w.heap.size+1,1,none⟩=false/\w.heap.size+1<V.heap.size /\
   ∀x y,PY w ((V.setCell ⟨w.heap.size+1,0,none⟩ x).setCell ⟨w.heap.size+1,1,none⟩ y)):=λV Y=>by have z1:=z0.af Y;exact ⟨z1.cell 0 rfl,z1.cell 1 rfl,z1.frozen 0,z1.frozen 1,z1.1,λx y=>((Pm hbW Y).setCell (p:=⟨w.heap.size+1,0,none⟩) (by simp) _).setCell (p:=⟨w.heap.size+1,1,none⟩) (by simp) _⟩
 have HbW:=Z5 hbW;have HsW:=Z5 hsW;clear x0 z0 hbW hsW;obtain ⟨c0,c1,c2,c3,c4⟩:=HX W (KU _ _);go_wp2_with fail;refine (HA W HbW.out).mono ?_;rintro e O ⟨B,⟨h1,rfl⟩ | ⟨h1,aA,cA,rfl,hM,hlo⟩⟩
 ·obtain ⟨z3,z4,f3,f4,_,H⟩:=HZ O B;have d1:(ae != 0)=true:=by simpa using h1
  have HF:=Z5 (HErr _ ae (HE1 h1) h1 (H ds ds));clear c0 c1 c2 c3 c4 h1 HG H;go_wp2_with fail;exact bodyPost_ret (v:=.tuple #[.agg #[ds,ds],cG ae]) (by simp [results,results28,go_sem,z3,z4]) rfl HF.out
 have hF1:=Pm HbW.out B;obtain ⟨m,rfl,hm64,hAl,hm8,hrow,hze,hbu,hcs,hcn,hc0,hpo⟩:=HG h1;have HR:=Z5 hrow;have HZe:=Z5 hze;have HBu:=Z5 hbu;have HCs:=Z5 (K3 hcs (K3 hcn (K3 hc0 hpo)));rw [hAl] at hM hlo;rw [hAl];have HLo:=Z5 hlo;have HM:=Z5 hM;have hplA:=hM.pl;have d1:(ae != 0)=false:=by simp [h1]
 obtain ⟨nm,hnm⟩:∃nm,mod.length=nm:=⟨_,rfl⟩
 rw [hnm] at HZe HBu;clear c0 c1 c2 c3 c4 h1 HG hrow hze hbu hcs hcn hc0 hpo hM hAl HE1 HA hm8 hnm hlo;go_upto_region 5 with fail;obtain ⟨X,hX⟩:∃X,O.alloc (.cells #[.slice aA m cA,ds] 48)=X:=⟨_,rfl⟩
 rw [hX];have hbX:PY O X:=by rw [<- hX];exact an _ _
 have hC0:jY O.heap.size X O.heap.size (.slice aA m cA) none 0 []:=jY.start (KT _) (by rw [<- hX];exact Po _ _ _ rfl);clear hX;have hs1:=B.size;have hsw:=HsW.out;go_wp2_with fail;go_loopw [25] (λiv wr=>∃(k:Nat) (Z:OA) (ct:Nat) (tt:List TX),k<=m/\iv = cG k/\jY O.heap.size wr O.heap.size (.slice aA m cA) Z ct tt/\Hid (tt.length=k)/\Hid (tt.map TX.T=TT k)/\Hid (CT k=0)/\PY O wr) (λiv _=>m - (intOf iv).toNat);case atStart=>exact ⟨0,none,0,[],K0 _,rfl,hC0,rfl,HT0.1.symm,HT0.2,hbX⟩
 case round =>
  clear hC0 hbX
  obtain ⟨k,Z,ct,tt,hk,rfl,hI,Htl,Htt,Hct,F⟩:=hrel
  by_cases hlt:k<m
  ·obtain ⟨ra,r,rc,hcell,hrw⟩:=(HM.af F).cell k hlt
   obtain ⟨hrl,hwt⟩:=HR k hlt
   have hrn:r=m:=by rw [<- hrw.len];exact hrl
   subst hrn
   have hF2:=Pm hF1 F
   have HZk:=Z5 (HZe wr k hlt hF2)
   have HRw:=Z5 hrw
   have HI2:=Z5 (K3 hI F)
   have hCt1:=HCs.1 k Hct.out
   have HTk:=Z5 (HTs k)
   obtain ⟨wt,E⟩:∃wt,iK (ai A k)=wt:=⟨_,rfl⟩
   have HBk:Hid (∀V a1 c1 a2 c2,Ints V a1 nm mod->bw V a2 (vc k).length (vc k)->Ints V ra r (ai A k)->Calls prog 75 #[.agg #[cG P,cG M,.slice a1 nm c1,cG r,.slice a2 (vc k).length c2],.slice ra r rc,cG ((wt:Int) - 1)] V (r9 (if (bl k).1=0 then (bl k).2 else []) (bl k).1 V)):=λV a1 c1 a2 c2 h1 h2 h3=>by rw [<- E];exact HBu V a1 c1 a2 c2 k ra rc h1 h2 h3
   have HWt:Hid (∀V,Ints V ra r (ai A k)->Calls prog 76 #[.slice ra r rc] V λe w'=>e = .returned (cG (wt:Nat))/\PY V w'):=λV Y=>by rw [<- E];exact oa ra r rc _ V Y (by omega)
   rw [E] at hwt
   have w1':IntKind.i64.wrap ((wt:Int) - 1)=(wt:Int) - 1:=La _ (by omega)
   obtain ⟨vk,hvk⟩:∃vk,vc k=vk:=⟨_,rfl⟩
   obtain ⟨qv,hqv⟩:∃q,vk.length=q:=⟨_,rfl⟩
   rw [hvk,hqv] at HZk HBk
   obtain ⟨bk,hbk⟩:∃bk,bl k=bk:=⟨_,rfl⟩
   rw [hbk] at HBk HTk hCt1
   obtain ⟨Q,T0⟩:=bk
   have HCt1:Hid (CT (k+1)=Q):=hCt1
   obtain ⟨T,hT⟩:∃T,(if ((Q,T0):Int × Ll).1=0 then ((Q,T0):Int × Ll).2 else [])=T:=⟨_,rfl⟩
   rw [hT] at HBk HTk
   have hpr:=hrw.pl
   obtain ⟨c0,c1,c2,c3,c4⟩:=HX wr (Pm B F)
   clear hrl E hvk hqv hbk hT hCt1 hrw hI
   go_wp2_with fail
   refine HZk.mono ?_
   rintro e w3 ⟨a3,k3,a4,k4,rfl,hI3,hM3,hb3⟩
   have hn3:=an w3 (.cells #[cG P,cG M,.slice a3 nm k3,cG r,.slice a4 qv k4] 27)
   have y3:aQ (w3.alloc (.cells #[cG P,cG M,.slice a3 nm k3,cG r,.slice a4 qv k4] 27)) w3.heap.size [cG P,cG M,.slice a3 nm k3,cG r,.slice a4 qv k4]:=Po _ _ _ rfl
   have hI3':=hI3.af hn3
   have hM3':=hM3.af hn3
   clear c0 c1 c2 c3 c4 hI3 hM3
   go_upto_region 9 with fail
   obtain ⟨C,hV3⟩:∃C,w3.alloc (.cells #[cG P,cG M,.slice a3 nm k3,cG r,.slice a4 qv k4] 27)=C:=⟨_,rfl⟩
   rw [hV3] at hn3 y3 hI3' hM3' ⊢
   have hbV3:=Pm hb3 hn3
   have hrV3:=HRw.af hbV3
   have hbw3:=Pm F hbV3
   obtain ⟨g3,hg3⟩:∃g,w3.heap.size=g:=⟨_,rfl⟩
   rw [hg3] at y3 ⊢
   have HS5:Hid (∀V,PY C V->V.cell? ⟨g3,0,none⟩=some (cG P)/\V.cell? ⟨g3,1,none⟩=some (cG M)/\V.cell? ⟨g3,2,none⟩=some (.slice a3 nm k3)/\V.cell? ⟨g3,3,none⟩=some (cG r)/\V.cell? ⟨g3,4,none⟩=some (.slice a4 qv k4)/\PY C V):=λV Y=>by have y:=y3.af Y;exact ⟨y.cell 0 rfl,y.cell 1 rfl,y.cell 2 rfl,y.cell 3 rfl,y.cell 4 rfl,Y⟩
   have HW3:=Z5 (λV (Y:PY C V)=>HWt V (hrV3.af Y))
   have HB3:=Z5 (λV (Y:PY C V)=>HBk V a3 k3 a4 k4 (hI3'.af Y) (hM3'.af Y) (hrV3.af Y))
   have HV3:=Z5 (K3 hbV3 hbw3)
   clear hV3 hg3 hI3' hM3' hrV3 HBk HWt HZk hn3 hb3 y3
   obtain ⟨c0,c1,c2,c3,c4,_⟩:=HS5 C (KU _ _)
   unfold r9 at HB3
   go_upto_region 11 with fail
   go_cut [10,11] (λv10 v11 wx=>v10 = cG Q/\∃g ar G cr,v11 = .pointer (some ⟨g,0,none⟩)/\Hid (aQ wx g [.slice ar G cr])/\Hid (C.heap.size<=g)/\Hid (cF C.heap.size wx ar G T)/\Hid (G<=cr)/\PY C wx)
   case first =>
    go_region_held3 (λV=>V.cell? ⟨g3,0,none⟩=some (cG P)/\V.cell? ⟨g3,1,none⟩=some (cG M)/\V.cell? ⟨g3,2,none⟩=some (.slice a3 nm k3)/\V.cell? ⟨g3,3,none⟩=some (cG r)/\V.cell? ⟨g3,4,none⟩=some (.slice a4 qv k4)/\PY C V)
     ((refine HS5 _ ?_;first | exact (KU _ _).drew | assumption | (go_split_ands;first | assumption | exact Pm (by assumption) (an _ _) | exact (Pm (by assumption) (an _ _)).drew | exact Pm (by assumption) (by assumption) | exact Np (by assumption) (by first | exact hB5.size | exact z.size | simp) _)))
     (first
      | (go_at_call 76;((with_reducible refine (HW3.out _ (by go_split_ands;assumption)).mono ?_);rintro e w4 ⟨rfl,hb4⟩;have z:PY C w4:=(by go_split_ands;exact Pm (by assumption) hb4);(first | (have HB4:=Z5 (mb hb4)) | (have HB4:=Z5 (kI hb4)) | skip)))
      | (go_at_call 75;((with_reducible refine (HB3.out _ (by go_split_ands;assumption)).mono ?_);rintro e w5 ⟨ar,G,cr,rfl,hM5,hc5,hb5⟩;have hB5:PY C w5:=(by go_split_ands;exact Pm (by assumption) hb5);have HM5:=Z5 hM5;have HC5:=Z5 hc5;clear hM5 hc5;(first | (have HB5:=Z5 (mb hb5)) | (have HB5:=Z5 (kI hb5)) | (have HB5:=Z5 (HB4.out.af hb5)) | skip);(first | (have z0:=HB5.out.cell 0 rfl;have f0:=HB5.out.frozen 0) | skip))))
    all_goals (
     go_wp2_with fail
     go_meet
     first
      | exact ⟨rfl,_,ar,G,cr,rfl,Po w5 [.slice ar G cr] _ rfl,hB5.size,(HM5.af (an _ _)).mono (by first | exact z.size | exact (Pm z (an _ _)).size),HC5,by go_split_ands;assumption⟩
      | exact ⟨rfl,_,ar,G,cr,rfl,HB5.setCell 0 (.slice ar G cr),(by first | exact z.size | exact KT _),(HM5.setCell (by first | exact HB4.1 | simp) _).mono (by first | exact z.size | exact (Pm z (an _ _)).size),HC5,by go_split_ands;assumption⟩)
   obtain ⟨rfl,g,ar,G,cr,rfl,HBx,Hg3,HMT,HCr,hbV⟩:=hcut
   generalize wc=V5 at *
   have U:=Pm HV3.2 hbV
   clear c0 c1 c2 c3 c4
   by_cases her:Q=0
   rotate_left
   ·obtain ⟨z3,z4,f3,f4,_,H⟩:=HZ V5 (Pm B U)
    have d2:(Q != 0)=true:=by simpa using her
    have HF:=Z5 (HErr _ Q (HCs.2.1 (k+1) Q (by omega) HCt1.out her) her (H ds ds))
    clear her H
    go_wp2_with fail
    exact bodyPost_ret (v:=.tuple #[.agg #[ds,ds],cG Q]) (by simp [results,results28,go_sem,z3,z4]) rfl HF.out
   ·subst her
    have S:=HI2.1.af (Pm HV3.1 hbV)
    have hMA:gB (TA O.heap.size O.heap.size Z) V5 ar G T:=HMT.Fq λb hb=>Lx (HI2.1.lt b hb) HV3.1.size
    have K:tt.length=k:=Htl.out
    have hTl:T.length=G:=HMT.len
    have b1:=S.box.cell 1 rfl
    have g1:=S.box.frozen 1
    have t0:=HBx.cell 0 rfl
    have hto:=(S.af (an V5 (.cells #[.slice ar G cr] 103))).tow
    have hcn2:=bm V5 (.slice ar G cr) 103
    have b1':=br b1 (.cells #[.slice ar G cr] 103)
    rw [K] at b1 b1' hto
    have hs9:O.heap.size<=(V5.alloc (.cells #[.slice ar G cr] 103)).heap.size:=by have:=U.size;simp;omega
    have hlt5:O.heap.size<V5.heap.size:=S.box.1
    have HI5:=Z5 (K3 S (K3 hMA (K3 hTl U)))
    have Hlt5:=Z5 hlt5
    have Hatb:=Z5 S.at1
    clear S hMA hTl U hlt5
    go_wp2_with (at_builtin;refine n8 rfl _ _ 46 103 rfl (.agg #[ds]) 24 underlying46 B8 rfl O.heap.size Z k ct _ rfl hto ⟨V5.heap.size,0,none⟩ 1 (.slice ar G cr) rfl hcn2 rfl (by omega) (by unfold maxLen;omega) hs9 ?_;intro a6 c6 w6 hown6 hgr6 hap6;have b6:=bP (ad:=⟨O.heap.size,1,none⟩) hgr6 b1' Hatb.out;have g6:w6.frozen? ⟨O.heap.size,1,none⟩=false:=mP hgr6 (by simp;have:=Hlt5.out;omega) (dP Hlt5.out g1 _) Hatb.out)
    go_roundw
    case rel =>
     obtain ⟨S,hMA,hTl,U⟩:=HI5.out
     have hown6':w6.ownsRow O.heap.size 103 1 (.slice a6 (tt.length+1) c6) (tt.length+1) (tt.map Fm ++ [Fm ⟨ar,cr,T⟩]):=by rw [K,show Fm ⟨ar,cr,T⟩ = .slice ar G cr by show Value.slice _ _ _=_;rw [hTl]];exact hown6
     obtain ⟨hI7,hbp⟩:=S.Jg (x:=⟨ar,cr,T⟩) (by show gB _ _ ar T.length T;rw [hTl];exact hMA) (by show T.length<=cr;rw [hTl];exact HCr) hown6' (by rw [K];exact hgr6) hap6
     have hbr7:=hbp _ U
     rw [K] at hI7 hbr7
     exact ⟨k+1,a6,c6,tt ++ [⟨ar,cr,T⟩],by omega,by go_num,hI7,by show _=_;rw [K6,K];rfl,by show _=_;rw [LJ,Htt.out,HTk.out];rfl,HCt1,hbr7⟩
    case measure=>simp [intOf] <;> omega
  ·obtain rfl:k=m:=by omega
   obtain ⟨z3,z4,f3,f4,_,H⟩:=HZ wr (Pm B F)
   have b0:=hI.box.cell 0 rfl
   have b1:=hI.box.cell 1 rfl
   rw [Htl.out] at b1
   have hI2:=(hI.set (p:=⟨w.heap.size+1,0,none⟩) (by show w.heap.size+1<O.heap.size;omega) (.slice aA k cA)).set (p:=⟨w.heap.size+1,1,none⟩) (by show w.heap.size+1<O.heap.size;omega) (.slice Z k ct)
   have q2:=hI2.trees
   rw [Htl.out,Htt.out] at q2
   have hMk:bw ((wr.setCell ⟨w.heap.size+1,0,none⟩ (.slice aA k cA)).setCell ⟨w.heap.size+1,1,none⟩ (.slice Z k ct)) aA k A:=by
    have hne:∀j,0<k->(⟨w.heap.size+1,j,none⟩:Addr).block ≠ ablk aA:=λj h0 e=>by have h3:=HLo h0;rw [<- e] at h3;have h4:W.heap.size<=w.heap.size+1:=h3;omega
    have hz4:(wr.setCell ⟨w.heap.size+1,0,none⟩ (.slice aA k cA)).cell? ⟨w.heap.size+1,1,none⟩=some ds:=by rw [Le _ _ _ _ (by simp)];exact z4
    exact (((HM.af F).kr z3 (hne 0) _).kr hz4 (hne 1) _)
   have HF:=Z5 (HCs.2.2.2 aA cA Z ct _ (HCs.2.2.1 Hct.out) hMk q2 (H (.slice aA k cA) (.slice Z k ct)))
   clear hI hI2 q2 H hMk
   go_wp2_with fail
   exact bodyPost_ret (v:=.tuple #[.agg #[.slice aA k cA,.slice Z k ct],cG 0]) (by simp [results,results28,go_sem,z3,z4]) rfl HF.out
def Fl (P M:Int) (am:OA) (O cm:Nat) (mod:LI) (m:Nat) (a:OA) (n c:Nat) (L:Ll) (U:OA) (Q cy:Nat) (C:js) (S:World):Prop :=
 ∀(V:World) (X:OA) (ns cs:Nat) (s:LI) (Z:OA) (Y ct:Nat) (t:LI),ns<=64->PY S V->Ints V X ns s->Ints V Z Y t ->
  Calls prog 187 #[oZ P M am O cm m a n c U Q cy C,.slice X ns cs,.slice Z Y ct] V λe w'=>e = .returned (.bool (dx (ah P M.toNat mod).ops L m C s t))/\PY V w'
theorem aC.JZ {U w w':World} {I:Nat->Prop} {a:OA} {n c:Nat} (h:aC U w I I) (Z:w.grownBy w' (Value.slice a n c).ownBlock) (hI:a ≠ none->I (ablk a)\/U.heap.size<=ablk a):aC U w' I I :=
 ⟨Z.os.trans h.os,Z.tape.trans h.tape,Z.output.trans h.output,K9 h.size Z.size,λb hb hIb=>(Z.block b (Lx hb h.size) (λe=>by
  by_cases ha:eY a b
  ·exact ha.own n c e.symm
  ·have h1:a ≠ none:=λh=>ha (.inl h);have h2:ablk a=b:=Lr λh=>ha (.inr h);rw [h2] at hI;rcases hI h1 with h3 | h3
   ·exact hIb h3
   ·omega)).trans (h.block b hb hIb),λb hb=>.inl hb⟩
def insS (x:Int):LI->LI
 | []=>[x]
 | y :: l=>if x<=y then x :: y :: l else y :: insS x l
def qh:LI->LI
 | []=>[]
 | x :: l=>insS x (qh l)
theorem oT (x:Int):∀l,(insS x l).Perm (x :: l)
 | []=>NW _
 | y :: l=>by
  rw [insS];split
  ·exact NW _
  ·exact ((oT x l).cons y).trans (Pg x y l)
theorem uQ (x:Int):∀ {l:LI},l.Pairwise (λa b=>a<=b)->(insS x l).Pairwise (λa b=>a<=b)
 | [],_=>by simp [insS]
 | y :: l,h=>by
  rw [insS];rw [M8] at h;split
  ·rename_i Z;rw [M8,M8];refine ⟨λa ha=>?_,h.1,h.2⟩;rcases List.mem_cons.1 ha with rfl | ha
   ·exact Z
   ·have:=h.1 a ha;omega
  ·rename_i Z;rw [M8];refine ⟨λa ha=>?_,uQ x h.2⟩;rcases List.mem_cons.1 ((oT x l).mem_iff.1 ha) with rfl | ha
   ·omega
   ·exact h.1 a ha
theorem rY:∀l,(qh l).Perm l
 | []=>NW _
 | x :: l=>(oT x (qh l)).trans ((rY l).cons x)
theorem sT:∀l,(qh l).Pairwise (λa b=>a<=b)
 | []=>by simp [qh]
 | x :: l=>uQ x (sT l)
theorem qg (l:LI):cO l=qh l:=(kP (sT l) (rY l)).symm
def sW (O:aP) (L:Ll) (m:Nat) (C:js) (s z:LI):LI:=qh (tD O L (qh z ++ frTo false (s ++ z) m) (if C.cos=true then m else C.M))
theorem yw (O:aP) (L:Ll) (m:Nat) (C:js) (s z:LI):et O L m C s z=sW O L m C s z:=by unfold et sW gU;rw [qg,qg]
def bldI (O:aP) (L:Ll) (m:Nat) (C:js):Nat->LI->LI->Ll->Int × Ll
 | 0,s,z,T=>if dx O L m C s (sW O L m C s z)=true then if T.length=65536 then (8,[]) else (0,T ++ [sW O L m C s z]) else (11,[])
 | d+1,s,z,T=>if dx O L m C s (sW O L m C s z)=true then if T.length=65536 then (8,[]) else e9 (bldI O L m C d) s z (jL C s z (sW O L m C s z)) (T ++ [sW O L m C s z]) else (11,[])
theorem BM (O:aP) (L:Ll) (m:Nat) (C:js):∀d,gH O L m C d=bldI O L m C d
 | 0=>by funext s z T;rw [gH,bldI,yw]
 | d+1=>by funext s z T;rw [gH,bldI,yw,BM O L m C d]
theorem CD (O:aP) (L:Ll) (m:Nat) (C:js):sX O L m C=bldI O L m C C.W [] [] []:=by rw [sX,BM]
section
open Go.RowKit
end
end Go.Proofs.YthglbncgemdcbaaGreat
