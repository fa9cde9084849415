import Derived.Test.YthglbncgemdcbaaGreatCK12
import Derived.ArgAppend
import Derived.RangeFuncNested
namespace Go.Proofs.YthglbncgemdcbaaGreat
set_option linter.all false
set_option maxRecDepth 100000
set_option maxHeartbeats 8000000
open Go.RowKit Go.Proofs.Tryz
def rF (P M : Int) (mod : LI) (m : Nat) (L : Ll) (w : World) (e : Ending) (w' : World) : Prop :=
 ∃a1 c1 a2 c2,e = .returned (.tuple #[.agg #[.int .i64 P,.int .i64 M,.slice a1 mod.length c1,.int .i64 m,.slice a2 (bU (ah P M.toNat mod) L m).length c2],.int .i64 0])/\bJ w.heap.size w' a1 mod.length mod /\
  b8 w.heap.size w' a2 (bU (ah P M.toNat mod) L m).length (bU (ah P M.toNat mod) L m)/\OC w w'
theorem po (P M : Int) (am : OA) (N cm : Nat) (mod : LI) (m : Nat) (a : OA) (n c : Nat) (L : Ll) (w : World) (U : Ints w am N mod) (hi : bu w a n L)
  (hE : dy P M mod m L=0) (hm1 : 1<=m) (hm64 : m<=64) (hmn : N<=1000000) :
  Calls prog 68 #[.agg #[.int .i64 P,.int .i64 M,.slice am N cm],.agg #[.int .i64 m,.slice a n c]] w (rF P M mod m L w):=by
 go_enter func68,ntmps68;go_upto_region 1 with fail;obtain ⟨W,H⟩ : ∃W : World,W=((w.alloc (.cells #[.int .i64 P,.int .i64 M,.slice am N cm] 24)).alloc (.cells #[.int .i64 m,.slice a n c] 94)).alloc (.cells #[.int .i64 0,.int .i64 0,.slice none 0 0,.int .i64 0,.slice none 0 0] 27):=⟨_,rfl⟩
 rw [<- H];have S : OC w W:=by rw [H];exact j8 _ _ _ _
 have hsW : W.heap.size=w.heap.size+3:=by rw [H];simp
 have x0 : aO W w.heap.size [.int .i64 P,.int .i64 M,.slice am N cm]:=by rw [H];exact ((NY _ _ _ rfl).alloc _).alloc _
 have y0 : aO W (w.heap.size+1) [.int .i64 m,.slice a n c]:=by rw [H];exact (NY _ _ _ (by simp)).alloc _
 have z0 : aO W (w.heap.size+1+1) [.int .i64 0,.int .i64 0,.slice none 0 0,.int .i64 0,.slice none 0 0]:=by rw [H];exact NY _ _ _ (by simp)
 clear H;have HC : Hid (Calls prog 118 #[.agg #[.int .i64 P,.int .i64 M,.slice am N cm],.agg #[.int .i64 m,.slice a n c]] W λe w'=>OC W w'/\∃a2 c2 ap cp,e = .returned (.tuple #[.agg #[.int .i64 m,.slice a2 (bU (ah P M.toNat mod) L m).length c2],.slice ap (bU (ah P M.toNat mod) L m).length cp,.int .i64 0]) /\
   b8 W.heap.size w' a2 (bU (ah P M.toNat mod) L m).length (bU (ah P M.toNat mod) L m)):=by
  refine (lR P M am N cm mod m a n c L W (U.af S) (hi.af S)).mono ?_;rintro e w1 ⟨F,⟨h0,_⟩ | ⟨_,m',hm',a1,c1,ap,cp,rfl,D,_⟩⟩
  ·exact absurd hE h0
  ·obtain rfl : m=m':=by omega
   rw [<- dF] at D ⊢;exact ⟨F,a1,c1,ap,cp,rfl,D⟩
 have HO : Hid (∀V a5 k5 X,OC W V->Calls prog 120 #[.agg #[.int .i64 P,.int .i64 M,.slice am N cm],.agg #[.int .i64 m,.slice a5 k5 X],.int .i64 0] V (ot P M mod m a5 k5 X V)):=λV a5 k5 X z =>
  Ac P M am N cm mod m a5 k5 X V (U.af (NX S z)) hmn
 have Y : Hid (∀a1 c1 a2 c2 w',bJ w.heap.size w' a1 mod.length mod->b8 w.heap.size w' a2 (bU (ah P M.toNat mod) L m).length (bU (ah P M.toNat mod) L m)->OC w w' ->
   rF P M mod m L w (.returned (.tuple #[.agg #[.int .i64 P,.int .i64 M,.slice a1 mod.length c1,.int .i64 m,.slice a2 (bU (ah P M.toNat mod) L m).length c2],.int .i64 0])) w'):=λa1 c1 a2 c2 w' h1 h2 h3=>⟨a1,c1,a2,c2,rfl,h1,h2,h3⟩
 have Hle : Hid (ij (m : Int)=0):=qb (by omega) (by omega);obtain ⟨KM,hKM⟩ : ∃KM,bU (ah P M.toNat mod) L m=KM:=⟨_,rfl⟩
 rw [hKM] at HC Y;have hS : ∀V,OC W V->V.cell? ⟨w.heap.size,0,none⟩=some (.int .i64 P)/\V.cell? ⟨w.heap.size,1,none⟩=some (.int .i64 M)/\V.cell? ⟨w.heap.size,2,none⟩=some (.slice am N cm)/\V.cell? ⟨w.heap.size+1,0,none⟩=some (.int .i64 m)/\V.cell? ⟨w.heap.size+1,1,none⟩=some (.slice a n c) /\
   aO V (w.heap.size+1+1) [.int .i64 0,.int .i64 0,.slice none 0 0,.int .i64 0,.slice none 0 0]:=λV z=>by have x1:=x0.af z;have y1:=y0.af z;exact ⟨x1.cell 0 rfl,x1.cell 1 rfl,x1.cell 2 rfl,y1.cell 0 rfl,y1.cell 1 rfl,z0.af z⟩
 have HS:=Z5 hS;have HbW:=Z5 S;have HsW:=Z5 hsW;obtain ⟨q,hq⟩ : ∃q,KM.length=q:=⟨_,rfl⟩
 rw [hq] at HC Y;clear hE hKM hS x0 y0 z0 S hsW U hi hq;go_cut [6,7,8] (λv6 v7 v8 wx=>∃g a5 X,v6 = .pointer (some ⟨g,0,none⟩)/\v8 = .int .i64 0/\wx.cell? ⟨g,0,none⟩=some (.int .i64 m)/\wx.cell? ⟨g,1,none⟩=some (.slice a5 q X)/\b8 W.heap.size wx a5 q KM/\OC W wx);case first =>
  obtain ⟨c0,c1,c2,c3,c4,_⟩:=HS.out W (JP _ _)
  go_wp2_with fail
  refine HC.out.mono ?_
  rintro e w1 ⟨F,a5,X,ap,cp,rfl,K⟩
  clear c0 c1 c2 c3 c4
  go_wp2_with fail
  go_meet
  exact ⟨w1.heap.size,a5,X,rfl,rfl,aF _ _ _ rfl 0,aF _ _ _ rfl 1,K.af (an _ _),NX F (an _ _)⟩
 obtain ⟨g,a5,X,rfl,rfl,g0,g1,K,Q⟩:=hcut;generalize wc=V at *;obtain ⟨c0,c1,c2,c3,c4,zz⟩:=HS.out V Q;have C:=Z5 (HO.out V a5 q X Q);clear HC HO;go_wp2_with fail;refine (rK m V).mono ?_;rintro e w5 ⟨rfl,rfl⟩;rw [Hle.out];go_wp2_with fail;refine C.out.mono ?_;rintro e w6 ⟨a6,c6,rfl,j,E⟩;obtain ⟨_,_,_,_,_,Z⟩:=HS.out w6 (NX Q E);have z0:=Z.cell 0 rfl;have z1:=Z.cell 1 rfl;have z2:=Z.cell 2 rfl;have z3:=Z.cell 3 rfl;have z4:=Z.cell 4 rfl;have f0:=Z.frozen 0;have f1:=Z.frozen 1;have f2:=Z.frozen 2;have f3:=Z.frozen 3;have f4:=Z.frozen 4;have hbF:=NX HbW.out (NX Q E);have hs:=HsW.out;have hs2:=Q.size;have hM6:=K.af E;have I:=Y.out a6 c6 a5 X (((((w6.setCell ⟨w.heap.size+1+1,0,none⟩ (.int .i64 P)).setCell ⟨w.heap.size+1+1,1,none⟩ (.int .i64 M)).setCell ⟨w.heap.size+1+1,2,none⟩ (.slice a6 mod.length c6)).setCell ⟨w.heap.size+1+1,3,none⟩ (.int .i64 m)).setCell ⟨w.heap.size+1+1,4,none⟩ (.slice a5 q X))
  ((((((j.setCell (p:=⟨w.heap.size+1+1,0,none⟩) (by simp;omega) _).setCell (p:=⟨w.heap.size+1+1,1,none⟩) (by simp;omega) _).setCell (p:=⟨w.heap.size+1+1,2,none⟩) (by simp;omega) _).setCell (p:=⟨w.heap.size+1+1,3,none⟩) (by simp;omega) _).setCell (p:=⟨w.heap.size+1+1,4,none⟩) (by simp;omega) _).mono (by omega))
  ((((((hM6.setCell (p:=⟨w.heap.size+1+1,0,none⟩) (by simp;omega) _).setCell (p:=⟨w.heap.size+1+1,1,none⟩) (by simp;omega) _).setCell (p:=⟨w.heap.size+1+1,2,none⟩) (by simp;omega) _).setCell (p:=⟨w.heap.size+1+1,3,none⟩) (by simp;omega) _).setCell (p:=⟨w.heap.size+1+1,4,none⟩) (by simp;omega) _).mono (by omega))
  (((((hbF.setCell (p:=⟨w.heap.size+1+1,0,none⟩) (by simp;omega) _).setCell (p:=⟨w.heap.size+1+1,1,none⟩) (by simp;omega) _).setCell (p:=⟨w.heap.size+1+1,2,none⟩) (by simp;omega) _).setCell (p:=⟨w.heap.size+1+1,3,none⟩) (by simp;omega) _).setCell (p:=⟨w.heap.size+1+1,4,none⟩) (by simp;omega) _)
 have r:=Z5 I;clear I hM6 K j C zz Z;go_wp2_with fail;exact bodyPost_ret (v:=.tuple #[.agg #[.int .i64 P,.int .i64 M,.slice a6 mod.length c6,.int .i64 m,.slice a5 q X],.int .i64 0]) (by simp [results,results68,go_sem,z0,z1,z2,z3,z4]) rfl r.out
theorem tB {O O' : aM} {El : Int->Prop} (F : bI O El) (h : H9 O O' El) {m : Nat} {L : Ll} (Z : bs El m L) {x : LI} (Y : ∀k,k<L.length->El (nth x k)) : ∀k,k<=L.length->cmbTo O m x L k=cmbTo O' m x L k
 | 0,_=>rfl
 | k+1,X=>by have h1:=(ju F Z Y k (by omega)).1;rw [cmbTo,cmbTo,<- tB F h Z Y k (by omega),j7 h F.cl _ _ _ h1.2 (Z.row (i:=k) (by omega)).2 (Y k (by omega))]
theorem uh (P : Int) (m : Nat) (am : OA) (H cm : Nat) (mod : LI) (r : OA) (cx : Nat) (x : LI) (a : OA) (n c : Nat) (L : Ll) (Z : Nat) (w : World) (hf : sO w P m am H mod)
  (hx : Ints w r n x) (hi : bu w a n L) (hxe : ∀k,k<n->eH P m (nth x k)) (hR : bs (eH P m) Z L) (hv : ∀k,k<=n->Vc (eH P m) Z (cmbTo (jW P m mod) Z x L k)) (hc : Z<=1000000) (hn : n<=1000000) :
  Calls prog 213 #[.agg #[.int .i64 P,.int .i64 m,.slice am H cm],.slice r n cx,.slice a n c,.int .i64 Z] w λe w' =>
   ∃a1 c1,e = .returned (.slice a1 Z c1)/\w'.ownsRow w.heap.size 3 1 (.slice a1 Z c1) Z ((cmbTo (jW P m mod) Z x L n).map (Value.int .i64))/\OC w w':=by
 have Hil:=Z5 hi.len;have hplx:=hx.pl;have hpla:=hi.pl;have HR:=Z5 hR;have Hv:=Z5 hv;have Hxe:=Z5 hxe;obtain ⟨O,hO⟩ : ∃O,jW P m mod=O:=⟨_,rfl⟩
 have HA : Hid (∀V k a1 c1 I rc,k<n->OC w V->Ints V a1 Z (cmbTo O Z x L k)->Ints V I Z (ai L k)->∀V2,OC V V2 ->
   Calls prog 227 #[.agg #[.int .i64 P,.int .i64 m,.slice am H cm],.slice a1 Z c1,.int .i64 (nth x k),.slice I Z rc] V2 λe w' =>
    ∃a2 c2,e = .returned (.slice a2 Z c2)/\w'.ownsRow V2.heap.size 3 1 (.slice a2 Z c2) Z ((bN O (cmbTo O Z x L k) (nth x k) (ai L k)).map (Value.int .i64))/\OC V2 w'):=λV k a1 c1 I rc hk j h1 h2 V2 D=>by have X:=HR.out.row (i:=k) (by rw [Hil.out];exact hk);have Q:=Hv.out k (by omega);rw [hO] at Q;have h:=l5 P m am H cm mod a1 Z c1 (cmbTo O Z x L k) (nth x k) I rc (ai L k) V2 (hf.af (NX j D)) (Hxe.out k hk) (h1.af D) (h2.af D) Q.2 X.2 hc;refine h.mono ?_;rintro e w' ⟨a2,c2,rfl,Y,hb⟩;rw [hO,cR _ _ _ _ (by rw [X.1,Q.1]),Q.1] at Y;rw [hO,cR _ _ _ _ (by rw [X.1,Q.1]),Q.1];exact ⟨a2,c2,rfl,Y,hb⟩
 have hz : (cmbTo O Z x L 0).map (Value.int .i64)=List.replicate Z (Value.int .i64 0):=by simp [cmbTo]
 have Hz:=Z5 hz;rw [hO];clear hO hR hv hxe hz;go_enter func213,ntmps213;go_upto_region 1 with fail;obtain ⟨W,hW⟩ : ∃W : World,W=w.alloc (.cells #[.int .i64 P,.int .i64 m,.slice am H cm] 24):=⟨_,rfl⟩
 rw [<- hW];have F : OC w W:=by rw [hW];exact an _ _
 have x0 : aO W w.heap.size [.int .i64 P,.int .i64 m,.slice am H cm]:=by rw [hW];exact NY _ _ _ rfl
 have HX:=Z5 x0;have C:=Z5 F;have hxW:=hx.af F;have hiW:=hi.af F;clear hW x0;go_wp2_with (at_make;refine ch rfl _ _ 22 3 rfl (.int .i64 0) 8 underlying22 aV rfl Z rfl rfl (by omega) (by unfold maxLen;omega) ?_;intro a5 w5 Y K hge S);have N : w5.ownsRow W.heap.size 3 1 (.slice a5 Z Z) Z ((cmbTo O Z x L 0).map (Value.int .i64)):=by rw [Hz.out];exact Y
 clear Y hge S;go_loopw [9,10] (λov iv wr=>∃(k : Nat) (a1 : OA) (c1 : Nat),k<=n/\iv = .int .i64 k/\ov = .slice a1 Z c1/\wr.ownsRow W.heap.size 3 1 (.slice a1 Z c1) Z ((cmbTo O Z x L k).map (Value.int .i64))/\OC W wr) (λ_ iv _=>n - (intOf iv).toNat);case atStart=>exact ⟨0,a5,Z,JU _,rfl,rfl,N,K⟩
 case round =>
  clear N K
  obtain ⟨k,a1,c1,hk,rfl,rfl,Y,U⟩:=hrel
  by_cases S : k<n
  ·have cxk:=(hxW.af U).cell k S
   have X:=HR.out.row (i:=k) (by rw [Hil.out];exact S)
   obtain ⟨I,rn,rc,er,ir⟩:=(hiW.af U).cell k S
   have hrn : rn=Z:=by rw [<- ir.len];exact X.1
   rw [hrn] at er ir
   clear hrn X
   by_cases h0 : nth x k=0
   ·have h0' : (nth x k != 0)=false:=by simpa using h0
    have Hn : Hid (cmbTo O Z x L (k+1)=cmbTo O Z x L k):=by show _=_;rw [cmbTo,JT h0]
    clear h0
    go_wp2_with fail
    go_roundw
    case rel=>exact ⟨k+1,a1,c1,by omega,by go_num,rfl,by rw [Hn.out];exact Y,U⟩
    case measure=>simp [intOf] <;> omega
   ·have h0' : (nth x k != 0)=true:=by simpa using h0
    have Hn : Hid (cmbTo O Z x L (k+1)=bN O (cmbTo O Z x L k) (nth x k) (ai L k)):=by show _=_;rw [cmbTo,JR h0]
    have hbwr:=NX C.out U
    have Hk:=Z5 (HA.out wr k a1 c1 I rc S hbwr (NZ Y).1 ir)
    have HS2 : Hid (∀V,OC wr V->V.cell? ⟨w.heap.size,0,none⟩=some (.int .i64 P)/\V.cell? ⟨w.heap.size,1,none⟩=some (.int .i64 m)/\V.cell? ⟨w.heap.size,2,none⟩=some (.slice am H cm) /\
      V.cell? ⟨ablk r,aL r+k,none⟩=some (.int .i64 (nth x k))/\V.cell? ⟨ablk a,aL a+k,none⟩=some (.slice I Z rc)/\OC wr V):=λV j=>by have x1:=HX.out.af (NX U j);exact ⟨x1.cell 0 rfl,x1.cell 1 rfl,x1.cell 2 rfl,aB j cxk,aB j er,j⟩
    have Hbr:=Z5 U
    have hszr:=U.size
    clear h0 U Y ir HA
    go_wp2_with fail
    go_region_held3 (λV=>V.cell? ⟨w.heap.size,0,none⟩=some (.int .i64 P)/\V.cell? ⟨w.heap.size,1,none⟩=some (.int .i64 m)/\V.cell? ⟨w.heap.size,2,none⟩=some (.slice am H cm) /\
      V.cell? ⟨ablk r,aL r+k,none⟩=some (.int .i64 (nth x k))/\V.cell? ⟨ablk a,aL a+k,none⟩=some (.slice I Z rc)/\OC wr V)
     ((refine HS2.out _ ?_;first | exact (JP _ _).drew | exact NX (JP _ _).drew hb4))
     (first
      | (go_at_call 227;((with_reducible refine (Hk.out _ (JP _ _).drew).mono ?_);rintro e w4 ⟨a4,c4,rfl,E,hb4⟩)))
    have hbr4:=NX Hbr.out (NX (JP _ _).drew hb4)
    have z:=bd E (show W.heap.size<=wr.drew.heap.size from hszr)
    go_wp2_with fail
    go_roundw
    case rel=>exact ⟨k+1,a4,c4,by omega,by go_num,rfl,by rw [Hn.out];exact z,hbr4⟩
    case measure=>simp [intOf] <;> omega
  ·obtain rfl : k=n:=by omega
   have hF:=bd Y C.out.size
   have HF:=Z5 hF
   have hbF:=NX C.out U
   clear hF Y
   go_wp2_with fail
   go_ret
   exact ⟨a1,c1,rfl,HF.out,hbF⟩
def ld (q : Int) (l : LI) (n : Nat) : Int:=if l.length=n then gX q l else 4
theorem xM (P M : Int) (am : OA) (V cm : Nat) (a : OA) (n c : Nat) (l : LI) (k : Nat) (w : World) (hi : Ints w a n l) :
  Calls prog 36 #[.agg #[.int .i64 P,.int .i64 M,.slice am V cm],.slice a n c,.int .i64 k] w λe w'=>e = .returned (.int .i64 (ld (aH P M) l k))/\OC w w':=by
 have N:=hi.len;go_enter func36,ntmps36;go_upto_region 1 with fail;obtain ⟨W,X⟩ : ∃W : World,W=w.alloc (.cells #[.int .i64 P,.int .i64 M,.slice am V cm] 24):=⟨_,rfl⟩
 rw [<- X];have Z : OC w W:=by rw [X];exact an _ _
 have Y : aO W w.heap.size [.int .i64 P,.int .i64 M,.slice am V cm]:=by rw [X];exact NY _ _ _ rfl
 have c0:=Y.cell 0 rfl;have c1:=Y.cell 1 rfl;have c2:=Y.cell 2 rfl;clear X Y;by_cases h1 : n=k
 ·have Q : Hid (ld (aH P M) l k=gX (aH P M) l):=by show _=_;rw [ld,JT (by omega)]
  have K:=Z5 (kd P M am V cm a n c l W (hi.af Z));have U : ((n : Int) != k)=false:=by rw [show (n : Int)=k by omega];simp
  clear h1 N;generalize gX (aH P M) l=H at *;go_wp2_with fail;refine K.out.mono ?_;rintro e I ⟨rfl,S⟩;have hF:=NX Z S;go_wp2_with fail;go_ret;exact ⟨aK Q.out.symm,hF⟩
 ·have Q : Hid (ld (aH P M) l k=4):=by show _=_;rw [ld,JR (by omega)]
  have U : ((n : Int) != k)=true:=by simp only [bne_iff_ne,ne_eq];omega
  clear h1 N;go_wp2_with fail;go_ret;exact ⟨aK Q.out.symm,Z⟩
theorem AD {w : World} {b : Nat} {G : cX} (h : ee w b G) :
  Calls prog 63 #[.pointer (some ⟨b,0,none⟩)] w λe w'=>e = .returned (.int .i64 (G.q : Nat))/\w=w':=by have Z:=h.cq;go_enter func63,ntmps63;go_wp2;go_ret;exact ⟨rfl,rfl⟩
theorem sC (L : Ll) {r : Nat} (h : r<L.length) : L.drop r=ai L r :: L.drop (r+1):=by rw [aE h];exact KA h
def zf (J : List WX->World->Prop) (I : Nat->Prop) (W0 : World) (G : cX) (Bc Bat By Bg Bf n N : Nat) (R : Ll) (r : Int) (d : Nat) : Prop :=
 ∀(Z : OA) (Y : Nat) (u : LI) (pre : List WX) (W : World),aD W0 W I I->J pre W->(∀x ∈ pre,ablk x.a ≠ Bat) ->
  xe W Bat pre.length->Ints W Z n u->(∀j,I j->j ≠ ablk Z)->(∀x ∈ u,G.El x)->pre.length+G.q ^ d<=N ->
  Calls prog 251 #[.int .i64 r,.slice Z n Y,.pointer (some ⟨Bc,0,none⟩),.pointer (some ⟨Bat,0,none⟩),.pointer (some ⟨By,0,none⟩),.pointer (some ⟨Bg,0,none⟩),.pointer (some ⟨Bf,0,none⟩)] W
   λe V=>e = .returned (.bool true)/\∃xs : List WX,xs.map WX.l=wlkS G.ops G.q R u/\J (pre ++ xs) V/\(∀x ∈ pre ++ xs,ablk x.a ≠ Bat)/\xe V Bat (pre ++ xs).length/\aD W V I I
theorem vh {W0 : World} {b : Nat} {G : cX} {Bc Bat By Bg Bf l : Nat} {ag : OA} {k cg n : Nat} {L : Ll} {I : Nat->Prop}
  (J : List WX->World->Prop) (hIB : I Bat) (hIl : ∀x,I x->x<W0.heap.size)
  (HE : ∀V,aD W0 V I I->Il V b G Bc Bat By Bg Bf l ag k cg L)
  (hJa : ∀pre V V',J pre V->OC V V'->J pre V')
  (N : Nat) (hn : n<=1000000) (hn1 : 1<=n) (hL : bs G.El n L) (hk6 : k<=1000000) (hops : qa G.ops G.El) (d r : Nat) (hrd : r+(d+1)=k)
  (hI : zf J I W0 G Bc Bat By Bg Bf n N (L.drop (r+1)) ((r : Int)+1) d) : zf J I W0 G Bc Bat By Bg Bf n N (L.drop r) r (d+1):=by
 intro au cu u pre W hW hJ hp hat hu hau hue hcnt;obtain rfl : u.length=n:=hu.len;have hrk : r<k:=by omega
 have E:=HE W hW;have hLl : L.length=k:=E.je.len;have hq2 : 2<=G.q:=E.gf.q2;have hq256 : G.q<=256:=E.gf.q256;have Hdrop : Hid (L.drop r=ai L r :: L.drop (r+1)):=sC L (by omega);have Hcnt:=Z5 hcnt;have HI:=Z5 hI;have HJa:=Z5 hJa;have HHE:=Z5 HE;have HIl:=Z5 hIl;have Hau:=Z5 hau;have Hue:=Z5 hue;have HL:=Z5 hL;have Hp:=Z5 hp;have HLl:=Z5 hLl;have Hhat:=Z5 hat;obtain ⟨cgen,hmat,cyl,cgp,hgf,cfr,hltB⟩:=E;have hne : (decide ((r : Int)=(k : Int)))=false:=by simp;omega
 clear hmat cyl cfr hltB hcnt hI hJa HE hIl hau hue hL hp hat hLl;go_enter func251,ntmps251;go_wp2_with (go_at_call 63;refine (AD hgf).mono ?_;rintro e w' ⟨rfl,rfl⟩);go_loopw [29] (λiv wr=>∃(t : Nat) (xs : List WX),t<=G.q/\iv = .int .i64 t/\xs.map WX.l=nH G.ops G.q (ai L r) (L.drop (r+1)) u t/\J (pre ++ xs) wr/\Hid (∀x ∈ pre ++ xs,ablk x.a ≠ Bat) /\
   Hid (xe wr Bat (pre ++ xs).length)/\aD W wr I I) (λiv _=>G.q - (intOf iv).toNat)
 case atStart=>exact ⟨0,[],JU _,rfl,by simp [nH],by rw [K7];exact hJ,by rw [K7];exact Hp.out,by rw [K7];exact Hhat.out,N9 _ _⟩
 case round =>
  obtain ⟨t,xs,ht,rfl,hxs,hJx,hpx,hatx,hmx⟩:=hrel
  by_cases hlt : t<G.q
  ·generalize wr=X1 at *
   have hMX:=hW.trans hmx
   have hux : Ints X1 au u.length u:=hu.dQ hmx (λ_ h=>Hau.out _ h rfl)
   have EX:=HHE.out X1 hMX
   obtain ⟨ar,mr,cr,hrow,hrI⟩:=EX.je.cell r (by omega)
   have Hxs:=Z5 hxs
   clear hxs
   have F : (ai L r).length=u.length:=(HL.out _ (fp (by rw [HLl.out];exact hrk))).1
   obtain rfl : mr=u.length:=by rw [<- F];exact hrI.len.symm
   have HrI:=Z5 hrI
   have hplG:=EX.je.pl
   go_wp2_with (go_at_call 115;refine (dx au u.length cu u hux hn).mono ?_;rintro e w4 ⟨a4,c4,rfl,ho4,hb4⟩;have E4:=HHE.out w4 (hMX.trans (N3 hb4 I));have g4:=E4.gen;have r4:=(hb4.cell (p:=⟨ablk ag,aL ag+r,none⟩) (J2 _ _ hrow)).trans hrow)
   have hNl:=kG G.ops u t (ai L r) F
   have hrE : ∀x ∈ ai L r,G.El x:=(HL.out _ (fp (by rw [HLl.out];exact hrk))).2
   have hte : G.El (t : Int):=⟨by omega,by omega⟩
   have hNe:=Gk hops Hue.out hrE hte F
   have hNth : ∀j,j<u.length->nth (kO G.ops u t (ai L r)) j=if (t : Int) ≠ 0/\nth (ai L r) j ≠ 0 then G.add (nth u j) (G.mul t (nth (ai L r) j)) else nth u j:=by
    intro j hj;by_cases h0 : (t : Int)=0
    ·rw [JR (λh=>h.1 h0)];unfold kO;rw [JT h0]
    ·rw [xj G.ops u t _ j F hj h0];by_cases h1 : nth (ai L r) j=0
     ·rw [JT h1,JR (λh=>h.2 h1)]
     ·rw [JR h1,JT ⟨h0,h1⟩];rfl
   have HNl:=Z5 hNl
   have HNe:=Z5 hNe
   have HNth:=Z5 hNth
   have HrE:=Z5 hrE
   have Hrl:=Z5 F
   have Hsuc : Hid (nH G.ops G.q (ai L r) (L.drop (r+1)) u (t+1)=nH G.ops G.q (ai L r) (L.drop (r+1)) u t ++ wlkS G.ops G.q (L.drop (r+1)) (kO G.ops u t (ai L r))):=zQ _ _ _ _ _ _
   have hlX : Hid (X1.heap.size ≥ W0.heap.size):=hMX.size
   have Hr : Hid (Ints X1 ar u.length (ai L r)):=hrI
   clear hNl hNe hNth hrE F hux EX E4 g4 r4 hrI HrI hplG
   generalize kO G.ops u t (ai L r)=Nw at *
   generalize hRo : ai L r=Ro at *
   have HRo:=Z5 hRo
   clear hRo
   go_loopw [40] (λiv wr=>∃Z : Nat,Z<=u.length/\iv = .int .i64 Z/\wr.ownsRow X1.heap.size 3 1 (.slice a4 u.length c4) u.length ((gj Nw u Z).map (Value.int .i64))/\OC X1 wr) (λiv _=>u.length - (intOf iv).toNat)
   case atStart=>exact ⟨0,JU _,rfl,by rw [fQ];exact ho4,hb4⟩
   case round =>
    obtain ⟨Z,hkk,rfl,Y,U⟩:=hrel
    have Er:=HHE.out wr (hMX.trans (N3 U I))
    by_cases S : Z<u.length
    ·have hir:=Hr.out.af U
     have hpr:=hir.pl
     have cir:=hir.cell Z S
     have D : Nw.length=u.length:=HNl.out
     have X:=HNth.out Z S
     have K:=eQ Nw u Z Z D (by omega)
     rw [JR (by omega)] at K
     by_cases hz : (t : Int) ≠ 0/\nth Ro Z ≠ 0
     ·rw [JT hz] at X
      have z:=fA Nw u Z D S
      rw [X] at z
      have Hset:=Z5 z
      obtain ⟨Q,hmv⟩:=NZ Y
      have hpv:=Q.pl
      have cv1:=Q.cell Z S
      have fv1:=(hmv (by omega)).2 Z S
      rw [K] at cv1
      have elu : G.El (nth u Z):=Hue.out _ (aI S)
      have elr : G.El (nth Ro Z):=HrE.out _ (aI (by rw [Hrl.out];exact S))
      have cgr:=Er.gp
      have hGr:=Er.gf
      have elm : ∀x y,G.El (G.mul x y):=λx y=>OB hGr x y
      have HG : Hid (ee wr.drew b G/\∀n,ee (wr.drewN n) b G):=⟨hGr.af (JP _ _).drew,λn=>hGr.drewN n⟩
      have hz1 : ((t : Int) != 0)=true:=by simpa using hz.1
      have hz2 : (nth Ro Z != 0)=true:=by simpa using hz.2
      have Hiv:=Z5 Q
      clear X K z D hz Er hGr hir Q hmv
      go_wp2_with fail
      go_region_law ((first
       | (go_simp;go_at_call 57;((with_reducible refine (pL t (nth Ro Z) HG.out.1 hte elr).mono ?_);rintro e w4 ⟨m4,rfl,rfl⟩))
       | (go_simp;go_at_call 57;((with_reducible refine (pL t (nth Ro Z) (HG.out.2 _) hte elr).mono ?_);rintro e w4 ⟨m4,rfl,rfl⟩))
       | (go_simp;go_at_call 56;((with_reducible refine (Ij (nth u Z) (G.mul t (nth Ro Z)) (HG.out.2 _) elu (elm _ _)).mono ?_);rintro e w4 ⟨m5,rfl,rfl⟩))))
      all_goals (
       go_wp2_with fail
       go_roundw
       case rel =>
        have hdr : bm wr (wr.drewN (1+m4+m5)):=⟨_,rfl⟩
        have h1:=bC (w:=wr.drewN (1+m4+m5)) Y Z S (.int .i64 (G.add (nth u Z) (G.mul t (nth Ro Z))))
        rw [<- Kh,Hset.out] at h1
        have hlo:=(ba Y (λe=>by have:=hpv (by omega);rw [e] at this;cases this)).1
        exact ⟨Z+1,by omega,by go_num,h1,(U.trans (hdr.below.mono U.size)).trans ((JP _ _).setCell (p:=⟨ablk a4,aL a4+Z,none⟩) hlo _)⟩
       case measure=>simp [intOf] <;> omega)
     ·rw [JR hz] at X
      have H:=qy Nw u Z D S X
      have C:=Z5 H
      by_cases h0 : (t : Int)=0
      ·have hz1 : ((t : Int) != 0)=false:=by simpa using h0
       clear X K H D hz h0 Er
       go_wp2_with fail
       go_roundw
       case rel=>exact ⟨Z+1,by omega,by go_num,by rw [C.out];exact Y,U⟩
       case measure=>simp [intOf] <;> omega
      ·have hz1 : ((t : Int) != 0)=true:=by simpa using h0
       have hz2 : (nth Ro Z != 0)=false:=by
        have : nth Ro Z=0:=by
         by_cases h1 : nth Ro Z=0
         ·exact h1
         ·exact absurd ⟨h0,h1⟩ hz
        simpa using this
       clear X K H D hz h0 Er
       go_wp2_with fail
       go_roundw
       case rel=>exact ⟨Z+1,by omega,by go_num,by rw [C.out];exact Y,U⟩
       case measure=>simp [intOf] <;> omega
    ·obtain rfl : Z=u.length:=by omega
     rw [gx Nw u _ HNl.out rfl] at Y
     have hMr : aD X1 wr I I:=N3 U I
     have hfr:=Er.fr
     have hJr:=HJa.out _ _ _ hJx U
     have hatr : xe wr Bat (pre ++ xs).length:=xe.af hatx.out U
     obtain ⟨Q,_⟩:=NZ Y
     have hblk : ∀j,I j->j ≠ ablk a4:=λj hj=>by have h1:=HIl.out j hj;have h2:=(ba Y (λe=>by have:=Q.pl (by omega);rw [e] at this;cases this)).1;have h3 : X1.heap.size ≥ W0.heap.size:=hlX;omega
     have hxl : xs.length=t * G.q ^ d:=by have h1:=congrArg List.length Hxs.out;rw [J5,uH,ML,HLl.out,show k - (r+1)=d by omega] at h1;exact h1
     have hcnt2 : (pre ++ xs).length+G.q ^ d<=N:=by have h1:=Hcnt.out;have h2 : (t+1) * G.q ^ d<=G.q * G.q ^ d:=Nat.mul_le_mul_right _ (by omega);rw [Mw,Lj] at h1;rw [Nat.add_mul,Nat.one_mul] at h2;rw [J0,hxl];omega
     have Hc:=Z5 (HI.out a4 c4 Nw (pre ++ xs) wr (hMX.trans hMr) hJr hpx.out hatr Q hblk HNe.out hcnt2)
     clear Q hblk hxl hcnt2 hatr hJr Er
     go_wp2_with (go_at_call 251;refine Hc.out.mono ?_;rintro e V ⟨rfl,xs2,hx2,hJ2,hp2,hat2,hm2⟩)
     have Hx2:=Z5 hx2
     have Hp2:=Z5 hp2
     have Hat2:=Z5 hat2
     clear hx2 hp2 hat2
     go_wp2_with fail
     go_roundw
     case rel=>exact ⟨t+1,xs ++ xs2,by omega,by go_num,by rw [Ko,Hxs.out,Hx2.out,<- Hsuc.out,HRo.out],by rw [<- KI];exact hJ2,by rw [<- KI];exact Hp2.out,by rw [<- KI];exact Hat2.out,hmx.trans (hMr.trans hm2)⟩
     case measure=>simp [intOf] <;> omega
  ·obtain rfl : t=G.q:=by omega
   go_wp2_with fail
   go_ret
   refine ⟨rfl,xs,?_,hJx,hpx.out,hatx.out,hmx⟩
   rw [hxs,Hdrop.out];rfl
theorem xS {W0 : World} {b : Nat} {G : cX} {Bc Bat By Bg Bf l : Nat} {ag : OA} {k cg n : Nat} {L : Ll} {I : Nat->Prop}
  (J : List WX->World->Prop) (M : Nat->Prop) (Q : ∀x,M x->I x) (X : I Bat) (H : ¬ M Bat) (S : ∀x,I x->x<W0.heap.size)
  (D : ∀V,aD W0 V I I->Il V b G Bc Bat By Bg Bf l ag k cg L)
  (U : ∀pre V V',J pre V->OC V V'->J pre V')
  (K : ∀pre V v,(∀x ∈ pre,ablk x.a ≠ Bat)->J pre V->J pre (V.setCell ⟨Bat,0,none⟩ v))
  (N : Nat)
  (hY : ∀m pre x V,aD W0 V I I->J pre V->pre.length<N->Ints V x.a n x.l->(∀j,I j->j ≠ ablk x.a)->I3 l n J M m pre x V)
  (hN : N<=1000000) (hn : n<=1000000) (Y : 1<=n) (hL : bs G.El n L) (F : k<=1000000) (Z : qa G.ops G.El) : ∀(d r : Nat),r+d=k ->
   zf J I W0 G Bc Bat By Bg Bf n N (L.drop r) r d
 | 0,r,hr=>by obtain rfl : r=k:=hr;intro au cu u pre W hW hJ hp C hu z hue E;refine (vw J M Q X H S D U K N hY hN hn Y au cu u pre W hW hJ hp C hu z (by rw [Nat.pow_zero] at E;omega)).mono ?_;rintro e V ⟨he,xs,h1,h2⟩;refine ⟨he,xs,?_,h2⟩;rw [h1,KD (by rw [(D W hW).je.len];exact JO _)];rfl
 | d+1,r,hr=>vh J X S D U N hn Y hL F Z d r hr (xS J M Q X H S D U K N hY hN hn Y hL F Z d (r+1) (by omega))
theorem pI {σ : Type} (I : World->σ->Prop) (J : σ->Nat->Prop) (val : σ->Ll) (F : LI->LI->Ll->Int × Ll) (pb W : Nat)
  (sa : OA) (ns cs : Nat) (s : LI) (az : OA) (nz cz : Nat) (z : LI) (at' : OA) (nt ct : Nat) (t : LI) (w : World) (Z : σ)
  (hI0 : I w Z) (hIb : ∀V V' σ,I V σ->aD V V' (λb=>w.heap.size<=b/\¬ J σ b) (λb=>w.heap.size<=b/\¬ J σ b)->I V' σ) (hp : w.cell? ⟨pb,9,none⟩=some (.int .i64 W)) (hS : ∀V σ,I V σ->Ints V sa ns s/\Ints V at' nt t)
  (hJ : ∀V σ x,I V σ->J σ x->x<V.heap.size) (hz : Ints w az nz z) (htn : t.Nodup) (hns : ns<=1000) (hnz : nz<=1000) (hnt : nt<=1000) (hWs : ns<=W)
  (hF : ns<W->∀(V : World) (σ : σ) (a1 : OA) (c1 : Nat) (a2 : OA) (c2 k : Nat) (Y : LI),k<nt->Y=z ++ (t.take k).filter (λx=>decide (¬ x ∈ z))->¬ nth t k ∈ z->I V σ->aD w V (J Z) (J σ) ->
   Ints V a1 (ns+1) (s ++ [nth t k])->Ints V a2 Y.length Y->¬ J σ (ablk a1)->(a2 ≠ none->¬ J σ (ablk a2)) ->
   Calls prog 193 #[.pointer (some ⟨pb,0,none⟩),.slice a1 (ns+1) c1,.slice a2 Y.length c2] V
    λe V'=>∃X,I V' X/\aD V V' (J σ) (J X)/\e = .returned (.int .i64 (F (s ++ [nth t k]) Y (val σ)).1)/\((F (s ++ [nth t k]) Y (val σ)).1=0->val X=(F (s ++ [nth t k]) Y (val σ)).2)) :
  Calls prog 234 #[.pointer (some ⟨pb,0,none⟩),.slice sa ns cs,.slice az nz cz,.slice at' nt ct,.func (.func 193) #[.pointer (some ⟨pb,0,none⟩)] #[]] w
   λe w'=>∃X,I w' X/\aD w w' (J Z) (J X)/\e = .returned (.int .i64 (gr F s z (if ns<W then t.filter (λx=>decide (¬ x ∈ z)) else []) (val Z)).1) /\
    ((gr F s z (if ns<W then t.filter (λx=>decide (¬ x ∈ z)) else []) (val Z)).1=0->val X=(gr F s z (if ns<W then t.filter (λx=>decide (¬ x ∈ z)) else []) (val Z)).2):=by
 obtain ⟨KB,hKB⟩ : ∃KB,gr F s z (if ns<W then t.filter (λx=>decide (¬ x ∈ z)) else []) (val Z)=KB:=⟨_,rfl⟩
 rw [hKB];have HKB:=Z5 hKB;clear hKB;have Hzl:=Z5 hz.len;have Htl:=Z5 (hS w Z hI0).2.len;have Hsl:=Z5 (hS w Z hI0).1.len;have hplt:=(hS w Z hI0).2.pl;have HS:=Z5 hS;have HI0:=Z5 hI0;have HIb:=Z5 hIb;have HJ:=Z5 hJ;have Htn:=Z5 htn;have HF:=Z5 hF;clear hS hI0 hIb hJ htn hF;by_cases hW : ns=W
 ·have hd : ((ns : Int) == (W : Int))=true:=by simp;omega
  have Hk : Hid (KB=(0,val Z)):=by show _=_;rw [<- HKB.out,JR (by omega)];rfl
  go_enter func234,ntmps234;clear hW;go_wp2_with fail;go_ret;exact ⟨Z,HI0.out,N9 _ _,by rw [Hk.out];rfl,λ_=>by rw [Hk.out]⟩
 have hd : ((ns : Int) == (W : Int))=false:=by simp;omega
 have hlW : ns<W:=by omega
 have HKB : Hid (KB=gr F s z (t.filter (λx=>decide (¬ x ∈ z))) (val Z)):=by show _=_;rw [<- HKB.out,JT hlW]
 have HF:=Z5 (HF.out hlW);clear hlW hW;go_enter func234,ntmps234;go_wp2_with fail;refine (dx az nz cz z hz (by omega)).mono ?_;rintro e w1 ⟨a0,c0,rfl,hown0,hb1⟩;have hI1:=HIb.out w w1 Z HI0.out (N3 hb1 _);go_wp2_with fail;go_loopw [2,25] (λzv iv wr=>∃(k : Nat) (j : OA) (cq : Nat) (Y : LI) (σ : σ),k<=nt/\iv = .int .i64 k/\zv = .slice j Y.length cq/\Hid (Y=z ++ (t.take k).filter (λx=>decide (¬ x ∈ z))) /\
   wr.ownsRow w.heap.size 3 1 (.slice j Y.length cq) Y.length (Y.map (Value.int .i64))/\Hid (I wr σ)/\Hid (aD w wr (J Z) (J σ))/\Hid (j ≠ none->¬ J σ (ablk j)) /\
   Hid (KB=gr F s Y ((t.drop k).filter (λx=>decide (¬ x ∈ z))) (val σ))/\Y.length<=nz+k)
  (λ_ iv _=>nt - (intOf iv).toNat)
 case atStart =>
  refine ⟨0,a0,c0,z,Z,JU _,rfl,rfl,?_,hown0,hI1,N3 hb1 _,?_,?_,by rw [Hzl.out];omega⟩
  ·show _=_;simp
  ·show a0 ≠ none->_
   intro ha hj
   have h1:=HJ.out w Z _ HI0.out hj
   have h2:=(ba hown0 ha).1
   omega
  ·show _=_;rw [Ls];exact HKB.out
 case round =>
  obtain ⟨k,j,cq,Y,σ,hk,rfl,rfl,hzc,hop,hI,hM,hap,hkb,hzn⟩:=hrel
  generalize wr=U at *
  by_cases hlt : k<nt
  ·have htU:=(HS.out U σ hI.out).2
   have hsU:=(HS.out U σ hI.out).1
   have ck:=htU.cell k hlt
   obtain ⟨hzi,_⟩:=NZ hop
   have hktl : k<t.length:=by rw [Htl.out];exact hlt
   have Htk:=Z5 (show t.take (k+1)=t.take k ++ [nth t k] from mI t hktl)
   have Hdk:=Z5 (show t.drop k=nth t k :: t.drop (k+1) by rw [aj hktl];exact KA hktl)
   have Hzm : Hid (nth t k ∈ Y ↔ nth t k ∈ z):=by
    show _ ↔ _;rw [hzc.out,KN,Lx];constructor
    ·rintro (h | h)
     ·exact h
     ·exfalso;have hn : (t.take k ++ t.drop k).Nodup:=by rw [Mi];exact Htn.out
      rw [K2] at hn;exact hn.2.2 _ h.1 (nth t k) (by rw [Hdk.out];simp) rfl
    ·exact .inl
   by_cases N : nth t k ∈ z
   ·have hmd : decide (nth t k ∈ Y)=true:=by simpa using Hzm.out.2 N
    have HcA:=Z5 (dp j Y.length cq Y (nth t k) U hzi)
    rw [hmd] at HcA
    have r : Hid (Y=z ++ (t.take (k+1)).filter (λx=>decide (¬ x ∈ z))):=by show _=_;rw [Htk.out,LQ,Lc (by simpa using N),LW,K7];exact hzc.out
    have S : Hid (KB=gr F s Y ((t.drop (k+1)).filter (λx=>decide (¬ x ∈ z))) (val σ)):=by show _=_;rw [hkb.out,Hdk.out,Lc (by simpa using N)]
    clear N hmd
    go_wp2_with fail
    refine HcA.out.mono ?_
    rintro e w6 ⟨rfl,rfl⟩
    go_wp2_with fail
    go_roundw
    case rel=>exact ⟨k+1,j,cq,Y,σ,by omega,by go_num,rfl,r.out,hop,hI.out,hM.out,hap.out,S.out,by omega⟩
    case measure=>simp [intOf] <;> omega
   ·have hmd : decide (nth t k ∈ Y)=false:=by simpa using λh=>N (Hzm.out.1 h)
    have HcA:=Z5 (dp j Y.length cq Y (nth t k) U hzi)
    rw [hmd] at HcA
    have r : Hid (Y ++ [nth t k]=z ++ (t.take (k+1)).filter (λx=>decide (¬ x ∈ z))):=by show _=_;rw [Htk.out,LQ,Ld (by simpa using N),LW,<- KI,<- hzc.out]
    have S : Hid (KB=if (F (s ++ [nth t k]) Y (val σ)).1=0 then gr F s (Y ++ [nth t k]) ((t.drop (k+1)).filter (λx=>decide (¬ x ∈ z))) (F (s ++ [nth t k]) Y (val σ)).2 else ((F (s ++ [nth t k]) Y (val σ)).1,[])):=by show _=_;rw [hkb.out,Hdk.out,Ld (by simpa using N),gr]
    have HFk:=Z5 (λV σ a1 c1 a2 c2=>HF.out V σ a1 c1 a2 c2 k Y hlt hzc.out N)
    have hszU:=hM.out.size
    clear N hmd
    go_wp2_with fail
    refine HcA.out.mono ?_
    rintro e w6 ⟨rfl,rfl⟩
    go_wp2_with fail
    refine (dx sa ns cs s hsU (by omega)).mono ?_
    rintro e w7 ⟨a7,c7,rfl,K,hb7⟩
    rw [Hsl.out] at K
    rw [Hsl.out]
    obtain ⟨x,hx⟩ : ∃x,nth t k=x:=⟨_,rfl⟩
    rw [hx] at ck r S HFk Htk Hdk Hzm HcA ⊢
    have hcn:=bf w7 (.int .i64 x) 3
    have Q:=an w7 (.cells #[.int .i64 x] 3)
    go_wp2_with (at_builtin;refine aS rfl _ _ 22 3 rfl (.int .i64 0) 8 underlying22 aV rfl w6.heap.size a7 ns c7 _ rfl (K.alloc _) ⟨w7.heap.size,0,none⟩ 1 (.int .i64 x) rfl hcn rfl (by omega) (by unfold maxLen;omega) (J4 hb7.size Q.size) ?_;intro a8 c8 w8 hown8 hgr8 hap8)
    have hb68 : OC w6 w8:=N0 (NX hb7 Q) (K.alloc _) hgr8 (JO _) (J4 hb7.size Q.size)
    have own8 : w8.ownsRow w6.heap.size 3 1 (.slice a8 (ns+1) c8) (ns+1) ((s ++ [x]).map (Value.int .i64)):=by simpa using hown8
    have hz8:=hzi.af hb68
    clear K hown8 hgr8 hap8 hcn Q
    go_wp2_with fail
    refine (dx j Y.length cq Y hz8 (by omega)).mono ?_
    rintro e w9 ⟨a9,c9,rfl,H,hb9⟩
    have hb69:=NX hb68 hb9
    have hI9:=HIb.out w6 w9 σ hI.out (N3 hb69 _)
    have hM9 : aD w w9 (J Z) (J σ):=hM.out.mS (hb69.mono hszU)
    have hs9:=(NZ own8).1.af hb9
    have hz9:=(NZ H).1
    have hn8 : ¬ J σ (ablk a8):=λhj=>by have h1:=HJ.out w6 σ _ hI.out hj;have h2:=(dT own8 (by omega)).1;omega
    have hn9 : a9 ≠ none->¬ J σ (ablk a9):=λha hj=>by have h1:=HJ.out w6 σ _ hI.out hj;have h2:=(ba H ha).1;have h3:=hb68.size;omega
    have hopz:=bp hop hb69
    have D:=Z5 (HFk.out w9 σ a8 c8 a9 c9 hI9 hM9 hs9 hz9 hn8 hn9)
    clear HFk hI9 hs9 hz9 hn8 hn9 hz8 own8 H
    generalize F (s ++ [x]) Y (val σ)=FR at *
    obtain ⟨fe,fv⟩:=FR
    dsimp only at D S
    go_wp2_with fail
    refine D.out.mono ?_
    rintro e E ⟨X,hI',hM',rfl,hval⟩
    have hM10:=Z5 (hM9.trans hM')
    have hapz : j ≠ none->¬ J X (ablk j):=λha=>hM'.not (ba hopz ha).2 (hap.out ha)
    have hopq:=hM'.own hopz hap.out
    have Hapz:=Z5 hapz
    have HI':=Z5 hI'
    clear D hM9 hM' hapz hI' hopz
    by_cases hfe : fe=0
    ·have Hval : Hid (val X=fv):=hval hfe
     subst hfe
     rw [JT rfl] at S
     have hcn:=bf E (.int .i64 x) 3
     have Q:=an E (.cells #[.int .i64 x] 3)
     have C:=hM10.out.size
     clear hval
     go_wp2_with (at_builtin;refine aS rfl _ _ 22 3 rfl (.int .i64 0) 8 underlying22 aV rfl w.heap.size j Y.length cq _ rfl (hopq.alloc _) ⟨E.heap.size,0,none⟩ 1 (.int .i64 x) rfl hcn rfl (by omega) (by unfold maxLen;omega) (J4 C Q.size) ?_;intro a11 c11 w11 hown11 hgr11 hap11)
     go_roundw
     case rel =>
      have hb11 : Below w.heap.size E w11:=N0 (Q.mono C) (hopq.alloc _) hgr11 (JO _) (J4 C Q.size)
      have hK : aD E w11 (λb=>w.heap.size<=b/\¬ J X b) (λb=>w.heap.size<=b/\¬ J X b):=(N3 Q _).trans (Ol hgr11 λha=>⟨(ba hopq ha).1,Hapz.out ha⟩)
      refine ⟨k+1,a11,c11,Y ++ [x],X,by omega,by go_num,by simp,r.out,by simpa using hown11,HIb.out E w11 X HI'.out hK,hM10.out.mS hb11,?_,?_,by simp;omega⟩
      ·show a11 ≠ none->_
       intro ha hj
       have h1:=HJ.out E X _ HI'.out hj
       have h2 : eX j (ablk a11):=by
        by_cases h0 : j=none
        ·exact .inl h0
        ·exact .inr λe=>Hapz.out h0 (by rw [e];exact hj)
       rcases hap11 _ (Kl h1 Q.size) h2 with h3 | h3
       ·exact ha h3
       ·exact h3 rfl
      ·show _=_
       rw [S.out,Hval.out]
     case measure=>simp [intOf] <;> omega
    ·have hfe' : (fe != 0)=true:=by simpa using hfe
     have Hk2 : Hid (KB=(fe,[])):=by show _=_;rw [S.out,JR hfe]
     have Hfe:=Z5 hfe
     clear hfe hval
     go_wp2_with fail
     go_ret
     exact ⟨X,HI'.out,hM10.out,by rw [Hk2.out];rfl,λh0=>absurd (by rw [Hk2.out] at h0;exact h0) Hfe.out⟩
  ·obtain rfl : k=nt:=by omega
   have Hf : Hid (KB=(0,val σ)):=by show _=_;rw [hkb.out,KD (by rw [Htl.out];exact JO _),LW,gr]
   go_wp2_with fail
   go_ret
   exact ⟨σ,hI.out,hM.out,by rw [Hf.out];rfl,λ_=>by rw [Hf.out]⟩
section
open Go.RowKit
end
theorem jI {P M : Int} {mod : LI} {m : Nat} {D : Ll} (X : bq P M mod=true) (hm : m<=256) (S : D.length<=256) (V : bs (ah P M.toNat mod).El m D) : dy P M mod m D=0:=by
 unfold dy;rw [JT X];unfold fh;rw [JR (by omega)];have Z : iM (m : Int) D=true:=by unfold iM;rw [Ky];intro r Y;have:=(V r Y).1;simp;omega
 rw [JR (by rw [Z];decide),JT];rw [Ky];intro r Y;unfold ez gV;rw [Ky];intro x U;have:=(V r Y).2 x U;unfold cX.El at this;simp;exact this
section
open Go.RowKit
end
section
open Go.RowKit
end
section
open Go.RowKit
end
theorem Dk {w : World} {b : Nat} {G : cX} (q : Nat) (x : Int) (X : w.cell? ⟨q,0,none⟩=some (.pointer (some ⟨b,0,none⟩))) (h : ee w b G) :
  Calls prog 144 #[.int .i64 x,.pointer (some ⟨q,0,none⟩)] w λe w'=>e = .returned (.bool (!(decide (0<=x) && decide (x<G.q))))/\w=w':=by
 go_enter func144,ntmps144;go_wp2_with fail;refine (I1 x h).mono ?_;rintro e w' ⟨rfl,rfl⟩;obtain ⟨z,Z⟩ : ∃z,(decide (0<=x) && decide (x<G.q))=z:=⟨_,rfl⟩
 have Y:=Z5 Z;rw [Z];clear Z;cases z
 ·go_wp2_with fail;go_ret;exact ⟨aU (by rw [Y.out];rfl),rfl⟩
 ·go_wp2_with fail;go_ret;exact ⟨aU (by rw [Y.out];rfl),rfl⟩
theorem xc (p : Int->Bool) (q : Nat) (a : OA) (n c : Nat) (l : LI) (w : World) (hi : Ints w a n l) (K : ∀k,k<n->Calls prog 144 #[.int .i64 (nth l k),.pointer (some ⟨q,0,none⟩)] w λe w'=>e = .returned (.bool (p (nth l k)))/\w=w') :
  Calls prog 111 #[.slice a n c,.func (.func 144) #[] #[.pointer (some ⟨q,0,none⟩)]] w λe w'=>∃z : Int,e = .returned (.int .i64 z)/\(0<=z ↔ l.any p=true)/\w=w':=by
 have D:=hi.pl;have V:=hi.max;have E:=Z5 K;have I:=Z5 hi.len;unfold maxLen at V;clear K;go_enter func111,ntmps111;go_wp2_with fail;go_loop [8] (λN=>∃k : Nat,k<=n/\N = .int .i64 k/\Hid (∀j,j<k->p (nth l j)=false)) (λN=>n - (intOf N).toNat);case atStart=>exact ⟨0,JU _,rfl,λj Q=>by omega⟩
 case round =>
  obtain ⟨k,r,rfl,Y⟩:=hrel
  by_cases X : k<n
  ·have ck:=hi.cell k X
   have Z:=E.out k X
   obtain ⟨z,U⟩ : ∃z,p (nth l k)=z:=⟨_,rfl⟩
   rw [U] at Z
   have H:=Z5 Z
   cases z
   ·have F : Hid (∀j,j<k+1->p (nth l j)=false):=λj Q=>by
     by_cases e : j=k
     ·subst e;exact U
     ·exact Y.out j (by omega)
    clear U Z Y
    go_wp2_with fail
    refine H.out.mono ?_
    rintro e w' ⟨rfl,rfl⟩
    go_wp2_with fail
    go_round
    case rel=>exact ⟨k+1,by omega,by go_num,F.out⟩
    case measure=>simp [intOf] <;> omega
   ·have S : Hid (l.any p=true):=by show _=_;rw [L5];exact ⟨nth l k,aI (by rw [I.out];exact X),U⟩
    clear U Z Y
    go_wp2_with fail
    refine H.out.mono ?_
    rintro e w' ⟨rfl,rfl⟩
    go_wp2_with fail
    go_ret
    exact ⟨k,rfl,⟨λ_=>by first | exact S.out | exact List.any_eq_true.1 S.out,λ_=>LO _⟩,rfl⟩
  ·obtain rfl : k=n:=by omega
   have S : Hid (l.any p=false):=by show _=_;rw [Mf];intro x C;obtain ⟨j,Q,rfl⟩:=List.mem_iff_getElem.1 C;have:=Y.out j (by rw [<- I.out];exact Q);rw [aj Q] at this;rw [this];decide
   go_wp2_with fail
   go_ret
   exact ⟨-1,rfl,⟨λh=>absurd h (by omega),λh=>by have h2 : l.any p=true:=(by first | exact h | exact List.any_eq_true.2 h);rw [S.out] at h2;exact absurd h2 (by decide)⟩,rfl⟩
theorem qG (p : Int->Bool) (q : Nat) (a : OA) (n c : Nat) (l : LI) (w : World) (hi : Ints w a n l) (V : ∀k,k<n->Calls prog 144 #[.int .i64 (nth l k),.pointer (some ⟨q,0,none⟩)] w λe w'=>e = .returned (.bool (p (nth l k)))/\w=w') :
  Calls prog 53 #[.slice a n c,.func (.func 144) #[] #[.pointer (some ⟨q,0,none⟩)]] w λe w'=>e = .returned (.bool (l.any p))/\w=w':=by
 have U:=Z5 (xc p q a n c l w hi V);clear V;go_enter func53,ntmps53;go_wp2_with fail;refine U.out.mono ?_;rintro e w' ⟨z,rfl,Z,rfl⟩;by_cases h0 : 0<=z
 ·have Y : Hid (l.any p=true):=Z.1 h0;have X : decide (0<=z)=true:=by simpa using h0
  clear Z h0;go_wp2_with fail;go_ret;exact ⟨aU Y.out.symm,rfl⟩
 ·have Y : Hid (l.any p=false):=by
   show _=_;cases h : l.any p
   ·rfl
   ·exact absurd (Z.2 h) h0
  have X : decide (0<=z)=false:=by simpa using h0
  clear Z h0;go_wp2_with fail;go_ret;exact ⟨aU Y.out.symm,rfl⟩
theorem uQ (q : Int) (l : LI) : l.any (λx=>!(decide (0<=x) && decide (x<q))) = !(ez q l):=by
 unfold ez;induction l with
 | nil=>rfl
 | cons x l Z =>
  rw [List.any_cons,Np,Z]
  unfold gV
  cases (decide (0<=x) && decide (x<q)) <;> simp
theorem sM (P M : Int) (am : OA) (N cm : Nat) (mod : LI) (ax : OA) (nx cx : Nat) (x : LI) (n : Nat) (w : World) (Q : Ints w am N mod) (hx : Ints w ax nx x) (hB : bq P M mod=true) :
  Calls prog 89 #[.agg #[.int .i64 P,.int .i64 M,.slice am N cm],.slice ax nx cx,.int .i64 n] w λe w'=>e = .returned (.int .i64 (ld (ah P M.toNat mod).q x n))/\OC w w':=by
 have X:=hx.len;go_enter func89,ntmps89;go_upto_region 1 with fail;obtain ⟨W,F⟩ : ∃W : World,W=w.alloc (.cells #[.int .i64 P,.int .i64 M,.slice am N cm] 24):=⟨_,rfl⟩
 rw [<- F];have V : OC w W:=by rw [F];exact an _ _
 have E : aO W w.heap.size [.int .i64 P,.int .i64 M,.slice am N cm]:=by rw [F];exact NY _ _ _ rfl
 have c0:=E.cell 0 rfl;have c1:=E.cell 1 rfl;have c2:=E.cell 2 rfl;clear F E;by_cases K : nx=n;rotate_left
 ·have C : ((nx : Int) != n)=true:=by simp;omega
  have I : Hid (ld (ah P M.toNat mod).q x n=4):=by show _=_;rw [ld,JR (by omega)]
  clear K X;go_wp2_with fail;go_ret;exact ⟨aK I.out.symm,V⟩
 obtain rfl : nx=n:=K;have C : ((nx : Int) != nx)=false:=by simp
 have I : Hid (ld (ah P M.toNat mod).q x nx=if ez (ah P M.toNat mod).q x=true then 0 else 2):=by show _=_;rw [ld,JT X];rfl
 clear X;go_wp2_with fail;refine (dB P M am N cm mod W (Q.af V)).mono ?_;rintro e D (⟨H,_,_⟩ | ⟨_,b,rfl,hG,j,hb4⟩)
 ·rw [hB] at H;cases H
 have Y:=NX V hb4;have U:=an D (.cells #[.pointer (some ⟨b,0,none⟩)] 79);have r:=bf D (.pointer (some ⟨b,0,none⟩)) 79;have Z:=qG (λy=>!(decide (0<=y) && decide (y<(ah P M.toNat mod).q))) D.heap.size ax nx cx x _ (hx.af (NX Y U)) λk hk=>Dk D.heap.size (nth x k) r (hG.gf.af U);rw [uQ] at Z;obtain ⟨z,hz⟩ : ∃z,ez (ah P M.toNat mod).q x=z:=⟨_,rfl⟩
 rw [hz] at Z I;have Hc:=Z5 Z;have hF:=NX Y U;have HF:=Z5 hF;clear c0 c1 c2 hG j hB hF Z hz;cases z
 ·have S : Hid (ld (ah P M.toNat mod).q x nx=2):=by show _=_;rw [I.out];rfl
  go_wp2_with fail;refine Hc.out.mono ?_;rintro e w' ⟨rfl,rfl⟩;go_wp2_with fail;go_ret;exact ⟨aK S.out.symm,HF.out⟩
 ·have S : Hid (ld (ah P M.toNat mod).q x nx=0):=by show _=_;rw [I.out];rfl
  go_wp2_with fail;refine Hc.out.mono ?_;rintro e w' ⟨rfl,rfl⟩;go_wp2_with fail;go_ret;exact ⟨aK S.out.symm,HF.out⟩
theorem lO (a : OA) (n c : Nat) (l : LI) (w : World) (h : Ints w a n l) :
  Calls prog 41 #[.slice a n c] w λe w'=>e = .returned (.int .i64 (gU l))/\w'=w:=by
 have H:=Z5 h.len;have D:=h.pl;have V:=h.max;unfold maxLen at V;have hle : ∀k,k<=n->(gU (l.take k) : Int)<=k:=λk K=>by have h1 : gU (l.take k)<=(l.take k).length:=M9;rw [Ki] at h1;omega
 have S:=Z5 hle;have E : Hid (gU (l.take n)=gU l):=by show _=_;rw [JX (by rw [H.out];exact JO _)]
 clear hle;go_enter func41,ntmps41;go_wp2_with fail;go_loopw [3,4] (λF Q wr=>∃k : Nat,k<=n/\Q = .int .i64 k/\F = .int .i64 (gU (l.take k))/\wr=w) (λ_ Q _=>n - (intOf Q).toNat);case atStart=>exact ⟨0,JU _,rfl,by simp [gU],rfl⟩
 case round =>
  obtain ⟨k,K,rfl,rfl,rfl⟩:=hrel
  by_cases U : k<n
  ·have C:=h.cell k U
   have Y : k<l.length:=by rw [H.out];exact U
   have Z : gU (l.take (k+1))=gU (l.take k)+(if nth l k ≠ 0 then 1 else 0):=by unfold gU;rw [JW Y,Nr,List.countP_singleton,aj Y];simp
   have hb:=S.out k K
   obtain ⟨t,N⟩ : ∃t,gU (l.take k)=t:=⟨_,rfl⟩
   obtain ⟨y,I⟩ : ∃y,nth l k=y:=⟨_,rfl⟩
   rw [N] at Z hb ⊢
   rw [I] at Z C
   clear N I Y
   by_cases h0 : y=0
   ·have hd : (y != 0)=false:=by simpa using h0
    have X : Hid (gU (l.take (k+1))=t):=by show _=_;rw [Z,JR (by simpa using h0)];rfl
    clear h0 Z
    go_wp2_with fail
    go_roundw
    case rel=>exact ⟨k+1,by omega,by go_num,by rw [X.out],by simp⟩
    case measure=>simp [intOf] <;> omega
   ·have hd : (y != 0)=true:=by simpa using h0
    have X : Hid (gU (l.take (k+1))=t+1):=by show _=_;rw [Z,JT h0]
    clear h0 Z
    go_wp2_with fail
    go_roundw
    case rel=>exact ⟨k+1,by omega,by go_num,by rw [X.out];go_num,by simp⟩
    case measure=>simp [intOf] <;> omega
  ·obtain rfl : k=n:=by omega
   rw [E.out]
   go_wp2_with fail
   go_ret
   exact ⟨rfl,rfl⟩
theorem iF (f : LI->LI) (Z : f []=[]) (L : Ll) (i : Nat) : ai (L.map f) i=f (ai L i):=by
 by_cases h : i<L.length
 ·exact oG f L h
 ·rw [kE (by simpa using h),kE (by omega),Z]
section
variable {O : aM} {k : Nat}
theorem oQ {J : Ll} {c : Nat} (Z : c<k) : ∀f i,findTo (J.map (List.take k)) c i f=findTo J c i f
 | 0,i=>rfl
 | f+1,i=>by rw [findTo,findTo,iF _ L8,oB _ Z,oQ Z f (i+1)]
theorem u0 {J : Ll} {c : Nat} (Z : c<k) (i : Nat) : aZ (J.map (List.take k)) c i=aZ J c i:=by unfold aZ;rw [J5,oQ Z]
theorem sy {Z r : LI} {c : Nat} (Y : c<k) : cH O (Z.take k) c (r.take k)=(cH O Z c r).take k:=by
 unfold cH;rw [oB _ Y];split
 ·rfl
 ·rw [vY]
theorem nu {J : Ll} {t c : Nat} (Z : c<k) : ∀i,clearTo O t c (J.map (List.take k)) i=(clearTo O t c J i).map (List.take k)
 | 0=>rfl
 | i+1=>by
  rw [clearTo,clearTo,nu Z i];split
  ·rfl
  ·rw [iF _ L8,iF _ L8,sy Z,Kh]
theorem vn {J : Ll} {t c : Nat} (Z : c<k) : bw O (J.map (List.take k)) t c=(bw O J t c).map (List.take k):=by
 unfold bw;rw [iF _ L8,oB _ Z];split
 ·rfl
 ·rw [Kh,List.map_take]
theorem vO {J : Ll} {t i : Nat} : bt (J.map (List.take k)) t i=(bt J t i).map (List.take k):=by unfold bt;rw [iF _ L8,iF _ L8,Kh,Kh]
theorem xo {J : Ll} {t i c : Nat} (Z : c<k) : en O (J.map (List.take k)) t i c=(en O J t i c).map (List.take k):=by
 have h : ∀J : Ll,clearTo O t c (bw O (J.map (List.take k)) t c) (bw O (J.map (List.take k)) t c).length=(clearTo O t c (bw O J t c) (bw O J t c).length).map (List.take k):=λJ=>by rw [vn Z,J5,nu Z]
 unfold en;split
 ·exact h J
 ·rw [vO];exact h _
theorem pr {J : Ll} : ∀c,c<=k->(aC O (J.map (List.take k)) c).1=(aC O J c).1.map (List.take k)/\(aC O (J.map (List.take k)) c).2=(aC O J c).2
 | 0,_=>⟨rfl,rfl⟩
 | c+1,h=>by
  obtain ⟨h1,h2⟩:=pr (J:=J) c (by omega);simp only [aC];rw [h1,h2,J5,u0 (by omega)];split
  ·split
   ·exact ⟨h1,h2⟩
   ·exact ⟨xo (by omega),rfl⟩
  ·exact ⟨h1,h2⟩
end
section
variable {O : aM} {El : Int->Prop} {m : Nat}
theorem GB (F : bI O El) {L : Ll} (Z : bs El m L) {Q : LI} (X : Ak m Q) : (aC O (L.map (bP Q)) Q.length).2.length=(lT O L Q).length:=by
 refine Rk.same (gE F Z) (FX F Z X) (ob F Z Q) λx=>?_;rw [fu,Md];constructor
 ·rintro ⟨j,Y,rfl⟩;exact ⟨j,List.mem_range.1 Y,rfl⟩
 ·rintro ⟨j,Y,e⟩;exact ⟨j,List.mem_range.2 Y,e⟩
end
section
open Go.RowKit
end
section
variable {O : aM} {El : Int->Prop} {m : Nat}
theorem j5.H5 (F : bI O El) {L : Ll} {P : LI} {c : Nat} (h : j5 L P c) (U : bs El m L) {v : LI} (Q : Vc El L.length v) {V : LI->Int} (Y : ka O El L.length V)
  {t : Nat} (N : t<=P.length) (h0 : ∀j,j<t->V (aX L (nth P j).toNat)=0) : ∀k,k<=t->Vc El L.length (gT O L P v k)/\V (gT O L P v k)=V v/\∀i,i<L.length->nth (gT O L P v k) i=if i<k then 0 else nth v i
 | 0,_=>⟨Q,rfl,λi _=>by rw [JR (by omega)];rfl⟩
 | k+1,K=>by
  obtain ⟨h1,h2,h3⟩:=h.H5 F U Q Y N h0 k (by omega);have hle:=h.le;have Z:=cO U F.zero (nth P k).toNat;have X:=h1.at (i:=k) (by omega);refine ⟨h1.sub F Z X,?_,λi hi=>?_⟩
  ·rw [gT,Y.sub _ _ _ h1 Z X,h0 k (by omega),F.cQ X,F.eY,F.add_zero _ (Y.el _ h1),h2]
  ·rw [gT,eF O _ _ _ i (by rw [Z.1,h1.1]) (by rw [h1.1];exact hi),da L _ i hi,h.one k i (by omega) hi];by_cases e : i=k
   ·subst e;rw [JT rfl,F.gR X,F.add_neg _ X,JT (by omega)]
   ·rw [JR e,F.cQ X,F.eY,F.add_zero _ (h1.at hi),h3 i hi];by_cases S : i<k
    ·rw [JT S,JT (by omega)]
    ·rw [JR S,JR (by omega)]
theorem Bm {P : LI} (ha : ∀i j,i<j->j<P.length->nth P i<nth P j) {x : Int} (U : ¬ x ∈ P) : ∀k,k<=P.length->∃t,t<=k/\(∀j,j<t->nth P j<x)/\∀j,t<=j->j<k->x<nth P j
 | 0,_=>⟨0,JO _,λj V=>by omega,λj _ V=>by omega⟩
 | k+1,Q=>by
  obtain ⟨t,h1,h2,h3⟩:=Bm ha U k (by omega);have hne : nth P k ≠ x:=λe=>U (e ▸ aI (by omega));by_cases S : t=k
  ·subst S;by_cases Z : nth P t<x
   ·exact ⟨t+1,by omega,λj V=>by
     by_cases e : j=t
     ·subst e;exact Z
     ·exact h2 j (by omega),λj Y X=>by omega⟩
   ·exact ⟨t,by omega,h2,λj Y X=>by
     obtain rfl : j=t:=by omega
     omega⟩
  ·refine ⟨t,by omega,h2,λj Y X=>?_⟩;by_cases e : j=k
   ·subst e;have:=ha t j (by omega) (by omega);have:=h3 t (JO _) (by omega);omega
   ·exact h3 j Y (by omega)
theorem GC (F : bI O El) {R : Ll} {P : LI} (S : bs El m R) (Y : j5 R P m) (V : mb R P) {f : Nat->Int} (N : RS O El m R f) {x : Nat} (U : x<m) (h0 : ∀y,y<x->f y=0) (hne : f x ≠ 0) : (x : Int) ∈ P:=by
 refine Kg λK=>hne ?_;obtain ⟨t,h1,h2,h3⟩:=Bm V.asc K P.length (JO _);obtain ⟨e,he,h⟩:=N;have X:=Y.lt;obtain ⟨I,q2,H⟩:=Y.H5 F S (cO S F.zero x) he h1 (λj Q=>by have:=h2 j Q;have:=X j (by omega);rw [<- h _ (by omega)];exact h0 _ (by omega)) t (JO _);rw [h x U,<- q2];refine he.zero F I λi hi=>?_;rw [H i hi];split
 ·rfl
 ·rw [da R x i hi];by_cases Z : i<P.length
  ·have:=h3 i (by omega) Z;exact V.lead i x Z (by omega)
  ·exact Y.zero i x (by omega) hi U
theorem qi (F : bI O El) {R : Ll} {P : LI} (S : bs El m R) (Z : j5 R P m) {f : Nat->Int} (U : RS O El m R f) (h0 : ∀j,j<P.length->f (nth P j).toNat=0) : ∀x,x<m->f x=0:=λx X=>by obtain ⟨e,he,h⟩:=U;rw [h x X];refine Z.all F S X e he λy V=>?_;obtain ⟨j,Y,rfl⟩:=(fu P _ _).1 V;rw [<- h _ (by have:=Z.lt j Y;omega)];exact h0 j Y
theorem wa {P : LI} (ha : ∀i j,i<j->j<P.length->nth P i<nth P j) : P.Pairwise λx y=>x<y:=by rw [MC];intro i j hi Y Z;have:=ha i j Z Y;rwa [aj hi,aj Y] at this
theorem D8 {P Z : LI} (ha : ∀i j,i<j->j<P.length->nth P i<nth P j) (Y : ∀i j,i<j->j<Z.length->nth Z i<nth Z j) (h : ∀x,x ∈ P ↔ x ∈ Z) : P=Z:=by have h1:=wa ha;have h2:=wa Y;exact kK (h1.imp λh=>by omega) (h2.imp λh=>by omega) ((Mz (h1.imp λh=>by omega) (h2.imp λh=>by omega)).2 h)
theorem xD (F : bI O El) {R Z : Ll} {P Y : LI} (D : bs El m R) (E : bs El m Z) (N : j5 R P m) (X : j5 Z Y m) (I : mb R P) (V : mb Z Y) (hlen : R.length=P.length) (U : Z.length=Y.length)
  (h1 : eA O El m R Z) (h2 : eA O El m Z R) : R=Z:=by
 have key : ∀ {R Z : Ll} {P Y : LI},bs El m R->j5 R P m->mb R P->j5 Z Y m->mb Z Y->Z.length=Y.length->eA O El m Z R->∀x ∈ Y,x ∈ P:=λ{R Z P Y} D N I X V U h2 x K=>by obtain ⟨i,hi,rfl⟩:=List.mem_iff_getElem.1 K;have hb:=X.lt i hi;have h3:=GC F D N I (h2 i (by omega)) (x:=(nth Y i).toNat) (by omega) (λy hy=>V.lead i y hi hy) (by show nth (ai Z i) (nth Y i).toNat ≠ 0;rw [X.one i i hi (by omega),JT rfl];decide);rw [show (((nth Y i).toNat : Nat) : Int)=nth Y i by omega,aj hi] at h3;exact h3
 have z : P=Y:=D8 I.asc V.asc λx=>⟨key E X V N I hlen h1 x,key D N I X V U h2 x⟩
 subst z;refine KW (by omega) λi hi S=>?_;have C:=D _ (Kp hi);have Q:=E _ (Kp S);refine fZ (by rw [C.1,Q.1]) λx K=>?_;rw [C.1] at K;have hz:=qi F D N ((h2 i S).comb F (N8 F (m:=m) hi) F.one) (λj e=>by
  show O.add (nth (ai Z i) (nth P j).toNat) (O.neg (O.mul (nth (ai R i) (nth P j).toNat) 1))=0;rw [X.one j i e S,N.one j i e hi];split
  ·rw [F.gR F.one,F.add_neg _ F.one]
  ·rw [F.gR F.zero,F.add_neg _ F.zero]) x K
 have H : O.add (nth (ai Z i) x) (O.neg (O.mul (nth (ai R i) x) 1))=0:=hz;have e1 : El (nth R[i] x):=C.2 _ (aI (by rw [C.1];exact K));have r : El (nth Z[i] x):=Q.2 _ (aI (by rw [Q.1];exact K));rw [aE hi,aE S,F.gR e1] at H;have h4:=F.js r (F.cl.neg _ e1) H;have h5:=congrArg O.neg h4;rwa [F.neg_neg e1,F.neg_neg r] at h5
theorem gP (F : bI O El) (n k : Nat) : Vc El n (fV n k):=by
 refine ⟨tX n k,λx Z=>?_⟩;unfold fV at Z;rcases KX Z with Z | rfl
 ·rw [KJ Z];exact F.zero
 ·exact F.one
theorem tP {n k i : Nat} (Z : k<n) : nth (fV n k) i=if i=k then 1 else 0:=by
 unfold fV;rw [eh _ _ _ _ (by simpa using Z)];split
 ·rfl
 ·unfold nth;simp only [JS,Ke];split <;> rfl
def cutTo (O : aM) (n : Nat) (v : LI) : Nat->LI
 | 0=>v
 | k+1=>dL O (cutTo O n v k) (nth v k) (fV n k)
theorem wN (F : bI O El) {n : Nat} {V : LI->Int} (Z : ka O El n V) {v : LI} (X : Vc El n v) : ∀k,k<=n->Vc El n (cutTo O n v k)/\(∀i,i<n->nth (cutTo O n v k) i=if i<k then 0 else nth v i) /\
  O.add (V (cutTo O n v k)) (dotN O (λt=>V (fV n t)) (λt=>nth v t) k)=V v
 | 0,_=>⟨X,λi _=>by rw [JR (by omega)];rfl,by rw [dotN];exact F.add_zero _ (Z.el _ X)⟩
 | k+1,S=>by
  obtain ⟨h1,h2,h3⟩:=wN F Z X k (by omega);have hu:=gP F n k;have Y:=X.at (i:=k) (by omega);refine ⟨h1.sub F hu Y,λi hi=>?_,?_⟩
  ·rw [cutTo,eF O _ _ _ i (by rw [hu.1,h1.1]) (by rw [h1.1];exact hi),tP (by omega),h2 i hi];by_cases e : i=k
   ·subst e;rw [JT rfl,JR (by omega),F.gR Y,F.add_neg _ Y,JT (by omega)]
   ·rw [JR e,F.cQ Y,F.eY];by_cases U : i<k
    ·rw [JT U,JT (by omega),F.add_zero _ F.zero]
    ·rw [JR U,JR (by omega),F.add_zero _ (X.at hi)]
  ·have hm:=F.cl.mul _ _ Y (Z.el _ hu);have hd:=jT F (a:=λt=>V (fV n t)) (b:=λt=>nth v t) k (λp _=>Z.el _ (gP F n p)) (λp Q=>X.at (by omega));rw [cutTo,Z.sub _ _ _ h1 hu Y,dotN,F.mul_comm _ _ (Z.el _ hu) Y,F.Cy (Z.el _ h1) (F.cl.neg _ hm) hd hm,F.j6 hm,F.add_zero _ (F.cl.add _ _ (Z.el _ h1) hd),h3]
theorem iE (F : bI O El) {n : Nat} {Y : LI->Int} (Z : ka O El n Y) {v : LI} (X : Vc El n v) : Y v=dotN O (λt=>Y (fV n t)) (λt=>nth v t) n:=by obtain ⟨h1,h2,h3⟩:=wN F Z X n (JO _);rw [<- h3,Z.zero F h1 λi hi=>by rw [h2 i hi,JT hi],F.sl (jT F n (λp _=>Z.el _ (gP F n p)) (λp V=>X.at V))]
theorem pY (F : bI O El) {L : Ll} (Z : bs El m L) {x : LI} (X : ∀k,k<L.length->El (nth x k)) {y : Nat} (Y : y<m) : ∀k,k<=L.length->nth (cmbTo O m x L k) y=dotN O (λt=>nth x t) (λt=>nth (ai L t) y) k
 | 0,_=>by rw [cmbTo,dotN];unfold nth;simp only [JS,Ke];split <;> rfl
 | k+1,N=>by
  have V:=pY F Z X Y k (by omega);obtain ⟨h1,_⟩:=ju F Z X k (by omega);have U:=Z.row (i:=k) (by omega);have hd:=jT F (a:=λt=>nth x t) (b:=λt=>nth (ai L t) y) k (λp S=>X p (by omega)) (λp S=>N2 (Z.row (i:=p) (by omega)) Y);rw [cmbTo,dotN];split
  ·rename_i Q;rw [V,Q,F.iY (N2 U Y),F.add_zero _ hd]
  ·rw [fb O _ _ _ y (by rw [U.1,h1.1]) (by rw [h1.1];exact Y),V];split
   ·rename_i e1;show _=O.add _ (O.mul (nth x k) (nth (ai L k) y));rw [e1,F.cQ (X k (by omega)),F.add_zero _ hd]
   ·rfl
end
section
variable {P M : Int} {mod : LI} {m : Nat} {L : Ll}
end
theorem BY (P M : Int) (am : OA) (mn cm : Nat) (mod : LI) (n : Nat) (a : OA) (k c : Nat) (L : Ll) (W : World) (Bc l : Nat) (hE : aJ P M mod n L=0)
  (x0 : aO W Bc [.int .i64 P,.int .i64 M,.slice am mn cm,.int .i64 n,.slice a k c]) (H : Ints W am mn mod) (hi : bu W a k L)
  (J : List WX->World->Prop) (U : Nat->Prop) (hML : ∀x,U x->x<W.heap.size)
  (hmat : ∀V,(∀x,x<W.heap.size->¬ U x->V.heap[x]? = W.heap[x]?)->bu V a k L/\V.cell? ⟨Bc,4,none⟩=some (.slice a k c))
  (hJa : ∀pre V Z,J pre V->OC V Z->J pre Z)
  (hJb : ∀B pre V v,W.heap.size<=B->(∀x ∈ pre,ablk x.a ≠ B)->J pre V->J pre (V.setCell ⟨B,0,none⟩ v))
  (hY : ∀m pre x V,J pre V->pre.length<(ah P M.toNat mod).q ^ k->Ints V x.a n x.l->(∀j,U j->j ≠ ablk x.a)->I3 l n J U m pre x V)
  (hN : (ah P M.toNat mod).q ^ k<=1000000) (h0 : J [] W) :
  Calls prog 250 #[.func (.yield l) #[] #[],.pointer (some ⟨Bc,0,none⟩)] W λe V=>e = .returned (.tuple #[]) /\
   ∃xs : List WX,xs.map WX.l=wlkS (ah P M.toNat mod).ops (ah P M.toNat mod).q L (List.replicate n 0)/\J xs V/\aD W V U U:=by
 obtain ⟨N',em,hm1,hm64,F,hR⟩:=aY hE;obtain rfl : n=N':=by omega
 have hk256 : k<=256:=by rw [<- hi.len];exact (cZ hE).choose_spec.2.2.2.1
 have hfB:=(aN hE).1;have hLk : L.length=k:=hi.len;have HCk : Hid (∀V,OC W V->Calls prog 88 #[.agg #[.int .i64 P,.int .i64 M,.slice am mn cm,.int .i64 n,.slice a k c]] V λe w'=>e = .returned (.int .i64 0)/\OC V w'):=λV hV=>by have h:=df P M am mn cm mod n a k c L V (H.af hV) (hi.af hV);rw [hE] at h;exact h
 have HNw : Hid (∀V,OC W V->Calls prog 52 #[.agg #[.int .i64 P,.int .i64 M,.slice am mn cm]] V λe w'=>∃b,e = .returned (.tuple #[.pointer (some ⟨b,0,none⟩),.int .i64 0])/\xG V.heap.size w' b (ah P M.toNat mod)/\V.heap.size<=b/\OC V w'):=λV hV=>by
  refine (dB P M am mn cm mod V (H.af hV)).mono ?_;rintro e w' (⟨h1,_⟩ | ⟨_,h2⟩)
  ·rw [hfB] at h1;cases h1
  ·exact h2
 obtain ⟨G,hG⟩ : ∃G,ah P M.toNat mod=G:=⟨_,rfl⟩
 rw [hG] at HNw F hR hY hN ⊢;have HX:=Z5 x0;have HJa:=Z5 hJa;have HJb:=Z5 hJb;have HY:=Z5 hY;have Hmat:=Z5 hmat;have HML:=Z5 hML;have H0:=Z5 h0;have HR:=Z5 hR;have HN:=Z5 hN;have HLk:=Z5 hLk;clear hG hfB hE em H hi hJa hJb hY hmat hML h0 hR hN hLk;clear x0;go_enter func250,ntmps250;go_upto_region 1 with fail;obtain ⟨W1,hW1⟩ : ∃W1 : World,W1=W.alloc (.cells #[.func (.yield l) #[] #[]] 251):=⟨_,rfl⟩
 rw [<- hW1];have z : OC W W1:=by rw [hW1];exact an _ _
 have y1 : aO W1 W.heap.size [.func (.yield l) #[] #[]]:=by rw [hW1];exact NY _ _ _ rfl
 have Y1:=Z5 y1;have x1:=HX.out.af z;have c0:=x1.cell 0 rfl;have c1:=x1.cell 1 rfl;have c2:=x1.cell 2 rfl;have c3:=x1.cell 3 rfl;have c4:=x1.cell 4 rfl;clear hW1 y1 x1;go_wp2_with (go_at_call 88;refine (HCk.out _ z).mono ?_;rintro e w2 ⟨rfl,D⟩;have x2:=(HX.out.af z).af D;have d0:=x2.cell 0 rfl;have d1:=x2.cell 1 rfl;have d2:=x2.cell 2 rfl;have d3:=x2.cell 3 rfl;have d4:=x2.cell 4 rfl;clear x2);refine (HNw.out w2 (NX z D)).mono ?_;rintro e w3 ⟨b,rfl,hG3,hbb,hb3⟩;have HG3:=Z5 hG3;have Hbb:=Z5 hbb;clear hG3 hbb d0 d1 d2 d3 d4 c0 c1 c2 c3 c4;go_upto_region 5 with fail;obtain ⟨N,S⟩ : ∃N : World,N=(((w3.alloc (.cells #[.pointer (some ⟨b,0,none⟩)] 79)).alloc (.cells #[.int .i64 0] 3)).alloc (.cells #[.nilFunc] 251)):=⟨_,rfl⟩
 rw [<- S];have hb4 : OC w3 N:=by rw [S];exact j8 _ _ _ _
 have hs4 : N.heap.size=w3.heap.size+3:=by rw [S];simp
 have g4 : aO N w3.heap.size [.pointer (some ⟨b,0,none⟩)]:=by rw [S];exact ((NY _ _ _ rfl).alloc _).alloc _
 have a4 : aO N (w3.heap.size+1) [.int .i64 0]:=by rw [S];exact (NY _ _ _ (by simp)).alloc _
 have f4 : aO N (w3.heap.size+1+1) [.nilFunc]:=by rw [S];exact NY _ _ _ (by simp)
 clear S;have fc:=f4.cell 0 rfl;have ff:=f4.frozen 0;have G4:=Z5 g4;have A4:=Z5 a4;have F4:=Z5 f4;clear g4 a4 f4;have hst : ∀(fn : Fn) (x y : Array Value),(store (⟨w3.heap.size+1+1,0,none⟩ : Addr) (.func fn x y)).run prog N = .ok () (N.setCell ⟨w3.heap.size+1+1,0,none⟩ (.func fn x y)):=λfn x y=>by rw [run_store _ _ _ _ _ rfl,fc];simp [ff]
 go_upto_region 6 with fail;have F5e : ∃FV : Value,FV = .func (.func 251) #[] #[.pointer (some ⟨Bc,0,none⟩),.pointer (some ⟨w3.heap.size+1,0,none⟩),.pointer (some ⟨W.heap.size,0,none⟩),.pointer (some ⟨w3.heap.size,0,none⟩),.pointer (some ⟨w3.heap.size+1+1,0,none⟩)]:=⟨_,rfl⟩
 obtain ⟨Y,hW5⟩ : ∃Y : World,Y=N.setCell ⟨w3.heap.size+1+1,0,none⟩ (.func (.func 251) #[] #[.pointer (some ⟨Bc,0,none⟩),.pointer (some ⟨w3.heap.size+1,0,none⟩),.pointer (some ⟨W.heap.size,0,none⟩),.pointer (some ⟨w3.heap.size,0,none⟩),.pointer (some ⟨w3.heap.size+1+1,0,none⟩)]):=⟨_,rfl⟩
 rw [<- hW5];clear F5e;have E : Below (w3.heap.size+2) N Y:=by rw [hW5];exact (JP _ _).setCell (p:=⟨w3.heap.size+1+1,0,none⟩) (JO _) _
 have fc5 : Y.cell? ⟨w3.heap.size+1+1,0,none⟩=some (.func (.func 251) #[] #[.pointer (some ⟨Bc,0,none⟩),.pointer (some ⟨w3.heap.size+1,0,none⟩),.pointer (some ⟨W.heap.size,0,none⟩),.pointer (some ⟨w3.heap.size,0,none⟩),.pointer (some ⟨w3.heap.size+1+1,0,none⟩)]):=by rw [hW5];exact L7 _ _ _ (by rw [fc];rfl)
 have hs5 : Y.heap.size=w3.heap.size+3:=by rw [hW5,<- hs4];simp
 clear hW5 hst fc ff;have hb12:=NX z D;have hb13:=NX hb12 hb3;have hb35 : OC w3 Y:=hb4.trans (E.mono (by omega));have r : OC W Y:=NX hb13 hb35;have cN:=(HX.out.af r).cell 3 rfl;have gc5 : Y.cell? ⟨w3.heap.size,0,none⟩=some (.pointer (some ⟨b,0,none⟩)):=(E.cell (p:=⟨w3.heap.size,0,none⟩) (by show w3.heap.size<_;omega)).trans (G4.out.cell 0 rfl);have ac5 : xe Y (w3.heap.size+1) 0:=xe.of_block (V:=N) ⟨A4.out.cell 0 rfl,A4.out.frozen 0⟩ (E.block _ (by omega));have yc5 : Y.cell? ⟨W.heap.size,0,none⟩=some (.func (.yield l) #[] #[]):=((Y1.out.af D).af hb3 |>.af hb35).cell 0 rfl;have hsz1 : W.heap.size<W1.heap.size:=Y1.out.1;have hsz2:=D.size;have hsz3:=hb3.size;have Hc : Hid (∀V a1 c1,V.ownsRow Y.heap.size 3 1 (.slice a1 n c1) n ((List.replicate n (0 : Int)).map (Value.int .i64))->OC Y V ->
   Calls prog 251 #[.int .i64 0,.slice a1 n c1,.pointer (some ⟨Bc,0,none⟩),.pointer (some ⟨w3.heap.size+1,0,none⟩),.pointer (some ⟨W.heap.size,0,none⟩),.pointer (some ⟨w3.heap.size,0,none⟩),.pointer (some ⟨w3.heap.size+1+1,0,none⟩)] V
    λe Z=>e = .returned (.bool true)/\∃xs : List WX,xs.map WX.l=wlkS G.ops G.q L (List.replicate n 0)/\J xs Z/\aD W Z U U):=by
  intro V a1 c1 hown X;have K : OC W V:=NX r X;have Q : OC w3 V:=hb35.trans (X.mono (by omega));have hMo : ∀Z,aD V Z (λx=>U x\/x=w3.heap.size+1) (λx=>U x\/x=w3.heap.size+1)->∀x,x<W.heap.size->¬ U x->Z.heap[x]? = W.heap[x]?:=λZ hm x hx hn =>
   (hm.block x (by have:=K.size;omega) (λh=>h.elim hn (by omega))).trans (K.block x hx)
  obtain ⟨hia,_⟩:=NZ hown;have hres:=xS (W0:=V) (b:=b) (G:=G) (Bc:=Bc) (Bat:=w3.heap.size+1) (By:=W.heap.size) (Bg:=w3.heap.size) (Bf:=w3.heap.size+1+1) (l:=l) (ag:=a) (k:=k) (cg:=c) (n:=n) (L:=L)
   (I:=λx=>U x\/x=w3.heap.size+1) J U (λx h=>.inl h) (.inr rfl) (λh=>by have:=HML.out _ h;omega)
   (λx h=>by have:=K.size;have:=Q.size;have:=X.size;exact h.elim (λh=>by have:=HML.out _ h;omega) (λh=>by omega))
   (λZ hm=>by
    obtain ⟨hma,hgc⟩:=Hmat.out Z (hMo Z hm);have hnI : ∀x,W.heap.size<=x->x ≠ w3.heap.size+1->¬ (U x\/x=w3.heap.size+1):=λx h1 h2 h3=>h3.elim (λh=>by have:=HML.out _ h;omega) h2;refine ⟨hgc,hma,?_,?_,?_,?_,?_⟩
    ·exact hm.cell ((X.cell (p:=⟨W.heap.size,0,none⟩) (J2 _ _ yc5)).trans yc5) (hnI _ (JO _) (by show W.heap.size ≠ _;omega))
    ·exact hm.cell ((X.cell (p:=⟨w3.heap.size,0,none⟩) (J2 _ _ gc5)).trans gc5) (hnI _ (by show W.heap.size<=w3.heap.size;omega) (by show w3.heap.size ≠ _;omega))
    ·refine HG3.out Z λx h1 h2=>(hm.block x (by have:=Q.size;omega) (hnI x (by omega) (by omega))).trans (Q.block x h2)
    ·exact hm.cell ((X.cell (p:=⟨w3.heap.size+1+1,0,none⟩) (J2 _ _ fc5)).trans fc5) (hnI _ (by show W.heap.size<=w3.heap.size+1+1;omega) (by show w3.heap.size+1+1 ≠ _;omega))
    ·have:=hm.size;have:=Q.size;have:=X.size;omega)
   HJa.out (λpre Z v hp hj=>HJb.out _ pre Z v (by omega) hp hj) (G.q ^ k)
   (λm pre x Z _ hj hlt hix hI=>HY.out m pre x Z hj hlt hix λj hj'=>hI j (.inl hj'))
   HN.out (by omega) hm1 HR.out (by omega) F.cl k 0 (by omega)
   a1 c1 (List.replicate n 0) [] V (N9 _ _) (HJa.out _ _ _ H0.out K) (λx hx=>by simp at hx) (ac5.af X) hia
   (λj hj=>by
    have h2:=(ba hown (λe=>by have:=hia.pl (by omega);rw [e] at this;cases this)).1;rcases hj with h | h
    ·have:=HML.out _ h;have:=r.size;omega
    ·omega)
   (λx hx=>by rw [(List.mem_replicate.1 hx).2];exact F.zero) (by simp)
  refine hres.mono ?_;rintro e Z ⟨he,xs,h1,h2,_,_,h5⟩;refine ⟨he,xs,by rw [h1,Ls],by simpa using h2,?_⟩;have C : aD W Z (λx=>U x\/x=w3.heap.size+1) (λx=>U x\/x=w3.heap.size+1):=(N3 K _).trans h5;exact ⟨C.os,C.tape,C.output,C.size,λx hx hn=>C.block x hx λh=>h.elim hn (by omega),λx h=>.inl h⟩
 have hmk:=run_mk (P:=prog) 22 3 (.int .i64 0) 8 underlying22 aV rfl n (by omega) (by omega);have hoD : (Y.alloc (.cells (Array.replicate n (Value.int .i64 0)) 3)).drew.ownsRow Y.heap.size 3 1 (.slice (some ⟨Y.heap.size,0,none⟩) n n) n (List.replicate n (Value.int .i64 0)):=lA Y.drew 3 (.int .i64 0) n rfl (JO _) (by unfold maxLen;omega);rw [<- Lr (f:=Value.int .i64)] at hoD;have HC:=Z5 (Hc.out _ _ _ hoD ((JP _ _).alloc (JO _) _).drew);have fc6:=(((JP Y.heap.size Y).alloc (JO _) (.cells (Array.replicate n (Value.int .i64 0)) 3)).cell (p:=⟨w3.heap.size+1+1,0,none⟩) (J2 _ _ fc5)).trans fc5;clear hoD gc5 yc5 ac5 hs5 hs4;go_region_law ((first
  | (go_simp;go_at_call 251;((with_reducible refine HC.out.mono ?_);rintro e V ⟨rfl,xs,hx,hJx,hmx⟩))))
 all_goals go_wp2_with fail
 all_goals go_end0
 all_goals exact ⟨rfl,xs,hx,hJx,hmx⟩
section
variable {O : aM} {El : Int->Prop} {m : Nat} {L : Ll}
theorem ga {R : Ll} {r : LI} (h : r ∈ R) : ∃j,j<R.length/\ai R j=r:=by obtain ⟨j,Z,e⟩:=List.mem_iff_getElem.1 h;exact ⟨j,Z,by rw [aE Z];exact e⟩
theorem RS.el (F : bI O El) (Z : bs El m L) {f : Nat->Int} (h : RS O El m L f) {x : Nat} (Y : x<m) : El (f x):=by obtain ⟨e,he,h2⟩:=h;rw [h2 x Y];exact he.el _ (cO Z F.zero x)
structure JN (O : aM) (El : Int->Prop) (m : Nat) (L R : Ll) (Z : LI) : Prop where
 rws : bs El m R
 sub : eA O El m R L
 zero : ∀r ∈ R,∀z ∈ Z,nth r z.toNat=0
 all : ∀f,RS O El m L f->(∀z ∈ Z,f z.toNat=0)->RS O El m R f
 cnt : R.length+mh O L Z=L.length
end
section
structure RX where
 a : OA
 c : Nat
 l : LI
structure gk (A : Nat->Prop) (w : World) (a : OA) (n : Nat) (L : Ll) : Prop where
 len : L.length=n
 pl : Pl a n
 max : n<=maxLen
 no : 0<n->¬ A (ablk a)
 cell : ∀i,i<n->∃b m c,w.cell? ⟨ablk a,aL a+i,none⟩=some (.slice b m c)/\Ints w b m (ai L i)/\(0<m->¬ A (ablk b))
theorem gk.je {A : Nat->Prop} {w : World} {a : OA} {n : Nat} {L : Ll} (h : gk A w a n L) : bu w a n L :=
 ⟨h.len,h.pl,h.max,λi hi=>by obtain ⟨b,m,c,h1,h2,_⟩:=h.cell i hi;exact ⟨b,m,c,h1,h2⟩⟩
theorem gk.dQ {A Y : Nat->Prop} {w w' : World} {a : OA} {n : Nat} {L : Ll} (h : gk A w a n L) (Z : aD w w' A Y) : gk A w' a n L :=
 ⟨h.len,h.pl,h.max,h.no,λi hi=>by obtain ⟨b,m,c,h1,h2,h3⟩:=h.cell i hi;exact ⟨b,m,c,Z.cell h1 (h.no (by omega)),h2.dQ Z h3,h3⟩⟩
theorem gk.af {A : Nat->Prop} {w w' : World} {a : OA} {n : Nat} {L : Ll} (h : gk A w a n L) (hb : OC w w') : gk A w' a n L:=h.dQ (N3 hb A)
theorem gk.Du {A : Nat->Prop} {w : World} {a : OA} {n : Nat} {L : Ll} (h : bu w a n L) (Y : ∀b,A b->w.heap.size<=b) : gk A w a n L :=
 ⟨h.len,h.pl,h.max,λX Z=>by have:=Y _ Z;have:=h.lt X;omega,λi hi=>by obtain ⟨b,m,c,h1,h2⟩:=h.cell i hi;exact ⟨b,m,c,h1,h2,λhm Z=>by have:=Y _ Z;have:=h2.lt hm;omega⟩⟩
variable {w : World} {b : Nat} {G : cX}
end
theorem gk.cells {I : Nat->Prop} {w : World} {a : OA} {n : Nat} {L : Ll} (h : gk I w a n L) : ∃l : List Value,l.length=n/\(∀j,j<n->w.cell? ⟨ablk a,aL a+j,none⟩=l[j]?)/\(∀u ∈ l,u.oneCell'=true) /\
  ∀j,j<n->∃b m c,l[j]? = some (.slice b m c)/\Ints w b m (ai L j)/\(0<m->¬ I (ablk b)):=by
 have key : ∀k,k<=n->∃l : List Value,l.length=k/\(∀j,j<k->w.cell? ⟨ablk a,aL a+j,none⟩=l[j]?)/\(∀u ∈ l,u.oneCell'=true)/\∀j,j<k->∃b m c,l[j]? = some (.slice b m c)/\Ints w b m (ai L j)/\(0<m->¬ I (ablk b)):=λk U=>by
  induction k with
  | zero=>exact ⟨[],rfl,λj Z=>by omega,λu hu=>by simp at hu,λj Z=>by omega⟩
  | succ k V =>
   obtain ⟨l,h1,h2,h3,X⟩:=V (by omega)
   obtain ⟨b,m,c,Y,hi⟩:=h.cell k (by omega)
   refine ⟨l ++ [.slice b m c],by simp [h1],λj Z=>?_,λu hu=>?_,λj Z=>?_⟩
   ·by_cases e : j=k
    ·subst e;rw [Y,<- h1,Mx]
    ·rw [J8 (by omega)];exact h2 j (by omega)
   ·rcases List.mem_append.1 hu with hu | hu
    ·exact h3 u hu
    ·rw [List.mem_singleton.1 hu];rfl
   ·by_cases e : j=k
    ·subst e;exact ⟨b,m,c,by rw [<- h1,Mx],hi⟩
    ·rw [J8 (by omega)];exact X j (by omega)
 exact key n (JO _)
theorem sG {P : Program} {w : World} {ops : Array Oper} {rest : List Oper} {o : Oper} {ac : Act} {Q : Exit->Act->World->Prop}
  (hg : o.guard=none) (s x : Operand) (t e : TypeId) (N : o.op = .call { callee:=.builtin .append,args:=#[s,x],argTypes:=#[t,t] }) (bytes : Nat)
  (h1 : P.underlying t=some (.slice e)) (h2 : (P.info? e).map (λi=>(i.zero,i.size,i.bytes))=some (some (.slice none 0 0),1,bytes))
  (I : Nat->Prop) (hI : ∀b,I b->b<w.heap.size) (a : OA) (k : Nat) (A : Ll) (hs : ac.eval s = .slice a k k) (V : gk I w a k A)
  (a2 : OA) (n c : Nat) (L : Ll) (hx : ac.eval x = .slice a2 n c) (F : gk I w a2 n L) (b2 : (k+n) * bytes<=140737488355328) (b3 : k+n<=maxLen)
  (hK : ∀a' c' w',gk I w' a' (k+n) (A ++ L)->OC w w'->wpList P ops Q rest (ac.put o.dst (.slice a' (k+n) c')) w') :
  wpList P ops Q (o :: rest) ac w:=by
 obtain ⟨i,hi,z,hz1,hz2⟩:=info_parts h2;by_cases hn : n=0
 ·subst hn;obtain rfl : L=[]:=Kd F.len;refine wpList_plain hg λK hK'=>?_;unfold Oper.wp execOp;simp only [N,resolve,invoke,builtin,NB,NC,ME,MN,MI,ND,hs,hx,kp (P:=P) w t o.type e i h1 hi a a2 k k c (JO _)];exact hK' _ _ (hK a k w (by rw [K7];exact V) (JP _ _))
 ·obtain ⟨H,o1,o2,o3,o4⟩:=V.cells;obtain ⟨news,n1,n2,n3,n4⟩:=F.cells;have U:=F.pl (by omega);have S : ∀ {l : List Value} {j : Nat} {u : Value},l[j]? = some u->j<l.length:=λh=>(List.getElem?_eq_some_iff.1 h).1;refine wpList_append_grows (P:=P) w hg s x t N e i (.slice none 0 0) 1 bytes h1 hi z hz1 hz2 rfl (by decide) a k k H hs (λh0=>?_) (by omega) (λb hb j u X=>?_) ⟨ablk a2,aL a2,none⟩ n c news (by rw [hx,<- U]) (by omega) (λj u X=>?_) n3 (by omega) b3 b2 λv' w' Y Z=>?_
  ·rcases Lq k with h | h
   ·exact ⟨h,h⟩
   ·have:=V.pl h;rw [h0] at this;cases this
  ·have D:=S X;have hp:=V.pl (by omega);subst hb;injection hp with U
   rw [U,NA,o2 j (by omega)];exact X
  ·have D:=S X;rw [NA,n2 j (by omega)];exact X
  ·obtain ⟨a',c',rfl,hpl⟩:=Od Y;have hb : OC w w':=⟨Z.os,Z.tape,Z.output,Z.size,λj X=>Z.block j X (by simp)⟩
   refine hK a' c' w' ⟨by rw [J0,V.len,F.len],hpl,b3,λh0 E=>?_,λj X=>?_⟩ hb
   ·have h3:=hI _ E;have h4:=(dT Y h0).1;omega
   have E:=(bK Y j X).1;by_cases h : j<k
   ·obtain ⟨b,m,c2,e1,C,r⟩:=o4 j h;refine ⟨b,m,c2,?_,?_,r⟩
    ·rw [E,J8 (by omega),e1]
    ·rw [show ai (A ++ L) j=ai A j by simp only [ai,JS];rw [J8 (by rw [V.len];exact h)]];exact C.af hb
   ·obtain ⟨b,m,c2,e1,C,r⟩:=n4 (j - k) (by omega);refine ⟨b,m,c2,?_,?_,r⟩
    ·rw [E,KO (by omega),o1,e1]
    ·rw [show ai (A ++ L) j=ai L (j - k) by simp only [ai,JS];rw [KO (by rw [V.len];omega),V.len]];exact C.af hb
theorem aD.qI (w : World) {I : Nat->Prop} {p : Addr} (Y : I p.block) (v : Value) : aD w (w.setCell p v) I I:=by have Z : Below 0 w (w.setCell p v):=(JP 0 w).setCell (JU _) v;exact ⟨Z.os,Z.tape,Z.output,Z.size,λb hb hI=>J6 _ _ _ _ λe=>hI (e ▸ Y),λb hb=>.inl hb⟩
theorem b8.H7 {A : Nat->Prop} {B : Nat} {w : World} {a : OA} {n : Nat} {L : Ll} (h : b8 B w a n L) (Y : ∀b,A b->b<B) : gk A w a n L :=
 ⟨h.len,h.pl,h.max,λX Z=>MJ _ (Kl (Y _ Z) (h.lo X)),λi hi=>by obtain ⟨b,m,c,h1,h2⟩:=h.cell i hi;exact ⟨b,m,c,h1,h2.ints,λhm Z=>MJ _ (Kl (Y _ Z) (h2.lo hm))⟩⟩
theorem b8.Jw {B g : Nat} {w : World} {a : OA} {n : Nat} {L : Ll} (h : b8 B w a n L) (Z : g<B) (x y : Value) : gk (λb=>b=g) ((w.setCell ⟨g,0,none⟩ x).setCell ⟨g,1,none⟩ y) a n L :=
 ((h.H7 (A:=λb=>b=g) (λb hb=>by rw [show b=g from hb];exact Z)).dQ (aD.qI w (I:=λb=>b=g) (p:=⟨g,0,none⟩) rfl x)).dQ (aD.qI _ (I:=λb=>b=g) (p:=⟨g,1,none⟩) rfl y)
theorem Ints.mB {w : World} {a : OA} {n : Nat} {l : LI} (h : Ints w a n l) {p : Addr} {b : OA} {m c : Nat} (Y : w.cell? p=some (.slice b m c)) (v : Value) : Ints (w.setCell p v) a n l :=
 ⟨h.len,h.pl,h.max,λi hi=>by have Z:=h.cell i hi;rw [J7 _ _ _ _ (λe=>by rw [e,Z] at Y;cases Y)];exact Z⟩
theorem bu.mB {w : World} {a : OA} {n : Nat} {L : Ll} (h : bu w a n L) {p : Addr} {b : OA} {m c : Nat} (Y : w.cell? p=some (.slice b m c)) (hne : 0<n->p.block ≠ ablk a) (v : Value) : bu (w.setCell p v) a n L :=
 ⟨h.len,h.pl,h.max,λi hi=>by obtain ⟨b',Z,X,h1,h2⟩:=h.cell i hi;exact ⟨b',Z,X,by rw [J7 _ _ _ _ (λe=>hne (by omega) (by rw [e]))];exact h1,h2.mB Y v⟩⟩
theorem aO.Jr {w : World} {b : Nat} {cs : List Value} (h : aO w b cs) {g : Nat} (hb : g ≠ b) (i : Nat) (v : Value) : aO (w.setCell ⟨g,i,none⟩ v) b cs:=by
 refine ⟨by rw [Ns];exact h.1,λj x Z=>?_,λj=>?_⟩
 ·rw [J7 _ _ _ _ (by intro e;injection e with e1 _ _;exact hb e1)];exact h.2.1 j x Z
 ·rw [KK];exact h.2.2 j
section
variable {O : aM} {El : Int->Prop} {m : Nat} {A B L : Ll}
theorem E0 (F : bI O El) (K : bs El m A) {X : Nat->Nat} (V : ∀j,j<A.length->X j<m) (h1 : ∀i j,i<A.length->j<A.length->nth (ai A i) (X j)=if i=j then 1 else 0) {f : Nat->Int} (N : ∀x,x<m->El (f x)) :
  ∀k,k<=A.length->∃g,RS O El m A g/\∀j,j<k->g (X j)=f (X j)
 | 0,_=>⟨λ_=>0,Oz F λ_ _=>rfl,λj I=>by omega⟩
 | k+1,E=>by
  obtain ⟨g,Q,h2⟩:=E0 F K V h1 N k (by omega);have U:=λx (H : x<m)=>RS.el F K Q H;have Y:=U _ (V k (by omega));have Z:=N _ (V k (by omega));have S : El (O.add (g (X k)) (O.neg (f (X k)))):=F.cl.add _ _ Y (F.cl.neg _ Z);refine ⟨_,Q.comb F (N8 F (show k<A.length by omega)) S,λj I=>?_⟩;show O.add (g (X j)) (O.neg (O.mul (nth (ai A k) (X j)) (O.add (g (X k)) (O.neg (f (X k))))))=_;rw [h1 k j (by omega) (by omega)];by_cases e : k=j
  ·subst e;rw [JT rfl,F.one_mul _ S,F.neg_add Y (F.cl.neg _ Z),F.neg_neg Z,<- F.add_assoc _ _ _ Y (F.cl.neg _ Y) Z,F.add_neg _ Y,F.sl Z]
  ·rw [JR e,F.iY S,F.eY,F.add_zero _ (U _ (V j (by omega)))];exact h2 j (by omega)
theorem tF (F : bI O El) {a b c : Nat->Int} : ∀t,(∀p,p<t->El (a p))->(∀p,p<t->El (b p))->(∀p,p<t->El (c p))->dotN O (λp=>O.add (a p) (O.neg (b p))) c t=O.add (dotN O a c t) (O.neg (dotN O b c t))
 | 0,_,_,_=>by show (0 : Int)=O.add 0 (O.neg 0);rw [F.eY,F.add_zero _ F.zero]
 | t+1,ha,hb,Y=>by have V:=tF F t (λp Z=>ha p (by omega)) (λp Z=>hb p (by omega)) (λp Z=>Y p (by omega));have h1:=ha t (by omega);have h2:=hb t (by omega);have h3:=Y t (by omega);have d1:=jT F t (λp Z=>ha p (by omega)) (λp Z=>Y p (by omega));have d2:=jT F t (λp Z=>hb p (by omega)) (λp Z=>Y p (by omega));have m1:=F.cl.mul _ _ h1 h3;have X:=F.cl.mul _ _ h2 h3;show O.add (dotN O (λp=>O.add (a p) (O.neg (b p))) c t) (O.mul (O.add (a t) (O.neg (b t))) (c t))=O.add (O.add (dotN O a c t) (O.mul (a t) (c t))) (O.neg (O.add (dotN O b c t) (O.mul (b t) (c t))));rw [V,F.mul_comm _ _ (F.cl.add _ _ h1 (F.cl.neg _ h2)) h3,F.mul_add _ _ _ h3 h1 (F.cl.neg _ h2),F.mul_neg h3 h2,F.mul_comm _ _ h3 h1,F.mul_comm _ _ h3 h2,F.neg_add d2 X,F.Cy d1 (F.cl.neg _ d2) m1 (F.cl.neg _ X)]
theorem RS.dot (F : bI O El) (Y : bs El m A) (V : bs El m B) (U : nO O m A B) {f : Nat->Int} (S : RS O El m A f) {i : Nat} (hi : i<B.length) : dotN O f (λp=>nth (ai B i) p) m=0:=by obtain ⟨e,he,h2⟩:=S;have hb : ∀p,p<m->El (nth (ai B i) p):=λp Z=>N2 (V.row hi) Z;rw [eD (a':=λp=>e (aX A p)) (b':=λp=>nth (ai B i) p) m λp Z=>⟨h2 p Z,rfl⟩];rw [fT F m (λp _=>he.el _ (cO Y F.zero p)) hb];refine jx F Y he hb λj X=>?_;rw [fT F m hb λp Z=>N2 (Y.row X) Z];exact U j i X hi
theorem qq (F : bI O El) (r : bs El m A) (hB : bs El m B) {E Y : Nat->Nat} (I : ∀j,j<A.length->E j<m) (h1 : ∀i j,i<A.length->j<A.length->nth (ai A i) (E j)=if i=j then 1 else 0)
  (C : ∀i,i<B.length->Y i<m) (h2 : ∀i j,i<B.length->j<B.length->nth (ai B i) (Y j)=if i=j then 1 else 0)
  (V : ∀x,x<m->(∃j,j<A.length/\E j=x)\/∃i,i<B.length/\Y i=x) (ho : nO O m A B) {f : Nat->Int} (U : ∀x,x<m->El (f x)) (D : ∀i,i<B.length->dotN O f (λp=>nth (ai B i) p) m=0) : RS O El m A f:=by
 obtain ⟨g,H,K⟩:=E0 F r I h1 U A.length (JO _);have Z:=λx (z : x<m)=>RS.el F r H z;refine H.congr λx z=>?_;rcases V x z with ⟨j,N,rfl⟩ | ⟨i,hi,rfl⟩
 ·exact (K j N).symm
 ·have hb : ∀p,p<m->El (nth (ai B i) p):=λp S=>N2 (hB.row hi) S;have hd:=tF F m U Z hb;rw [D i hi,RS.dot F r hB ho H hi,F.eY,F.add_zero _ F.zero] at hd;have X:=C i hi;have Q : El (O.add (f (Y i)) (O.neg (g (Y i)))):=F.cl.add _ _ (U _ X) (F.cl.neg _ (Z _ X));have h3:=kB F (a:=λp=>O.add (f p) (O.neg (g p))) (b:=λp=>nth (ai B i) p) (x:=Y i) (F.cl.mul _ _ Q (hb _ X)) m λp S hne=>?_
  ·rw [hd,JT X] at h3;have h4 : O.mul (O.add (f (Y i)) (O.neg (g (Y i)))) (nth (ai B i) (Y i))=0:=h3.symm;rw [h2 i i hi hi,JT rfl,F.gR Q] at h4;have h5:=F.js (U _ X) (F.cl.neg _ (Z _ X)) h4;rw [<- F.neg_neg (U _ X),<- h5,F.neg_neg (Z _ X)]
  ·show O.mul (O.add (f p) (O.neg (g p))) (nth (ai B i) p)=0;rcases V p S with ⟨j,N,rfl⟩ | ⟨j,N,rfl⟩
   ·rw [K j N,F.add_neg _ (U _ S),F.iY (hb _ S)]
   ·rw [h2 i j hi N,JR (λe=>hne (by rw [e])),F.cQ (F.cl.add _ _ (U _ S) (F.cl.neg _ (Z _ S)))]
theorem va (P : LI) : ∀k i j,i<j->j<(eG P k).length->(eG P k).getD i 0<(eG P k).getD j 0
 | 0,i,j,_,h=>by simp [eG] at h
 | k+1,i,j,X,h=>by
  have V:=va P k i j X;rw [eG] at h ⊢;split at h
  ·rename_i Y;rw [JT Y];exact V h
  ·rename_i Y;rw [JR Y];rw [J0,Ka] at h;have e1 : (eG P k ++ [k]).getD i 0=(eG P k).getD i 0:=by simp only [JS];rw [J8 (by omega)]
   rw [e1];by_cases e : j<(eG P k).length
   ·have Z : (eG P k ++ [k]).getD j 0=(eG P k).getD j 0:=by simp only [JS];rw [J8 e]
    rw [Z];exact V e
   ·have Z : (eG P k ++ [k]).getD j 0=k:=by
     have U : j=(eG P k).length:=by omega
     simp only [JS];rw [KO (by omega)];simp [U]
    rw [Z];exact (kY (k:=k) (j:=i) (by omega)).1
theorem yo (F : bI O El) {R : Ll} {P : LI} (Q : bs El m R) (X : j5 R P m) (hl : mb R P) (hlen : R.length=P.length) {f : Nat->Int} (E : ∀x,x<m->El (f x)) :
  ((∀i,i<R.length->dotN O f (λp=>nth (ai R i) p) m=0)->RS O El m (dc O m R P m) f)/\((∀i,i<(dc O m R P m).length->dotN O f (λp=>nth (ai (dc O m R P m) i) p) m=0)->RS O El m R f):=by
 have K:=fI F Q X hlen;have D:=nT F Q X hl hlen;have U:=fK O m R P m;have V : ∀j,j<R.length->(nth P j).toNat<m:=λj Z=>by have:=X.lt j (by omega);omega
 have h1 : ∀i j,i<R.length->j<R.length->nth (ai R i) (nth P j).toNat=if i=j then 1 else 0:=λi j hi Z=>X.one j i (by omega) hi
 have S : ∀i,i<(dc O m R P m).length->(eG P m).getD i 0<m:=λi hi=>(kY (by omega)).1;have h2 : ∀i j,i<(dc O m R P m).length->j<(dc O m R P m).length->nth (ai (dc O m R P m) i) ((eG P m).getD j 0)=if i=j then 1 else 0:=λi j hi Z=>by
  rw [U] at hi Z;obtain ⟨a1,a2⟩:=kY (P:=P) hi;obtain ⟨r,b2⟩:=kY (P:=P) Z;rw [ji O m R P m hi];by_cases e : i=j
  ·subst e;rw [JT rfl];exact iO X a1 a2 _ (JO _)
  ·rw [JR e];refine jg X r (λz=>?_) _ (JO _) λq C z=>?_
   ·rcases Nat.lt_or_gt_of_ne e with h | h
    ·have:=va P m i j h Z;omega
    ·have:=va P m j i h hi;omega
   ·apply b2;have N:=X.lt q C;rw [<- z,KY N.1];exact aI C
 have Y : ∀x,x<m->(∃j,j<R.length/\(nth P j).toNat=x)\/∃i,i<(dc O m R P m).length/\(eG P m).getD i 0=x:=λx I=>by
  by_cases H : (x : Int) ∈ P
  ·obtain ⟨j,Z,e⟩:=List.mem_iff_getElem.1 H;exact .inl ⟨j,by omega,by rw [aj Z,e];simp⟩
  ·obtain ⟨j,Z,e⟩:=List.mem_iff_getElem.1 ((i7 (P:=P) m).2 ⟨I,H⟩);exact .inr ⟨j,by rw [U];exact Z,by rw [JS,Km Z];exact e⟩
 exact ⟨qq F K Q S h2 V h1 (λx I=>(Y x I).symm) (nO.symm F Q K D) E,qq F Q K V h1 S h2 Y D E⟩
def gw (O : aM) (m : Nat) (L : Ll) : Ll:=bH O m (dc O m (bH O m L) (aC O L m).2 m)
theorem lz (F : bI O El) (Z : bs El m L) : bs El m (gw O m L):=bQ F (fI F (bQ F Z) (bS F Z).1 (bY F Z))
theorem l7 (F : bI O El) (X : bs El m A) {f : Nat->Int} (Y : ∀x,x<m->El (f x)) (h : ∀i,i<A.length->dotN O f (λp=>nth (ai A i) p) m=0) {g : Nat->Int} (Z : RS O El m A g) : dotN O f g m=0:=by obtain ⟨e,he,h2⟩:=Z;rw [eD (a':=f) (b':=λp=>e (aX A p)) m λp V=>⟨rfl,h2 p V⟩];exact jx F X he Y h
theorem pT (F : bI O El) (Y : bs El m L) {f : Nat->Int} (X : ∀x,x<m->El (f x)) : RS O El m (gw O m L) f ↔ ∀i,i<L.length->dotN O f (λp=>nth (ai L i) p) m=0:=by
 obtain ⟨U,S⟩:=bS F Y;have hlen:=bY F Y;have Z:=bQ F Y;have V:=fI F Z U hlen;obtain ⟨s1,s2⟩:=dG F V;obtain ⟨t1,t2⟩:=dG F Y;have Q:=nO.symm F Z V (nT F Z U S hlen);constructor
 ·intro h i hi;exact l7 F Z X (λj N=>RS.dot F V Z Q (s1.rs h) N) (t2 i hi)
 ·intro h;refine s2.rs ((yo F Z U S hlen X).1 λi hi=>?_);exact l7 F Y X h (t1 i hi)
theorem AQ (F : bI O El) (Z : bs El m L) {f : Nat->Int} (X : ∀x,x<m->El (f x)) : (∀i,i<(gw O m L).length->dotN O f (λp=>nth (ai (gw O m L) i) p) m=0) ↔ RS O El m L f:=by
 obtain ⟨V,Q⟩:=bS F Z;have hlen:=bY F Z;have S:=bQ F Z;have N:=fI F S V hlen;obtain ⟨s1,s2⟩:=dG F N;obtain ⟨t1,t2⟩:=dG F Z;have U:=lz F Z;constructor
 ·intro h;exact t1.rs ((yo F S V Q hlen X).2 λi hi=>l7 F U X h (s2 i hi))
 ·intro h i hi;have Y : ∀p,p<m->El (nth (ai (gw O m L) i) p):=λp K=>N2 (U.row hi) K;rw [fT F m X Y];exact l7 F Z Y ((pT F Z Y).1 (N8 F hi)) h
def bM (m : Nat) (z : Int) : LI:=(List.replicate m 0).set z.toNat 1
def A1 (O : aM) (m : Nat) (L : Ll) (Z : LI) : Ll:=gw O m (gw O m L ++ Z.map (bM m))
theorem kD (F : bI O El) (m : Nat) (z : Int) : Vc El m (bM m z):=⟨by simp [bM],λy Z=>by
 rcases KX Z with h | rfl
 ·rw [KJ h];exact F.zero
 ·exact F.one⟩
theorem oK {m : Nat} {z : Int} (Z : z.toNat<m) (i : Nat) : nth (bM m z) i=if i=z.toNat then 1 else 0:=by
 unfold bM;rw [eh _ _ _ _ (by simpa using Z)];split
 ·rfl
 ·simp [nth,JS,Ke];split <;> rfl
theorem mP (F : bI O El) {f : Nat->Int} (Y : ∀x,x<m->El (f x)) {z : Int} (Z : z.toNat<m) : dotN O f (λp=>nth (bM m z) p) m=f z.toNat:=by
 have h1:=kB F (a:=f) (b:=λp=>nth (bM m z) p) (x:=z.toNat) (by show El (O.mul (f z.toNat) (nth (bM m z) z.toNat));rw [oK Z,JT rfl,F.gR (Y _ Z)];exact Y _ Z) m λp X hne=>by show O.mul (f p) (nth (bM m z) p)=0;rw [oK Z,JR hne,F.cQ (Y p X)]
 rw [h1,JT Z];show O.mul (f z.toNat) (nth (bM m z) z.toNat)=_;rw [oK Z,JT rfl,F.gR (Y _ Z)]
def JH (m : Nat) (Z : LI) : Prop:=∀z ∈ Z,0<=z/\z<(m : Int)
theorem En (F : bI O El) (U : bs El m L) {Z : LI} (N : JH m Z) {f : Nat->Int} (X : ∀x,x<m->El (f x)) : RS O El m (A1 O m L Z) f ↔ RS O El m L f/\∀z ∈ Z,f z.toNat=0:=by
 have K:=lz F U;have I : bs El m (gw O m L ++ Z.map (bM m)):=λr V=>by
  rcases List.mem_append.1 V with h | h
  ·exact K r h
  ·obtain ⟨z,_,rfl⟩:=List.mem_map.1 h;exact kD F m z
 have key : RS O El m (A1 O m L Z) f ↔ ∀r ∈ gw O m L ++ Z.map (bM m),dotN O f (λp=>nth r p) m=0:=by refine (pT F I X).trans ⟨λh r V=>?_,λh i hi=>h _ (fp hi)⟩;obtain ⟨j,Q,rfl⟩:=ga V;exact h j Q
 rw [key];constructor
 ·intro h;refine ⟨(AQ F U X).1 λi hi=>h _ (List.mem_append.2 (.inl (fp hi))),λz Y=>?_⟩;have S:=N z Y;rw [<- mP F X (z:=z) (by omega)];exact h _ (List.mem_append.2 (.inr (List.mem_map.2 ⟨z,Y,rfl⟩)))
 ·rintro ⟨h1,h2⟩ r V;rcases List.mem_append.1 V with h | h
  ·obtain ⟨j,Q,rfl⟩:=ga h;exact (AQ F U X).2 h1 j Q
  ·obtain ⟨z,Y,rfl⟩:=List.mem_map.1 h;have S:=N z Y;rw [mP F X (by omega)];exact h2 z Y
theorem RS.Jy (F : bI O El) (U : bs El m L) {f : Nat->Int} (h : RS O El m L f) : ∃v,Vc El L.length v/\∀x,x<m->f x=nth (cmbTo O m v L L.length) x:=by
 obtain ⟨e,he,h2⟩:=h;obtain ⟨c,S⟩ : ∃c,((List.range L.length).map λt=>e (fV L.length t))=c:=⟨_,rfl⟩
 have X : c.length=L.length:=by rw [<- S];simp
 have Y : ∀t,t<L.length->nth c t=e (fV L.length t):=λt V=>by rw [<- S,dN _ _ _ V]
 have Z : Vc El L.length c:=⟨X,λy I=>by obtain ⟨t,V,rfl⟩:=List.mem_iff_getElem.1 I;rw [<- aj V,Y t (by omega)];exact he.el _ (gP F _ _)⟩
 refine ⟨c,Z,λx N=>?_⟩;rw [h2 x N,iE F he (cO U F.zero x),pY F U (λk K=>Z.at K) N _ (JO _)];exact eD _ λp Q=>⟨(Y p Q).symm,da _ _ _ Q⟩
theorem GU {l : LN} {x : Nat} (V : ∀y ∈ l,y<m) (U : x<m) : ku O El A.length (aX A) l x ↔ ∀f,RS O El m A f->(∀y ∈ l,f y=0)->f x=0:=by
 constructor
 ·rintro h f ⟨e,he,h2⟩ h0;rw [h2 x U];exact h e he λy Y=>by rw [<- h2 y (V y Y)];exact h0 y Y
 ·intro h X Z h0;exact h (λx=>X (aX A x)) ⟨X,Z,λ_ _=>rfl⟩ h0
end
theorem xa (P M : Int) (am : OA) (S cm : Nat) (mod : LI) (n : Nat) (a : OA) (k c : Nat) (L : Ll) (w : World) (C : aJ P M mod n L=0) (Z : Ints w am S mod) (hi : bu w a k L) :
  Calls prog 210 #[.agg #[.int .i64 P,.int .i64 M,.slice am S cm,.int .i64 n,.slice a k c]] w λe w' =>
   e = .returned (.tuple #[.int .i64 (wL (ah P M.toNat mod).q k),.int .i64 (oa (ah P M.toNat mod).q k)])/\OC w w':=by
 have r : k<=256:=by rw [<- hi.len];exact (cZ C).choose_spec.2.2.2.1
 have E:=(aN C).1;have HCk : Hid (∀V,OC w V->Calls prog 88 #[.agg #[.int .i64 P,.int .i64 M,.slice am S cm,.int .i64 n,.slice a k c]] V λe w'=>e = .returned (.int .i64 0)/\OC V w'):=λV Q=>by have h:=df P M am S cm mod n a k c L V (Z.af Q) (hi.af Q);rw [C] at h;exact h
 have H : Hid (∀V,OC w V->Calls prog 52 #[.agg #[.int .i64 P,.int .i64 M,.slice am S cm]] V λe w'=>∃b,e = .returned (.tuple #[.pointer (some ⟨b,0,none⟩),.int .i64 0])/\ee w' b (ah P M.toNat mod)/\OC V w'):=λV Q=>by
  refine (dB P M am S cm mod V (Z.af Q)).mono ?_;rintro e w' (⟨h1,_⟩ | ⟨_,b,h2,h3,_,h4⟩)
  ·rw [E] at h1;cases h1
  ·exact ⟨b,h2,h3.gf,h4⟩
 obtain ⟨G,hG⟩ : ∃G,ah P M.toNat mod=G:=⟨_,rfl⟩
 rw [hG] at H ⊢;clear hG E C Z hi;go_enter func210,ntmps210;go_upto_region 1 with fail;obtain ⟨W,D⟩ : ∃W : World,W=w.alloc (.cells #[.int .i64 P,.int .i64 M,.slice am S cm,.int .i64 n,.slice a k c] 27):=⟨_,rfl⟩
 rw [<- D];have N : OC w W:=by rw [D];exact an _ _
 have F : aO W w.heap.size [.int .i64 P,.int .i64 M,.slice am S cm,.int .i64 n,.slice a k c]:=by rw [D];exact NY _ _ _ rfl
 have z:=Z5 F;have c0:=F.cell 0 rfl;have c1:=F.cell 1 rfl;have c2:=F.cell 2 rfl;clear D F;go_wp2_with (go_at_call 52;refine (H.out _ N).mono ?_;rintro e w2 ⟨b,rfl,j,Y⟩;have I:=z.out.af Y;have d0:=I.cell 0 rfl;have d1:=I.cell 1 rfl;have d2:=I.cell 2 rfl;have d3:=I.cell 3 rfl;have d4:=I.cell 4 rfl;clear I);refine (HCk.out _ (NX N Y)).mono ?_;rintro e w3 ⟨rfl,U⟩;have X:=j.af U;have hq2 : (2 : Int)<=G.q:=by have:=X.q2;omega
 have K : (G.q : Int)<=256:=by have:=X.q256;omega
 have e4:=((z.out.af Y).af U).cell 4 rfl;have hGd : ∀m,ee (w3.drewN m) b G:=λm=>X.drewN m;clear d0 d1 d2 d3 d4 c0 c1 c2;go_wp2_with fail;have HS : Hid (∀V,OC w3 V->V.cell? ⟨w.heap.size,4,none⟩=some (.slice a k c)/\ee V b G/\OC w3 V):=λV Q =>
  ⟨(((z.out.af Y).af U).af Q).cell 4 rfl,X.af Q,Q⟩
 clear e4 hGd;go_region_held3 (λV=>V.cell? ⟨w.heap.size,4,none⟩=some (.slice a k c)/\ee V b G/\OC w3 V)
  ((refine HS.out _ ?_;first | exact (JP _ _).drew | (go_split_ands;assumption) | (go_split_ands;exact NX (by assumption) (by assumption))))
  (first
   | (go_at_call 63;((with_reducible refine (AD (b:=b) (G:=G) (by go_split_ands;assumption)).mono ?_);rintro e w4 ⟨rfl,rfl⟩))
   | (go_at_call 207;((with_reducible refine (Gi (G.q : Int) k _ hq2 K (by omega)).mono ?_);rintro e w5 ⟨rfl,rfl⟩)))
 all_goals go_wp2_with fail
 all_goals go_ret2
 all_goals exact ⟨rfl,NX (NX (NX N Y) U) (by go_split_ands;assumption)⟩
theorem Dp (P M : Int) (am : OA) (Z cm : Nat) (mod : LI) (Y : OA) (X U : Nat) (w : World) (h : Ints w am Z mod) (F : Ints w Y X mod) :
  Calls prog 228 #[.agg #[.int .i64 P,.int .i64 M,.slice am Z cm],.agg #[.int .i64 P,.int .i64 M,.slice Y X U]] w λe w'=>e = .returned (.bool true)/\OC w w':=by
 obtain rfl : Z=X:=by have:=h.len;have:=F.len;omega
 have hpl:=h.pl;have r:=F.pl;have S:=h.max;unfold maxLen at S;go_enter func228,ntmps228;go_upto_region 1 with fail;obtain ⟨W,Q⟩ : ∃W : World,W=(w.alloc (.cells #[.int .i64 P,.int .i64 M,.slice am Z cm] 24)).alloc (.cells #[.int .i64 P,.int .i64 M,.slice Y Z U] 24):=⟨_,rfl⟩
 rw [<- Q];have V : OC w W:=by rw [Q];exact bT _ _ _
 have K : aO W w.heap.size [.int .i64 P,.int .i64 M,.slice am Z cm]:=by rw [Q];exact (NY _ _ _ rfl).alloc _
 have I : aO W (w.heap.size+1) [.int .i64 P,.int .i64 M,.slice Y Z U]:=by rw [Q];exact NY _ _ _ (by simp)
 have j:=h.af V;have E:=F.af V;have c0:=K.cell 0 rfl;have c1:=K.cell 1 rfl;have c2:=K.cell 2 rfl;have d0:=I.cell 0 rfl;have d1:=I.cell 1 rfl;have d2:=I.cell 2 rfl;clear Q K I;have C : (P != P)=false:=by simp
 have z : (M != M)=false:=by simp
 have H : ((Z : Int) != Z)=false:=by simp
 go_wp2_with fail;clear C z H;go_loop [31] (λD=>∃k : Nat,k<=Z/\D = .int .i64 k) (λD=>Z - (intOf D).toNat);case atStart=>exact ⟨0,JU _,rfl⟩
 case round =>
  obtain ⟨k,hk,rfl⟩:=hrel
  by_cases N : k<Z
  ·have cc:=j.cell k N
   have dd:=E.cell k N
   have hne : (nth mod k != nth mod k)=false:=by simp
   go_wp2_with fail
   go_round
   case rel=>exact ⟨k+1,by omega,by go_num⟩
   case measure=>simp [intOf] <;> omega
  ·obtain rfl : k=Z:=by omega
   go_wp2_with fail
   go_ret
   exact ⟨rfl,V⟩
theorem GW (P M : Int) (am : OA) (N cm : Nat) (mod : LI) (m : Nat) (a : OA) (n c : Nat) (L : Ll) (Y : OA) (Z X : Nat) (a' : OA) (I F : Nat) (L' : Ll) (w : World)
  (S : Ints w am N mod) (hi : bu w a n L) (U : Ints w Y Z mod) (hi' : bu w a' I L') (hE : aJ P M mod m L=0) (r : aJ P M mod m L'=0) :
  Calls prog 180 #[.agg #[.int .i64 P,.int .i64 M,.slice am N cm,.int .i64 m,.slice a n c],.agg #[.int .i64 P,.int .i64 M,.slice Y Z X,.int .i64 m,.slice a' I F]] w λe w'=>e = .returned (.int .i64 0)/\OC w w':=by
 have HC1 : Hid (∀V,OC w V->Calls prog 88 #[.agg #[.int .i64 P,.int .i64 M,.slice am N cm,.int .i64 m,.slice a n c]] V λe w'=>e = .returned (.int .i64 0)/\OC V w'):=λV Q=>by have h:=df P M am N cm mod m a n c L V (S.af Q) (hi.af Q);rw [hE] at h;exact h
 have HC2 : Hid (∀V,OC w V->Calls prog 88 #[.agg #[.int .i64 P,.int .i64 M,.slice Y Z X,.int .i64 m,.slice a' I F]] V λe w'=>e = .returned (.int .i64 0)/\OC V w'):=λV Q=>by have h:=df P M Y Z X mod m a' I F L' V (U.af Q) (hi'.af Q);rw [r] at h;exact h
 have HSm : Hid (∀V,OC w V->Calls prog 228 #[.agg #[.int .i64 P,.int .i64 M,.slice am N cm],.agg #[.int .i64 P,.int .i64 M,.slice Y Z X]] V λe w'=>e = .returned (.bool true)/\OC V w'):=λV Q =>
  Dp P M am N cm mod Y Z X V (S.af Q) (U.af Q)
 clear S hi U hi' hE r;go_enter func180,ntmps180;go_upto_region 1 with fail;obtain ⟨W,C⟩ : ∃W : World,W=(w.alloc (.cells #[.int .i64 P,.int .i64 M,.slice am N cm,.int .i64 m,.slice a n c] 27)).alloc (.cells #[.int .i64 P,.int .i64 M,.slice Y Z X,.int .i64 m,.slice a' I F] 27):=⟨_,rfl⟩
 rw [<- C];have D : OC w W:=by rw [C];exact bT _ _ _
 have x0 : aO W w.heap.size [.int .i64 P,.int .i64 M,.slice am N cm,.int .i64 m,.slice a n c]:=by rw [C];exact (NY _ _ _ rfl).alloc _
 have y0 : aO W (w.heap.size+1) [.int .i64 P,.int .i64 M,.slice Y Z X,.int .i64 m,.slice a' I F]:=by rw [C];exact NY _ _ _ (by simp)
 have HS : Hid (∀V,OC W V->V.cell? ⟨w.heap.size,0,none⟩=some (.int .i64 P)/\V.cell? ⟨w.heap.size,1,none⟩=some (.int .i64 M)/\V.cell? ⟨w.heap.size,2,none⟩=some (.slice am N cm)/\V.cell? ⟨w.heap.size,3,none⟩=some (.int .i64 m)/\V.cell? ⟨w.heap.size,4,none⟩=some (.slice a n c) /\
   V.cell? ⟨w.heap.size+1,0,none⟩=some (.int .i64 P)/\V.cell? ⟨w.heap.size+1,1,none⟩=some (.int .i64 M)/\V.cell? ⟨w.heap.size+1,2,none⟩=some (.slice Y Z X)/\V.cell? ⟨w.heap.size+1,3,none⟩=some (.int .i64 m)/\V.cell? ⟨w.heap.size+1,4,none⟩=some (.slice a' I F)):=λV Q=>by have x1:=x0.af Q;have E:=y0.af Q;exact ⟨x1.cell 0 rfl,x1.cell 1 rfl,x1.cell 2 rfl,x1.cell 3 rfl,x1.cell 4 rfl,E.cell 0 rfl,E.cell 1 rfl,E.cell 2 rfl,E.cell 3 rfl,E.cell 4 rfl⟩
 clear C x0 y0;obtain ⟨c0,c1,c2,c3,c4,d0,d1,d2,d3,d4⟩:=HS.out W (JP _ _);have HbW:=Z5 D;clear D;go_wp2_with fail;refine (HC1.out W HbW.out).mono ?_;rintro e w1 ⟨rfl,H⟩;have hF1:=NX HbW.out H;clear c0 c1 c2 c3 c4 d0 d1 d2 d3 d4;obtain ⟨c0,c1,c2,c3,c4,d0,d1,d2,d3,d4⟩:=HS.out w1 H;go_wp2_with fail;refine (HC2.out w1 hF1).mono ?_;rintro e w2 ⟨rfl,j⟩;have hF2:=NX hF1 j;have K:=NX H j;clear c0 c1 c2 c3 c4 d0 d1 d2 d3 d4;obtain ⟨c0,c1,c2,c3,c4,d0,d1,d2,d3,d4⟩:=HS.out w2 K;have hmm : ((m : Int) != m)=false:=by simp
 go_wp2_with (go_at_call 228;refine (HSm.out w2 hF2).mono ?_;rintro e w3 ⟨rfl,z⟩;obtain ⟨_,_,_,e3,_,_,_,_,g3,_⟩:=HS.out w3 (NX K z);have hF3:=NX hF2 z);go_ret;exact ⟨rfl,hF3⟩
def rq (P M : Int) (mod : LI) (m : Nat) (a : OA) (n c : Nat) (L : Ll) (w : World) (e : Ending) (w' : World) : Prop :=
 ∃b ap cp v2,e = .returned (.tuple #[.agg #[.pointer (some ⟨b,0,none⟩),.int .i64 m,.slice a n c,.slice ap (bh (ah P M.toNat mod) L m).length cp],v2,.int .i64 0]) /\
  (∃(X : Nat) (S : Int) (a2 : OA) (V c2 : Nat) (Y : OA) (U Z : Nat),v2 = .agg #[.pointer (some ⟨X,0,none⟩),.int .i64 S,.slice a2 V c2,.slice Y U Z])/\ee w' b (ah P M.toNat mod)/\Ints w' ap (bh (ah P M.toNat mod) L m).length (bh (ah P M.toNat mod) L m)/\OC w w'
theorem Fi (P M : Int) (am : OA) (mn cm : Nat) (mod : LI) (m : Nat) (a : OA) (n c : Nat) (L : Ll) (a' : OA) (C c' : Nat) (L' : Ll) (w : World)
  (hmod : Ints w am mn mod) (hi : bu w a n L) (hi' : bu w a' C L') (hE : du P M mod m L=0) (hE' : du P M mod m L'=0) :
  Calls prog 229 #[.agg #[.int .i64 P,.int .i64 M,.slice am mn cm],.agg #[.int .i64 m,.slice a n c],.agg #[.int .i64 m,.slice a' C c']] w (rq P M mod m a n c L w):=by
 have HO : Hid (∀V a n c L,OC w V->bu V a n L->du P M mod m L=0->Calls prog 190 #[.agg #[.int .i64 P,.int .i64 M,.slice am mn cm],.agg #[.int .i64 m,.slice a n c]] V λe w'=>OC V w'/\∃b ap cp,
   e = .returned (.tuple #[.agg #[.pointer (some ⟨b,0,none⟩),.int .i64 m,.slice a n c,.slice ap (bh (ah P M.toNat mod) L m).length cp],.int .i64 0])/\xG V.heap.size w' b (ah P M.toNat mod)/\bJ V.heap.size w' ap (bh (ah P M.toNat mod) L m).length (bh (ah P M.toNat mod) L m)):=λV a n c L hV hM h=>by
  refine (jl P M am mn cm mod m a n c L V (hmod.af hV) hM).mono ?_;rintro e w' ⟨hb,⟨h1,_⟩ | ⟨_,m',b,hm',ap,cp,rfl,E,_,F⟩⟩
  ·exact absurd h h1
  ·obtain rfl : m=m':=by omega
   exact ⟨hb,b,ap,cp,rfl,E,F⟩
 have Q : Hid (∀b ap cp v2 V,(∃(b2 : Nat) (m2 : Int) (a2 : OA) (n2 c2 : Nat) (H : OA) (k2 N : Nat),v2 = .agg #[.pointer (some ⟨b2,0,none⟩),.int .i64 m2,.slice a2 n2 c2,.slice H k2 N])->ee V b (ah P M.toNat mod)->Ints V ap (bh (ah P M.toNat mod) L m).length (bh (ah P M.toNat mod) L m)->OC w V ->
   rq P M mod m a n c L w (.returned (.tuple #[.agg #[.pointer (some ⟨b,0,none⟩),.int .i64 m,.slice a n c,.slice ap (bh (ah P M.toNat mod) L m).length cp],v2,.int .i64 0])) V):=λb ap cp v2 V h1 h2 h3 h4=>⟨b,ap,cp,v2,rfl,h1,h2,h3,h4⟩
 have HI:=Z5 (JZ hi hi');have HO1:=Z5 (λV hV hM=>HO.out V a n c L hV hM hE);have HO2:=Z5 (λV hV hM=>HO.out V a' C c' L' hV hM hE');generalize rq P M mod m a n c L w=Post at *;obtain ⟨k,hk⟩ : ∃k,(bh (ah P M.toNat mod) L m).length=k:=⟨_,rfl⟩
 obtain ⟨k',hk'⟩ : ∃k,(bh (ah P M.toNat mod) L' m).length=k:=⟨_,rfl⟩
 rw [hk] at HO1 Q;rw [hk'] at HO2;clear hmod hi hi' hE hE' HO hk hk';generalize bh (ah P M.toNat mod) L m=Pv at *;generalize bh (ah P M.toNat mod) L' m=Pv' at *;generalize ah P M.toNat mod=G at *;go_enter func229,ntmps229;go_upto_region 1 with fail;obtain ⟨W,r⟩ : ∃W : World,W=((((w.alloc (.cells #[.int .i64 P,.int .i64 M,.slice am mn cm] 24)).alloc (.cells #[.int .i64 m,.slice a n c] 94)).alloc (.cells #[.int .i64 m,.slice a' C c'] 94)).alloc (.cells #[.pointer none,.int .i64 0,.slice none 0 0,.slice none 0 0] 210)).alloc (.cells #[.pointer none,.int .i64 0,.slice none 0 0,.slice none 0 0] 210):=⟨_,rfl⟩
 rw [<- r];have hbW : OC w W:=by rw [r];exact NX (j8 _ _ _ _) (bT _ _ _)
 have hsW : W.heap.size=w.heap.size+5:=by rw [r];simp
 have K : aO W w.heap.size [.int .i64 P,.int .i64 M,.slice am mn cm]:=by rw [r];exact ((((NY _ _ _ rfl).alloc _).alloc _).alloc _).alloc _
 have D : aO W (w.heap.size+1) [.int .i64 m,.slice a n c]:=by rw [r];exact (((NY _ _ _ (by simp)).alloc _).alloc _).alloc _
 have x2 : aO W (w.heap.size+1+1) [.int .i64 m,.slice a' C c']:=by rw [r];exact ((NY _ _ _ (by simp)).alloc _).alloc _
 have Z : aO W (w.heap.size+1+1+1) [.pointer none,.int .i64 0,.slice none 0 0,.slice none 0 0]:=by rw [r];exact (NY _ _ _ (by simp)).alloc _
 have x4 : aO W (w.heap.size+1+1+1+1) [.pointer none,.int .i64 0,.slice none 0 0,.slice none 0 0]:=by rw [r];exact NY _ _ _ (by simp)
 clear r;have HX:=Z5 (JZ K (JZ D (JZ x2 (JZ Z x4))));have HbW:=Z5 hbW;have HsW:=Z5 hsW;go_cut [8] (λv8 wx=>v8 = .int .i64 0/\∃b ap cp,aO wx (w.heap.size+1+1+1) [.pointer (some ⟨b,0,none⟩),.int .i64 m,.slice a n c,.slice ap k cp]/\aO wx w.heap.size [.int .i64 P,.int .i64 M,.slice am mn cm]/\aO wx (w.heap.size+1) [.int .i64 m,.slice a n c]/\aO wx (w.heap.size+1+1) [.int .i64 m,.slice a' C c']/\aO wx (w.heap.size+1+1+1+1) [.pointer none,.int .i64 0,.slice none 0 0,.slice none 0 0]/\xG (w.heap.size+5) wx b G/\bJ (w.heap.size+5) wx ap k Pv/\OC w wx);case first =>
  have c0:=K.cell 0 rfl
  have c1:=K.cell 1 rfl
  have c2:=K.cell 2 rfl
  have d0:=D.cell 0 rfl
  have d1:=D.cell 1 rfl
  clear K D x2 Z x4 hbW hsW
  go_wp2_with fail
  refine (HO1.out W HbW.out (HI.out.1.af HbW.out)).mono ?_
  rintro e w1 ⟨S,b,ap,cp,rfl,E,F⟩
  clear c0 c1 c2 d0 d1
  obtain ⟨K,D,x2,Z,x4⟩:=HX.out
  have K:=K.af S
  have D:=D.af S
  have x2:=x2.af S
  have Z:=Z.af S
  have x4:=x4.af S
  have z0:=Z.cell 0 rfl
  have z1:=Z.cell 1 rfl
  have z2:=Z.cell 2 rfl
  have z3:=Z.cell 3 rfl
  have f0:=Z.frozen 0
  have f1:=Z.frozen 1
  have f2:=Z.frozen 2
  have f3:=Z.frozen 3
  have hs:=HsW.out
  have hF:=NX HbW.out S
  have HR : Hid (aO ((((w1.setCell ⟨w.heap.size+1+1+1,0,none⟩ (.pointer (some ⟨b,0,none⟩))).setCell ⟨w.heap.size+1+1+1,1,none⟩ (.int .i64 m)).setCell ⟨w.heap.size+1+1+1,2,none⟩ (.slice a n c)).setCell ⟨w.heap.size+1+1+1,3,none⟩ (.slice ap k cp)) (w.heap.size+1+1+1) [.pointer (some ⟨b,0,none⟩),.int .i64 m,.slice a n c,.slice ap k cp] /\
    (∀g cs,g ≠ w.heap.size+1+1+1->aO w1 g cs->aO ((((w1.setCell ⟨w.heap.size+1+1+1,0,none⟩ (.pointer (some ⟨b,0,none⟩))).setCell ⟨w.heap.size+1+1+1,1,none⟩ (.int .i64 m)).setCell ⟨w.heap.size+1+1+1,2,none⟩ (.slice a n c)).setCell ⟨w.heap.size+1+1+1,3,none⟩ (.slice ap k cp)) g cs) /\
    xG (w.heap.size+5) ((((w1.setCell ⟨w.heap.size+1+1+1,0,none⟩ (.pointer (some ⟨b,0,none⟩))).setCell ⟨w.heap.size+1+1+1,1,none⟩ (.int .i64 m)).setCell ⟨w.heap.size+1+1+1,2,none⟩ (.slice a n c)).setCell ⟨w.heap.size+1+1+1,3,none⟩ (.slice ap k cp)) b G /\
    bJ (w.heap.size+5) ((((w1.setCell ⟨w.heap.size+1+1+1,0,none⟩ (.pointer (some ⟨b,0,none⟩))).setCell ⟨w.heap.size+1+1+1,1,none⟩ (.int .i64 m)).setCell ⟨w.heap.size+1+1+1,2,none⟩ (.slice a n c)).setCell ⟨w.heap.size+1+1+1,3,none⟩ (.slice ap k cp)) ap k Pv /\
    OC w ((((w1.setCell ⟨w.heap.size+1+1+1,0,none⟩ (.pointer (some ⟨b,0,none⟩))).setCell ⟨w.heap.size+1+1+1,1,none⟩ (.int .i64 m)).setCell ⟨w.heap.size+1+1+1,2,none⟩ (.slice a n c)).setCell ⟨w.heap.size+1+1+1,3,none⟩ (.slice ap k cp))):=by
   refine ⟨(((Z.setCell 0 _).setCell 1 _).setCell 2 _).setCell 3 _,λg cs hg hx=>(((hx.Jr (NU hg) 0 _).Jr (NU hg) 1 _).Jr (NU hg) 2 _).Jr (NU hg) 3 _,?_,?_,?_⟩
   ·rw [<- hs];exact (((E.setCell (p:=⟨w.heap.size+1+1+1,0,none⟩) (by simp;omega) _).setCell (p:=⟨w.heap.size+1+1+1,1,none⟩) (by simp;omega) _).setCell (p:=⟨w.heap.size+1+1+1,2,none⟩) (by simp;omega) _).setCell (p:=⟨w.heap.size+1+1+1,3,none⟩) (by simp;omega) _
   ·rw [<- hs];exact (((F.setCell (p:=⟨w.heap.size+1+1+1,0,none⟩) (by simp;omega) _).setCell (p:=⟨w.heap.size+1+1+1,1,none⟩) (by simp;omega) _).setCell (p:=⟨w.heap.size+1+1+1,2,none⟩) (by simp;omega) _).setCell (p:=⟨w.heap.size+1+1+1,3,none⟩) (by simp;omega) _
   ·exact (((hF.setCell (p:=⟨w.heap.size+1+1+1,0,none⟩) (by simp;omega) _).setCell (p:=⟨w.heap.size+1+1+1,1,none⟩) (by simp;omega) _).setCell (p:=⟨w.heap.size+1+1+1,2,none⟩) (by simp;omega) _).setCell (p:=⟨w.heap.size+1+1+1,3,none⟩) (by simp;omega) _
  have HY:=Z5 (JZ K (JZ D (JZ x2 x4)))
  clear E F hs hF K D x2 Z x4
  go_wp2_with fail
  go_meet
  obtain ⟨r1,r2,r3,r4,r5⟩:=HR.out
  obtain ⟨j,z,I,Y⟩:=HY.out
  exact ⟨rfl,b,ap,cp,r1,r2 _ _ (by omega) j,r2 _ _ (by omega) z,r2 _ _ (by omega) I,r2 _ _ (by omega) Y,r3,r4,r5⟩
 obtain ⟨rfl,b,ap,cp,z3,j,z,I,Y,E,F,hF⟩:=hcut;generalize wc=V at *;clear K D x2 Z x4 hbW hsW HX HO1;have c0:=j.cell 0 rfl;have c1:=j.cell 1 rfl;have c2:=j.cell 2 rfl;have d0:=I.cell 0 rfl;have d1:=I.cell 1 rfl;have HZ:=Z5 (JZ z3 (JZ j (JZ z (JZ I Y))));have HG:=Z5 (JZ E F);clear z3 j z I Y E F;go_wp2_with fail;refine (HO2.out V hF (HI.out.2.af hF)).mono ?_;rintro e w2 ⟨U,b2,H,N,rfl,_,_⟩;clear c0 c1 c2 d0 d1;obtain ⟨z3,j,z,I,Y⟩:=HZ.out;have z3:=z3.af U;have z:=z.af U;have I:=I.af U;have Y:=Y.af U;have p0:=z3.cell 0 rfl;have p1:=z3.cell 1 rfl;have p2:=z3.cell 2 rfl;have p3:=z3.cell 3 rfl;have e0:=z.cell 0 rfl;have g0:=I.cell 0 rfl;have q0:=Y.cell 0 rfl;have q1:=Y.cell 1 rfl;have q2:=Y.cell 2 rfl;have q3:=Y.cell 3 rfl;have f0:=Y.frozen 0;have f1:=Y.frozen 1;have f2:=Y.frozen 2;have f3:=Y.frozen 3;have fp0:=z3.frozen 0;have fp1:=z3.frozen 1;have fp2:=z3.frozen 2;have fp3:=z3.frozen 3;have hmm : ((m : Int) != m)=false:=by simp
 have hF2:=NX hF U;obtain ⟨E,F⟩:=HG.out;have hG2:=E.af U;have hN2:=F.af U;have HFin : Hid (∀(X : World),X=((((w2.setCell ⟨w.heap.size+1+1+1+1,0,none⟩ (.pointer (some ⟨b2,0,none⟩))).setCell ⟨w.heap.size+1+1+1+1,1,none⟩ (.int .i64 m)).setCell ⟨w.heap.size+1+1+1+1,2,none⟩ (.slice a' C c')).setCell ⟨w.heap.size+1+1+1+1,3,none⟩ (.slice H k' N)) ->
   Post (.returned (.tuple #[.agg #[.pointer (some ⟨b,0,none⟩),.int .i64 m,.slice a n c,.slice ap k cp],.agg #[.pointer (some ⟨b2,0,none⟩),.int .i64 m,.slice a' C c',.slice H k' N],.int .i64 0])) X):=λX hX=>by
  subst hX;refine Q.out b ap cp _ _ ⟨_,_,_,_,_,_,_,_,rfl⟩ ?_ ?_ ?_
  ·exact ((((hG2.setCell (p:=⟨w.heap.size+1+1+1+1,0,none⟩) (by simp) _).setCell (p:=⟨w.heap.size+1+1+1+1,1,none⟩) (by simp) _).setCell (p:=⟨w.heap.size+1+1+1+1,2,none⟩) (by simp) _).setCell (p:=⟨w.heap.size+1+1+1+1,3,none⟩) (by simp) _).gf
  ·exact ((((hN2.setCell (p:=⟨w.heap.size+1+1+1+1,0,none⟩) (by simp) _).setCell (p:=⟨w.heap.size+1+1+1+1,1,none⟩) (by simp) _).setCell (p:=⟨w.heap.size+1+1+1+1,2,none⟩) (by simp) _).setCell (p:=⟨w.heap.size+1+1+1+1,3,none⟩) (by simp) _).ints
  ·exact (((hF2.setCell (p:=⟨w.heap.size+1+1+1+1,0,none⟩) (by simp;omega) _).setCell (p:=⟨w.heap.size+1+1+1+1,1,none⟩) (by simp;omega) _).setCell (p:=⟨w.heap.size+1+1+1+1,2,none⟩) (by simp;omega) _).setCell (p:=⟨w.heap.size+1+1+1+1,3,none⟩) (by simp;omega) _
 clear E F hG2 hN2 z3 j z I Y HZ HG;go_wp2_with fail;exact bodyPost_ret (v:=.tuple #[.agg #[.pointer (some ⟨b,0,none⟩),.int .i64 m,.slice a n c,.slice ap k cp],.agg #[.pointer (some ⟨b2,0,none⟩),.int .i64 m,.slice a' C c',.slice H k' N],.int .i64 0]) (by simp [results,results229,go_sem,p0,p1,p2,p3,q0,q1,q2,q3]) rfl (HFin.out _ rfl)
section
open Go.RowKit Go.Shelf
theorem aD.putAt (w : World) {I : Nat->Prop} {B : Nat} (Y : I B) (o : Obj) : aD w (w.putObj B o) I I:=by have Z:=grownBy_putObj' w B o;exact ⟨Z.os,Z.tape,Z.output,Z.size,λb hb hI=>Z.block b hb (λe=>by cases e;exact hI Y),λb hb=>.inl hb⟩
theorem Ints.put {w : World} {a : OA} {n : Nat} {l : LI} (h : Ints w a n l) (B : Nat) (o : Obj) (Y : 0<n->ablk a ≠ B) : Ints (w.putObj B o) a n l :=
 h.of_block λZ=>World.putObj_heap_other (λe=>Y Z e)
theorem sN {g : Operand} {ps : Array Tmp} {assign body : Code} {Q : Exit->Act->World->Prop} {a : Act} {w : World} {m n N : Nat} {lb : Array Value} {R : Ll}
  (hg : a.eval g = .func (.func 250) #[] lb) (eg : ∀args w,(callFunc 250 args).run prog w = .ok (.enter 250 args) w) (hps : ps.size=2) (hm : 1<=m) (hn1 : 1<=n)
  (X : Nat->Prop) (hMB : ∀x,X x->x<w.heap.size)
  (hseq : ∀(l : Nat) (J : List WX->World->Prop) (MM : Nat->Prop) (W : World),OC w W->W.heap.size=w.heap.size+2->(∀x,MM x->X x\/x=w.heap.size+1) ->
   (∀pre V V',J pre V->OC V V'->J pre V')->(∀B pre V v,W.heap.size<=B->(∀x ∈ pre,ablk x.a ≠ B)->J pre V->J pre (V.setCell ⟨B,0,none⟩ v)) ->
   (∀m pre x V,J pre V->pre.length<N->Ints V x.a n x.l->(∀j,MM j->j ≠ ablk x.a)->I3 l n J MM m pre x V)->J [] W ->
   Calls prog 250 (#[.func (.yield l) #[] #[]] ++ lb) W λe V=>e = .returned (.tuple #[])/\∃xs : List WX,xs.map WX.l=R/\J xs V/\aD W V MM MM)
  (I : List WX->World->Prop) (hIa : ∀pre V V',I pre V->OC V V'->I pre V')
  (hIb : ∀B pre V v,w.heap.size<=B->(∀x ∈ pre,ablk x.a ≠ B)->I pre V->I pre (V.setCell ⟨B,0,none⟩ v))
  (hIp : ∀B pre V o,w.heap.size<=B->(∀x ∈ pre,ablk x.a ≠ B)->I pre V->I pre (V.putObj B o)) (h0 : I [] w)
  (E : List WX->WX->Act)
  (S : ∀(l m : Nat) (pre : List WX) (x : WX) (W : World) (K : Act->World->Prop),K (E pre x) W ->
   assign.wpIn (Fence.wide.inRound l) m prog (Exit.then K (λ_ _ _=>False)) { tmps:=(ps.zip #[.int .i64 (pre.length : Nat),.slice x.a n x.c]).foldl (λt (p,v)=>t.setIfInBounds p v) a.tmps,defers:=[] } W)
  (hbody : ∀(l m : Nat) (pre : List WX) (x : WX) (W : World),I pre W->pre.length<N->Ints W x.a n x.l->(∀j,X j->j ≠ ablk x.a) ->
   body.wpIn (Fence.wide.inRound l) m prog (λe _ W'=>e = .normal/\I (pre ++ [x]) W'/\aD W W' X X) (E pre x) W)
  (C : ∀(xs : List WX) (W : World),xs.map WX.l=R->I xs W->aD w W (λx=>X x\/w.heap.size<=x) (λx=>X x\/w.heap.size<=x)->W.heap[w.heap.size]? = some (.deferred (some []))->Q .normal { a with defers:={ target:=.collected w.heap.size,args:=#[] } :: a.defers } W) :
  (Code.rangeFunc g ps assign body).wpIn Fence.wide m prog Q a w:=by
 refine wpIn_rangeFunc ?_;intro fn hfn;obtain ⟨rec,Z⟩ : ∃rec : LoopState->Option Code->Loop,rec=λst pe=>{ state:=st,pending:=pe,fn,tmps:=a.tmps,params:=ps,assign,body,defers:=w.heap.size }:=⟨_,rfl⟩
 obtain ⟨F,H⟩ : ∃F,(w.alloc (.deferred (some []))).alloc (.loop (rec .ready none))=F:=⟨_,rfl⟩
 have hL1 : F.heap[w.heap.size+1]? = some (.loop (rec .ready none)):=by rw [<- H];have:=World.alloc_heap_new (w.alloc (.deferred (some []))) (.loop (rec .ready none));rwa [L6] at this
 have hK1 : F.heap[w.heap.size]? = some (.deferred (some [])):=by rw [<- H];exact (MP _ _ _ (by simp)).trans (World.alloc_heap_new w _)
 have z : OC w F:=by rw [<- H];exact bT _ _ _
 have hs1 : F.heap.size=w.heap.size+2:=by rw [<- H];simp
 refine ⟨w.heap.size+1,[{ target:=.collected w.heap.size,args:=#[] }],F,{ target:=.fn (.func 250) lb,args:=#[.func (.yield (w.heap.size+1)) #[] #[]] },F,250,
  #[.func (.yield (w.heap.size+1)) #[] #[]] ++ lb,F,?_,?_,?_,?_,λ_=>hm,?_⟩
 ·rw [<- H,Z];exact run_enterLoop_outer _ _ _ _ _
 ·simp only [resolve,hg];simp [go_sem]
 ·intro f' hf';trivial
 ·simp [invoke,go_sem,eg]
 ·refine callsIn_wide.2 ((hseq (w.heap.size+1)
   (λpre W=>I pre W/\W.heap[w.heap.size+1]? = some (.loop (rec .ready none))/\W.heap[w.heap.size]? = some (.deferred (some []))/\∀x ∈ pre,ablk x.a ≠ w.heap.size+1)
   (λx=>X x\/x=w.heap.size+1) F z hs1 (λx h=>h) ?_ ?_ ?_ ⟨hIa _ _ _ h0 z,hL1,hK1,λx hx=>by simp at hx⟩).mono ?_)
  ·rintro pre V V' ⟨h1,h2,h3,h4⟩ hb;exact ⟨hIa _ _ _ h1 hb,(hb.block _ (Array.getElem?_eq_some_iff.1 h2).1).trans h2,(hb.block _ (Array.getElem?_eq_some_iff.1 h3).1).trans h3,h4⟩
  ·rintro B pre V v hB hx ⟨h1,h2,h3,h4⟩;exact ⟨hIb B _ _ _ (by omega) hx h1,(J6 _ _ _ _ (by show w.heap.size+1 ≠ B;omega)).trans h2,(J6 _ _ _ _ (by show w.heap.size ≠ B;omega)).trans h3,h4⟩
  ·rintro k pre x V ⟨hi,hl,hd,U⟩ hlen hix hxM;have hlt : w.heap.size+1<V.heap.size:=(Array.getElem?_eq_some_iff.1 hl).1;have D : ablk x.a ≠ w.heap.size+1:=λe=>hxM _ (.inr rfl) e.symm;have Y:=run_yield (P:=prog) (args:=#[.int .i64 (pre.length : Nat),.slice x.a n x.c]) hl (by rw [Z];exact hps.symm ▸ rfl);rw [Z] at Y;refine ⟨fn,_,assign,body,Y,roundIn_of_wpIn hfn (S _ _ pre x V _ ⟨_,run_beginRound hl (by rw [Z]),?_⟩)⟩;have hl2 : (V.putObj (w.heap.size+1) (.loop { rec .ready none with state:=.busy })).heap[w.heap.size+1]? = some (.loop { rec .ready none with state:=.busy }):=World.putObj_heap_same hlt;have hd2 : (V.putObj (w.heap.size+1) (.loop { rec .ready none with state:=.busy })).heap[w.heap.size]? = some (.deferred (some [])):=(World.putObj_heap_other (by omega)).trans hd;have hm2 : aD V (V.putObj (w.heap.size+1) (.loop { rec .ready none with state:=.busy })) (λx=>X x\/x=w.heap.size+1) (λx=>X x\/x=w.heap.size+1):=aD.putAt _ (.inr rfl) _;refine wpIn_mono (hbody _ _ pre x _ (hIp _ _ _ _ (by omega) U hi) hlen (hix.put _ _ (λ_=>D)) (λj hj=>hxM j (.inl hj))) ?_;rintro e a3 W3 ⟨rfl,hi3,r⟩;have hnl : ¬ X (w.heap.size+1):=λh=>by have:=hMB _ h;omega
   have hnd : ¬ X w.heap.size:=λh=>by have:=hMB _ h;omega
   have hl3:=(r.block _ (Array.getElem?_eq_some_iff.1 hl2).1 hnl).trans hl2;have hd3:=(r.block _ (Array.getElem?_eq_some_iff.1 hd2).1 hnd).trans hd2;have hr:=run_endRound (P:=prog) none hl3;rw [Z] at hr;refine ⟨_,_,hr,rfl,⟨hIp _ _ _ _ (by omega) ?_ hi3,?_,?_,?_⟩,?_⟩
   ·intro y Y;rcases List.mem_append.1 Y with Y | Y
    ·exact U y Y
    ·rw [List.mem_singleton.1 Y];exact D
   ·rw [Z];exact World.putObj_heap_same (Array.getElem?_eq_some_iff.1 hl3).1
   ·exact (World.putObj_heap_other (by omega)).trans hd3
   ·intro y Y;rcases List.mem_append.1 Y with Y | Y
    ·exact U y Y
    ·rw [List.mem_singleton.1 Y];exact D
   ·exact (hm2.trans (r.wide (λx h=>.inl h))).trans (aD.putAt _ (.inr rfl) _)
  ·rintro e W2 ⟨rfl,xs,hx,⟨hi,hl,hd,U⟩,hmv⟩;refine ⟨none,_,by have:=run_endLoop (P:=prog) hl (by rw [Z];simp);rw [Z] at this;exact this,C xs _ hx (hIp _ _ _ _ (by omega) U hi) ?_ ((World.putObj_heap_other (by omega)).trans hd)⟩;have hw : aD w W2 (λx=>X x\/w.heap.size<=x) (λx=>X x\/w.heap.size<=x):=(N3 z _).trans (hmv.wide (λx h=>h.elim .inl (λe=>.inr (by omega))));exact hw.trans (aD.putAt _ (.inr (by omega)) _)
end
def cmpL : LI->LI->Int
 | [],[]=>0
 | [],_ :: _=>-1
 | _ :: _,[]=>1
 | x :: a,y :: b=>if x<y then -1 else if y<x then 1 else cmpL a b
def oU (a b : LI) : Bool:=decide (a.length<b.length) || (decide (a.length=b.length) && decide (cmpL a b<0))
theorem lC {a b : LI} : oU a b=true ↔ a.length<b.length\/a.length=b.length/\cmpL a b<0:=by unfold oU;rw [Ms,J9,Kt,Kt,Kt]
def JI (lo n : Nat) (t : LI) : Prop:=t.Pairwise (· < ·)/\∀x ∈ t,(lo : Int)<=x/\x<n
theorem Bn : ∀ {a b : LI},a.Pairwise (· < ·)->b.Pairwise (· < ·)->(∀x,x ∈ a ↔ x ∈ b)->a=b
 | [],[],_,_,_=>rfl
 | [],y :: b,_,_,h=>by have:=(h y).2 (by simp);simp at this
 | x :: a,[],_,_,h=>by have:=(h x).1 (by simp);simp at this
 | x :: a,y :: b,ha,hb,h=>by
  obtain ⟨a1,a2⟩:=List.pairwise_cons.1 ha;obtain ⟨X,V⟩:=List.pairwise_cons.1 hb;have e : x=y:=by
   rcases List.mem_cons.1 ((h x).1 (by simp)) with e | e
   ·exact e
   ·rcases List.mem_cons.1 ((h y).2 (by simp)) with Y | Y
    ·exact Y.symm
    ·have:=a1 _ Y;have:=X _ e;omega
  subst e;rw [Bn a2 V λz=>?_];constructor
  ·intro Z;rcases List.mem_cons.1 ((h z).1 (by simp [Z])) with e | e
   ·have:=a1 z Z;omega
   ·exact e
  ·intro Z;rcases List.mem_cons.1 ((h z).2 (by simp [Z])) with e | e
   ·have:=X z Z;omega
   ·exact e
theorem oD (x : Int) (w : World) : Calls prog 221 #[.int .i64 x] w λe w'=>e = .returned (.bool false)/\w=w':=by go_enter func221,ntmps221;go_wp2;go_ret;exact ⟨by simp,rfl⟩
def sJ (x y : Int) : Int:=if x<y then -1 else if y<x then 1 else 0
theorem rO (x y : Int) (w : World) : Calls prog 212 #[.int .i64 x,.int .i64 y] w λe w'=>e = .returned (.int .i64 (sJ x y))/\w=w':=by
 obtain ⟨r,Z⟩ : ∃r,sJ x y=r:=⟨_,rfl⟩
 rw [Z];go_enter func212,ntmps212;unfold sJ at Z;by_cases h1 : x<y
 ·have d1 : decide (x<y)=true:=by simpa using h1
  rw [JT h1] at Z;clear h1;go_wp2_with (go_at_call 221;refine (oD _ _).mono ?_;rintro e w' ⟨rfl,rfl⟩);go_ret;exact ⟨by rw [<- Z];rfl,rfl⟩
 ·have d1 : decide (x<y)=false:=by simpa using h1
  rw [JR h1] at Z;by_cases h2 : y<x
  ·have d2 : decide (y<x)=true:=by simpa using h2
   rw [JT h2] at Z;clear h1 h2;go_wp2_with (go_at_call 221;refine (oD _ _).mono ?_;rintro e w' ⟨rfl,rfl⟩);go_ret;exact ⟨by rw [<- Z];rfl,rfl⟩
  ·have d2 : decide (y<x)=false:=by simpa using h2
   rw [JR h2] at Z;clear h1 h2;go_wp2_with (go_at_call 221;refine (oD _ _).mono ?_;rintro e w' ⟨rfl,rfl⟩);go_ret;exact ⟨by rw [<- Z];rfl,rfl⟩
theorem AY : ∀ {a b : LI} {k : Nat},(∀j,j<k->nth a j=nth b j)->k<a.length->k<b.length->sJ (nth a k) (nth b k) ≠ 0->cmpL a b=sJ (nth a k) (nth b k)
 | [],_,k,_,h,_,_=>by simp at h
 | x :: a,[],k,_,_,h,_=>by simp at h
 | x :: a,y :: b,0,_,_,_,hne=>by
  have e1 : nth (x :: a) 0=x:=rfl;have Z : nth (y :: b) 0=y:=rfl;rw [e1,Z] at hne ⊢;rw [cmpL];unfold sJ at hne ⊢;split
  ·rfl
  ·split
   ·rfl
   ·rename_i h1 h2;rw [JR h1,JR h2] at hne;exact absurd rfl hne
 | x :: a,y :: b,k+1,h0,ha,hb,hne=>by
  have e : x=y:=by simpa [nth] using h0 0 (by omega)
  rw [cmpL,JR (by omega),JR (by omega)];have h1:=AY (a:=a) (b:=b) (k:=k) (λj Y=>by simpa [nth] using h0 (j+1) (by omega)) (by simpa using ha) (by simpa using hb) (by simpa [nth] using hne);simpa [nth] using h1
theorem qx : ∀ {a b : LI} {k : Nat},(∀j,j<k->nth a j=nth b j)->(k=a.length\/k=b.length)->k<=a.length->k<=b.length->cmpL a b=if a.length<b.length then -1 else if b.length<a.length then 1 else 0
 | [],[],_,_,_,_,_=>by simp [cmpL]
 | [],y :: b,_,_,_,_,_=>by simp [cmpL]
 | x :: a,[],_,_,_,_,_=>by simp [cmpL]
 | x :: a,y :: b,0,_,h,_,_=>by simp at h
 | x :: a,y :: b,k+1,h0,h,ha,hb=>by
  have e : x=y:=by simpa [nth] using h0 0 (by omega)
  rw [cmpL,JR (by omega),JR (by omega)];have h1:=qx (a:=a) (b:=b) (k:=k) (λj Z=>by simpa [nth] using h0 (j+1) (by omega)) (by simpa using h) (by simpa using ha) (by simpa using hb);rw [h1];simp
theorem wD (a : OA) (n c : Nat) (l : LI) (a2 : OA) (V c2 : Nat) (X : LI) (w : World) (hi : Ints w a n l) (U : Ints w a2 V X) :
  Calls prog 159 #[.slice a n c,.slice a2 V c2] w λe w'=>e = .returned (.int .i64 (cmpL l X))/\w=w':=by
 have K:=Z5 hi.len;have Y:=Z5 U.len;have hpl:=hi.pl;have hpl2:=U.pl;have I:=hi.max;have N:=U.max;unfold maxLen at I N;go_enter func159,ntmps159;go_wp2_with fail;go_loop [11] (λC=>∃k : Nat,k<=n/\k<=V/\C = .int .i64 k/\Hid (∀j,j<k->nth l j=nth X j)) (λC=>n - (intOf C).toNat);case atStart=>exact ⟨0,JU _,JU _,rfl,λj hj=>by omega⟩
 case round =>
  obtain ⟨k,hk,F,rfl,Z⟩:=hrel
  by_cases H : k<n
  ·have ck:=hi.cell k H
   by_cases Q : k<V
   ·have ck2:=U.cell k Q
    have D : decide ((V : Int)<=(k : Int))=false:=by simp;omega
    by_cases he : sJ (nth l k) (nth X k)=0
    ·have hEq : Hid (nth l k=nth X k):=by
      show _=_;unfold sJ at he;split at he
      ·omega
      ·split at he
       ·omega
       ·omega
     have E:=rO (nth l k) (nth X k)
     rw [he] at E
     have z:=Z5 E
     clear he E
     go_wp2_with (go_at_call 212;refine (z.out _).mono ?_;rintro e w' ⟨rfl,rfl⟩)
     go_round
     case rel=>exact ⟨k+1,by omega,by omega,by go_num,λj hj=>by
      rcases Kz j k with h | h
      ·exact Z.out j h
      ·rw [show j=k by omega];exact hEq.out⟩
     case measure=>simp [intOf] <;> omega
    ·have S:=Z5 (AY Z.out (by rw [K.out];exact H) (by rw [Y.out];exact Q) he)
     have z:=Z5 (rO (nth l k) (nth X k))
     have hne : (sJ (nth l k) (nth X k) != 0)=true:=by simpa using he
     clear he
     generalize sJ (nth l k) (nth X k)=r at *
     go_wp2_with (go_at_call 212;refine (z.out _).mono ?_;rintro e w' ⟨rfl,rfl⟩)
     go_ret
     exact ⟨aK S.out.symm,rfl⟩
   ·have D : decide ((V : Int)<=(k : Int))=true:=by simp;omega
    have S : Hid (cmpL l X=1):=by show _=_;rw [qx Z.out (.inr (by rw [Y.out];omega)) (by rw [K.out];exact hk) (by rw [Y.out];exact F),K.out,Y.out,JR (by omega),JT (by omega)]
    go_wp2_with fail
    go_ret
    exact ⟨aK S.out.symm,rfl⟩
  ·have S : Hid (cmpL l X=if n<V then -1 else 0):=by show _=_;rw [qx Z.out (.inl (by rw [K.out];omega)) (by rw [K.out];exact hk) (by rw [Y.out];exact F),K.out,Y.out,JR (show ¬ V<n by omega)]
   obtain rfl : k=n:=by omega
   by_cases h2 : k<V
   ·rw [JT h2] at S
    go_wp2_with fail
    go_ret
    exact ⟨aK S.out.symm,rfl⟩
   ·rw [JR h2] at S
    go_wp2_with fail
    go_ret
    exact ⟨aK S.out.symm,rfl⟩
section
variable {O : aM} {El : Int->Prop} {m : Nat} {L : Ll}
end
end Go.Proofs.YthglbncgemdcbaaGreat
