import Derived.Test.YthglbncgemdcbaaGreatHE18
import Derived.ArgAppend
namespace Go.Proofs.YthglbncgemdcbaaGreat
set_option linter.all false
set_option maxRecDepth 100000
set_option maxHeartbeats 8000000
open Go.RowKit Go.Proofs.Tryz
def qD (P M : Int) (mod : LI) (m : Nat) (L : Ll) (w : World) (e : Ending) (w' : World) : Prop :=
 ∃a1 c1 a2 c2,e = .returned (.tuple #[.agg #[.int .i64 P,.int .i64 M,.slice a1 mod.length c1,.int .i64 m,.slice a2 (bL (ah P M.toNat mod) L m).length c2],.int .i64 0])/\bA w.heap.size w' a1 mod.length mod /\
  bQ w.heap.size w' a2 (bL (ah P M.toNat mod) L m).length (bL (ah P M.toNat mod) L m)/\Mv w w'
theorem nP (P M : Int) (am : OA) (mn cm : Nat) (mod : LI) (m : Nat) (a : OA) (n c : Nat) (L : Ll) (w : World) (hmod : Ints w am mn mod) (hi : bC w a n L)
  (hE : dk P M mod m L=0) (hm1 : 1<=m) (hm64 : m<=64) (hmn : mn<=1000000) :
  Calls prog 68 #[.agg #[.int .i64 P,.int .i64 M,.slice am mn cm],.agg #[.int .i64 m,.slice a n c]] w (qD P M mod m L w):=by
 go_enter func68,ntmps68;go_upto_region 1 with fail;obtain ⟨W,hW⟩ : ∃W : World,W=((w.alloc (.cells #[.int .i64 P,.int .i64 M,.slice am mn cm] 24)).alloc (.cells #[.int .i64 m,.slice a n c] 94)).alloc (.cells #[.int .i64 0,.int .i64 0,.slice none 0 0,.int .i64 0,.slice none 0 0] 27):=⟨_,rfl⟩
 rw [<- hW];have hbW : Mv w W:=by rw [hW];exact jI _ _ _ _
 have hsW : W.heap.size=w.heap.size+3:=by rw [hW];simp
 have x0 : aO W w.heap.size [.int .i64 P,.int .i64 M,.slice am mn cm]:=by rw [hW];exact ((LZ _ _ _ rfl).alloc _).alloc _
 have y0 : aO W (w.heap.size+1) [.int .i64 m,.slice a n c]:=by rw [hW];exact (LZ _ _ _ (by simp)).alloc _
 have z0 : aO W (w.heap.size+1+1) [.int .i64 0,.int .i64 0,.slice none 0 0,.int .i64 0,.slice none 0 0]:=by rw [hW];exact LZ _ _ _ (by simp)
 clear hW;have HC : Hid (Calls prog 118 #[.agg #[.int .i64 P,.int .i64 M,.slice am mn cm],.agg #[.int .i64 m,.slice a n c]] W λe w'=>Mv W w'/\∃a2 c2 ap cp,e = .returned (.tuple #[.agg #[.int .i64 m,.slice a2 (bL (ah P M.toNat mod) L m).length c2],.slice ap (bL (ah P M.toNat mod) L m).length cp,.int .i64 0]) /\
   bQ W.heap.size w' a2 (bL (ah P M.toNat mod) L m).length (bL (ah P M.toNat mod) L m)):=by
  refine (lf P M am mn cm mod m a n c L W (hmod.af hbW) (hi.af hbW)).mono ?_;rintro e w1 ⟨hb1,⟨h0,_⟩ | ⟨_,m',hm',a1,c1,ap,cp,rfl,hN1,_⟩⟩
  ·exact absurd hE h0
  ·obtain rfl : m=m':=by omega
   rw [<- dB] at hN1 ⊢;exact ⟨hb1,a1,c1,ap,cp,rfl,hN1⟩
 have HO : Hid (∀V a5 k5 c5,Mv W V->Calls prog 120 #[.agg #[.int .i64 P,.int .i64 M,.slice am mn cm],.agg #[.int .i64 m,.slice a5 k5 c5],.int .i64 0] V (nf P M mod m a5 k5 c5 V)):=λV a5 k5 c5 hV =>
  y5 P M am mn cm mod m a5 k5 c5 V (hmod.af (LY hbW hV)) hmn
 have HPost : Hid (∀a1 c1 a2 c2 w',bA w.heap.size w' a1 mod.length mod->bQ w.heap.size w' a2 (bL (ah P M.toNat mod) L m).length (bL (ah P M.toNat mod) L m)->Mv w w' ->
   qD P M mod m L w (.returned (.tuple #[.agg #[.int .i64 P,.int .i64 M,.slice a1 mod.length c1,.int .i64 m,.slice a2 (bL (ah P M.toNat mod) L m).length c2],.int .i64 0])) w'):=λa1 c1 a2 c2 w' h1 h2 h3=>⟨a1,c1,a2,c2,rfl,h1,h2,h3⟩
 have Hle : Hid (gK (m : Int)=0):=o0 (by omega) (by omega);obtain ⟨KM,hKM⟩ : ∃KM,bL (ah P M.toNat mod) L m=KM:=⟨_,rfl⟩
 rw [hKM] at HC HPost;have hS : ∀V,Mv W V->V.cell? ⟨w.heap.size,0,none⟩=some (.int .i64 P)/\V.cell? ⟨w.heap.size,1,none⟩=some (.int .i64 M)/\V.cell? ⟨w.heap.size,2,none⟩=some (.slice am mn cm)/\V.cell? ⟨w.heap.size+1,0,none⟩=some (.int .i64 m)/\V.cell? ⟨w.heap.size+1,1,none⟩=some (.slice a n c) /\
   aO V (w.heap.size+1+1) [.int .i64 0,.int .i64 0,.slice none 0 0,.int .i64 0,.slice none 0 0]:=λV hV=>by have x1:=x0.af hV;have y1:=y0.af hV;exact ⟨x1.cell 0 rfl,x1.cell 1 rfl,x1.cell 2 rfl,y1.cell 0 rfl,y1.cell 1 rfl,z0.af hV⟩
 have HS:=Z5 hS;have HbW:=Z5 hbW;have HsW:=Z5 hsW;obtain ⟨q,hq⟩ : ∃q,KM.length=q:=⟨_,rfl⟩
 rw [hq] at HC HPost;clear hE hKM hS x0 y0 z0 hbW hsW hmod hi hq;go_cut [6,7,8] (λv6 v7 v8 wx=>∃g a5 c5,v6 = .pointer (some ⟨g,0,none⟩)/\v8 = .int .i64 0/\wx.cell? ⟨g,0,none⟩=some (.int .i64 m)/\wx.cell? ⟨g,1,none⟩=some (.slice a5 q c5)/\bQ W.heap.size wx a5 q KM/\Mv W wx);case first =>
  obtain ⟨c0,c1,c2,c3,c4,_⟩:=HS.out W (GS _ _)
  go_wp2_with fail
  refine HC.out.mono ?_
  rintro e w1 ⟨hb1,a5,c5,ap,cp,rfl,hN5⟩
  clear c0 c1 c2 c3 c4
  go_wp2_with fail
  go_meet
  exact ⟨w1.heap.size,a5,c5,rfl,rfl,aE _ _ _ rfl 0,aE _ _ _ rfl 1,hN5.af (an _ _),LY hb1 (an _ _)⟩
 obtain ⟨g,a5,c5,rfl,rfl,g0,g1,hN5,hb5⟩:=hcut;generalize wc=V at *;obtain ⟨c0,c1,c2,c3,c4,zz⟩:=HS.out V hb5;have HOV:=Z5 (HO.out V a5 q c5 hb5);clear HC HO;go_wp2_with fail;refine (pr m V).mono ?_;rintro e w5 ⟨rfl,rfl⟩;rw [Hle.out];go_wp2_with fail;refine HOV.out.mono ?_;rintro e w6 ⟨a6,c6,rfl,hN6,hb6⟩;obtain ⟨_,_,_,_,_,zz6⟩:=HS.out w6 (LY hb5 hb6);have z0:=zz6.cell 0 rfl;have z1:=zz6.cell 1 rfl;have z2:=zz6.cell 2 rfl;have z3:=zz6.cell 3 rfl;have z4:=zz6.cell 4 rfl;have f0:=zz6.frozen 0;have f1:=zz6.frozen 1;have f2:=zz6.frozen 2;have f3:=zz6.frozen 3;have f4:=zz6.frozen 4;have hbF:=LY HbW.out (LY hb5 hb6);have hs:=HsW.out;have hs2:=hb5.size;have hM6:=hN5.af hb6;have hFin:=HPost.out a6 c6 a5 c5 (((((w6.setCell ⟨w.heap.size+1+1,0,none⟩ (.int .i64 P)).setCell ⟨w.heap.size+1+1,1,none⟩ (.int .i64 M)).setCell ⟨w.heap.size+1+1,2,none⟩ (.slice a6 mod.length c6)).setCell ⟨w.heap.size+1+1,3,none⟩ (.int .i64 m)).setCell ⟨w.heap.size+1+1,4,none⟩ (.slice a5 q c5))
  ((((((hN6.setCell (p:=⟨w.heap.size+1+1,0,none⟩) (by simp;omega) _).setCell (p:=⟨w.heap.size+1+1,1,none⟩) (by simp;omega) _).setCell (p:=⟨w.heap.size+1+1,2,none⟩) (by simp;omega) _).setCell (p:=⟨w.heap.size+1+1,3,none⟩) (by simp;omega) _).setCell (p:=⟨w.heap.size+1+1,4,none⟩) (by simp;omega) _).mono (by omega))
  ((((((hM6.setCell (p:=⟨w.heap.size+1+1,0,none⟩) (by simp;omega) _).setCell (p:=⟨w.heap.size+1+1,1,none⟩) (by simp;omega) _).setCell (p:=⟨w.heap.size+1+1,2,none⟩) (by simp;omega) _).setCell (p:=⟨w.heap.size+1+1,3,none⟩) (by simp;omega) _).setCell (p:=⟨w.heap.size+1+1,4,none⟩) (by simp;omega) _).mono (by omega))
  (((((hbF.setCell (p:=⟨w.heap.size+1+1,0,none⟩) (by simp;omega) _).setCell (p:=⟨w.heap.size+1+1,1,none⟩) (by simp;omega) _).setCell (p:=⟨w.heap.size+1+1,2,none⟩) (by simp;omega) _).setCell (p:=⟨w.heap.size+1+1,3,none⟩) (by simp;omega) _).setCell (p:=⟨w.heap.size+1+1,4,none⟩) (by simp;omega) _)
 have HFin:=Z5 hFin;clear hFin hM6 hN5 hN6 HOV zz zz6;go_wp2_with fail;exact bodyPost_ret (v:=.tuple #[.agg #[.int .i64 P,.int .i64 M,.slice a6 mod.length c6,.int .i64 m,.slice a5 q c5],.int .i64 0]) (by simp [results,results68,go_sem,z0,z1,z2,z3,z4]) rfl HFin.out
theorem sT {O O' : aM} {El : Int->Prop} (F : bZ O El) (h : Fc O O' El) {m : Nat} {L : Ll} (hL : bG El m L) {x : LI} (hx : ∀k,k<L.length->El (nth x k)) : ∀k,k<=L.length->cmbTo O m x L k=cmbTo O' m x L k
 | 0,_=>rfl
 | k+1,hk=>by have h1:=(jN F hL hx k (by omega)).1;rw [cmbTo,cmbTo,<- sT F h hL hx k (by omega),lK h F.cl _ _ _ h1.2 (hL.row (i:=k) (by omega)).2 (hx k (by omega))]
theorem uy (P : Int) (m : Nat) (am : OA) (mn cm : Nat) (mod : LI) (ax : OA) (cx : Nat) (x : LI) (a : OA) (n c : Nat) (L : Ll) (cols : Nat) (w : World) (hf : ru w P m am mn mod)
  (hx : Ints w ax n x) (hi : bC w a n L) (hxe : ∀k,k<n->eo P m (nth x k)) (hR : bG (eo P m) cols L) (hv : ∀k,k<=n->Vc (eo P m) cols (cmbTo (jF P m mod) cols x L k)) (hc : cols<=1000000) (hn : n<=1000000) :
  Calls prog 213 #[.agg #[.int .i64 P,.int .i64 m,.slice am mn cm],.slice ax n cx,.slice a n c,.int .i64 cols] w λe w' =>
   ∃a1 c1,e = .returned (.slice a1 cols c1)/\w'.ownsRow w.heap.size 3 1 (.slice a1 cols c1) cols ((cmbTo (jF P m mod) cols x L n).map (Value.int .i64))/\Mv w w':=by
 have Hil:=Z5 hi.len;have hplx:=hx.pl;have hpla:=hi.pl;have HR:=Z5 hR;have Hv:=Z5 hv;have Hxe:=Z5 hxe;obtain ⟨O,hO⟩ : ∃O,jF P m mod=O:=⟨_,rfl⟩
 have HA : Hid (∀V k a1 c1 ra rc,k<n->Mv w V->Ints V a1 cols (cmbTo O cols x L k)->Ints V ra cols (ai L k)->∀V2,Mv V V2 ->
   Calls prog 227 #[.agg #[.int .i64 P,.int .i64 m,.slice am mn cm],.slice a1 cols c1,.int .i64 (nth x k),.slice ra cols rc] V2 λe w' =>
    ∃a2 c2,e = .returned (.slice a2 cols c2)/\w'.ownsRow V2.heap.size 3 1 (.slice a2 cols c2) cols ((cB O (cmbTo O cols x L k) (nth x k) (ai L k)).map (Value.int .i64))/\Mv V2 w'):=λV k a1 c1 ra rc hk hV h1 h2 V2 hV2=>by have hrow:=HR.out.row (i:=k) (by rw [Hil.out];exact hk);have hvk:=Hv.out k (by omega);rw [hO] at hvk;have h:=pc P m am mn cm mod a1 cols c1 (cmbTo O cols x L k) (nth x k) ra rc (ai L k) V2 (hf.af (LY hV hV2)) (Hxe.out k hk) (h1.af hV2) (h2.af hV2) hvk.2 hrow.2 hc;refine h.mono ?_;rintro e w' ⟨a2,c2,rfl,hown,hb⟩;rw [hO,dq _ _ _ _ (by rw [hrow.1,hvk.1]),hvk.1] at hown;rw [hO,dq _ _ _ _ (by rw [hrow.1,hvk.1]),hvk.1];exact ⟨a2,c2,rfl,hown,hb⟩
 have hz : (cmbTo O cols x L 0).map (Value.int .i64)=List.replicate cols (Value.int .i64 0):=by simp [cmbTo]
 have Hz:=Z5 hz;rw [hO];clear hO hR hv hxe hz;go_enter func213,ntmps213;go_upto_region 1 with fail;obtain ⟨W,hW⟩ : ∃W : World,W=w.alloc (.cells #[.int .i64 P,.int .i64 m,.slice am mn cm] 24):=⟨_,rfl⟩
 rw [<- hW];have hbW : Mv w W:=by rw [hW];exact an _ _
 have x0 : aO W w.heap.size [.int .i64 P,.int .i64 m,.slice am mn cm]:=by rw [hW];exact LZ _ _ _ rfl
 have HX:=Z5 x0;have HbW:=Z5 hbW;have hxW:=hx.af hbW;have hiW:=hi.af hbW;clear hW x0;go_wp2_with (at_make;refine bP rfl _ _ 22 3 rfl (.int .i64 0) 8 underlying22 bg rfl cols rfl rfl (by omega) (by unfold maxLen;omega) ?_;intro a5 w5 hown hbel hge hlt);have hown0 : w5.ownsRow W.heap.size 3 1 (.slice a5 cols cols) cols ((cmbTo O cols x L 0).map (Value.int .i64)):=by rw [Hz.out];exact hown
 clear hown hge hlt;go_loopw [9,10] (λov iv wr=>∃(k : Nat) (a1 : OA) (c1 : Nat),k<=n/\iv = .int .i64 k/\ov = .slice a1 cols c1/\wr.ownsRow W.heap.size 3 1 (.slice a1 cols c1) cols ((cmbTo O cols x L k).map (Value.int .i64))/\Mv W wr) (λ_ iv _=>n - (intOf iv).toNat);case atStart=>exact ⟨0,a5,cols,G0 _,rfl,rfl,hown0,hbel⟩
 case round =>
  clear hown0 hbel
  obtain ⟨k,a1,c1,hk,rfl,rfl,hown,hbr⟩:=hrel
  by_cases hlt : k<n
  ·have cxk:=(hxW.af hbr).cell k hlt
   have hrow:=HR.out.row (i:=k) (by rw [Hil.out];exact hlt)
   obtain ⟨ra,rn,rc,er,ir⟩:=(hiW.af hbr).cell k hlt
   have hrn : rn=cols:=by rw [<- ir.len];exact hrow.1
   rw [hrn] at er ir
   clear hrn hrow
   by_cases h0 : nth x k=0
   ·have h0' : (nth x k != 0)=false:=by simpa using h0
    have Hn : Hid (cmbTo O cols x L (k+1)=cmbTo O cols x L k):=by show _=_;rw [cmbTo,GV h0]
    clear h0
    go_wp2_with fail
    go_roundw
    case rel=>exact ⟨k+1,a1,c1,by omega,by go_num,rfl,by rw [Hn.out];exact hown,hbr⟩
    case measure=>simp [intOf] <;> omega
   ·have h0' : (nth x k != 0)=true:=by simpa using h0
    have Hn : Hid (cmbTo O cols x L (k+1)=cB O (cmbTo O cols x L k) (nth x k) (ai L k)):=by show _=_;rw [cmbTo,GU h0]
    have hbwr:=LY HbW.out hbr
    have Hk:=Z5 (HA.out wr k a1 c1 ra rc hlt hbwr (L0 hown).1 ir)
    have HS2 : Hid (∀V,Mv wr V->V.cell? ⟨w.heap.size,0,none⟩=some (.int .i64 P)/\V.cell? ⟨w.heap.size,1,none⟩=some (.int .i64 m)/\V.cell? ⟨w.heap.size,2,none⟩=some (.slice am mn cm) /\
      V.cell? ⟨ablk ax,aL ax+k,none⟩=some (.int .i64 (nth x k))/\V.cell? ⟨ablk a,aL a+k,none⟩=some (.slice ra cols rc)/\Mv wr V):=λV hV=>by have x1:=HX.out.af (LY hbr hV);exact ⟨x1.cell 0 rfl,x1.cell 1 rfl,x1.cell 2 rfl,ak hV cxk,ak hV er,hV⟩
    have Hbr:=Z5 hbr
    have hszr:=hbr.size
    clear h0 hbr hown ir HA
    go_wp2_with fail
    go_region_held3 (λV=>V.cell? ⟨w.heap.size,0,none⟩=some (.int .i64 P)/\V.cell? ⟨w.heap.size,1,none⟩=some (.int .i64 m)/\V.cell? ⟨w.heap.size,2,none⟩=some (.slice am mn cm) /\
      V.cell? ⟨ablk ax,aL ax+k,none⟩=some (.int .i64 (nth x k))/\V.cell? ⟨ablk a,aL a+k,none⟩=some (.slice ra cols rc)/\Mv wr V)
     ((refine HS2.out _ ?_;first | exact (GS _ _).drew | exact LY (GS _ _).drew hb4))
     (first
      | (go_at_call 227;((with_reducible refine (Hk.out _ (GS _ _).drew).mono ?_);rintro e w4 ⟨a4,c4,rfl,hown4,hb4⟩)))
    have hbr4:=LY Hbr.out (LY (GS _ _).drew hb4)
    have hown5:=bd hown4 (show W.heap.size<=wr.drew.heap.size from hszr)
    go_wp2_with fail
    go_roundw
    case rel=>exact ⟨k+1,a4,c4,by omega,by go_num,rfl,by rw [Hn.out];exact hown5,hbr4⟩
    case measure=>simp [intOf] <;> omega
  ·obtain rfl : k=n:=by omega
   have hF:=bd hown HbW.out.size
   have HF:=Z5 hF
   have hbF:=LY HbW.out hbr
   clear hF hown
   go_wp2_with fail
   go_ret
   exact ⟨a1,c1,rfl,HF.out,hbF⟩
def kd (q : Int) (l : LI) (n : Nat) : Int:=if l.length=n then iU q l else 4
theorem wz (P M : Int) (am : OA) (mn cm : Nat) (a : OA) (n c : Nat) (l : LI) (k : Nat) (w : World) (hi : Ints w a n l) :
  Calls prog 36 #[.agg #[.int .i64 P,.int .i64 M,.slice am mn cm],.slice a n c,.int .i64 k] w λe w'=>e = .returned (.int .i64 (kd (aI P M) l k))/\Mv w w':=by
 have hl:=hi.len;go_enter func36,ntmps36;go_upto_region 1 with fail;obtain ⟨W,hW⟩ : ∃W : World,W=w.alloc (.cells #[.int .i64 P,.int .i64 M,.slice am mn cm] 24):=⟨_,rfl⟩
 rw [<- hW];have hbW : Mv w W:=by rw [hW];exact an _ _
 have x0 : aO W w.heap.size [.int .i64 P,.int .i64 M,.slice am mn cm]:=by rw [hW];exact LZ _ _ _ rfl
 have c0:=x0.cell 0 rfl;have c1:=x0.cell 1 rfl;have c2:=x0.cell 2 rfl;clear hW x0;by_cases h1 : n=k
 ·have HL : Hid (kd (aI P M) l k=iU (aI P M) l):=by show _=_;rw [kd,GV (by omega)]
  have Hc:=Z5 (ml P M am mn cm a n c l W (hi.af hbW));have h1' : ((n : Int) != k)=false:=by rw [show (n : Int)=k by omega];simp
  clear h1 hl;generalize iU (aI P M) l=er at *;go_wp2_with fail;refine Hc.out.mono ?_;rintro e w1 ⟨rfl,hb1⟩;have hF:=LY hbW hb1;go_wp2_with fail;go_ret;exact ⟨aK HL.out.symm,hF⟩
 ·have HL : Hid (kd (aI P M) l k=4):=by show _=_;rw [kd,GU (by omega)]
  have h1' : ((n : Int) != k)=true:=by simp only [bne_iff_ne,ne_eq];omega
  clear h1 hl;go_wp2_with fail;go_ret;exact ⟨aK HL.out.symm,hbW⟩
theorem zg {w : World} {b : Nat} {G : bX} (h : dz w b G) :
  Calls prog 63 #[.pointer (some ⟨b,0,none⟩)] w λe w'=>e = .returned (.int .i64 (G.q : Nat))/\w=w':=by have hc:=h.cq;go_enter func63,ntmps63;go_wp2;go_ret;exact ⟨rfl,rfl⟩
theorem rp (L : Ll) {r : Nat} (h : r<L.length) : L.drop r=ai L r :: L.drop (r+1):=by rw [aD h];exact IJ h
def xG (J : List WX->World->Prop) (I : Nat->Prop) (W0 : World) (G : bX) (Bc Bat By Bg Bf n N : Nat) (R : Ll) (r : Int) (d : Nat) : Prop :=
 ∀(au : OA) (cu : Nat) (u : LI) (pre : List WX) (W : World),aB W0 W I I->J pre W->(∀x ∈ pre,ablk x.a ≠ Bat) ->
  wC W Bat pre.length->Ints W au n u->(∀j,I j->j ≠ ablk au)->(∀x ∈ u,G.El x)->pre.length+G.q ^ d<=N ->
  Calls prog 251 #[.int .i64 r,.slice au n cu,.pointer (some ⟨Bc,0,none⟩),.pointer (some ⟨Bat,0,none⟩),.pointer (some ⟨By,0,none⟩),.pointer (some ⟨Bg,0,none⟩),.pointer (some ⟨Bf,0,none⟩)] W
   λe V=>e = .returned (.bool true)/\∃xs : List WX,xs.map WX.l=wlkS G.ops G.q R u/\J (pre ++ xs) V/\(∀x ∈ pre ++ xs,ablk x.a ≠ Bat)/\wC V Bat (pre ++ xs).length/\aB W V I I
theorem uu {W0 : World} {b : Nat} {G : bX} {Bc Bat By Bg Bf l : Nat} {ag : OA} {k cg n : Nat} {L : Ll} {I : Nat->Prop}
  (J : List WX->World->Prop) (hIB : I Bat) (hIl : ∀x,I x->x<W0.heap.size)
  (HE : ∀V,aB W0 V I I->Fx V b G Bc Bat By Bg Bf l ag k cg L)
  (hJa : ∀pre V V',J pre V->Mv V V'->J pre V')
  (N : Nat) (hn : n<=1000000) (hn1 : 1<=n) (hL : bG G.El n L) (hk6 : k<=1000000) (hops : oF G.ops G.El) (d r : Nat) (hrd : r+(d+1)=k)
  (hI : xG J I W0 G Bc Bat By Bg Bf n N (L.drop (r+1)) ((r : Int)+1) d) : xG J I W0 G Bc Bat By Bg Bf n N (L.drop r) r (d+1):=by
 intro au cu u pre W hW hJ hp hat hu hau hue hcnt;obtain rfl : u.length=n:=hu.len;have hrk : r<k:=by omega
 have E:=HE W hW;have hLl : L.length=k:=E.jX.len;have hq2 : 2<=G.q:=E.gf.q2;have hq256 : G.q<=256:=E.gf.q256;have Hdrop : Hid (L.drop r=ai L r :: L.drop (r+1)):=rp L (by omega);have Hcnt:=Z5 hcnt;have HI:=Z5 hI;have HJa:=Z5 hJa;have HHE:=Z5 HE;have HIl:=Z5 hIl;have Hau:=Z5 hau;have Hue:=Z5 hue;have HL:=Z5 hL;have Hp:=Z5 hp;have HLl:=Z5 hLl;have Hhat:=Z5 hat;obtain ⟨cgen,hmat,cyl,cgp,hgf,cfr,hltB⟩:=E;have hne : (decide ((r : Int)=(k : Int)))=false:=by simp;omega
 clear hmat cyl cfr hltB hcnt hI hJa HE hIl hau hue hL hp hat hLl;go_enter func251,ntmps251;go_wp2_with (go_at_call 63;refine (zg hgf).mono ?_;rintro e w' ⟨rfl,rfl⟩);go_loopw [29] (λiv wr=>∃(t : Nat) (xs : List WX),t<=G.q/\iv = .int .i64 t/\xs.map WX.l=mI G.ops G.q (ai L r) (L.drop (r+1)) u t/\J (pre ++ xs) wr/\Hid (∀x ∈ pre ++ xs,ablk x.a ≠ Bat) /\
   Hid (wC wr Bat (pre ++ xs).length)/\aB W wr I I) (λiv _=>G.q - (intOf iv).toNat)
 case atStart=>exact ⟨0,[],G0 _,rfl,by simp [mI],by rw [Jr];exact hJ,by rw [Jr];exact Hp.out,by rw [Jr];exact Hhat.out,Ma _ _⟩
 case round =>
  obtain ⟨t,xs,ht,rfl,hxs,hJx,hpx,hatx,hmx⟩:=hrel
  by_cases hlt : t<G.q
  ·generalize wr=X1 at *
   have hMX:=hW.trans hmx
   have hux : Ints X1 au u.length u:=hu.dG hmx (λ_ h=>Hau.out _ h rfl)
   have EX:=HHE.out X1 hMX
   obtain ⟨ar,mr,cr,hrow,hrI⟩:=EX.jX.cell r (by omega)
   have Hxs:=Z5 hxs
   clear hxs
   have hrl : (ai L r).length=u.length:=(HL.out _ (gv (by rw [HLl.out];exact hrk))).1
   obtain rfl : mr=u.length:=by rw [<- hrl];exact hrI.len.symm
   have HrI:=Z5 hrI
   have hplG:=EX.jX.pl
   go_wp2_with (go_at_call 115;refine (ch au u.length cu u hux hn).mono ?_;rintro e w4 ⟨a4,c4,rfl,ho4,hb4⟩;have E4:=HHE.out w4 (hMX.trans (L4 hb4 I));have g4:=E4.gen;have r4:=(hb4.cell (p:=⟨ablk ag,aL ag+r,none⟩) (G8 _ _ hrow)).trans hrow)
   have hNl:=kB G.ops u t (ai L r) hrl
   have hrE : ∀x ∈ ai L r,G.El x:=(HL.out _ (gv (by rw [HLl.out];exact hrk))).2
   have hte : G.El (t : Int):=⟨by omega,by omega⟩
   have hNe:=Ey hops Hue.out hrE hte hrl
   have hNth : ∀j,j<u.length->nth (kD G.ops u t (ai L r)) j=if (t : Int) ≠ 0/\nth (ai L r) j ≠ 0 then G.add (nth u j) (G.mul t (nth (ai L r) j)) else nth u j:=by
    intro j hj;by_cases h0 : (t : Int)=0
    ·rw [GU (λh=>h.1 h0)];unfold kD;rw [GV h0]
    ·rw [wZ G.ops u t _ j hrl hj h0];by_cases h1 : nth (ai L r) j=0
     ·rw [GV h1,GU (λh=>h.2 h1)]
     ·rw [GU h1,GV ⟨h0,h1⟩];rfl
   have HNl:=Z5 hNl
   have HNe:=Z5 hNe
   have HNth:=Z5 hNth
   have HrE:=Z5 hrE
   have Hrl:=Z5 hrl
   have Hsuc : Hid (mI G.ops G.q (ai L r) (L.drop (r+1)) u (t+1)=mI G.ops G.q (ai L r) (L.drop (r+1)) u t ++ wlkS G.ops G.q (L.drop (r+1)) (kD G.ops u t (ai L r))):=yA _ _ _ _ _ _
   have hlX : Hid (X1.heap.size ≥ W0.heap.size):=hMX.size
   have Hr : Hid (Ints X1 ar u.length (ai L r)):=hrI
   clear hNl hNe hNth hrE hrl hux EX E4 g4 r4 hrI HrI hplG
   generalize kD G.ops u t (ai L r)=Nw at *
   generalize hRo : ai L r=Ro at *
   have HRo:=Z5 hRo
   clear hRo
   go_loopw [40] (λiv wr=>∃kk : Nat,kk<=u.length/\iv = .int .i64 kk/\wr.ownsRow X1.heap.size 3 1 (.slice a4 u.length c4) u.length ((fD Nw u kk).map (Value.int .i64))/\Mv X1 wr) (λiv _=>u.length - (intOf iv).toNat)
   case atStart=>exact ⟨0,G0 _,rfl,by rw [eJ];exact ho4,hb4⟩
   case round =>
    obtain ⟨kk,hkk,rfl,hown,hbr⟩:=hrel
    have Er:=HHE.out wr (hMX.trans (L4 hbr I))
    by_cases hlk : kk<u.length
    ·have hir:=Hr.out.af hbr
     have hpr:=hir.pl
     have cir:=hir.cell kk hlk
     have hkN : Nw.length=u.length:=HNl.out
     have hval:=HNth.out kk hlk
     have hmix:=dU Nw u kk kk hkN (by omega)
     rw [GU (by omega)] at hmix
     by_cases hz : (t : Int) ≠ 0/\nth Ro kk ≠ 0
     ·rw [GV hz] at hval
      have hset:=eC Nw u kk hkN hlk
      rw [hval] at hset
      have Hset:=Z5 hset
      obtain ⟨hiv,hmv⟩:=L0 hown
      have hpv:=hiv.pl
      have cv1:=hiv.cell kk hlk
      have fv1:=(hmv (by omega)).2 kk hlk
      rw [hmix] at cv1
      have elu : G.El (nth u kk):=Hue.out _ (aH hlk)
      have elr : G.El (nth Ro kk):=HrE.out _ (aH (by rw [Hrl.out];exact hlk))
      have cgr:=Er.gp
      have hGr:=Er.gf
      have elm : ∀x y,G.El (G.mul x y):=λx y=>Mk hGr x y
      have HG : Hid (dz wr.drew b G/\∀n,dz (wr.drewN n) b G):=⟨hGr.af (GS _ _).drew,λn=>hGr.drewN n⟩
      have hz1 : ((t : Int) != 0)=true:=by simpa using hz.1
      have hz2 : (nth Ro kk != 0)=true:=by simpa using hz.2
      have Hiv:=Z5 hiv
      clear hval hmix hset hkN hz Er hGr hir hiv hmv
      go_wp2_with fail
      go_region_law ((first
       | (go_simp;go_at_call 57;((with_reducible refine (mG t (nth Ro kk) HG.out.1 hte elr).mono ?_);rintro e w4 ⟨m4,rfl,rfl⟩))
       | (go_simp;go_at_call 57;((with_reducible refine (mG t (nth Ro kk) (HG.out.2 _) hte elr).mono ?_);rintro e w4 ⟨m4,rfl,rfl⟩))
       | (go_simp;go_at_call 56;((with_reducible refine (FE (nth u kk) (G.mul t (nth Ro kk)) (HG.out.2 _) elu (elm _ _)).mono ?_);rintro e w4 ⟨m5,rfl,rfl⟩))))
      all_goals (
       go_wp2_with fail
       go_roundw
       case rel =>
        have hdr : aY wr (wr.drewN (1+m4+m5)):=⟨_,rfl⟩
        have h1:=bt (w:=wr.drewN (1+m4+m5)) hown kk hlk (.int .i64 (G.add (nth u kk) (G.mul t (nth Ro kk))))
        rw [<- Im,Hset.out] at h1
        have hlo:=(aS hown (λe=>by have:=hpv (by omega);rw [e] at this;cases this)).1
        exact ⟨kk+1,by omega,by go_num,h1,(hbr.trans (hdr.below.mono hbr.size)).trans ((GS _ _).setCell (p:=⟨ablk a4,aL a4+kk,none⟩) hlo _)⟩
       case measure=>simp [intOf] <;> omega)
     ·rw [GU hz] at hval
      have hsame:=lJ Nw u kk hkN hlk hval
      have Hsame:=Z5 hsame
      by_cases h0 : (t : Int)=0
      ·have hz1 : ((t : Int) != 0)=false:=by simpa using h0
       clear hval hmix hsame hkN hz h0 Er
       go_wp2_with fail
       go_roundw
       case rel=>exact ⟨kk+1,by omega,by go_num,by rw [Hsame.out];exact hown,hbr⟩
       case measure=>simp [intOf] <;> omega
      ·have hz1 : ((t : Int) != 0)=true:=by simpa using h0
       have hz2 : (nth Ro kk != 0)=false:=by
        have : nth Ro kk=0:=by
         by_cases h1 : nth Ro kk=0
         ·exact h1
         ·exact absurd ⟨h0,h1⟩ hz
        simpa using this
       clear hval hmix hsame hkN hz h0 Er
       go_wp2_with fail
       go_roundw
       case rel=>exact ⟨kk+1,by omega,by go_num,by rw [Hsame.out];exact hown,hbr⟩
       case measure=>simp [intOf] <;> omega
    ·obtain rfl : kk=u.length:=by omega
     rw [fG Nw u _ HNl.out rfl] at hown
     have hMr : aB X1 wr I I:=L4 hbr I
     have hfr:=Er.fr
     have hJr:=HJa.out _ _ _ hJx hbr
     have hatr : wC wr Bat (pre ++ xs).length:=wC.af hatx.out hbr
     obtain ⟨hiv,_⟩:=L0 hown
     have hblk : ∀j,I j->j ≠ ablk a4:=λj hj=>by have h1:=HIl.out j hj;have h2:=(aS hown (λe=>by have:=hiv.pl (by omega);rw [e] at this;cases this)).1;have h3 : X1.heap.size ≥ W0.heap.size:=hlX;omega
     have hxl : xs.length=t * G.q ^ d:=by have h1:=congrArg List.length Hxs.out;rw [H8,uO,KH,HLl.out,show k - (r+1)=d by omega] at h1;exact h1
     have hcnt2 : (pre ++ xs).length+G.q ^ d<=N:=by have h1:=Hcnt.out;have h2 : (t+1) * G.q ^ d<=G.q * G.q ^ d:=K8 _ (by omega);rw [Jt,IU] at h1;rw [Nat.add_mul,Nat.one_mul] at h2;rw [H5,hxl];omega
     have Hc:=Z5 (HI.out a4 c4 Nw (pre ++ xs) wr (hMX.trans hMr) hJr hpx.out hatr hiv hblk HNe.out hcnt2)
     clear hiv hblk hxl hcnt2 hatr hJr Er
     go_wp2_with (go_at_call 251;refine Hc.out.mono ?_;rintro e V ⟨rfl,xs2,hx2,hJ2,hp2,hat2,hm2⟩)
     have Hx2:=Z5 hx2
     have Hp2:=Z5 hp2
     have Hat2:=Z5 hat2
     clear hx2 hp2 hat2
     go_wp2_with fail
     go_roundw
     case rel=>exact ⟨t+1,xs ++ xs2,by omega,by go_num,by rw [II,Hxs.out,Hx2.out,<- Hsuc.out,HRo.out],by rw [<- IZ];exact hJ2,by rw [<- IZ];exact Hp2.out,by rw [<- IZ];exact Hat2.out,hmx.trans (hMr.trans hm2)⟩
     case measure=>simp [intOf] <;> omega
  ·obtain rfl : t=G.q:=by omega
   go_wp2_with fail
   go_ret
   refine ⟨rfl,xs,?_,hJx,hpx.out,hatx.out,hmx⟩
   rw [hxs,Hdrop.out];rfl
theorem u7 {W0 : World} {b : Nat} {G : bX} {Bc Bat By Bg Bf l : Nat} {ag : OA} {k cg n : Nat} {L : Ll} {I : Nat->Prop}
  (J : List WX->World->Prop) (M : Nat->Prop) (hMI : ∀x,M x->I x) (hIB : I Bat) (hMB : ¬ M Bat) (hIl : ∀x,I x->x<W0.heap.size)
  (HE : ∀V,aB W0 V I I->Fx V b G Bc Bat By Bg Bf l ag k cg L)
  (hJa : ∀pre V V',J pre V->Mv V V'->J pre V')
  (hJb : ∀pre V v,(∀x ∈ pre,ablk x.a ≠ Bat)->J pre V->J pre (V.setCell ⟨Bat,0,none⟩ v))
  (N : Nat)
  (hY : ∀m pre x V,aB W0 V I I->J pre V->pre.length<N->Ints V x.a n x.l->(∀j,I j->j ≠ ablk x.a)->F7 l n J M m pre x V)
  (hN : N<=1000000) (hn : n<=1000000) (hn1 : 1<=n) (hL : bG G.El n L) (hk6 : k<=1000000) (hops : oF G.ops G.El) : ∀(d r : Nat),r+d=k ->
   xG J I W0 G Bc Bat By Bg Bf n N (L.drop r) r d
 | 0,r,hr=>by obtain rfl : r=k:=hr;intro au cu u pre W hW hJ hp hat hu hau hue hcnt;refine (sY J M hMI hIB hMB hIl HE hJa hJb N hY hN hn hn1 au cu u pre W hW hJ hp hat hu hau (by rw [Nat.pow_zero] at hcnt;omega)).mono ?_;rintro e V ⟨he,xs,h1,h2⟩;refine ⟨he,xs,?_,h2⟩;rw [h1,IQ (by rw [(HE W hW).jX.len];exact GQ _)];rfl
 | d+1,r,hr=>uu J hIB hIl HE hJa N hn hn1 hL hk6 hops d r hr (u7 J M hMI hIB hMB hIl HE hJa hJb N hY hN hn hn1 hL hk6 hops d (r+1) (by omega))
section
open Go.RowKit
end
theorem j8 {P M : Int} {mod : LI} {m : Nat} {D : Ll} (hfB : ba P M mod=true) (hm : m<=256) (hD : D.length<=256) (hR : bG (ah P M.toNat mod).El m D) : dk P M mod m D=0:=by
 unfold dk;rw [GV hfB];unfold eU;rw [GU (by omega)];have hsh : gW (m : Int) D=true:=by unfold gW;rw [IG];intro r hr;have:=(hR r hr).1;simp;omega
 rw [GU (by rw [hsh];decide),GV];rw [IG];intro r hr;unfold dR gE;rw [IG];intro x hx;have:=(hR r hr).2 x hx;unfold bX.El at this;simp;exact this
section
open Go.RowKit
end
section
open Go.RowKit
end
section
open Go.RowKit
end
theorem AG {w : World} {b : Nat} {G : bX} (q : Nat) (x : Int) (hc : w.cell? ⟨q,0,none⟩=some (.pointer (some ⟨b,0,none⟩))) (h : dz w b G) :
  Calls prog 144 #[.int .i64 x,.pointer (some ⟨q,0,none⟩)] w λe w'=>e = .returned (.bool (!(decide (0<=x) && decide (x<G.q))))/\w=w':=by
 go_enter func144,ntmps144;go_wp2_with fail;refine (F9 x h).mono ?_;rintro e w' ⟨rfl,rfl⟩;obtain ⟨z,hz⟩ : ∃z,(decide (0<=x) && decide (x<G.q))=z:=⟨_,rfl⟩
 have Hz:=Z5 hz;rw [hz];clear hz;cases z
 ·go_wp2_with fail;go_ret;exact ⟨aR (by rw [Hz.out];rfl),rfl⟩
 ·go_wp2_with fail;go_ret;exact ⟨aR (by rw [Hz.out];rfl),rfl⟩
theorem vL (p : Int->Bool) (q : Nat) (a : OA) (n c : Nat) (l : LI) (w : World) (hi : Ints w a n l) (hf : ∀k,k<n->Calls prog 144 #[.int .i64 (nth l k),.pointer (some ⟨q,0,none⟩)] w λe w'=>e = .returned (.bool (p (nth l k)))/\w=w') :
  Calls prog 111 #[.slice a n c,.func (.func 144) #[] #[.pointer (some ⟨q,0,none⟩)]] w λe w'=>∃z : Int,e = .returned (.int .i64 z)/\(0<=z ↔ l.any p=true)/\w=w':=by
 have hpl:=hi.pl;have hmax:=hi.max;have HF:=Z5 hf;have Hl:=Z5 hi.len;unfold maxLen at hmax;clear hf;go_enter func111,ntmps111;go_wp2_with fail;go_loop [8] (λiv=>∃k : Nat,k<=n/\iv = .int .i64 k/\Hid (∀j,j<k->p (nth l j)=false)) (λiv=>n - (intOf iv).toNat);case atStart=>exact ⟨0,G0 _,rfl,λj hj=>by omega⟩
 case round =>
  obtain ⟨k,hk,rfl,hno⟩:=hrel
  by_cases hlt : k<n
  ·have ck:=hi.cell k hlt
   have hfk:=HF.out k hlt
   obtain ⟨z,hz⟩ : ∃z,p (nth l k)=z:=⟨_,rfl⟩
   rw [hz] at hfk
   have Hk:=Z5 hfk
   cases z
   ·have Hn : Hid (∀j,j<k+1->p (nth l j)=false):=λj hj=>by
     by_cases e : j=k
     ·subst e;exact hz
     ·exact hno.out j (by omega)
    clear hz hfk hno
    go_wp2_with fail
    refine Hk.out.mono ?_
    rintro e w' ⟨rfl,rfl⟩
    go_wp2_with fail
    go_round
    case rel=>exact ⟨k+1,by omega,by go_num,Hn.out⟩
    case measure=>simp [intOf] <;> omega
   ·have Hy : Hid (l.any p=true):=by show _=_;rw [JV];exact ⟨nth l k,aH (by rw [Hl.out];exact hlt),hz⟩
    clear hz hfk hno
    go_wp2_with fail
    refine Hk.out.mono ?_
    rintro e w' ⟨rfl,rfl⟩
    go_wp2_with fail
    go_ret
    exact ⟨k,rfl,⟨λ_=>by first | exact Hy.out | exact List.any_eq_true.1 Hy.out,λ_=>JG _⟩,rfl⟩
  ·obtain rfl : k=n:=by omega
   have Hy : Hid (l.any p=false):=by show _=_;rw [J5];intro x hx;obtain ⟨j,hj,rfl⟩:=List.mem_iff_getElem.1 hx;have:=hno.out j (by rw [<- Hl.out];exact hj);rw [aj hj] at this;rw [this];decide
   go_wp2_with fail
   go_ret
   exact ⟨-1,rfl,⟨λh=>absurd h (by omega),λh=>by have h2 : l.any p=true:=(by first | exact h | exact List.any_eq_true.2 h);rw [Hy.out] at h2;exact absurd h2 (by decide)⟩,rfl⟩
theorem qS (p : Int->Bool) (q : Nat) (a : OA) (n c : Nat) (l : LI) (w : World) (hi : Ints w a n l) (hf : ∀k,k<n->Calls prog 144 #[.int .i64 (nth l k),.pointer (some ⟨q,0,none⟩)] w λe w'=>e = .returned (.bool (p (nth l k)))/\w=w') :
  Calls prog 53 #[.slice a n c,.func (.func 144) #[] #[.pointer (some ⟨q,0,none⟩)]] w λe w'=>e = .returned (.bool (l.any p))/\w=w':=by
 have Hc:=Z5 (vL p q a n c l w hi hf);clear hf;go_enter func53,ntmps53;go_wp2_with fail;refine Hc.out.mono ?_;rintro e w' ⟨z,rfl,hz,rfl⟩;by_cases h0 : 0<=z
 ·have Hz : Hid (l.any p=true):=hz.1 h0;have h0' : decide (0<=z)=true:=by simpa using h0
  clear hz h0;go_wp2_with fail;go_ret;exact ⟨aR Hz.out.symm,rfl⟩
 ·have Hz : Hid (l.any p=false):=by
   show _=_;cases h : l.any p
   ·rfl
   ·exact absurd (hz.2 h) h0
  have h0' : decide (0<=z)=false:=by simpa using h0
  clear hz h0;go_wp2_with fail;go_ret;exact ⟨aR Hz.out.symm,rfl⟩
theorem uS (q : Int) (l : LI) : l.any (λx=>!(decide (0<=x) && decide (x<q))) = !(dR q l):=by
 unfold dR;induction l with
 | nil=>rfl
 | cons x l ih =>
  rw [List.any_cons,Lf,ih]
  unfold gE
  cases (decide (0<=x) && decide (x<q)) <;> simp
theorem rz (P M : Int) (am : OA) (mn cm : Nat) (mod : LI) (ax : OA) (nx cx : Nat) (x : LI) (n : Nat) (w : World) (hmod : Ints w am mn mod) (hx : Ints w ax nx x) (hB : ba P M mod=true) :
  Calls prog 89 #[.agg #[.int .i64 P,.int .i64 M,.slice am mn cm],.slice ax nx cx,.int .i64 n] w λe w'=>e = .returned (.int .i64 (kd (ah P M.toNat mod).q x n))/\Mv w w':=by
 have hxl:=hx.len;go_enter func89,ntmps89;go_upto_region 1 with fail;obtain ⟨W,hW⟩ : ∃W : World,W=w.alloc (.cells #[.int .i64 P,.int .i64 M,.slice am mn cm] 24):=⟨_,rfl⟩
 rw [<- hW];have hbW : Mv w W:=by rw [hW];exact an _ _
 have x0 : aO W w.heap.size [.int .i64 P,.int .i64 M,.slice am mn cm]:=by rw [hW];exact LZ _ _ _ rfl
 have c0:=x0.cell 0 rfl;have c1:=x0.cell 1 rfl;have c2:=x0.cell 2 rfl;clear hW x0;by_cases hnx : nx=n;rotate_left
 ·have hnn : ((nx : Int) != n)=true:=by simp;omega
  have HL : Hid (kd (ah P M.toNat mod).q x n=4):=by show _=_;rw [kd,GU (by omega)]
  clear hnx hxl;go_wp2_with fail;go_ret;exact ⟨aK HL.out.symm,hbW⟩
 obtain rfl : nx=n:=hnx;have hnn : ((nx : Int) != nx)=false:=by simp
 have HL : Hid (kd (ah P M.toNat mod).q x nx=if dR (ah P M.toNat mod).q x=true then 0 else 2):=by show _=_;rw [kd,GV hxl];rfl
 clear hxl;go_wp2_with fail;refine (dn P M am mn cm mod W (hmod.af hbW)).mono ?_;rintro e w4 (⟨hB2,_,_⟩ | ⟨_,b,rfl,hG,hbl,hb4⟩)
 ·rw [hB] at hB2;cases hB2
 have hbw4:=LY hbW hb4;have hb5:=an w4 (.cells #[.pointer (some ⟨b,0,none⟩)] 79);have hc5:=bm w4 (.pointer (some ⟨b,0,none⟩)) 79;have hcc:=qS (λy=>!(decide (0<=y) && decide (y<(ah P M.toNat mod).q))) w4.heap.size ax nx cx x _ (hx.af (LY hbw4 hb5)) λk hk=>AG w4.heap.size (nth x k) hc5 (hG.gf.af hb5);rw [uS] at hcc;obtain ⟨z,hz⟩ : ∃z,dR (ah P M.toNat mod).q x=z:=⟨_,rfl⟩
 rw [hz] at hcc HL;have Hc:=Z5 hcc;have hF:=LY hbw4 hb5;have HF:=Z5 hF;clear c0 c1 c2 hG hbl hB hF hcc hz;cases z
 ·have HL2 : Hid (kd (ah P M.toNat mod).q x nx=2):=by show _=_;rw [HL.out];rfl
  go_wp2_with fail;refine Hc.out.mono ?_;rintro e w' ⟨rfl,rfl⟩;go_wp2_with fail;go_ret;exact ⟨aK HL2.out.symm,HF.out⟩
 ·have HL2 : Hid (kd (ah P M.toNat mod).q x nx=0):=by show _=_;rw [HL.out];rfl
  go_wp2_with fail;refine Hc.out.mono ?_;rintro e w' ⟨rfl,rfl⟩;go_wp2_with fail;go_ret;exact ⟨aK HL2.out.symm,HF.out⟩
section
variable {O : aM} {k : Nat}
end
section
variable {O : aM} {El : Int->Prop} {m : Nat}
end
section
open Go.RowKit
end
section
variable {O : aM} {El : Int->Prop} {m : Nat}
theorem kN.Fg (F : bZ O El) {L : Ll} {P : LI} {c : Nat} (h : kN L P c) (hL : bG El m L) {v : LI} (hv : Vc El L.length v) {φ : LI->Int} (hφ : jA O El L.length φ)
  {t : Nat} (ht : t<=P.length) (h0 : ∀j,j<t->φ (bF L (nth P j).toNat)=0) : ∀k,k<=t->Vc El L.length (gF O L P v k)/\φ (gF O L P v k)=φ v/\∀i,i<L.length->nth (gF O L P v k) i=if i<k then 0 else nth v i
 | 0,_=>⟨hv,rfl,λi _=>by rw [GU (by omega)];rfl⟩
 | k+1,hk=>by
  obtain ⟨h1,h2,h3⟩:=h.Fg F hL hv hφ ht h0 k (by omega);have hle:=h.le;have hcol:=dE hL F.zero (nth P k).toNat;have hx:=h1.at (i:=k) (by omega);refine ⟨h1.sub F hcol hx,?_,λi hi=>?_⟩
  ·rw [gF,hφ.sub _ _ _ h1 hcol hx,h0 k (by omega),F.dh hx,F.gr,F.add_zero _ (hφ.el _ h1),h2]
  ·rw [gF,ek O _ _ _ i (by rw [hcol.1,h1.1]) (by rw [h1.1];exact hi),dH L _ i hi,h.one k i (by omega) hi];by_cases e : i=k
   ·subst e;rw [GV rfl,F.kz hx,F.add_neg _ hx,GV (by omega)]
   ·rw [GU e,F.dh hx,F.gr,F.add_zero _ (h1.at hi),h3 i hi];by_cases e2 : i<k
    ·rw [GV e2,GV (by omega)]
    ·rw [GU e2,GU (by omega)]
theorem zm {P : LI} (ha : ∀i j,i<j->j<P.length->nth P i<nth P j) {x : Int} (hx : ¬ x ∈ P) : ∀k,k<=P.length->∃t,t<=k/\(∀j,j<t->nth P j<x)/\∀j,t<=j->j<k->x<nth P j
 | 0,_=>⟨0,GQ _,λj hj=>by omega,λj _ hj=>by omega⟩
 | k+1,hk=>by
  obtain ⟨t,h1,h2,h3⟩:=zm ha hx k (by omega);have hne : nth P k ≠ x:=λe=>hx (e ▸ aH (by omega));by_cases ht : t=k
  ·subst ht;by_cases hlt : nth P t<x
   ·exact ⟨t+1,by omega,λj hj=>by
     by_cases e : j=t
     ·subst e;exact hlt
     ·exact h2 j (by omega),λj h4 h5=>by omega⟩
   ·exact ⟨t,by omega,h2,λj h4 h5=>by
     obtain rfl : j=t:=by omega
     omega⟩
  ·refine ⟨t,by omega,h2,λj h4 h5=>?_⟩;by_cases e : j=k
   ·subst e;have:=ha t j (by omega) (by omega);have:=h3 t (GQ _) (by omega);omega
   ·exact h3 j h4 (by omega)
theorem EZ (F : bZ O El) {R : Ll} {P : LI} (hR : bG El m R) (hP : kN R P m) (hl : ou R P) {f : Nat->Int} (hf : RS O El m R f) {x : Nat} (hx : x<m) (h0 : ∀y,y<x->f y=0) (hne : f x ≠ 0) : (x : Int) ∈ P:=by
 refine Iv λhn=>hne ?_;obtain ⟨t,h1,h2,h3⟩:=zm hl.asc hn P.length (GQ _);obtain ⟨e,he,h⟩:=hf;have hlt:=hP.lt;obtain ⟨q1,q2,q3⟩:=hP.Fg F hR (dE hR F.zero x) he h1 (λj hj=>by have:=h2 j hj;have:=hlt j (by omega);rw [<- h _ (by omega)];exact h0 _ (by omega)) t (GQ _);rw [h x hx,<- q2];refine he.zero F q1 λi hi=>?_;rw [q3 i hi];split
 ·rfl
 ·rw [dH R x i hi];by_cases hi2 : i<P.length
  ·have:=h3 i (by omega) hi2;exact hl.lead i x hi2 (by omega)
  ·exact hP.zero i x (by omega) hi hx
theorem vD (F : bZ O El) {R : Ll} {P : LI} (hR : bG El m R) (hP : kN R P m) {f : Nat->Int} (hf : RS O El m R f) (h0 : ∀j,j<P.length->f (nth P j).toNat=0) : ∀x,x<m->f x=0:=λx hx=>by obtain ⟨e,he,h⟩:=hf;rw [h x hx];refine hP.all F hR hx e he λy hy=>?_;obtain ⟨j,hj,rfl⟩:=(jM P _ _).1 hy;rw [<- h _ (by have:=hP.lt j hj;omega)];exact h0 j hj
theorem vj {P : LI} (ha : ∀i j,i<j->j<P.length->nth P i<nth P j) : P.Pairwise λx y=>x<y:=by rw [Kv];intro i j hi hj hij;have:=ha i j hij hj;rwa [aj hi,aj hj] at this
theorem C0 {P P' : LI} (ha : ∀i j,i<j->j<P.length->nth P i<nth P j) (ha' : ∀i j,i<j->j<P'.length->nth P' i<nth P' j) (h : ∀x,x ∈ P ↔ x ∈ P') : P=P':=by have h1:=vj ha;have h2:=vj ha';exact j5 (h1.imp λh=>by omega) (h2.imp λh=>by omega) ((Kt (h1.imp λh=>by omega) (h2.imp λh=>by omega)).2 h)
theorem Ch (F : bZ O El) {R R' : Ll} {P P' : LI} (hR : bG El m R) (hR' : bG El m R') (hP : kN R P m) (hP' : kN R' P' m) (hl : ou R P) (hl' : ou R' P') (hlen : R.length=P.length) (hlen' : R'.length=P'.length)
  (h1 : eQ O El m R R') (h2 : eQ O El m R' R) : R=R':=by
 have key : ∀ {R R' : Ll} {P P' : LI},bG El m R->kN R P m->ou R P->kN R' P' m->ou R' P'->R'.length=P'.length->eQ O El m R' R->∀x ∈ P',x ∈ P:=λ{R R' P P'} hR hP hl hP' hl' hlen' h2 x hx=>by obtain ⟨i,hi,rfl⟩:=List.mem_iff_getElem.1 hx;have hb:=hP'.lt i hi;have h3:=EZ F hR hP hl (h2 i (by omega)) (x:=(nth P' i).toNat) (by omega) (λy hy=>hl'.lead i y hi hy) (by show nth (ai R' i) (nth P' i).toNat ≠ 0;rw [hP'.one i i hi (by omega),GV rfl];decide);rw [show (((nth P' i).toNat : Nat) : Int)=nth P' i by omega,aj hi] at h3;exact h3
 have hPP : P=P':=C0 hl.asc hl'.asc λx=>⟨key hR' hP' hl' hP hl hlen h1 x,key hR hP hl hP' hl' hlen' h2 x⟩
 subst hPP;refine Ja (by omega) λi hi hi'=>?_;have hr:=hR _ (Iw hi);have hr':=hR' _ (Iw hi');refine gd (by rw [hr.1,hr'.1]) λx hx=>?_;rw [hr.1] at hx;have hz:=vD F hR hP ((h2 i hi').comb F (RS.row F (m:=m) hi) F.one) (λj hj=>by
  show O.add (nth (ai R' i) (nth P j).toNat) (O.neg (O.mul (nth (ai R i) (nth P j).toNat) 1))=0;rw [hP'.one j i hj hi',hP.one j i hj hi];split
  ·rw [F.kz F.one,F.add_neg _ F.one]
  ·rw [F.kz F.zero,F.add_neg _ F.zero]) x hx
 have hz' : O.add (nth (ai R' i) x) (O.neg (O.mul (nth (ai R i) x) 1))=0:=hz;have e1 : El (nth R[i] x):=hr.2 _ (aH (by rw [hr.1];exact hx));have e2 : El (nth R'[i] x):=hr'.2 _ (aH (by rw [hr'.1];exact hx));rw [aD hi,aD hi',F.kz e1] at hz';have h4:=F.mX e2 (F.cl.neg _ e1) hz';have h5:=congrArg O.neg h4;rwa [F.neg_neg e1,F.neg_neg e2] at h5
theorem l9 (F : bZ O El) (n k : Nat) : Vc El n (jQ n k):=by
 refine ⟨Bq n k,λx hx=>?_⟩;unfold jQ at hx;rcases IX hx with hx | rfl
 ·rw [IL hx];exact F.zero
 ·exact F.one
theorem A0 {n k i : Nat} (hk : k<n) : nth (jQ n k) i=if i=k then 1 else 0:=by
 unfold jQ;rw [ei _ _ _ _ (by simpa using hk)];split
 ·rfl
 ·unfold nth;simp only [GY,Ik];split <;> rfl
def cutTo (O : aM) (n : Nat) (v : LI) : Nat->LI
 | 0=>v
 | k+1=>dA O (cutTo O n v k) (nth v k) (jQ n k)
theorem vo (F : bZ O El) {n : Nat} {φ : LI->Int} (hφ : jA O El n φ) {v : LI} (hv : Vc El n v) : ∀k,k<=n->Vc El n (cutTo O n v k)/\(∀i,i<n->nth (cutTo O n v k) i=if i<k then 0 else nth v i) /\
  O.add (φ (cutTo O n v k)) (dotN O (λt=>φ (jQ n t)) (λt=>nth v t) k)=φ v
 | 0,_=>⟨hv,λi _=>by rw [GU (by omega)];rfl,by rw [dotN];exact F.add_zero _ (hφ.el _ hv)⟩
 | k+1,hk=>by
  obtain ⟨h1,h2,h3⟩:=vo F hφ hv k (by omega);have hu:=l9 F n k;have hx:=hv.at (i:=k) (by omega);refine ⟨h1.sub F hu hx,λi hi=>?_,?_⟩
  ·rw [cutTo,ek O _ _ _ i (by rw [hu.1,h1.1]) (by rw [h1.1];exact hi),A0 (by omega),h2 i hi];by_cases e : i=k
   ·subst e;rw [GV rfl,GU (by omega),F.kz hx,F.add_neg _ hx,GV (by omega)]
   ·rw [GU e,F.dh hx,F.gr];by_cases e2 : i<k
    ·rw [GV e2,GV (by omega),F.add_zero _ F.zero]
    ·rw [GU e2,GU (by omega),F.add_zero _ (hv.at hi)]
  ·have hm:=F.cl.mul _ _ hx (hφ.el _ hu);have hd:=oZ F (a:=λt=>φ (jQ n t)) (b:=λt=>nth v t) k (λp _=>hφ.el _ (l9 F n p)) (λp hp=>hv.at (by omega));rw [cutTo,hφ.sub _ _ _ h1 hu hx,dotN,F.mul_comm _ _ (hφ.el _ hu) hx,F.Da (hφ.el _ h1) (F.cl.neg _ hm) hd hm,F.nA hm,F.add_zero _ (F.cl.add _ _ (hφ.el _ h1) hd),h3]
theorem BC (F : bZ O El) {n : Nat} {φ : LI->Int} (hφ : jA O El n φ) {v : LI} (hv : Vc El n v) : φ v=dotN O (λt=>φ (jQ n t)) (λt=>nth v t) n:=by obtain ⟨h1,h2,h3⟩:=vo F hφ hv n (GQ _);rw [<- h3,hφ.zero F h1 λi hi=>by rw [h2 i hi,GV hi],F.tR (oZ F n (λp _=>hφ.el _ (l9 F n p)) (λp hp=>hv.at hp))]
theorem uC (F : bZ O El) {L : Ll} (hL : bG El m L) {x : LI} (hx : ∀k,k<L.length->El (nth x k)) {y : Nat} (hy : y<m) : ∀k,k<=L.length->nth (cmbTo O m x L k) y=dotN O (λt=>nth x t) (λt=>nth (ai L t) y) k
 | 0,_=>by rw [cmbTo,dotN];unfold nth;simp only [GY,Ik];split <;> rfl
 | k+1,hk=>by
  have ih:=uC F hL hx hy k (by omega);obtain ⟨h1,_⟩:=jN F hL hx k (by omega);have hr:=hL.row (i:=k) (by omega);have hd:=oZ F (a:=λt=>nth x t) (b:=λt=>nth (ai L t) y) k (λp hp=>hx p (by omega)) (λp hp=>L8 (hL.row (i:=p) (by omega)) hy);rw [cmbTo,dotN];split
  ·rename_i e0;rw [ih,e0,F.lC (L8 hr hy),F.add_zero _ hd]
  ·rw [fX O _ _ _ y (by rw [hr.1,h1.1]) (by rw [h1.1];exact hy),ih];split
   ·rename_i e1;show _=O.add _ (O.mul (nth x k) (nth (ai L k) y));rw [e1,F.dh (hx k (by omega)),F.add_zero _ hd]
   ·rfl
end
section
variable {P M : Int} {mod : LI} {m : Nat} {L : Ll}
end
theorem BR (P M : Int) (am : OA) (mn cm : Nat) (mod : LI) (n : Nat) (a : OA) (k c : Nat) (L : Ll) (W : World) (Bc l : Nat) (hE : aG P M mod n L=0)
  (x0 : aO W Bc [.int .i64 P,.int .i64 M,.slice am mn cm,.int .i64 n,.slice a k c]) (hmod : Ints W am mn mod) (hi : bC W a k L)
  (J : List WX->World->Prop) (MM : Nat->Prop) (hML : ∀x,MM x->x<W.heap.size)
  (hmat : ∀V,(∀x,x<W.heap.size->¬ MM x->V.heap[x]? = W.heap[x]?)->bC V a k L/\V.cell? ⟨Bc,4,none⟩=some (.slice a k c))
  (hJa : ∀pre V V',J pre V->Mv V V'->J pre V')
  (hJb : ∀B pre V v,W.heap.size<=B->(∀x ∈ pre,ablk x.a ≠ B)->J pre V->J pre (V.setCell ⟨B,0,none⟩ v))
  (hY : ∀m pre x V,J pre V->pre.length<(ah P M.toNat mod).q ^ k->Ints V x.a n x.l->(∀j,MM j->j ≠ ablk x.a)->F7 l n J MM m pre x V)
  (hN : (ah P M.toNat mod).q ^ k<=1000000) (h0 : J [] W) :
  Calls prog 250 #[.func (.yield l) #[] #[],.pointer (some ⟨Bc,0,none⟩)] W λe V=>e = .returned (.tuple #[]) /\
   ∃xs : List WX,xs.map WX.l=wlkS (ah P M.toNat mod).ops (ah P M.toNat mod).q L (List.replicate n 0)/\J xs V/\aB W V MM MM:=by
 obtain ⟨N',em,hm1,hm64,F,hR⟩:=bf hE;obtain rfl : n=N':=by omega
 have hk256 : k<=256:=by rw [<- hi.len];exact (dT hE).choose_spec.2.2.2.1
 have hfB:=(aQ hE).1;have hLk : L.length=k:=hi.len;have HCk : Hid (∀V,Mv W V->Calls prog 88 #[.agg #[.int .i64 P,.int .i64 M,.slice am mn cm,.int .i64 n,.slice a k c]] V λe w'=>e = .returned (.int .i64 0)/\Mv V w'):=λV hV=>by have h:=b8 P M am mn cm mod n a k c L V (hmod.af hV) (hi.af hV);rw [hE] at h;exact h
 have HNw : Hid (∀V,Mv W V->Calls prog 52 #[.agg #[.int .i64 P,.int .i64 M,.slice am mn cm]] V λe w'=>∃b,e = .returned (.tuple #[.pointer (some ⟨b,0,none⟩),.int .i64 0])/\vY V.heap.size w' b (ah P M.toNat mod)/\V.heap.size<=b/\Mv V w'):=λV hV=>by
  refine (dn P M am mn cm mod V (hmod.af hV)).mono ?_;rintro e w' (⟨h1,_⟩ | ⟨_,h2⟩)
  ·rw [hfB] at h1;cases h1
  ·exact h2
 obtain ⟨G,hG⟩ : ∃G,ah P M.toNat mod=G:=⟨_,rfl⟩
 rw [hG] at HNw F hR hY hN ⊢;have HX:=Z5 x0;have HJa:=Z5 hJa;have HJb:=Z5 hJb;have HY:=Z5 hY;have Hmat:=Z5 hmat;have HML:=Z5 hML;have H0:=Z5 h0;have HR:=Z5 hR;have HN:=Z5 hN;have HLk:=Z5 hLk;clear hG hfB hE em hmod hi hJa hJb hY hmat hML h0 hR hN hLk;clear x0;go_enter func250,ntmps250;go_upto_region 1 with fail;obtain ⟨W1,hW1⟩ : ∃W1 : World,W1=W.alloc (.cells #[.func (.yield l) #[] #[]] 251):=⟨_,rfl⟩
 rw [<- hW1];have hb1 : Mv W W1:=by rw [hW1];exact an _ _
 have y1 : aO W1 W.heap.size [.func (.yield l) #[] #[]]:=by rw [hW1];exact LZ _ _ _ rfl
 have Y1:=Z5 y1;have x1:=HX.out.af hb1;have c0:=x1.cell 0 rfl;have c1:=x1.cell 1 rfl;have c2:=x1.cell 2 rfl;have c3:=x1.cell 3 rfl;have c4:=x1.cell 4 rfl;clear hW1 y1 x1;go_wp2_with (go_at_call 88;refine (HCk.out _ hb1).mono ?_;rintro e w2 ⟨rfl,hb2⟩;have x2:=(HX.out.af hb1).af hb2;have d0:=x2.cell 0 rfl;have d1:=x2.cell 1 rfl;have d2:=x2.cell 2 rfl;have d3:=x2.cell 3 rfl;have d4:=x2.cell 4 rfl;clear x2);refine (HNw.out w2 (LY hb1 hb2)).mono ?_;rintro e w3 ⟨b,rfl,hG3,hbb,hb3⟩;have HG3:=Z5 hG3;have Hbb:=Z5 hbb;clear hG3 hbb d0 d1 d2 d3 d4 c0 c1 c2 c3 c4;go_upto_region 5 with fail;obtain ⟨W4,hW4⟩ : ∃W4 : World,W4=(((w3.alloc (.cells #[.pointer (some ⟨b,0,none⟩)] 79)).alloc (.cells #[.int .i64 0] 3)).alloc (.cells #[.nilFunc] 251)):=⟨_,rfl⟩
 rw [<- hW4];have hb4 : Mv w3 W4:=by rw [hW4];exact jI _ _ _ _
 have hs4 : W4.heap.size=w3.heap.size+3:=by rw [hW4];simp
 have g4 : aO W4 w3.heap.size [.pointer (some ⟨b,0,none⟩)]:=by rw [hW4];exact ((LZ _ _ _ rfl).alloc _).alloc _
 have a4 : aO W4 (w3.heap.size+1) [.int .i64 0]:=by rw [hW4];exact (LZ _ _ _ (by simp)).alloc _
 have f4 : aO W4 (w3.heap.size+1+1) [.nilFunc]:=by rw [hW4];exact LZ _ _ _ (by simp)
 clear hW4;have fc:=f4.cell 0 rfl;have ff:=f4.frozen 0;have G4:=Z5 g4;have A4:=Z5 a4;have F4:=Z5 f4;clear g4 a4 f4;have hst : ∀(fn : Fn) (x y : Array Value),(store (⟨w3.heap.size+1+1,0,none⟩ : Addr) (.func fn x y)).run prog W4 = .ok () (W4.setCell ⟨w3.heap.size+1+1,0,none⟩ (.func fn x y)):=λfn x y=>by rw [run_store _ _ _ _ _ rfl,fc];simp [ff]
 go_upto_region 6 with fail;have F5e : ∃FV : Value,FV = .func (.func 251) #[] #[.pointer (some ⟨Bc,0,none⟩),.pointer (some ⟨w3.heap.size+1,0,none⟩),.pointer (some ⟨W.heap.size,0,none⟩),.pointer (some ⟨w3.heap.size,0,none⟩),.pointer (some ⟨w3.heap.size+1+1,0,none⟩)]:=⟨_,rfl⟩
 obtain ⟨W5,hW5⟩ : ∃W5 : World,W5=W4.setCell ⟨w3.heap.size+1+1,0,none⟩ (.func (.func 251) #[] #[.pointer (some ⟨Bc,0,none⟩),.pointer (some ⟨w3.heap.size+1,0,none⟩),.pointer (some ⟨W.heap.size,0,none⟩),.pointer (some ⟨w3.heap.size,0,none⟩),.pointer (some ⟨w3.heap.size+1+1,0,none⟩)]):=⟨_,rfl⟩
 rw [<- hW5];clear F5e;have hb45 : Below (w3.heap.size+2) W4 W5:=by rw [hW5];exact (GS _ _).setCell (p:=⟨w3.heap.size+1+1,0,none⟩) (GQ _) _
 have fc5 : W5.cell? ⟨w3.heap.size+1+1,0,none⟩=some (.func (.func 251) #[] #[.pointer (some ⟨Bc,0,none⟩),.pointer (some ⟨w3.heap.size+1,0,none⟩),.pointer (some ⟨W.heap.size,0,none⟩),.pointer (some ⟨w3.heap.size,0,none⟩),.pointer (some ⟨w3.heap.size+1+1,0,none⟩)]):=by rw [hW5];exact JW _ _ _ (by rw [fc];rfl)
 have hs5 : W5.heap.size=w3.heap.size+3:=by rw [hW5,<- hs4];simp
 clear hW5 hst fc ff;have hb12:=LY hb1 hb2;have hb13:=LY hb12 hb3;have hb35 : Mv w3 W5:=hb4.trans (hb45.mono (by omega));have hbW5 : Mv W W5:=LY hb13 hb35;have cN:=(HX.out.af hbW5).cell 3 rfl;have gc5 : W5.cell? ⟨w3.heap.size,0,none⟩=some (.pointer (some ⟨b,0,none⟩)):=(hb45.cell (p:=⟨w3.heap.size,0,none⟩) (by show w3.heap.size<_;omega)).trans (G4.out.cell 0 rfl);have ac5 : wC W5 (w3.heap.size+1) 0:=wC.of_block (V:=W4) ⟨A4.out.cell 0 rfl,A4.out.frozen 0⟩ (hb45.block _ (by omega));have yc5 : W5.cell? ⟨W.heap.size,0,none⟩=some (.func (.yield l) #[] #[]):=((Y1.out.af hb2).af hb3 |>.af hb35).cell 0 rfl;have hsz1 : W.heap.size<W1.heap.size:=Y1.out.1;have hsz2:=hb2.size;have hsz3:=hb3.size;have Hc : Hid (∀V a1 c1,V.ownsRow W5.heap.size 3 1 (.slice a1 n c1) n ((List.replicate n (0 : Int)).map (Value.int .i64))->Mv W5 V ->
   Calls prog 251 #[.int .i64 0,.slice a1 n c1,.pointer (some ⟨Bc,0,none⟩),.pointer (some ⟨w3.heap.size+1,0,none⟩),.pointer (some ⟨W.heap.size,0,none⟩),.pointer (some ⟨w3.heap.size,0,none⟩),.pointer (some ⟨w3.heap.size+1+1,0,none⟩)] V
    λe V'=>e = .returned (.bool true)/\∃xs : List WX,xs.map WX.l=wlkS G.ops G.q L (List.replicate n 0)/\J xs V'/\aB W V' MM MM):=by
  intro V a1 c1 hown hbV;have hWV : Mv W V:=LY hbW5 hbV;have h35V : Mv w3 V:=hb35.trans (hbV.mono (by omega));have hMo : ∀V',aB V V' (λx=>MM x\/x=w3.heap.size+1) (λx=>MM x\/x=w3.heap.size+1)->∀x,x<W.heap.size->¬ MM x->V'.heap[x]? = W.heap[x]?:=λV' hm x hx hn =>
   (hm.block x (by have:=hWV.size;omega) (λh=>h.elim hn (by omega))).trans (hWV.block x hx)
  obtain ⟨hia,_⟩:=L0 hown;have hres:=u7 (W0:=V) (b:=b) (G:=G) (Bc:=Bc) (Bat:=w3.heap.size+1) (By:=W.heap.size) (Bg:=w3.heap.size) (Bf:=w3.heap.size+1+1) (l:=l) (ag:=a) (k:=k) (cg:=c) (n:=n) (L:=L)
   (I:=λx=>MM x\/x=w3.heap.size+1) J MM (λx h=>.inl h) (.inr rfl) (λh=>by have:=HML.out _ h;omega)
   (λx h=>by have:=hWV.size;have:=h35V.size;have:=hbV.size;exact h.elim (λh=>by have:=HML.out _ h;omega) (λh=>by omega))
   (λV' hm=>by
    obtain ⟨hma,hgc⟩:=Hmat.out V' (hMo V' hm);have hnI : ∀x,W.heap.size<=x->x ≠ w3.heap.size+1->¬ (MM x\/x=w3.heap.size+1):=λx h1 h2 h3=>h3.elim (λh=>by have:=HML.out _ h;omega) h2;refine ⟨hgc,hma,?_,?_,?_,?_,?_⟩
    ·exact hm.cell ((hbV.cell (p:=⟨W.heap.size,0,none⟩) (G8 _ _ yc5)).trans yc5) (hnI _ (GQ _) (by show W.heap.size ≠ _;omega))
    ·exact hm.cell ((hbV.cell (p:=⟨w3.heap.size,0,none⟩) (G8 _ _ gc5)).trans gc5) (hnI _ (by show W.heap.size<=w3.heap.size;omega) (by show w3.heap.size ≠ _;omega))
    ·refine HG3.out V' λx h1 h2=>(hm.block x (by have:=h35V.size;omega) (hnI x (by omega) (by omega))).trans (h35V.block x h2)
    ·exact hm.cell ((hbV.cell (p:=⟨w3.heap.size+1+1,0,none⟩) (G8 _ _ fc5)).trans fc5) (hnI _ (by show W.heap.size<=w3.heap.size+1+1;omega) (by show w3.heap.size+1+1 ≠ _;omega))
    ·have:=hm.size;have:=h35V.size;have:=hbV.size;omega)
   HJa.out (λpre V' v hp hj=>HJb.out _ pre V' v (by omega) hp hj) (G.q ^ k)
   (λm pre x V' _ hj hlt hix hI=>HY.out m pre x V' hj hlt hix λj hj'=>hI j (.inl hj'))
   HN.out (by omega) hm1 HR.out (by omega) F.cl k 0 (by omega)
   a1 c1 (List.replicate n 0) [] V (Ma _ _) (HJa.out _ _ _ H0.out hWV) (λx hx=>by simp at hx) (ac5.af hbV) hia
   (λj hj=>by
    have h2:=(aS hown (λe=>by have:=hia.pl (by omega);rw [e] at this;cases this)).1;rcases hj with h | h
    ·have:=HML.out _ h;have:=hbW5.size;omega
    ·omega)
   (λx hx=>by rw [(List.mem_replicate.1 hx).2];exact F.zero) (by simp)
  refine hres.mono ?_;rintro e V' ⟨he,xs,h1,h2,_,_,h5⟩;refine ⟨he,xs,by rw [h1,JS],by simpa using h2,?_⟩;have hm0 : aB W V' (λx=>MM x\/x=w3.heap.size+1) (λx=>MM x\/x=w3.heap.size+1):=(L4 hWV _).trans h5;exact ⟨hm0.os,hm0.tape,hm0.output,hm0.size,λx hx hn=>hm0.block x hx λh=>h.elim hn (by omega),λx h=>.inl h⟩
 have hmk:=run_mk (P:=prog) 22 3 (.int .i64 0) 8 underlying22 bg rfl n (by omega) (by omega);have hoD : (W5.alloc (.cells (Array.replicate n (Value.int .i64 0)) 3)).drew.ownsRow W5.heap.size 3 1 (.slice (some ⟨W5.heap.size,0,none⟩) n n) n (List.replicate n (Value.int .i64 0)):=kJ W5.drew 3 (.int .i64 0) n rfl (GQ _) (by unfold maxLen;omega);rw [<- Jn (f:=Value.int .i64)] at hoD;have HC:=Z5 (Hc.out _ _ _ hoD ((GS _ _).alloc (GQ _) _).drew);have fc6:=(((GS W5.heap.size W5).alloc (GQ _) (.cells (Array.replicate n (Value.int .i64 0)) 3)).cell (p:=⟨w3.heap.size+1+1,0,none⟩) (G8 _ _ fc5)).trans fc5;clear hoD gc5 yc5 ac5 hs5 hs4;go_region_law ((first
  | (go_simp;go_at_call 251;((with_reducible refine HC.out.mono ?_);rintro e V ⟨rfl,xs,hx,hJx,hmx⟩))))
 all_goals go_wp2_with fail
 all_goals go_end0
 all_goals exact ⟨rfl,xs,hx,hJx,hmx⟩
def xk (P M : Int) (am : OA) (mn cm : Nat) (mod : LI) (N : Int) (a : OA) (n c : Nat) (L : Ll) (W : Int) (w : World) (e : Ending) (w' : World) : Prop :=
 Mv w w'/\((aG P M mod N L ≠ 0/\e = .returned (.tuple #[.pointer none,.int .i64 (aG P M mod N L)])) \/
 (aG P M mod N L=0/\∃(b : Nat) (w2 : World),e = .returned (.tuple #[.pointer (some ⟨w2.heap.size,0,none⟩),.int .i64 0])/\Mv w w2/\dz w2 b (ah P M.toNat mod)/\Mv w2 w' /\
  aO w' w2.heap.size [.pointer (some ⟨b,0,none⟩),.int .i64 P,.int .i64 M,.slice am mn cm,.int .i64 N,.slice a n c,.slice none 0 0,.bool false,.int .i64 0,.int .i64 W,.slice none 0 0,.int .i64 0]))
theorem zd (P M : Int) (am : OA) (mn cm : Nat) (mod : LI) (N : Int) (a : OA) (n c : Nat) (L : Ll) (W : Int) (w : World) (hmod : Ints w am mn mod) (hi : bC w a n L) :
  Calls prog 182 #[.agg #[.int .i64 P,.int .i64 M,.slice am mn cm,.int .i64 N,.slice a n c],.int .i64 W] w (xk P M am mn cm mod N a n c L W w):=by
 go_enter func182,ntmps182;go_wp2_with fail;obtain ⟨U,hU⟩ : ∃U : World,U=w.alloc (.cells #[.int .i64 P,.int .i64 M,.slice am mn cm,.int .i64 N,.slice a n c] 27):=⟨_,rfl⟩
 rw [<- hU];have hbU : Mv w U:=by rw [hU];exact an _ _
 have x0 : aO U w.heap.size [.int .i64 P,.int .i64 M,.slice am mn cm,.int .i64 N,.slice a n c]:=by rw [hU];exact LZ _ _ _ rfl
 have HX:=Z5 x0;clear hU x0;refine (b8 P M am mn cm mod N a n c L U (hmod.af hbU) (hi.af hbU)).mono ?_;rintro e w1 ⟨rfl,hb1⟩;have hbw1:=LY hbU hb1;by_cases hE : aG P M mod N L=0
 ·obtain ⟨hf,_⟩:=aQ hE;have HE:=Z5 hE;have Hf:=Z5 hf;rw [hE];have x1:=HX.out.af hb1;have c0:=x1.cell 0 rfl;have c1:=x1.cell 1 rfl;have c2:=x1.cell 2 rfl;have hm1:=(hmod.af hbU).af hb1;clear hE x1 hf;go_wp2_with fail;refine (dn P M am mn cm mod w1 hm1).mono ?_;rintro e w2 (⟨hB,rfl,hb2⟩ | ⟨hB,b,rfl,hG,hbl,hb2⟩)
  ·rw [Hf.out] at hB;cases hB
  ·clear hB;have hg:=hG.gf;have x2:=(HX.out.af hb1).af hb2;have e0:=x2.cell 0 rfl;have e1:=x2.cell 1 rfl;have e2:=x2.cell 2 rfl;have e3:=x2.cell 3 rfl;have e4:=x2.cell 4 rfl;clear x2 c0 c1 c2;go_wp2_with fail;go_ret2;exact ⟨LY (LY hbw1 hb2) (an _ _),.inr ⟨HE.out,b,w2,rfl,LY hbw1 hb2,hg,an _ _,LZ w2 [.pointer (some ⟨b,0,none⟩),.int .i64 P,.int .i64 M,.slice am mn cm,.int .i64 N,.slice a n c,.slice none 0 0,.bool false,.int .i64 0,.int .i64 W,.slice none 0 0,.int .i64 0] _ rfl⟩⟩
 ·have HE:=Z5 hE;have hE' : (aG P M mod N L != 0)=true:=by simpa using hE
  clear hE;go_wp2_with fail;go_ret2;exact ⟨hbw1,.inl ⟨HE.out,rfl⟩⟩
def Eu (P M : Int) (am : OA) (mn cm : Nat) (mod : LI) (m : Nat) (a : OA) (n c : Nat) (L : Ll) (ay : OA) (ny cy : Nat) (C : jK) (w w' : World) (pb : Nat) : Prop :=
 ∃(b : Nat) (w2 : World),pb=w2.heap.size/\Mv w w2/\xz w2 b (ah P M.toNat mod) a n L m ay ny C/\Mv w2 w'/\aO w' pb (la b P M am mn cm m a n c ay ny cy C (.slice none 0 0) 0)
section
variable {O : aM} {El : Int->Prop} {m : Nat} {L : Ll}
theorem kr {R : Ll} {r : LI} (h : r ∈ R) : ∃j,j<R.length/\ai R j=r:=by obtain ⟨j,hj,e⟩:=List.mem_iff_getElem.1 h;exact ⟨j,hj,by rw [aD hj];exact e⟩
structure GN (O : aM) (El : Int->Prop) (m : Nat) (L R : Ll) (Z : LI) : Prop where
 rws : bG El m R
 sub : eQ O El m R L
 zero : ∀r ∈ R,∀z ∈ Z,nth r z.toNat=0
 all : ∀f,RS O El m L f->(∀z ∈ Z,f z.toNat=0)->RS O El m R f
 cnt : R.length+GJ O L Z=L.length
end
section
structure RX where
 a : OA
 c : Nat
 l : LI
structure fQ (A : Nat->Prop) (w : World) (a : OA) (n : Nat) (L : Ll) : Prop where
 len : L.length=n
 pl : Pl a n
 max : n<=maxLen
 no : 0<n->¬ A (ablk a)
 cell : ∀i,i<n->∃b m c,w.cell? ⟨ablk a,aL a+i,none⟩=some (.slice b m c)/\Ints w b m (ai L i)/\(0<m->¬ A (ablk b))
theorem fQ.jX {A : Nat->Prop} {w : World} {a : OA} {n : Nat} {L : Ll} (h : fQ A w a n L) : bC w a n L :=
 ⟨h.len,h.pl,h.max,λi hi=>by obtain ⟨b,m,c,h1,h2,_⟩:=h.cell i hi;exact ⟨b,m,c,h1,h2⟩⟩
theorem fQ.dG {A A' : Nat->Prop} {w w' : World} {a : OA} {n : Nat} {L : Ll} (h : fQ A w a n L) (hM : aB w w' A A') : fQ A w' a n L :=
 ⟨h.len,h.pl,h.max,h.no,λi hi=>by obtain ⟨b,m,c,h1,h2,h3⟩:=h.cell i hi;exact ⟨b,m,c,hM.cell h1 (h.no (by omega)),h2.dG hM h3,h3⟩⟩
theorem fQ.af {A : Nat->Prop} {w w' : World} {a : OA} {n : Nat} {L : Ll} (h : fQ A w a n L) (hb : Mv w w') : fQ A w' a n L:=h.dG (L4 hb A)
theorem fQ.Dh {A : Nat->Prop} {w : World} {a : OA} {n : Nat} {L : Ll} (h : bC w a n L) (hA : ∀b,A b->w.heap.size<=b) : fQ A w a n L :=
 ⟨h.len,h.pl,h.max,λhn hc=>by have:=hA _ hc;have:=h.lt hn;omega,λi hi=>by obtain ⟨b,m,c,h1,h2⟩:=h.cell i hi;exact ⟨b,m,c,h1,h2,λhm hc=>by have:=hA _ hc;have:=h2.lt hm;omega⟩⟩
variable {w : World} {b : Nat} {G : bX}
end
theorem fQ.cells {I : Nat->Prop} {w : World} {a : OA} {n : Nat} {L : Ll} (h : fQ I w a n L) : ∃l : List Value,l.length=n/\(∀j,j<n->w.cell? ⟨ablk a,aL a+j,none⟩=l[j]?)/\(∀u ∈ l,u.oneCell'=true) /\
  ∀j,j<n->∃b m c,l[j]? = some (.slice b m c)/\Ints w b m (ai L j)/\(0<m->¬ I (ablk b)):=by
 have key : ∀k,k<=n->∃l : List Value,l.length=k/\(∀j,j<k->w.cell? ⟨ablk a,aL a+j,none⟩=l[j]?)/\(∀u ∈ l,u.oneCell'=true)/\∀j,j<k->∃b m c,l[j]? = some (.slice b m c)/\Ints w b m (ai L j)/\(0<m->¬ I (ablk b)):=λk hk=>by
  induction k with
  | zero=>exact ⟨[],rfl,λj hj=>by omega,λu hu=>by simp at hu,λj hj=>by omega⟩
  | succ k ih =>
   obtain ⟨l,h1,h2,h3,h4⟩:=ih (by omega)
   obtain ⟨b,m,c,hc,hi⟩:=h.cell k (by omega)
   refine ⟨l ++ [.slice b m c],by simp [h1],λj hj=>?_,λu hu=>?_,λj hj=>?_⟩
   ·by_cases e : j=k
    ·subst e;rw [hc,<- h1,JP]
    ·rw [Ie (by omega)];exact h2 j (by omega)
   ·rcases List.mem_append.1 hu with hu | hu
    ·exact h3 u hu
    ·rw [List.mem_singleton.1 hu];rfl
   ·by_cases e : j=k
    ·subst e;exact ⟨b,m,c,by rw [<- h1,JP],hi⟩
    ·rw [Ie (by omega)];exact h4 j (by omega)
 exact key n (GQ _)
theorem rh {P : Program} {w : World} {ops : Array Oper} {rest : List Oper} {o : Oper} {ac : Act} {Q : Exit->Act->World->Prop}
  (hg : o.guard=none) (s x : Operand) (t e : TypeId) (hop : o.op = .call { callee:=.builtin .append,args:=#[s,x],argTypes:=#[t,t] }) (bytes : Nat)
  (h1 : P.underlying t=some (.slice e)) (h2 : (P.info? e).map (λi=>(i.zero,i.size,i.bytes))=some (some (.slice none 0 0),1,bytes))
  (I : Nat->Prop) (hI : ∀b,I b->b<w.heap.size) (a : OA) (k : Nat) (A : Ll) (hs : ac.eval s = .slice a k k) (hA : fQ I w a k A)
  (a2 : OA) (n c : Nat) (L : Ll) (hx : ac.eval x = .slice a2 n c) (hL : fQ I w a2 n L) (b2 : (k+n) * bytes<=140737488355328) (b3 : k+n<=maxLen)
  (hK : ∀a' c' w',fQ I w' a' (k+n) (A ++ L)->Mv w w'->wpList P ops Q rest (ac.put o.dst (.slice a' (k+n) c')) w') :
  wpList P ops Q (o :: rest) ac w:=by
 obtain ⟨i,hi,hz0,hz1,hz2⟩:=info_parts h2;by_cases hn : n=0
 ·subst hn;obtain rfl : L=[]:=Iq hL.len;refine wpList_plain hg λK hK'=>?_;unfold Oper.wp execOp;simp only [hop,resolve,invoke,builtin,Ls,Lt,Kx,KI,KD,Lu,hs,hx,jS (P:=P) w t o.type e i h1 hi a a2 k k c (GQ _)];exact hK' _ _ (hK a k w (by rw [Jr];exact hA) (GS _ _))
 ·obtain ⟨olds,o1,o2,o3,o4⟩:=hA.cells;obtain ⟨news,n1,n2,n3,n4⟩:=hL.cells;have hp2:=hL.pl (by omega);have hlt : ∀ {l : List Value} {j : Nat} {u : Value},l[j]? = some u->j<l.length:=λh=>(List.getElem?_eq_some_iff.1 h).1;refine wpList_append_grows (P:=P) w hg s x t hop e i (.slice none 0 0) 1 bytes h1 hi hz0 hz1 hz2 rfl (by decide) a k k olds hs (λh0=>?_) (by omega) (λb hb j u hj=>?_) ⟨ablk a2,aL a2,none⟩ n c news (by rw [hx,<- hp2]) (by omega) (λj u hj=>?_) n3 (by omega) b3 b2 λv' w' hown hgr=>?_
  ·rcases Jk k with h | h
   ·exact ⟨h,h⟩
   ·have:=hA.pl h;rw [h0] at this;cases this
  ·have hj1:=hlt hj;have hp:=hA.pl (by omega);subst hb;injection hp with hp2
   rw [hp2,Lr,o2 j (by omega)];exact hj
  ·have hj1:=hlt hj;rw [Lr,n2 j (by omega)];exact hj
  ·obtain ⟨a',c',rfl,hpl⟩:=Me hown;have hb : Mv w w':=⟨hgr.os,hgr.tape,hgr.output,hgr.size,λj hj=>hgr.block j hj (by simp)⟩
   refine hK a' c' w' ⟨by rw [H5,hA.len,hL.len],hpl,b3,λh0 hc=>?_,λj hj=>?_⟩ hb
   ·have h3:=hI _ hc;have h4:=(dP hown h0).1;omega
   have hc:=(bu hown j hj).1;by_cases h : j<k
   ·obtain ⟨b,m,c2,e1,e2,e3⟩:=o4 j h;refine ⟨b,m,c2,?_,?_,e3⟩
    ·rw [hc,Ie (by omega),e1]
    ·rw [show ai (A ++ L) j=ai A j by simp only [ai,GY];rw [Ie (by rw [hA.len];exact h)]];exact e2.af hb
   ·obtain ⟨b,m,c2,e1,e2,e3⟩:=n4 (j - k) (by omega);refine ⟨b,m,c2,?_,?_,e3⟩
    ·rw [hc,IN (by omega),o1,e1]
    ·rw [show ai (A ++ L) j=ai L (j - k) by simp only [ai,GY];rw [IN (by rw [hA.len];omega),hA.len]];exact e2.af hb
theorem aB.qc (w : World) {I : Nat->Prop} {p : Addr} (hB : I p.block) (v : Value) : aB w (w.setCell p v) I I:=by have hb0 : Below 0 w (w.setCell p v):=(GS 0 w).setCell (G0 _) v;exact ⟨hb0.os,hb0.tape,hb0.output,hb0.size,λb hb hI=>Ia _ _ _ _ λe=>hI (e ▸ hB),λb hb=>.inl hb⟩
theorem bQ.E8 {A : Nat->Prop} {B : Nat} {w : World} {a : OA} {n : Nat} {L : Ll} (h : bQ B w a n L) (hA : ∀b,A b->b<B) : fQ A w a n L :=
 ⟨h.len,h.pl,h.max,λhn hc=>KE _ (It (hA _ hc) (h.lo hn)),λi hi=>by obtain ⟨b,m,c,h1,h2⟩:=h.cell i hi;exact ⟨b,m,c,h1,h2.ints,λhm hc=>KE _ (It (hA _ hc) (h2.lo hm))⟩⟩
theorem bQ.GA {B g : Nat} {w : World} {a : OA} {n : Nat} {L : Ll} (h : bQ B w a n L) (hg : g<B) (x y : Value) : fQ (λb=>b=g) ((w.setCell ⟨g,0,none⟩ x).setCell ⟨g,1,none⟩ y) a n L :=
 ((h.E8 (A:=λb=>b=g) (λb hb=>by rw [show b=g from hb];exact hg)).dG (aB.qc w (I:=λb=>b=g) (p:=⟨g,0,none⟩) rfl x)).dG (aB.qc _ (I:=λb=>b=g) (p:=⟨g,1,none⟩) rfl y)
theorem Ints.mq {w : World} {a : OA} {n : Nat} {l : LI} (h : Ints w a n l) {p : Addr} {b : OA} {m c : Nat} (hp : w.cell? p=some (.slice b m c)) (v : Value) : Ints (w.setCell p v) a n l :=
 ⟨h.len,h.pl,h.max,λi hi=>by have hc:=h.cell i hi;rw [H9 _ _ _ _ (λe=>by rw [e,hc] at hp;cases hp)];exact hc⟩
theorem bC.mq {w : World} {a : OA} {n : Nat} {L : Ll} (h : bC w a n L) {p : Addr} {b : OA} {m c : Nat} (hp : w.cell? p=some (.slice b m c)) (hne : 0<n->p.block ≠ ablk a) (v : Value) : bC (w.setCell p v) a n L :=
 ⟨h.len,h.pl,h.max,λi hi=>by obtain ⟨b',m',c',h1,h2⟩:=h.cell i hi;exact ⟨b',m',c',by rw [H9 _ _ _ _ (λe=>hne (by omega) (by rw [e]))];exact h1,h2.mq hp v⟩⟩
theorem aO.Gu {w : World} {b : Nat} {cs : List Value} (h : aO w b cs) {g : Nat} (hb : g ≠ b) (i : Nat) (v : Value) : aO (w.setCell ⟨g,i,none⟩ v) b cs:=by
 refine ⟨by rw [Lh];exact h.1,λj x hx=>?_,λj=>?_⟩
 ·rw [H9 _ _ _ _ (by intro e;injection e with e1 _ _;exact hb e1)];exact h.2.1 j x hx
 ·rw [IM];exact h.2.2 j
theorem wB (P M : Int) (am : OA) (mn cm : Nat) (mod : LI) (n : Nat) (a : OA) (k c : Nat) (L : Ll) (w : World) (hE : aG P M mod n L=0) (hmod : Ints w am mn mod) (hi : bC w a k L) :
  Calls prog 210 #[.agg #[.int .i64 P,.int .i64 M,.slice am mn cm,.int .i64 n,.slice a k c]] w λe w' =>
   e = .returned (.tuple #[.int .i64 (lW (ah P M.toNat mod).q k),.int .i64 (iW (ah P M.toNat mod).q k)])/\Mv w w':=by
 have hk256 : k<=256:=by rw [<- hi.len];exact (dT hE).choose_spec.2.2.2.1
 have hfB:=(aQ hE).1;have HCk : Hid (∀V,Mv w V->Calls prog 88 #[.agg #[.int .i64 P,.int .i64 M,.slice am mn cm,.int .i64 n,.slice a k c]] V λe w'=>e = .returned (.int .i64 0)/\Mv V w'):=λV hV=>by have h:=b8 P M am mn cm mod n a k c L V (hmod.af hV) (hi.af hV);rw [hE] at h;exact h
 have HNw : Hid (∀V,Mv w V->Calls prog 52 #[.agg #[.int .i64 P,.int .i64 M,.slice am mn cm]] V λe w'=>∃b,e = .returned (.tuple #[.pointer (some ⟨b,0,none⟩),.int .i64 0])/\dz w' b (ah P M.toNat mod)/\Mv V w'):=λV hV=>by
  refine (dn P M am mn cm mod V (hmod.af hV)).mono ?_;rintro e w' (⟨h1,_⟩ | ⟨_,b,h2,h3,_,h4⟩)
  ·rw [hfB] at h1;cases h1
  ·exact ⟨b,h2,h3.gf,h4⟩
 obtain ⟨G,hG⟩ : ∃G,ah P M.toNat mod=G:=⟨_,rfl⟩
 rw [hG] at HNw ⊢;clear hG hfB hE hmod hi;go_enter func210,ntmps210;go_upto_region 1 with fail;obtain ⟨W,hW⟩ : ∃W : World,W=w.alloc (.cells #[.int .i64 P,.int .i64 M,.slice am mn cm,.int .i64 n,.slice a k c] 27):=⟨_,rfl⟩
 rw [<- hW];have hbW : Mv w W:=by rw [hW];exact an _ _
 have x0 : aO W w.heap.size [.int .i64 P,.int .i64 M,.slice am mn cm,.int .i64 n,.slice a k c]:=by rw [hW];exact LZ _ _ _ rfl
 have HX:=Z5 x0;have c0:=x0.cell 0 rfl;have c1:=x0.cell 1 rfl;have c2:=x0.cell 2 rfl;clear hW x0;go_wp2_with (go_at_call 52;refine (HNw.out _ hbW).mono ?_;rintro e w2 ⟨b,rfl,hG2,hb2⟩;have x2:=HX.out.af hb2;have d0:=x2.cell 0 rfl;have d1:=x2.cell 1 rfl;have d2:=x2.cell 2 rfl;have d3:=x2.cell 3 rfl;have d4:=x2.cell 4 rfl;clear x2);refine (HCk.out _ (LY hbW hb2)).mono ?_;rintro e w3 ⟨rfl,hb3⟩;have hG3:=hG2.af hb3;have hq2 : (2 : Int)<=G.q:=by have:=hG3.q2;omega
 have hq256 : (G.q : Int)<=256:=by have:=hG3.q256;omega
 have e4:=((HX.out.af hb2).af hb3).cell 4 rfl;have hGd : ∀m,dz (w3.drewN m) b G:=λm=>hG3.drewN m;clear d0 d1 d2 d3 d4 c0 c1 c2;go_wp2_with fail;have HS : Hid (∀V,Mv w3 V->V.cell? ⟨w.heap.size,4,none⟩=some (.slice a k c)/\dz V b G/\Mv w3 V):=λV hV =>
  ⟨(((HX.out.af hb2).af hb3).af hV).cell 4 rfl,hG3.af hV,hV⟩
 clear e4 hGd;go_region_held3 (λV=>V.cell? ⟨w.heap.size,4,none⟩=some (.slice a k c)/\dz V b G/\Mv w3 V)
  ((refine HS.out _ ?_;first | exact (GS _ _).drew | (go_split_ands;assumption) | (go_split_ands;exact LY (by assumption) (by assumption))))
  (first
   | (go_at_call 63;((with_reducible refine (zg (b:=b) (G:=G) (by go_split_ands;assumption)).mono ?_);rintro e w4 ⟨rfl,rfl⟩))
   | (go_at_call 207;((with_reducible refine (D9 (G.q : Int) k _ hq2 hq256 (by omega)).mono ?_);rintro e w5 ⟨rfl,rfl⟩)))
 all_goals go_wp2_with fail
 all_goals go_ret2
 all_goals exact ⟨rfl,LY (LY (LY hbW hb2) hb3) (by go_split_ands;assumption)⟩
def cmpL : LI->LI->Int
 | [],[]=>0
 | [],_ :: _=>-1
 | _ :: _,[]=>1
 | x :: a,y :: b=>if x<y then -1 else if y<x then 1 else cmpL a b
def eF (a b : LI) : Bool:=decide (a.length<b.length) || (decide (a.length=b.length) && decide (cmpL a b<0))
theorem ga {a b : LI} : eF a b=true ↔ a.length<b.length\/a.length=b.length/\cmpL a b<0:=by unfold eF;rw [Kj,Ib,Iy,Iy,Iy]
section
variable {O : aM} {El : Int->Prop} {m : Nat} {A B L : Ll}
def DV (O : aM) (m : Nat) (L : Ll) : Ll:=bz O m (dj O m (bz O m L) (aC O L m).2 m)
theorem ET (F : bZ O El) (hL : bG El m L) : bG El m (DV O m L):=di F (mJ F (di F hL) (dI F hL).1 (dw F hL))
theorem FC (F : bZ O El) (hA : bG El m A) {f : Nat->Int} (hf : ∀x,x<m->El (f x)) (h : ∀i,i<A.length->dotN O f (λp=>nth (ai A i) p) m=0) {g : Nat->Int} (hg : RS O El m A g) : dotN O f g m=0:=by obtain ⟨e,he,h2⟩:=hg;rw [iA (a':=f) (b':=λp=>e (bF A p)) m λp hp=>⟨rfl,h2 p hp⟩];exact lT F hA he hf h
def ez (m : Nat) (z : Int) : LI:=(List.replicate m 0).set z.toNat 1
theorem C3 (F : bZ O El) (m : Nat) (z : Int) : Vc El m (ez m z):=⟨by simp [ez],λy hy=>by
 rcases IX hy with h | rfl
 ·rw [IL h];exact F.zero
 ·exact F.one⟩
theorem RS.GC (F : bZ O El) (hL : bG El m L) {f : Nat->Int} (h : RS O El m L f) : ∃v,Vc El L.length v/\∀x,x<m->f x=nth (cmbTo O m v L L.length) x:=by
 obtain ⟨e,he,h2⟩:=h;obtain ⟨c,hc⟩ : ∃c,((List.range L.length).map λt=>e (jQ L.length t))=c:=⟨_,rfl⟩
 have hcl : c.length=L.length:=by rw [<- hc];simp
 have hcn : ∀t,t<L.length->nth c t=e (jQ L.length t):=λt ht=>by rw [<- hc,dC _ _ _ ht]
 have hcv : Vc El L.length c:=⟨hcl,λy hy=>by obtain ⟨t,ht,rfl⟩:=List.mem_iff_getElem.1 hy;rw [<- aj ht,hcn t (by omega)];exact he.el _ (l9 F _ _)⟩
 refine ⟨c,hcv,λx hx=>?_⟩;rw [h2 x hx,BC F he (dE hL F.zero x),uC F hL (λk hk=>hcv.at hk) hx _ (GQ _)];exact iA _ λp hp=>⟨(hcn p hp).symm,dH _ _ _ hp⟩
theorem EV {l : LN} {x : Nat} (hl : ∀y ∈ l,y<m) (hx : x<m) : oY O El A.length (bF A) l x ↔ ∀f,RS O El m A f->(∀y ∈ l,f y=0)->f x=0:=by
 constructor
 ·rintro h f ⟨e,he,h2⟩ h0;rw [h2 x hx];exact h e he λy hy=>by rw [<- h2 y (hl y hy)];exact h0 y hy
 ·intro h φ hφ h0;exact h (λx=>φ (bF A x)) ⟨φ,hφ,λ_ _=>rfl⟩ h0
end
section
variable {O : aM} {El : Int->Prop} {m : Nat} {L : Ll}
end
end Go.Proofs.YthglbncgemdcbaaGreat
