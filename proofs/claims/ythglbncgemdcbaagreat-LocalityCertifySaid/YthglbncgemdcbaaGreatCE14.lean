import Derived.Test.YthglbncgemdcbaaGreatCE12
import Derived.RangeFuncSeq
import Derived.Shelf.RegionOpen
import Derived.ArgAppend
namespace Go.Proofs.YthglbncgemdcbaaGreat
set_option linter.all false
set_option maxRecDepth 100000
set_option maxHeartbeats 8000000
open Go.RowKit Go.Proofs.Tryz
def lU (O:aP) (u:LI) (a:Int) (r:LI):LI:=if a=0 then u else List.zipWith (λy x=>if x=0 then y else O.add y (O.mul a x)) u r
def wlkS (O:aP) (q:Nat):Ll->LI->Ll
 | [],u=>[u]
 | r :: L,u=>(List.range q).flatMap λ(a:Nat)=>wlkS O q L (lU O u a r)
def nX (O:aP) (q:Nat) (r:LI) (L:Ll) (u:LI) (a:Nat):Ll:=(List.range a).flatMap λ(i:Nat)=>wlkS O q L (lU O u i r)
theorem Bd (O:aP) (q:Nat) (r:LI) (L:Ll) (u:LI) (a:Nat):nX O q r L u (a+1)=nX O q r L u a ++ wlkS O q L (lU O u a r):=by unfold nX;rw [Mn,OK,Oe]
theorem jy (O:aP) (q:Nat):∀(L:Ll) (u:LI),(wlkS O q L u).length=q ^ L.length
 | [],u=>by simp [wlkS]
 | r :: L,u=>by rw [wlkS,OL];have h:(List.range q).map (λ(a:Nat)=>(wlkS O q L (lU O u a r)).length)=(List.range q).map λ_=>q ^ L.length:=MF λa _=>jy O q L _;rw [h,Pc,Og,Ma,LB,MT,Me]
theorem wP (O:aP) (q:Nat) (r:LI) (L:Ll) (u:LI) (a:Nat):(nX O q r L u a).length=a * q ^ L.length:=by unfold nX;rw [OL];have h:(List.range a).map (λ(i:Nat)=>(wlkS O q L (lU O u i r)).length)=(List.range a).map λ_=>q ^ L.length:=MF λi _=>jy O q L _;rw [h,Pc,Og,Ma]
theorem lN (O:aP) (u:LI) (a:Int) (r:LI) (h:r.length=u.length):(lU O u a r).length=u.length:=by unfold lU;split <;> simp [h]
theorem xG (O:aP) (u:LI) (a:Int) (r:LI) (j:Nat) (h:r.length=u.length) (Z:j<u.length) (h0:a ≠ 0) :
  nth (lU O u a r) j=if nth r j=0 then nth u j else O.add (nth u j) (O.mul a (nth r j)):=by unfold lU;rw [KY h0,aj (show j<_ by simp [h];omega),aj Z,aj (show j<r.length by omega)];simp
theorem H4 {O:aP} {El:Int->Prop} (V:qC O El) {u r:LI} {a:Int} (hu:∀x ∈ u,El x) (U:∀x ∈ r,El x) (ha:El a) (X:r.length=u.length):∀x ∈ lU O u a r,El x:=by
 intro x Y;by_cases h0:a=0
 ·unfold lU at Y;rw [KX h0] at Y;exact hu x Y
 ·obtain ⟨j,Z,rfl⟩:=List.mem_iff_getElem.1 Y;rw [lN O u a r X] at Z;have h1:=xG O u a r j X Z h0;rw [aj (show j<(lU O u a r).length by rw [lN O u a r X];exact Z)] at h1;rw [h1];split
  ·exact hu _ (aG Z)
  ·exact V.add _ _ (hu _ (aG Z)) (V.mul _ _ ha (U _ (aG (by omega))))
section
open Go.RowKit Go.Shelf
structure WX where
 a:OA
 c:Nat
 l:LI
structure J6 (V:World) (b:Nat) (G:cZ) (Bc Bat By Bg Bf l:Nat) (ag:OA) (k cg:Nat) (L:Ll):Prop where
 gen:V.cell? ⟨Bc,4,none⟩=some (.slice ag k cg)
 iZ:bw V ag k L
 yl:V.cell? ⟨By,0,none⟩=some (.func (.yield l) #[] #[])
 gp:V.cell? ⟨Bg,0,none⟩=some (.pointer (some ⟨b,0,none⟩))
 gf:dU V b G
 fr:V.cell? ⟨Bf,0,none⟩=some (.func (.func 251) #[] #[.pointer (some ⟨Bc,0,none⟩),.pointer (some ⟨Bat,0,none⟩),.pointer (some ⟨By,0,none⟩),.pointer (some ⟨Bg,0,none⟩),.pointer (some ⟨Bf,0,none⟩)])
 lt:Bat<V.heap.size
def zH (V:World) (B i:Nat):Prop:=V.cell? ⟨B,0,none⟩=some (cG i)/\V.frozen? ⟨B,0,none⟩=false
theorem zH.of_block {V Z:World} {B i:Nat} (h:zH V B i) (hb:Z.heap[B]? = V.heap[B]?):zH Z B i :=
 ⟨(Lu (w:=V) (a:=⟨B,0,none⟩) hb).trans h.1,(LK (w:=V) (a:=⟨B,0,none⟩) hb).trans h.2⟩
theorem zH.af {V Z:World} {B i:Nat} (h:zH V B i) (hb:PY V Z):zH Z B i:=h.of_block (hb.block _ (Lb _ _ h.1))
attribute [local go_sem] Ol
def Ka (l n:Nat) (J:List WX->World->Prop) (M:Nat->Prop) (m:Nat) (pre:List WX) (x:WX) (V:World):Prop :=
 YieldAt Fence.wide m prog l #[cG (pre.length:Nat),.slice x.a n x.c] V λe Z=>e = .returned (.bool true)/\J (pre ++ [x]) Z/\aC V Z M M
theorem aC.wide {w w':World} {M I:Nat->Prop} (h:aC w w' M M) (Z:∀x,M x->I x):aC w w' I I :=
 ⟨h.os,h.tape,h.output,h.size,λb hb hI=>h.block b hb λhm=>hI (Z _ hm),λ_ h=>.inl h⟩
theorem aC.setAt (w:World) {I:Nat->Prop} {B:Nat} (Y:I B) (v:Value):aC w (w.setCell ⟨B,0,none⟩ v) I I:=by have Z:Below 0 w (w.setCell ⟨B,0,none⟩ v):=(KU 0 w).setCell (K0 _) v;exact ⟨Z.os,Z.tape,Z.output,Z.size,λb hb hI=>Lf _ _ _ _ λe=>hI (e ▸ Y),λb hb=>.inl hb⟩
theorem vb {W0:World} {b:Nat} {G:cZ} {Bc Bat By Bg Bf l:Nat} {ag:OA} {k cg n:Nat} {L:Ll} {I:Nat->Prop}
  (J:List WX->World->Prop) (M:Nat->Prop) (hMI:∀x,M x->I x) (hIB:I Bat) (hMB:¬ M Bat) (hIl:∀x,I x->x<W0.heap.size)
  (HE:∀V,aC W0 V I I->J6 V b G Bc Bat By Bg Bf l ag k cg L)
  (hJa:∀pre V V',J pre V->PY V V'->J pre V')
  (hJb:∀pre V v,(∀x ∈ pre,ablk x.a ≠ Bat)->J pre V->J pre (V.setCell ⟨Bat,0,none⟩ v))
  (N:Nat)
  (hY:∀m pre x V,aC W0 V I I->J pre V->pre.length<N->Ints V x.a n x.l->(∀j,I j->j ≠ ablk x.a)->Ka l n J M m pre x V)
  (hN:N<=1000000) (hn:n<=1000000) (hn1:1<=n)
  (D:OA) (cu:Nat) (u:LI) (pre:List WX) (W:World) (hW:aC W0 W I I) (hJ:J pre W) (hp:∀x ∈ pre,ablk x.a ≠ Bat)
  (Q:zH W Bat pre.length) (hu:Ints W D n u) (hau:∀j,I j->j ≠ ablk D) (hlt:pre.length<N) :
  Calls prog 251 #[cG k,.slice D n cu,.pointer (some ⟨Bc,0,none⟩),.pointer (some ⟨Bat,0,none⟩),.pointer (some ⟨By,0,none⟩),.pointer (some ⟨Bg,0,none⟩),.pointer (some ⟨Bf,0,none⟩)] W
   λe V=>e = .returned (.bool true)/\∃xs:List WX,xs.map WX.l=[u]/\J (pre ++ xs) V/\(∀x ∈ pre ++ xs,ablk x.a ≠ Bat)/\zH V Bat (pre ++ xs).length/\aC W V I I:=by
 obtain rfl:u.length=n:=hu.len;have E:=HE W hW;obtain ⟨cgen,hmat,cyl,cgp,hgf,cfr,hltB⟩:=E;have hat:=Q.1;have hfz:=Q.2;clear hmat cgp hgf cfr;have H:=Z5 HE;have HJa:=Z5 hJa;have HJb:=Z5 hJb;have HY:=Z5 hY;have Hau:=Z5 hau;have Hp:=Z5 hp;clear HE hJa hJb hY hau hp;refine (callsIn_wide (n:=8)).1 ?_;refine callsIn_of_wp func251 rfl trivial ?_ rfl;simp only [ntmps251,MV,LB,M9,Nat.reduceAdd,Nat.reduceSub,My,Mz,MW,ME,L3,MG];gi_wp2;obtain ⟨Y,Z⟩:∃Y,Y=W.setCell ⟨Bat,0,none⟩ (Value.int .i64 ((pre.length:Int)+1)):=⟨_,rfl⟩
 rw [<- Z];have S:aC W Y I I:=by rw [Z];exact aC.setAt _ hIB _
 have X:=hW.trans S;have cyl1:=(H Y X).yl;have cat1:Y.cell? ⟨Bat,0,none⟩=some (cG ((pre.length:Int)+1)):=by rw [Z];exact Nl _ _ _ (by rw [hat];rfl)
 have fat1:Y.frozen? ⟨Bat,0,none⟩=false:=by rw [Z,L7];exact hfz
 have r:Ints Y D u.length u:=hu.dc S (λ_ h=>Hau _ h rfl);have z:J pre Y:=by rw [Z];exact HJb _ _ _ Hp.out hJ
 have hudr:Ints Y.drew D u.length u:=r.af (KU _ _).drew;have HS:Hid (∀V a4 c4,V.ownsRow Y.drew.heap.size 3 1 (.slice a4 u.length c4) u.length (u.map (Value.int .i64))->Below Y.drew.heap.size Y.drew V ->
   V.cell? ⟨By,0,none⟩=some (.func (.yield l) #[] #[])/\V.cell? ⟨Bat,0,none⟩=some (cG ((pre.length:Int)+1))/\V.frozen? ⟨Bat,0,none⟩=false/\ablk a4 ≠ Bat/\aC W V I I/\Ka l u.length J M 7 pre ⟨a4,c4,u⟩ V):=by intro V a4 c4 ho hb;have U:PY Y V:=(KU _ Y).drew.trans hb;have F:aC Y V I I:=Pr U I;obtain ⟨ia,_⟩:=Pn ho;have hne:=aT ho (λe=>by have:=ia.pl (by omega);rw [e] at this;cases this);have hBl:Bat<Y.heap.size:=(H Y X).lt;have hsz:Y.drew.heap.size=Y.heap.size:=rfl;refine ⟨(H V (X.trans F)).yl,(U.cell (p:=⟨Bat,0,none⟩) hBl).trans cat1,(U.frozen (p:=⟨Bat,0,none⟩) hBl).trans fat1,by show ablk a4 ≠ _;omega,S.trans F,?_⟩;refine HY.out 7 pre ⟨a4,c4,u⟩ V (X.trans F) (HJa _ _ _ z U) hlt ia λj hj=>?_;have h1:=hIl j hj;have h2:=X.size;show j ≠ ablk a4;omega
 clear Z z X r S hat;have hwr:IntKind.i64.wrap ((pre.length:Nat):Int)=(pre.length:Nat):=La _ (by omega);have hmx:prog.follows .mixedOrders=true:=by kernel_rfl
 gi_region_with_o (first
  | ((try refine ⟨trivial,?_⟩);gi_at_call 115;refine (callsIn_wide.2 (dp D u.length cu u hudr hn)).mono ?_;rintro e w4 ⟨a4,c4,rfl,ho4,hb4⟩;obtain ⟨cyl4,K,fat4,hne4,hm4,fn,tmps,assign,body,hy,hR⟩:=HS _ _ _ ho4 hb4)
  | (refine hR.mono ?_;rintro e V ⟨rfl,hJ5,C⟩))
 all_goals gi_wp2
 all_goals go_ret
 all_goals exact ⟨rfl,[⟨a4,c4,u⟩],rfl,hJ5,λx hx=>by
   rcases List.mem_append.1 hx with hx | hx
   ·exact Hp x hx
   ·rw [List.mem_singleton.1 hx];exact hne4,by
   have h1:zH V Bat (pre.length+1):=zH.of_block ⟨K,fat4⟩ (C.block _ (Lb _ _ K) hMB);rw [K6];exact h1,hm4.trans (C.wide hMI)⟩
end
def si (P M:Int) (mod:LI) (m:Nat) (L:Ll) (w:World) (e:Ending) (w':World):Prop :=
 ∃a1 c1 a2 c2,e = .returned (.tuple #[.agg #[cG P,cG M,.slice a1 mod.length c1,cG m,.slice a2 (bZ (ah P M.toNat mod) L m).length c2],cG 0])/\bL w.heap.size w' a1 mod.length mod /\
  cF w.heap.size w' a2 (bZ (ah P M.toNat mod) L m).length (bZ (ah P M.toNat mod) L m)/\PY w w'
theorem pU (P M:Int) (am:OA) (N cm:Nat) (mod:LI) (m:Nat) (a:OA) (n c:Nat) (L:Ll) (w:World) (Q:Ints w am N mod) (hi:bw w a n L)
  (hE:dE P M mod m L=0) (hm1:1<=m) (hm64:m<=64) (hmn:N<=1000000) :
  Calls prog 68 #[.agg #[cG P,cG M,.slice am N cm],.agg #[cG m,.slice a n c]] w (si P M mod m L w):=by
 go_enter func68,ntmps68;go_upto_region 1 with fail;obtain ⟨W,E⟩:∃W:World,W=((w.alloc (.cells #[cG P,cG M,.slice am N cm] 24)).alloc (.cells #[cG m,.slice a n c] 94)).alloc (.cells #[cG 0,cG 0,ds,cG 0,ds] 27):=⟨_,rfl⟩
 rw [<- E];have U:PY w W:=by rw [E];exact kS _ _ _ _
 have hsW:W.heap.size=w.heap.size+3:=by rw [E];simp
 have x0:aQ W w.heap.size [cG P,cG M,.slice am N cm]:=by rw [E];exact ((Po _ _ _ rfl).alloc _).alloc _
 have y0:aQ W (w.heap.size+1) [cG m,.slice a n c]:=by rw [E];exact (Po _ _ _ (by simp)).alloc _
 have z0:aQ W (w.heap.size+1+1) [cG 0,cG 0,ds,cG 0,ds]:=by rw [E];exact Po _ _ _ (by simp)
 clear E;have HC:Hid (Calls prog 118 #[.agg #[cG P,cG M,.slice am N cm],.agg #[cG m,.slice a n c]] W λe w'=>PY W w'/\∃a2 c2 ap cp,e = .returned (.tuple #[.agg #[cG m,.slice a2 (bZ (ah P M.toNat mod) L m).length c2],.slice ap (bZ (ah P M.toNat mod) L m).length cp,cG 0]) /\
   cF W.heap.size w' a2 (bZ (ah P M.toNat mod) L m).length (bZ (ah P M.toNat mod) L m)):=by
  refine (mF P M am N cm mod m a n c L W (Q.af U) (hi.af U)).mono ?_;rintro e w1 ⟨F,⟨h0,_⟩ | ⟨_,m',hm',a1,c1,ap,cp,rfl,r,_⟩⟩
  ·exact absurd hE h0
  ·obtain rfl:m=m':=by omega
   rw [<- dM] at r ⊢;exact ⟨F,a1,c1,ap,cp,rfl,r⟩
 have HO:Hid (∀V a5 k5 X,PY W V->Calls prog 120 #[.agg #[cG P,cG M,.slice am N cm],.agg #[cG m,.slice a5 k5 X],cG 0] V (pz P M mod m a5 k5 X V)):=λV a5 k5 X hV =>
  Bw P M am N cm mod m a5 k5 X V (Q.af (Pm U hV)) hmn
 have Y:Hid (∀a1 c1 a2 c2 w',bL w.heap.size w' a1 mod.length mod->cF w.heap.size w' a2 (bZ (ah P M.toNat mod) L m).length (bZ (ah P M.toNat mod) L m)->PY w w' ->
   si P M mod m L w (.returned (.tuple #[.agg #[cG P,cG M,.slice a1 mod.length c1,cG m,.slice a2 (bZ (ah P M.toNat mod) L m).length c2],cG 0])) w'):=λa1 c1 a2 c2 w' h1 h2 h3=>⟨a1,c1,a2,c2,rfl,h1,h2,h3⟩
 have Hle:Hid (i7 (m:Int)=0):=qN (by omega) (by omega);obtain ⟨KM,z⟩:∃KM,bZ (ah P M.toNat mod) L m=KM:=⟨_,rfl⟩
 rw [z] at HC Y;have hS:∀V,PY W V->V.cell? ⟨w.heap.size,0,none⟩=some (cG P)/\V.cell? ⟨w.heap.size,1,none⟩=some (cG M)/\V.cell? ⟨w.heap.size,2,none⟩=some (.slice am N cm)/\V.cell? ⟨w.heap.size+1,0,none⟩=some (cG m)/\V.cell? ⟨w.heap.size+1,1,none⟩=some (.slice a n c) /\
   aQ V (w.heap.size+1+1) [cG 0,cG 0,ds,cG 0,ds]:=λV hV=>by have x1:=x0.af hV;have y1:=y0.af hV;exact ⟨x1.cell 0 rfl,x1.cell 1 rfl,x1.cell 2 rfl,y1.cell 0 rfl,y1.cell 1 rfl,z0.af hV⟩
 have HS:=Z5 hS;have HbW:=Z5 U;have HsW:=Z5 hsW;obtain ⟨q,hq⟩:∃q,KM.length=q:=⟨_,rfl⟩
 rw [hq] at HC Y;clear hE z hS x0 y0 z0 U hsW Q hi hq;go_cut [6,7,8] (λv6 v7 v8 wx=>∃g a5 X,v6 = .pointer (some ⟨g,0,none⟩)/\v8 = cG 0/\wx.cell? ⟨g,0,none⟩=some (cG m)/\wx.cell? ⟨g,1,none⟩=some (.slice a5 q X)/\cF W.heap.size wx a5 q KM/\PY W wx);case first =>
  obtain ⟨c0,c1,c2,c3,c4,_⟩:=HS W (KU _ _)
  go_wp2_with fail
  refine HC.mono ?_
  rintro e w1 ⟨F,a5,X,ap,cp,rfl,K⟩
  clear c0 c1 c2 c3 c4
  go_wp2_with fail
  go_meet
  exact ⟨w1.heap.size,a5,X,rfl,rfl,aF _ _ _ rfl 0,aF _ _ _ rfl 1,K.af (an _ _),Pm F (an _ _)⟩
 obtain ⟨g,a5,X,rfl,rfl,g0,g1,K,S⟩:=hcut;generalize wc=V at *;obtain ⟨c0,c1,c2,c3,c4,zz⟩:=HS V S;have HOV:=Z5 (HO V a5 q X S);clear HC HO;go_wp2_with fail;refine (sB m V).mono ?_;rintro e w5 ⟨rfl,rfl⟩;rw [Hle.out];go_wp2_with fail;refine HOV.mono ?_;rintro e w6 ⟨a6,c6,rfl,hN6,D⟩;obtain ⟨_,_,_,_,_,Z⟩:=HS w6 (Pm S D);have z0:=Z.cell 0 rfl;have z1:=Z.cell 1 rfl;have z2:=Z.cell 2 rfl;have z3:=Z.cell 3 rfl;have z4:=Z.cell 4 rfl;have f0:=Z.frozen 0;have f1:=Z.frozen 1;have f2:=Z.frozen 2;have f3:=Z.frozen 3;have f4:=Z.frozen 4;have hbF:=Pm HbW.out (Pm S D);have hs:=HsW.out;have hs2:=S.size;have j:=K.af D;have H:=Y a6 c6 a5 X (((((w6.setCell ⟨w.heap.size+1+1,0,none⟩ (cG P)).setCell ⟨w.heap.size+1+1,1,none⟩ (cG M)).setCell ⟨w.heap.size+1+1,2,none⟩ (.slice a6 mod.length c6)).setCell ⟨w.heap.size+1+1,3,none⟩ (cG m)).setCell ⟨w.heap.size+1+1,4,none⟩ (.slice a5 q X))
  ((((((hN6.setCell (p:=⟨w.heap.size+1+1,0,none⟩) (by simp;omega) _).setCell (p:=⟨w.heap.size+1+1,1,none⟩) (by simp;omega) _).setCell (p:=⟨w.heap.size+1+1,2,none⟩) (by simp;omega) _).setCell (p:=⟨w.heap.size+1+1,3,none⟩) (by simp;omega) _).setCell (p:=⟨w.heap.size+1+1,4,none⟩) (by simp;omega) _).mono (by omega))
  ((((((j.setCell (p:=⟨w.heap.size+1+1,0,none⟩) (by simp;omega) _).setCell (p:=⟨w.heap.size+1+1,1,none⟩) (by simp;omega) _).setCell (p:=⟨w.heap.size+1+1,2,none⟩) (by simp;omega) _).setCell (p:=⟨w.heap.size+1+1,3,none⟩) (by simp;omega) _).setCell (p:=⟨w.heap.size+1+1,4,none⟩) (by simp;omega) _).mono (by omega))
  (((((hbF.setCell (p:=⟨w.heap.size+1+1,0,none⟩) (by simp;omega) _).setCell (p:=⟨w.heap.size+1+1,1,none⟩) (by simp;omega) _).setCell (p:=⟨w.heap.size+1+1,2,none⟩) (by simp;omega) _).setCell (p:=⟨w.heap.size+1+1,3,none⟩) (by simp;omega) _).setCell (p:=⟨w.heap.size+1+1,4,none⟩) (by simp;omega) _)
 have C:=Z5 H;clear H j K hN6 HOV zz Z;go_wp2_with fail;exact bodyPost_ret (v:=.tuple #[.agg #[cG P,cG M,.slice a6 mod.length c6,cG m,.slice a5 q X],cG 0]) (by simp [results,results68,go_sem,z0,z1,z2,z3,z4]) rfl C.out
theorem pE {O O':aP} {El:Int->Prop} (F:bK O El) (h:Ji O O' El) {m:Nat} {L:Ll} (Y:bt El m L) {x:LI} (Z:∀k,k<L.length->El (nth x k)):∀k,k<=L.length->cmbTo O m x L k=cmbTo O' m x L k
 | 0,_=>rfl
 | k+1,X=>by have h1:=(iM F Y Z k (by omega)).1;rw [cmbTo,cmbTo,<- pE F h Y Z k (by omega),kL h F.cl _ _ _ h1.2 (Y.row (i:=k) (by omega)).2 (Z k (by omega))]
theorem nE (P:Int) (m:Nat) (am:OA) (F cm:Nat) (mod:LI) (j:OA) (cx:Nat) (x:LI) (a:OA) (n c:Nat) (L:Ll) (Z:Nat) (w:World) (hf:tK w P m am F mod)
  (hx:Ints w j n x) (hi:bw w a n L) (hxe:∀k,k<n->eW P m (nth x k)) (hR:bt (eW P m) Z L) (hv:∀k,k<=n->Vc (eW P m) Z (cmbTo (kG P m mod) Z x L k)) (hc:Z<=1000000) (hn:n<=1000000) :
  Calls prog 213 #[.agg #[cG P,cG m,.slice am F cm],.slice j n cx,.slice a n c,cG Z] w λe w' =>
   ∃a1 c1,e = .returned (.slice a1 Z c1)/\w'.ownsRow w.heap.size 3 1 (.slice a1 Z c1) Z ((cmbTo (kG P m mod) Z x L n).map (Value.int .i64))/\PY w w':=by
 have Hil:=Z5 hi.len;have hplx:=hx.pl;have hpla:=hi.pl;have HR:=Z5 hR;have Hv:=Z5 hv;have Hxe:=Z5 hxe;obtain ⟨O,hO⟩:∃O,kG P m mod=O:=⟨_,rfl⟩
 have HA:Hid (∀V k a1 c1 H rc,k<n->PY w V->Ints V a1 Z (cmbTo O Z x L k)->Ints V H Z (ai L k)->∀V2,PY V V2 ->
   Calls prog 227 #[.agg #[cG P,cG m,.slice am F cm],.slice a1 Z c1,cG (nth x k),.slice H Z rc] V2 λe w' =>
    ∃a2 c2,e = .returned (.slice a2 Z c2)/\w'.ownsRow V2.heap.size 3 1 (.slice a2 Z c2) Z ((bX O (cmbTo O Z x L k) (nth x k) (ai L k)).map (Value.int .i64))/\PY V2 w'):=λV k a1 c1 H rc hk hV h1 h2 V2 z=>by have X:=HR.row (i:=k) (by rw [Hil.out];exact hk);have S:=Hv k (by omega);rw [hO] at S;have h:=na P m am F cm mod a1 Z c1 (cmbTo O Z x L k) (nth x k) H rc (ai L k) V2 (hf.af (Pm hV z)) (Hxe k hk) (h1.af z) (h2.af z) S.2 X.2 hc;refine h.mono ?_;rintro e w' ⟨a2,c2,rfl,Y,hb⟩;rw [hO,dm _ _ _ _ (by rw [X.1,S.1]),S.1] at Y;rw [hO,dm _ _ _ _ (by rw [X.1,S.1]),S.1];exact ⟨a2,c2,rfl,Y,hb⟩
 have hz:(cmbTo O Z x L 0).map (Value.int .i64)=List.replicate Z (Value.int .i64 0):=by simp [cmbTo]
 have Hz:=Z5 hz;rw [hO];clear hO hR hv hxe hz;go_enter func213,ntmps213;go_upto_region 1 with fail;obtain ⟨W,hW⟩:∃W:World,W=w.alloc (.cells #[cG P,cG m,.slice am F cm] 24):=⟨_,rfl⟩
 rw [<- hW];have r:PY w W:=by rw [hW];exact an _ _
 have x0:aQ W w.heap.size [cG P,cG m,.slice am F cm]:=by rw [hW];exact Po _ _ _ rfl
 have HX:=Z5 x0;have E:=Z5 r;have hxW:=hx.af r;have hiW:=hi.af r;clear hW x0;go_wp2_with (at_make;refine bV rfl _ _ 22 3 rfl (cG 0) 8 underlying22 bh rfl Z rfl rfl (by omega) (by unfold maxLen;omega) ?_;intro a5 w5 Y K hge Q);have N:w5.ownsRow W.heap.size 3 1 (.slice a5 Z Z) Z ((cmbTo O Z x L 0).map (Value.int .i64)):=by rw [Hz.out];exact Y
 clear Y hge Q;go_loopw [9,10] (λov iv wr=>∃(k:Nat) (a1:OA) (c1:Nat),k<=n/\iv = cG k/\ov = .slice a1 Z c1/\wr.ownsRow W.heap.size 3 1 (.slice a1 Z c1) Z ((cmbTo O Z x L k).map (Value.int .i64))/\PY W wr) (λ_ iv _=>n - (intOf iv).toNat);case atStart=>exact ⟨0,a5,Z,K0 _,rfl,rfl,N,K⟩
 case round =>
  clear N K
  obtain ⟨k,a1,c1,hk,rfl,rfl,Y,U⟩:=hrel
  by_cases Q:k<n
  ·have cxk:=(hxW.af U).cell k Q
   have X:=HR.row (i:=k) (by rw [Hil.out];exact Q)
   obtain ⟨H,rn,rc,er,ir⟩:=(hiW.af U).cell k Q
   have hrn:rn=Z:=by rw [<- ir.len];exact X.1
   rw [hrn] at er ir
   clear hrn X
   by_cases h0:nth x k=0
   ·have h0':(nth x k != 0)=false:=by simpa using h0
    have Hn:Hid (cmbTo O Z x L (k+1)=cmbTo O Z x L k):=by show _=_;rw [cmbTo,KX h0]
    clear h0
    go_wp2_with fail
    go_roundw
    case rel=>exact ⟨k+1,a1,c1,by omega,by go_num,rfl,by rw [Hn.out];exact Y,U⟩
    case measure=>simp [intOf] <;> omega
   ·have h0':(nth x k != 0)=true:=by simpa using h0
    have Hn:Hid (cmbTo O Z x L (k+1)=bX O (cmbTo O Z x L k) (nth x k) (ai L k)):=by show _=_;rw [cmbTo,KY h0]
    have hbwr:=Pm E.out U
    have Hk:=Z5 (HA wr k a1 c1 H rc Q hbwr (Pn Y).1 ir)
    have HS2:Hid (∀V,PY wr V->V.cell? ⟨w.heap.size,0,none⟩=some (cG P)/\V.cell? ⟨w.heap.size,1,none⟩=some (cG m)/\V.cell? ⟨w.heap.size,2,none⟩=some (.slice am F cm) /\
      V.cell? ⟨ablk j,aJ j+k,none⟩=some (cG (nth x k))/\V.cell? ⟨ablk a,aJ a+k,none⟩=some (.slice H Z rc)/\PY wr V):=λV hV=>by have x1:=HX.af (Pm U hV);exact ⟨x1.cell 0 rfl,x1.cell 1 rfl,x1.cell 2 rfl,aB hV cxk,aB hV er,hV⟩
    have Hbr:=Z5 U
    have hszr:=U.size
    clear h0 U Y ir HA
    go_wp2_with fail
    go_region_held3 (λV=>V.cell? ⟨w.heap.size,0,none⟩=some (cG P)/\V.cell? ⟨w.heap.size,1,none⟩=some (cG m)/\V.cell? ⟨w.heap.size,2,none⟩=some (.slice am F cm) /\
      V.cell? ⟨ablk j,aJ j+k,none⟩=some (cG (nth x k))/\V.cell? ⟨ablk a,aJ a+k,none⟩=some (.slice H Z rc)/\PY wr V)
     ((refine HS2 _ ?_;first | exact (KU _ _).drew | exact Pm (KU _ _).drew hb4))
     (first
      | (go_at_call 227;((with_reducible refine (Hk.out _ (KU _ _).drew).mono ?_);rintro e w4 ⟨a4,c4,rfl,D,hb4⟩)))
    have hbr4:=Pm Hbr.out (Pm (KU _ _).drew hb4)
    have C:=aY D (show W.heap.size<=wr.drew.heap.size from hszr)
    go_wp2_with fail
    go_roundw
    case rel=>exact ⟨k+1,a4,c4,by omega,by go_num,rfl,by rw [Hn.out];exact C,hbr4⟩
    case measure=>simp [intOf] <;> omega
  ·obtain rfl:k=n:=by omega
   have hF:=aY Y E.size
   have HF:=Z5 hF
   have hbF:=Pm E.out U
   clear hF Y
   go_wp2_with fail
   go_ret
   exact ⟨a1,c1,rfl,HF,hbF⟩
def lk (q:Int) (l:LI) (n:Nat):Int:=if l.length=n then iO q l else 4
theorem xI (P M:Int) (am:OA) (Y cm:Nat) (a:OA) (n c:Nat) (l:LI) (k:Nat) (w:World) (hi:Ints w a n l) :
  Calls prog 36 #[.agg #[cG P,cG M,.slice am Y cm],.slice a n c,cG k] w λe w'=>e = .returned (cG (lk (aK P M) l k))/\PY w w':=by
 have N:=hi.len;go_enter func36,ntmps36;go_upto_region 1 with fail;obtain ⟨W,X⟩:∃W:World,W=w.alloc (.cells #[cG P,cG M,.slice am Y cm] 24):=⟨_,rfl⟩
 rw [<- X];have Z:PY w W:=by rw [X];exact an _ _
 have V:aQ W w.heap.size [cG P,cG M,.slice am Y cm]:=by rw [X];exact Po _ _ _ rfl
 have c0:=V.cell 0 rfl;have c1:=V.cell 1 rfl;have c2:=V.cell 2 rfl;clear X V;by_cases h1:n=k
 ·have Q:Hid (lk (aK P M) l k=iO (aK P M) l):=by show _=_;rw [lk,KX (by omega)]
  have K:=Z5 (kV P M am Y cm a n c l W (hi.af Z));have S:((n:Int) != k)=false:=by rw [show (n:Int)=k by omega];simp
  clear h1 N;generalize iO (aK P M) l=H at *;go_wp2_with fail;refine K.mono ?_;rintro e F ⟨rfl,U⟩;have hF:=Pm Z U;go_wp2_with fail;go_ret;exact ⟨aN Q.symm,hF⟩
 ·have Q:Hid (lk (aK P M) l k=4):=by show _=_;rw [lk,KY (by omega)]
  have S:((n:Int) != k)=true:=by simp only [bne_iff_ne,ne_eq];omega
  clear h1 N;go_wp2_with fail;go_ret;exact ⟨aN Q.symm,Z⟩
theorem qu {σ:Type} (I:World->σ->Prop) (J:σ->Nat->Prop) (val:σ->Ll) (F:LI->LI->Ll->Int × Ll) (pb W:Nat)
  (sa:OA) (ns cs:Nat) (s:LI) (az:OA) (nz cz:Nat) (z:LI) (at':OA) (nt ct:Nat) (t:LI) (w:World) (Y:σ)
  (hI0:I w Y) (hIb:∀V V' σ,I V σ->aC V V' (λb=>w.heap.size<=b/\¬ J σ b) (λb=>w.heap.size<=b/\¬ J σ b)->I V' σ) (hp:w.cell? ⟨pb,9,none⟩=some (cG W)) (hS:∀V σ,I V σ->Ints V sa ns s/\Ints V at' nt t)
  (hJ:∀V σ x,I V σ->J σ x->x<V.heap.size) (hz:Ints w az nz z) (htn:t.Nodup) (hns:ns<=1000) (hnz:nz<=1000) (hnt:nt<=1000) (hWs:ns<=W)
  (hF:ns<W->∀(V:World) (σ:σ) (a1:OA) (c1:Nat) (a2:OA) (c2 k:Nat) (Z:LI),k<nt->Z=z ++ (t.take k).filter (λx=>decide (¬ x ∈ z))->¬ nth t k ∈ z->I V σ->aC w V (J Y) (J σ) ->
   Ints V a1 (ns+1) (s ++ [nth t k])->Ints V a2 Z.length Z->¬ J σ (ablk a1)->(a2 ≠ none->¬ J σ (ablk a2)) ->
   Calls prog 193 #[.pointer (some ⟨pb,0,none⟩),.slice a1 (ns+1) c1,.slice a2 Z.length c2] V
    λe V'=>∃X,I V' X/\aC V V' (J σ) (J X)/\e = .returned (cG (F (s ++ [nth t k]) Z (val σ)).1)/\((F (s ++ [nth t k]) Z (val σ)).1=0->val X=(F (s ++ [nth t k]) Z (val σ)).2)) :
  Calls prog 234 #[.pointer (some ⟨pb,0,none⟩),.slice sa ns cs,.slice az nz cz,.slice at' nt ct,.func (.func 193) #[.pointer (some ⟨pb,0,none⟩)] #[]] w
   λe w'=>∃X,I w' X/\aC w w' (J Y) (J X)/\e = .returned (cG (e9 F s z (if ns<W then t.filter (λx=>decide (¬ x ∈ z)) else []) (val Y)).1) /\
    ((e9 F s z (if ns<W then t.filter (λx=>decide (¬ x ∈ z)) else []) (val Y)).1=0->val X=(e9 F s z (if ns<W then t.filter (λx=>decide (¬ x ∈ z)) else []) (val Y)).2):=by
 obtain ⟨KB,hKB⟩:∃KB,e9 F s z (if ns<W then t.filter (λx=>decide (¬ x ∈ z)) else []) (val Y)=KB:=⟨_,rfl⟩
 rw [hKB];have HKB:=Z5 hKB;clear hKB;have Hzl:=Z5 hz.len;have Htl:=Z5 (hS w Y hI0).2.len;have Hsl:=Z5 (hS w Y hI0).1.len;have hplt:=(hS w Y hI0).2.pl;have HS:=Z5 hS;have HI0:=Z5 hI0;have HIb:=Z5 hIb;have HJ:=Z5 hJ;have Htn:=Z5 htn;have HF:=Z5 hF;clear hS hI0 hIb hJ htn hF;by_cases hW:ns=W
 ·have hd:((ns:Int) == (W:Int))=true:=by simp;omega
  have Hk:Hid (KB=(0,val Y)):=by show _=_;rw [<- HKB.out,KY (by omega)];rfl
  go_enter func234,ntmps234;clear hW;go_wp2_with fail;go_ret;exact ⟨Y,HI0,Pz _ _,by rw [Hk.out];rfl,λ_=>by rw [Hk.out]⟩
 have hd:((ns:Int) == (W:Int))=false:=by simp;omega
 have hlW:ns<W:=by omega
 have HKB:Hid (KB=e9 F s z (t.filter (λx=>decide (¬ x ∈ z))) (val Y)):=by show _=_;rw [<- HKB.out,KX hlW]
 have HF:=Z5 (HF hlW);clear hlW hW;go_enter func234,ntmps234;go_wp2_with fail;refine (dp az nz cz z hz (by omega)).mono ?_;rintro e w1 ⟨a0,c0,rfl,hown0,hb1⟩;have hI1:=HIb w w1 Y HI0.out (Pr hb1 _);go_wp2_with fail;go_loopw [2,25] (λzv iv wr=>∃(k:Nat) (j:OA) (cq:Nat) (Z:LI) (σ:σ),k<=nt/\iv = cG k/\zv = .slice j Z.length cq/\Hid (Z=z ++ (t.take k).filter (λx=>decide (¬ x ∈ z))) /\
   wr.ownsRow w.heap.size 3 1 (.slice j Z.length cq) Z.length (Z.map (Value.int .i64))/\Hid (I wr σ)/\Hid (aC w wr (J Y) (J σ))/\Hid (j ≠ none->¬ J σ (ablk j)) /\
   Hid (KB=e9 F s Z ((t.drop k).filter (λx=>decide (¬ x ∈ z))) (val σ))/\Z.length<=nz+k)
  (λ_ iv _=>nt - (intOf iv).toNat)
 case atStart =>
  refine ⟨0,a0,c0,z,Y,K0 _,rfl,rfl,?_,hown0,hI1,Pr hb1 _,?_,?_,by rw [Hzl.out];omega⟩
  ·show _=_;simp
  ·show a0 ≠ none->_
   intro ha hj
   have h1:=HJ w Y _ HI0.out hj
   have h2:=(aT hown0 ha).1
   omega
  ·show _=_;rw [MK];exact HKB
 case round =>
  obtain ⟨k,j,cq,Z,σ,hk,rfl,rfl,hzc,hop,hI,hM,hap,hkb,hzn⟩:=hrel
  generalize wr=U at *
  by_cases hlt:k<nt
  ·have htU:=(HS U σ hI.out).2
   have hsU:=(HS U σ hI.out).1
   have ck:=htU.cell k hlt
   obtain ⟨hzi,_⟩:=Pn hop
   have hktl:k<t.length:=by rw [Htl.out];exact hlt
   have Htk:=Z5 (show t.take (k+1)=t.take k ++ [nth t k] from oe t hktl)
   have Hdk:=Z5 (show t.drop k=nth t k :: t.drop (k+1) by rw [aj hktl];exact LH hktl)
   have Hzm:Hid (nth t k ∈ Z ↔ nth t k ∈ z):=by
    show _ ↔ _;rw [hzc.out,L8,MQ];constructor
    ·rintro (h | h)
     ·exact h
     ·exfalso;have hn:(t.take k ++ t.drop k).Nodup:=by rw [Nb];exact Htn
      rw [Mq] at hn;exact hn.2.2 _ h.1 (nth t k) (by rw [Hdk.out];simp) rfl
    ·exact .inl
   by_cases K:nth t k ∈ z
   ·have hmd:decide (nth t k ∈ Z)=true:=by simpa using Hzm.2 K
    have HcA:=Z5 (dg j Z.length cq Z (nth t k) U hzi)
    rw [hmd] at HcA
    have r:Hid (Z=z ++ (t.take (k+1)).filter (λx=>decide (¬ x ∈ z))):=by show _=_;rw [Htk.out,M5,MA (by simpa using K),Na,Mh];exact hzc
    have S:Hid (KB=e9 F s Z ((t.drop (k+1)).filter (λx=>decide (¬ x ∈ z))) (val σ)):=by show _=_;rw [hkb.out,Hdk.out,MA (by simpa using K)]
    clear K hmd
    go_wp2_with fail
    refine HcA.mono ?_
    rintro e w6 ⟨rfl,rfl⟩
    go_wp2_with fail
    go_roundw
    case rel=>exact ⟨k+1,j,cq,Z,σ,by omega,by go_num,rfl,r,hop,hI,hM,hap,S,by omega⟩
    case measure=>simp [intOf] <;> omega
   ·have hmd:decide (nth t k ∈ Z)=false:=by simpa using λh=>K (Hzm.1 h)
    have HcA:=Z5 (dg j Z.length cq Z (nth t k) U hzi)
    rw [hmd] at HcA
    have r:Hid (Z ++ [nth t k]=z ++ (t.take (k+1)).filter (λx=>decide (¬ x ∈ z))):=by show _=_;rw [Htk.out,M5,MC (by simpa using K),Na,<- LW,<- hzc.out]
    have S:Hid (KB=if (F (s ++ [nth t k]) Z (val σ)).1=0 then e9 F s (Z ++ [nth t k]) ((t.drop (k+1)).filter (λx=>decide (¬ x ∈ z))) (F (s ++ [nth t k]) Z (val σ)).2 else ((F (s ++ [nth t k]) Z (val σ)).1,[])):=by show _=_;rw [hkb.out,Hdk.out,MC (by simpa using K),e9]
    have HFk:=Z5 (λV σ a1 c1 a2 c2=>HF V σ a1 c1 a2 c2 k Z hlt hzc.out K)
    have hszU:=hM.size
    clear K hmd
    go_wp2_with fail
    refine HcA.mono ?_
    rintro e w6 ⟨rfl,rfl⟩
    go_wp2_with fail
    refine (dp sa ns cs s hsU (by omega)).mono ?_
    rintro e w7 ⟨a7,c7,rfl,N,hb7⟩
    rw [Hsl.out] at N
    rw [Hsl.out]
    obtain ⟨x,hx⟩:∃x,nth t k=x:=⟨_,rfl⟩
    rw [hx] at ck r S HFk Htk Hdk Hzm HcA ⊢
    have hcn:=bm w7 (cG x) 3
    have Q:=an w7 (.cells #[cG x] 3)
    go_wp2_with (at_builtin;refine aS rfl _ _ 22 3 rfl (cG 0) 8 underlying22 bh rfl w6.heap.size a7 ns c7 _ rfl (N.alloc _) ⟨w7.heap.size,0,none⟩ 1 (cG x) rfl hcn rfl (by omega) (by unfold maxLen;omega) (K9 hb7.size Q.size) ?_;intro a8 c8 w8 hown8 hgr8 hap8)
    have hb68:PY w6 w8:=Pp (Pm hb7 Q) (N.alloc _) hgr8 (KT _) (K9 hb7.size Q.size)
    have own8:w8.ownsRow w6.heap.size 3 1 (.slice a8 (ns+1) c8) (ns+1) ((s ++ [x]).map (Value.int .i64)):=by simpa using hown8
    have hz8:=hzi.af hb68
    clear N hown8 hgr8 hap8 hcn Q
    go_wp2_with fail
    refine (dp j Z.length cq Z hz8 (by omega)).mono ?_
    rintro e w9 ⟨a9,c9,rfl,C,hb9⟩
    have hb69:=Pm hb68 hb9
    have hI9:=HIb w6 w9 σ hI.out (Pr hb69 _)
    have hM9:aC w w9 (J Y) (J σ):=hM.nG (hb69.mono hszU)
    have hs9:=(Pn own8).1.af hb9
    have hz9:=(Pn C).1
    have hn8:¬ J σ (ablk a8):=λhj=>by have h1:=HJ w6 σ _ hI.out hj;have h2:=(dR own8 (by omega)).1;omega
    have hn9:a9 ≠ none->¬ J σ (ablk a9):=λha hj=>by have h1:=HJ w6 σ _ hI.out hj;have h2:=(aT C ha).1;have h3:=hb68.size;omega
    have hopz:=bf hop hb69
    have D:=Z5 (HFk w9 σ a8 c8 a9 c9 hI9 hM9 hs9 hz9 hn8 hn9)
    clear HFk hI9 hs9 hz9 hn8 hn9 hz8 own8 C
    generalize F (s ++ [x]) Z (val σ)=FR at *
    obtain ⟨fe,fv⟩:=FR
    dsimp only at D S
    go_wp2_with fail
    refine D.mono ?_
    rintro e H ⟨X,hI',hM',rfl,hval⟩
    have hM10:=Z5 (hM9.trans hM')
    have hapz:j ≠ none->¬ J X (ablk j):=λha=>hM'.not (aT hopz ha).2 (hap ha)
    have hopq:=hM'.own hopz hap.out
    have Hapz:=Z5 hapz
    have HI':=Z5 hI'
    clear D hM9 hM' hapz hI' hopz
    by_cases hfe:fe=0
    ·have Hval:Hid (val X=fv):=hval hfe
     subst hfe
     rw [KX rfl] at S
     have hcn:=bm H (cG x) 3
     have Q:=an H (.cells #[cG x] 3)
     have E:=hM10.size
     clear hval
     go_wp2_with (at_builtin;refine aS rfl _ _ 22 3 rfl (cG 0) 8 underlying22 bh rfl w.heap.size j Z.length cq _ rfl (hopq.alloc _) ⟨H.heap.size,0,none⟩ 1 (cG x) rfl hcn rfl (by omega) (by unfold maxLen;omega) (K9 E Q.size) ?_;intro a11 c11 w11 hown11 hgr11 hap11)
     go_roundw
     case rel =>
      have hb11:Below w.heap.size H w11:=Pp (Q.mono E) (hopq.alloc _) hgr11 (KT _) (K9 E Q.size)
      have hK:aC H w11 (λb=>w.heap.size<=b/\¬ J X b) (λb=>w.heap.size<=b/\¬ J X b):=(Pr Q _).trans (PC hgr11 λha=>⟨(aT hopq ha).1,Hapz ha⟩)
      refine ⟨k+1,a11,c11,Z ++ [x],X,by omega,by go_num,by simp,r,by simpa using hown11,HIb H w11 X HI'.out hK,hM10.nG hb11,?_,?_,by simp;omega⟩
      ·show a11 ≠ none->_
       intro ha hj
       have h1:=HJ H X _ HI'.out hj
       have h2:eY j (ablk a11):=by
        by_cases h0:j=none
        ·exact .inl h0
        ·exact .inr λe=>Hapz h0 (by rw [e];exact hj)
       rcases hap11 _ (Lx h1 Q.size) h2 with h3 | h3
       ·exact ha h3
       ·exact h3 rfl
      ·show _=_
       rw [S.out,Hval.out]
     case measure=>simp [intOf] <;> omega
    ·have hfe':(fe != 0)=true:=by simpa using hfe
     have Hk2:Hid (KB=(fe,[])):=by show _=_;rw [S.out,KY hfe]
     have Hfe:=Z5 hfe
     clear hfe hval
     go_wp2_with fail
     go_ret
     exact ⟨X,HI',hM10,by rw [Hk2.out];rfl,λh0=>absurd (by rw [Hk2.out] at h0;exact h0) Hfe.out⟩
  ·obtain rfl:k=nt:=by omega
   have Hf:Hid (KB=(0,val σ)):=by show _=_;rw [hkb.out,L0 (by rw [Htl.out];exact KT _),Na,e9]
   go_wp2_with fail
   go_ret
   exact ⟨σ,hI,hM,by rw [Hf.out];rfl,λ_=>by rw [Hf.out]⟩
theorem Bk {w:World} {b:Nat} {G:cZ} (h:dU w b G) :
  Calls prog 63 #[.pointer (some ⟨b,0,none⟩)] w λe w'=>e = .returned (cG (G.q:Nat))/\w=w':=by have Z:=h.cq;go_enter func63,ntmps63;go_wp2;go_ret;exact ⟨rfl,rfl⟩
theorem tL (L:Ll) {r:Nat} (h:r<L.length):L.drop r=ai L r :: L.drop (r+1):=by rw [aE h];exact LH h
def A1 (J:List WX->World->Prop) (I:Nat->Prop) (W0:World) (G:cZ) (Bc Bat By Bg Bf n N:Nat) (R:Ll) (r:Int) (d:Nat):Prop :=
 ∀(Z:OA) (Y:Nat) (u:LI) (pre:List WX) (W:World),aC W0 W I I->J pre W->(∀x ∈ pre,ablk x.a ≠ Bat) ->
  zH W Bat pre.length->Ints W Z n u->(∀j,I j->j ≠ ablk Z)->(∀x ∈ u,G.El x)->pre.length+G.q ^ d<=N ->
  Calls prog 251 #[cG r,.slice Z n Y,.pointer (some ⟨Bc,0,none⟩),.pointer (some ⟨Bat,0,none⟩),.pointer (some ⟨By,0,none⟩),.pointer (some ⟨Bg,0,none⟩),.pointer (some ⟨Bf,0,none⟩)] W
   λe V=>e = .returned (.bool true)/\∃xs:List WX,xs.map WX.l=wlkS G.ops G.q R u/\J (pre ++ xs) V/\(∀x ∈ pre ++ xs,ablk x.a ≠ Bat)/\zH V Bat (pre ++ xs).length/\aC W V I I
theorem we {W0:World} {b:Nat} {G:cZ} {Bc Bat By Bg Bf l:Nat} {ag:OA} {k cg n:Nat} {L:Ll} {I:Nat->Prop}
  (J:List WX->World->Prop) (hIB:I Bat) (hIl:∀x,I x->x<W0.heap.size)
  (HE:∀V,aC W0 V I I->J6 V b G Bc Bat By Bg Bf l ag k cg L)
  (hJa:∀pre V V',J pre V->PY V V'->J pre V')
  (N:Nat) (hn:n<=1000000) (hn1:1<=n) (hL:bt G.El n L) (hk6:k<=1000000) (hops:qC G.ops G.El) (d r:Nat) (hrd:r+(d+1)=k)
  (hI:A1 J I W0 G Bc Bat By Bg Bf n N (L.drop (r+1)) ((r:Int)+1) d):A1 J I W0 G Bc Bat By Bg Bf n N (L.drop r) r (d+1):=by
 intro au cu u pre W hW hJ hp hat hu hau hue hcnt;obtain rfl:u.length=n:=hu.len;have hrk:r<k:=by omega
 have E:=HE W hW;have hLl:L.length=k:=E.iZ.len;have hq2:2<=G.q:=E.gf.q2;have hq256:G.q<=256:=E.gf.q256;have Hdrop:Hid (L.drop r=ai L r :: L.drop (r+1)):=tL L (by omega);have Hcnt:=Z5 hcnt;have HI:=Z5 hI;have HJa:=Z5 hJa;have HHE:=Z5 HE;have HIl:=Z5 hIl;have Hau:=Z5 hau;have Hue:=Z5 hue;have HL:=Z5 hL;have Hp:=Z5 hp;have HLl:=Z5 hLl;have Hhat:=Z5 hat;obtain ⟨cgen,hmat,cyl,cgp,hgf,cfr,hltB⟩:=E;have hne:(decide ((r:Int)=(k:Int)))=false:=by simp;omega
 clear hmat cyl cfr hltB hcnt hI hJa HE hIl hau hue hL hp hat hLl;go_enter func251,ntmps251;go_wp2_with (go_at_call 63;refine (Bk hgf).mono ?_;rintro e w' ⟨rfl,rfl⟩);go_loopw [29] (λiv wr=>∃(t:Nat) (xs:List WX),t<=G.q/\iv = cG t/\xs.map WX.l=nX G.ops G.q (ai L r) (L.drop (r+1)) u t/\J (pre ++ xs) wr/\Hid (∀x ∈ pre ++ xs,ablk x.a ≠ Bat) /\
   Hid (zH wr Bat (pre ++ xs).length)/\aC W wr I I) (λiv _=>G.q - (intOf iv).toNat)
 case atStart=>exact ⟨0,[],K0 _,rfl,by simp [nX],by rw [Mh];exact hJ,by rw [Mh];exact Hp.out,by rw [Mh];exact Hhat.out,Pz _ _⟩
 case round =>
  obtain ⟨t,xs,ht,rfl,hxs,hJx,hpx,hatx,hmx⟩:=hrel
  by_cases hlt:t<G.q
  ·generalize wr=X1 at *
   have C:=hW.trans hmx
   have hux:Ints X1 au u.length u:=hu.dc hmx (λ_ h=>Hau _ h rfl)
   have EX:=HHE X1 C
   obtain ⟨ar,mr,cr,hrow,hrI⟩:=EX.iZ.cell r (by omega)
   have Hxs:=Z5 hxs
   clear hxs
   have D:(ai L r).length=u.length:=(HL _ (eZ (by rw [HLl.out];exact hrk))).1
   obtain rfl:mr=u.length:=by rw [<- D];exact hrI.len.symm
   have HrI:=Z5 hrI
   have hplG:=EX.iZ.pl
   go_wp2_with (go_at_call 115;refine (dp au u.length cu u hux hn).mono ?_;rintro e w4 ⟨a4,c4,rfl,ho4,hb4⟩;have E4:=HHE w4 (C.trans (Pr hb4 I));have g4:=E4.gen;have r4:=(hb4.cell (p:=⟨ablk ag,aJ ag+r,none⟩) (Lb _ _ hrow)).trans hrow)
   have hNl:=lN G.ops u t (ai L r) D
   have hrE:∀x ∈ ai L r,G.El x:=(HL _ (eZ (by rw [HLl.out];exact hrk))).2
   have hte:G.El (t:Int):=⟨by omega,by omega⟩
   have hNe:=H4 hops Hue.out hrE hte D
   have hNth:∀j,j<u.length->nth (lU G.ops u t (ai L r)) j=if (t:Int) ≠ 0/\nth (ai L r) j ≠ 0 then G.add (nth u j) (G.mul t (nth (ai L r) j)) else nth u j:=by
    intro j hj;by_cases h0:(t:Int)=0
    ·rw [KY (λh=>h.1 h0)];unfold lU;rw [KX h0]
    ·rw [xG G.ops u t _ j D hj h0];by_cases h1:nth (ai L r) j=0
     ·rw [KX h1,KY (λh=>h.2 h1)]
     ·rw [KY h1,KX ⟨h0,h1⟩];rfl
   have HNl:=Z5 hNl
   have HNe:=Z5 hNe
   have HNth:=Z5 hNth
   have HrE:=Z5 hrE
   have Hrl:=Z5 D
   have Hsuc:Hid (nX G.ops G.q (ai L r) (L.drop (r+1)) u (t+1)=nX G.ops G.q (ai L r) (L.drop (r+1)) u t ++ wlkS G.ops G.q (L.drop (r+1)) (lU G.ops u t (ai L r))):=Bd _ _ _ _ _ _
   have hlX:Hid (X1.heap.size ≥ W0.heap.size):=C.size
   have Hr:Hid (Ints X1 ar u.length (ai L r)):=hrI
   clear hNl hNe hNth hrE D hux EX E4 g4 r4 hrI HrI hplG
   generalize lU G.ops u t (ai L r)=Nw at *
   generalize hRo:ai L r=Ro at *
   have HRo:=Z5 hRo
   clear hRo
   go_loopw [40] (λiv wr=>∃Z:Nat,Z<=u.length/\iv = cG Z/\wr.ownsRow X1.heap.size 3 1 (.slice a4 u.length c4) u.length ((gv Nw u Z).map (Value.int .i64))/\PY X1 wr) (λiv _=>u.length - (intOf iv).toNat)
   case atStart=>exact ⟨0,K0 _,rfl,by rw [fC];exact ho4,hb4⟩
   case round =>
    obtain ⟨Z,hkk,rfl,Y,U⟩:=hrel
    have Er:=HHE wr (C.trans (Pr U I))
    by_cases S:Z<u.length
    ·have hir:=Hr.af U
     have hpr:=hir.pl
     have cir:=hir.cell Z S
     have F:Nw.length=u.length:=HNl.out
     have X:=HNth Z S
     have K:=eA Nw u Z Z F (by omega)
     rw [KY (by omega)] at K
     by_cases hz:(t:Int) ≠ 0/\nth Ro Z ≠ 0
     ·rw [KX hz] at X
      have hset:=fh Nw u Z F S
      rw [X] at hset
      have Hset:=Z5 hset
      obtain ⟨Q,hmv⟩:=Pn Y
      have hpv:=Q.pl
      have cv1:=Q.cell Z S
      have fv1:=(hmv (by omega)).2 Z S
      rw [K] at cv1
      have elu:G.El (nth u Z):=Hue _ (aG S)
      have elr:G.El (nth Ro Z):=HrE _ (aG (by rw [Hrl.out];exact S))
      have cgr:=Er.gp
      have hGr:=Er.gf
      have elm:∀x y,G.El (G.mul x y):=λx y=>PQ hGr x y
      have HG:Hid (dU wr.drew b G/\∀n,dU (wr.drewN n) b G):=⟨hGr.af (KU _ _).drew,λn=>hGr.drewN n⟩
      have hz1:((t:Int) != 0)=true:=by simpa using hz.1
      have hz2:(nth Ro Z != 0)=true:=by simpa using hz.2
      have Hiv:=Z5 Q
      clear X K hset F hz Er hGr hir Q hmv
      go_wp2_with fail
      go_region_law ((first
       | (go_simp;go_at_call 57;((with_reducible refine (oh t (nth Ro Z) HG.out.1 hte elr).mono ?_);rintro e w4 ⟨m4,rfl,rfl⟩))
       | (go_simp;go_at_call 57;((with_reducible refine (oh t (nth Ro Z) (HG.out.2 _) hte elr).mono ?_);rintro e w4 ⟨m4,rfl,rfl⟩))
       | (go_simp;go_at_call 56;((with_reducible refine (J2 (nth u Z) (G.mul t (nth Ro Z)) (HG.out.2 _) elu (elm _ _)).mono ?_);rintro e w4 ⟨m5,rfl,rfl⟩))))
      all_goals (
       go_wp2_with fail
       go_roundw
       case rel =>
        have hdr:bg wr (wr.drewN (1+m4+m5)):=⟨_,rfl⟩
        have h1:=bA (w:=wr.drewN (1+m4+m5)) Y Z S (cG (G.add (nth u Z) (G.mul t (nth Ro Z))))
        rw [<- Lq,Hset.out] at h1
        have hlo:=(aT Y (λe=>by have:=hpv (by omega);rw [e] at this;cases this)).1
        exact ⟨Z+1,by omega,by go_num,h1,(U.trans (hdr.below.mono U.size)).trans ((KU _ _).setCell (p:=⟨ablk a4,aJ a4+Z,none⟩) hlo _)⟩
       case measure=>simp [intOf] <;> omega)
     ·rw [KY hz] at X
      have H:=mW Nw u Z F S X
      have Hsame:=Z5 H
      by_cases h0:(t:Int)=0
      ·have hz1:((t:Int) != 0)=false:=by simpa using h0
       clear X K H F hz h0 Er
       go_wp2_with fail
       go_roundw
       case rel=>exact ⟨Z+1,by omega,by go_num,by rw [Hsame.out];exact Y,U⟩
       case measure=>simp [intOf] <;> omega
      ·have hz1:((t:Int) != 0)=true:=by simpa using h0
       have hz2:(nth Ro Z != 0)=false:=by
        have:nth Ro Z=0:=by
         by_cases h1:nth Ro Z=0
         ·exact h1
         ·exact absurd ⟨h0,h1⟩ hz
        simpa using this
       clear X K H F hz h0 Er
       go_wp2_with fail
       go_roundw
       case rel=>exact ⟨Z+1,by omega,by go_num,by rw [Hsame.out];exact Y,U⟩
       case measure=>simp [intOf] <;> omega
    ·obtain rfl:Z=u.length:=by omega
     rw [gx Nw u _ HNl.out rfl] at Y
     have hMr:aC X1 wr I I:=Pr U I
     have hfr:=Er.fr
     have hJr:=HJa _ _ _ hJx U
     have hatr:zH wr Bat (pre ++ xs).length:=zH.af hatx.out U
     obtain ⟨Q,_⟩:=Pn Y
     have hblk:∀j,I j->j ≠ ablk a4:=λj hj=>by have h1:=HIl j hj;have h2:=(aT Y (λe=>by have:=Q.pl (by omega);rw [e] at this;cases this)).1;have h3:X1.heap.size ≥ W0.heap.size:=hlX;omega
     have hxl:xs.length=t * G.q ^ d:=by have h1:=congrArg List.length Hxs.out;rw [Lc,wP,N7,HLl.out,show k - (r+1)=d by omega] at h1;exact h1
     have z:(pre ++ xs).length+G.q ^ d<=N:=by have h1:=Hcnt.out;have h2:(t+1) * G.q ^ d<=G.q * G.q ^ d:=OD _ (by omega);rw [MT,Me] at h1;rw [Nat.add_mul,Nat.one_mul] at h2;rw [K6,hxl];omega
     have Hc:=Z5 (HI a4 c4 Nw (pre ++ xs) wr (C.trans hMr) hJr hpx.out hatr Q hblk HNe.out z)
     clear Q hblk hxl z hatr hJr Er
     go_wp2_with (go_at_call 251;refine Hc.mono ?_;rintro e V ⟨rfl,xs2,hx2,hJ2,hp2,hat2,hm2⟩)
     have Hx2:=Z5 hx2
     have Hp2:=Z5 hp2
     have Hat2:=Z5 hat2
     clear hx2 hp2 hat2
     go_wp2_with fail
     go_roundw
     case rel=>exact ⟨t+1,xs ++ xs2,by omega,by go_num,by rw [LJ,Hxs.out,Hx2.out,<- Hsuc.out,HRo.out],by rw [<- LW];exact hJ2,by rw [<- LW];exact Hp2.out,by rw [<- LW];exact Hat2.out,hmx.trans (hMr.trans hm2)⟩
     case measure=>simp [intOf] <;> omega
  ·obtain rfl:t=G.q:=by omega
   go_wp2_with fail
   go_ret
   refine ⟨rfl,xs,?_,hJx,hpx,hatx,hmx⟩
   rw [hxs,Hdrop.out];rfl
theorem xo {W0:World} {b:Nat} {G:cZ} {Bc Bat By Bg Bf l:Nat} {ag:OA} {k cg n:Nat} {L:Ll} {I:Nat->Prop}
  (J:List WX->World->Prop) (M:Nat->Prop) (H:∀x,M x->I x) (S:I Bat) (F:¬ M Bat) (Y:∀x,I x->x<W0.heap.size)
  (D:∀V,aC W0 V I I->J6 V b G Bc Bat By Bg Bf l ag k cg L)
  (U:∀pre V V',J pre V->PY V V'->J pre V')
  (Q:∀pre V v,(∀x ∈ pre,ablk x.a ≠ Bat)->J pre V->J pre (V.setCell ⟨Bat,0,none⟩ v))
  (N:Nat)
  (hY:∀m pre x V,aC W0 V I I->J pre V->pre.length<N->Ints V x.a n x.l->(∀j,I j->j ≠ ablk x.a)->Ka l n J M m pre x V)
  (hN:N<=1000000) (hn:n<=1000000) (X:1<=n) (hL:bt G.El n L) (E:k<=1000000) (Z:qC G.ops G.El):∀(d r:Nat),r+d=k ->
   A1 J I W0 G Bc Bat By Bg Bf n N (L.drop r) r d
 | 0,r,C=>by obtain rfl:r=k:=C;intro au cu u pre W hW hJ hp hat hu z hue K;refine (vb J M H S F Y D U Q N hY hN hn X au cu u pre W hW hJ hp hat hu z (by rw [Nat.pow_zero] at K;omega)).mono ?_;rintro e V ⟨he,xs,h1,h2⟩;refine ⟨he,xs,?_,h2⟩;rw [h1,L0 (by rw [(D W hW).iZ.len];exact KT _)];rfl
 | d+1,r,C=>we J S Y D U N hn X hL E Z d r C (xo J M H S F Y D U Q N hY hN hn X hL E Z d (r+1) (by omega))
section
open Go.RowKit
end
theorem ki {P M:Int} {mod:LI} {m:Nat} {D:Ll} (X:bs P M mod=true) (hm:m<=256) (S:D.length<=256) (V:bt (ah P M.toNat mod).El m D):dE P M mod m D=0:=by
 unfold dE;rw [KX X];unfold fD;rw [KY (by omega)];have Y:jk (m:Int) D=true:=by unfold jk;rw [LR];intro r Z;have:=(V r Z).1;simp;omega
 rw [KY (by rw [Y];decide),KX];rw [LR];intro r Z;unfold ez iQ;rw [LR];intro x U;have:=(V r Z).2 x U;unfold cZ.El at this;simp;exact this
section
variable {O:aP} {El:Int->Prop} {m:Nat} {L:Ll}
theorem IV (F:bK O El) (Z:bt El m L) {Q:LI} {x:Int} (h:¬ kB O El L.length (ba L) (gA Q) x.toNat):kC O L (Q ++ [x])=kC O L Q+1:=by have h1:=jR F Z (Q ++ [x]);rw [nD] at h1;exact h1.uniq (Rk.ind _ h (jR F Z Q))
end
theorem D8 {P M:Int} {mod:LI} {m:Nat} {L:Ll} (Y:aI P M mod m L=0):Rk (kB (ah P M.toNat mod).ops (ah P M.toNat mod).El L.length (ba L)) (List.range m) L.length:=by
 obtain ⟨Q,e,S,V,F,U⟩:=aZ Y;obtain rfl:m=Q:=by omega
 have X:=(eJ (aL Y).2.2.2).2;rw [KV] at X;have Z:bI (ah P M.toNat mod).ops m L=L:=X;have h:=qF F U;rwa [Z] at h
section
variable {P M:Int} {mod:LI} {m:Nat} {L:Ll}
end
section
def gu (n k:Nat):LI:=(List.replicate n 0).set k 1
theorem uZ (n k:Nat):(gu n k).length=n:=by simp [gu]
variable {w:World} {b:Nat} {G:cZ}
end
section
open Go.RowKit
end
section
open Go.RowKit
end
section
open Go.RowKit
end
section
open Go.RowKit
end
section
open Go.RowKit
end
section
variable {O:aP} {El:Int->Prop} {m:Nat} {L:Ll}
end
def iK (x:LI):Nat:=x.countP λy=>decide (y ≠ 0)
theorem DO {w:World} {b:Nat} {G:cZ} (q:Nat) (x:Int) (X:w.cell? ⟨q,0,none⟩=some (.pointer (some ⟨b,0,none⟩))) (h:dU w b G) :
  Calls prog 144 #[cG x,.pointer (some ⟨q,0,none⟩)] w λe w'=>e = .returned (.bool (!(decide (0<=x) && decide (x<G.q))))/\w=w':=by
 go_enter func144,ntmps144;go_wp2_with fail;refine (J9 x h).mono ?_;rintro e w' ⟨rfl,rfl⟩;obtain ⟨z,Z⟩:∃z,(decide (0<=x) && decide (x<G.q))=z:=⟨_,rfl⟩
 have Y:=Z5 Z;rw [Z];clear Z;cases z
 ·go_wp2_with fail;go_ret;exact ⟨aX (by rw [Y.out];rfl),rfl⟩
 ·go_wp2_with fail;go_ret;exact ⟨aX (by rw [Y.out];rfl),rfl⟩
theorem zG (p:Int->Bool) (q:Nat) (a:OA) (n c:Nat) (l:LI) (w:World) (hi:Ints w a n l) (F:∀k,k<n->Calls prog 144 #[cG (nth l k),.pointer (some ⟨q,0,none⟩)] w λe w'=>e = .returned (.bool (p (nth l k)))/\w=w') :
  Calls prog 111 #[.slice a n c,.func (.func 144) #[] #[.pointer (some ⟨q,0,none⟩)]] w λe w'=>∃z:Int,e = .returned (cG z)/\(0<=z ↔ l.any p=true)/\w=w':=by
 have r:=hi.pl;have U:=hi.max;have D:=Z5 F;have K:=Z5 hi.len;unfold maxLen at U;clear F;go_enter func111,ntmps111;go_wp2_with fail;go_loop [8] (λN=>∃k:Nat,k<=n/\N = cG k/\Hid (∀j,j<k->p (nth l j)=false)) (λN=>n - (intOf N).toNat);case atStart=>exact ⟨0,K0 _,rfl,λj S=>by omega⟩
 case round =>
  obtain ⟨k,hk,rfl,Z⟩:=hrel
  by_cases X:k<n
  ·have ck:=hi.cell k X
   have Y:=D k X
   obtain ⟨z,V⟩:∃z,p (nth l k)=z:=⟨_,rfl⟩
   rw [V] at Y
   have H:=Z5 Y
   cases z
   ·have C:Hid (∀j,j<k+1->p (nth l j)=false):=λj S=>by
     by_cases e:j=k
     ·subst e;exact V
     ·exact Z j (by omega)
    clear V Y Z
    go_wp2_with fail
    refine H.mono ?_
    rintro e w' ⟨rfl,rfl⟩
    go_wp2_with fail
    go_round
    case rel=>exact ⟨k+1,by omega,by go_num,C⟩
    case measure=>simp [intOf] <;> omega
   ·have Q:Hid (l.any p=true):=by show _=_;rw [Nk];exact ⟨nth l k,aG (by rw [K.out];exact X),V⟩
    clear V Y Z
    go_wp2_with fail
    refine H.mono ?_
    rintro e w' ⟨rfl,rfl⟩
    go_wp2_with fail
    go_ret
    exact ⟨k,rfl,⟨λ_=>by first | exact Q.out | exact List.any_eq_true.1 Q.out,λ_=>M3 _⟩,rfl⟩
  ·obtain rfl:k=n:=by omega
   have Q:Hid (l.any p=false):=by show _=_;rw [Ny];intro x E;obtain ⟨j,S,rfl⟩:=List.mem_iff_getElem.1 E;have:=Z j (by rw [<- K.out];exact S);rw [aj S] at this;rw [this];decide
   go_wp2_with fail
   go_ret
   exact ⟨-1,rfl,⟨λh=>absurd h (by omega),λh=>by have h2:l.any p=true:=(by first | exact h | exact List.any_eq_true.2 h);rw [Q.out] at h2;exact absurd h2 (by decide)⟩,rfl⟩
theorem sJ (p:Int->Bool) (q:Nat) (a:OA) (n c:Nat) (l:LI) (w:World) (hi:Ints w a n l) (V:∀k,k<n->Calls prog 144 #[cG (nth l k),.pointer (some ⟨q,0,none⟩)] w λe w'=>e = .returned (.bool (p (nth l k)))/\w=w') :
  Calls prog 53 #[.slice a n c,.func (.func 144) #[] #[.pointer (some ⟨q,0,none⟩)]] w λe w'=>e = .returned (.bool (l.any p))/\w=w':=by
 have U:=Z5 (zG p q a n c l w hi V);clear V;go_enter func53,ntmps53;go_wp2_with fail;refine U.mono ?_;rintro e w' ⟨z,rfl,Z,rfl⟩;by_cases h0:0<=z
 ·have Y:Hid (l.any p=true):=Z.1 h0;have X:decide (0<=z)=true:=by simpa using h0
  clear Z h0;go_wp2_with fail;go_ret;exact ⟨aX Y.symm,rfl⟩
 ·have Y:Hid (l.any p=false):=by
   show _=_;cases h:l.any p
   ·rfl
   ·exact absurd (Z.2 h) h0
  have X:decide (0<=z)=false:=by simpa using h0
  clear Z h0;go_wp2_with fail;go_ret;exact ⟨aX Y.symm,rfl⟩
theorem vF (q:Int) (l:LI):l.any (λx=>!(decide (0<=x) && decide (x<q))) = !(ez q l):=by
 unfold ez;induction l with
 | nil=>rfl
 | cons x l Z =>
  rw [List.any_cons,OM,Z]
  unfold iQ
  cases (decide (0<=x) && decide (x<q)) <;> simp
theorem tE (P M:Int) (am:OA) (H cm:Nat) (mod:LI) (j:OA) (nx cx:Nat) (x:LI) (n:Nat) (w:World) (F:Ints w am H mod) (hx:Ints w j nx x) (hB:bs P M mod=true) :
  Calls prog 89 #[.agg #[cG P,cG M,.slice am H cm],.slice j nx cx,cG n] w λe w'=>e = .returned (cG (lk (ah P M.toNat mod).q x n))/\PY w w':=by
 have S:=hx.len;go_enter func89,ntmps89;go_upto_region 1 with fail;obtain ⟨W,D⟩:∃W:World,W=w.alloc (.cells #[cG P,cG M,.slice am H cm] 24):=⟨_,rfl⟩
 rw [<- D];have X:PY w W:=by rw [D];exact an _ _
 have C:aQ W w.heap.size [cG P,cG M,.slice am H cm]:=by rw [D];exact Po _ _ _ rfl
 have c0:=C.cell 0 rfl;have c1:=C.cell 1 rfl;have c2:=C.cell 2 rfl;clear D C;by_cases N:nx=n;rotate_left
 ·have r:((nx:Int) != n)=true:=by simp;omega
  have Q:Hid (lk (ah P M.toNat mod).q x n=4):=by show _=_;rw [lk,KY (by omega)]
  clear N S;go_wp2_with fail;go_ret;exact ⟨aN Q.symm,X⟩
 obtain rfl:nx=n:=N;have r:((nx:Int) != nx)=false:=by simp
 have Q:Hid (lk (ah P M.toNat mod).q x nx=if ez (ah P M.toNat mod).q x=true then 0 else 2):=by show _=_;rw [lk,KX S];rfl
 clear S;go_wp2_with fail;refine (dH P M am H cm mod W (F.af X)).mono ?_;rintro e E (⟨K,_,_⟩ | ⟨_,b,rfl,hG,hbl,hb4⟩)
 ·rw [hB] at K;cases K
 have Y:=Pm X hb4;have V:=an E (.cells #[.pointer (some ⟨b,0,none⟩)] 79);have hc5:=bm E (.pointer (some ⟨b,0,none⟩)) 79;have Z:=sJ (λy=>!(decide (0<=y) && decide (y<(ah P M.toNat mod).q))) E.heap.size j nx cx x _ (hx.af (Pm Y V)) λk hk=>DO E.heap.size (nth x k) hc5 (hG.gf.af V);rw [vF] at Z;obtain ⟨z,hz⟩:∃z,ez (ah P M.toNat mod).q x=z:=⟨_,rfl⟩
 rw [hz] at Z Q;have Hc:=Z5 Z;have hF:=Pm Y V;have HF:=Z5 hF;clear c0 c1 c2 hG hbl hB hF Z hz;cases z
 ·have U:Hid (lk (ah P M.toNat mod).q x nx=2):=by show _=_;rw [Q.out];rfl
  go_wp2_with fail;refine Hc.mono ?_;rintro e w' ⟨rfl,rfl⟩;go_wp2_with fail;go_ret;exact ⟨aN U.symm,HF⟩
 ·have U:Hid (lk (ah P M.toNat mod).q x nx=0):=by show _=_;rw [Q.out];rfl
  go_wp2_with fail;refine Hc.mono ?_;rintro e w' ⟨rfl,rfl⟩;go_wp2_with fail;go_ret;exact ⟨aN U.symm,HF⟩
theorem mJ (a:OA) (n c:Nat) (l:LI) (w:World) (h:Ints w a n l) :
  Calls prog 41 #[.slice a n c] w λe w'=>e = .returned (cG (iK l))/\w'=w:=by
 have H:=Z5 h.len;have z:=h.pl;have U:=h.max;unfold maxLen at U;have hle:∀k,k<=n->(iK (l.take k):Int)<=k:=λk F=>by have h1:iK (l.take k)<=(l.take k).length:=Ou;rw [Lt] at h1;omega
 have S:=Z5 hle;have E:Hid (iK (l.take n)=iK l):=by show _=_;rw [K5 (by rw [H.out];exact KT _)]
 clear hle;go_enter func41,ntmps41;go_wp2_with fail;go_loopw [3,4] (λC Q wr=>∃k:Nat,k<=n/\Q = cG k/\C = cG (iK (l.take k))/\wr=w) (λ_ Q _=>n - (intOf Q).toNat);case atStart=>exact ⟨0,K0 _,rfl,by simp [iK],rfl⟩
 case round =>
  obtain ⟨k,F,rfl,rfl,rfl⟩:=hrel
  by_cases V:k<n
  ·have D:=h.cell k V
   have X:k<l.length:=by rw [H.out];exact V
   have Z:iK (l.take (k+1))=iK (l.take k)+(if nth l k ≠ 0 then 1 else 0):=by unfold iK;rw [K4 X,OO,List.countP_singleton,aj X];simp
   have hb:=S k F
   obtain ⟨t,K⟩:∃t,iK (l.take k)=t:=⟨_,rfl⟩
   obtain ⟨y,N⟩:∃y,nth l k=y:=⟨_,rfl⟩
   rw [K] at Z hb ⊢
   rw [N] at Z D
   clear K N X
   by_cases h0:y=0
   ·have hd:(y != 0)=false:=by simpa using h0
    have Y:Hid (iK (l.take (k+1))=t):=by show _=_;rw [Z,KY (by simpa using h0)];rfl
    clear h0 Z
    go_wp2_with fail
    go_roundw
    case rel=>exact ⟨k+1,by omega,by go_num,by rw [Y.out],by simp⟩
    case measure=>simp [intOf] <;> omega
   ·have hd:(y != 0)=true:=by simpa using h0
    have Y:Hid (iK (l.take (k+1))=t+1):=by show _=_;rw [Z,KX h0]
    clear h0 Z
    go_wp2_with fail
    go_roundw
    case rel=>exact ⟨k+1,by omega,by go_num,by rw [Y.out];go_num,by simp⟩
    case measure=>simp [intOf] <;> omega
  ·obtain rfl:k=n:=by omega
   rw [E.out]
   go_wp2_with fail
   go_ret
   exact ⟨rfl,rfl⟩
theorem jc (f:LI->LI) (Z:f []=[]) (L:Ll) (i:Nat):ai (L.map f) i=f (ai L i):=by
 by_cases h:i<L.length
 ·exact pG f L h
 ·rw [lO (by simpa using h),lO (by omega),Z]
section
variable {O:aP} {k:Nat}
theorem qp {J:Ll} {c:Nat} (Z:c<k):∀f i,findTo (J.map (List.take k)) c i f=findTo J c i f
 | 0,i=>rfl
 | f+1,i=>by rw [findTo,findTo,jc _ No,pD _ Z,qp Z f (i+1)]
theorem va {J:Ll} {c:Nat} (Z:c<k) (i:Nat):bd (J.map (List.take k)) c i=bd J c i:=by unfold bd;rw [Lc,qp Z]
theorem tO {Z r:LI} {c:Nat} (Y:c<k):cR O (Z.take k) c (r.take k)=(cR O Z c r).take k:=by
 unfold cR;rw [pD _ Y];split
 ·rfl
 ·rw [yW]
theorem oB {J:Ll} {t c:Nat} (Z:c<k):∀i,clearTo O t c (J.map (List.take k)) i=(clearTo O t c J i).map (List.take k)
 | 0=>rfl
 | i+1=>by
  rw [clearTo,clearTo,oB Z i];split
  ·rfl
  ·rw [jc _ No,jc _ No,tO Z,Lq]
theorem vM {J:Ll} {t c:Nat} (Z:c<k):bu O (J.map (List.take k)) t c=(bu O J t c).map (List.take k):=by
 unfold bu;rw [jc _ No,pD _ Z];split
 ·rfl
 ·rw [Lq,List.map_take]
theorem wT {J:Ll} {t i:Nat}:bj (J.map (List.take k)) t i=(bj J t i).map (List.take k):=by unfold bj;rw [jc _ No,jc _ No,Lq,Lq]
theorem xp {J:Ll} {t i c:Nat} (Z:c<k):eD O (J.map (List.take k)) t i c=(eD O J t i c).map (List.take k):=by
 have h:∀J:Ll,clearTo O t c (bu O (J.map (List.take k)) t c) (bu O (J.map (List.take k)) t c).length=(clearTo O t c (bu O J t c) (bu O J t c).length).map (List.take k):=λJ=>by rw [vM Z,Lc,oB Z]
 unfold eD;split
 ·exact h J
 ·rw [wT];exact h _
theorem pX {J:Ll}:∀c,c<=k->(aD O (J.map (List.take k)) c).1=(aD O J c).1.map (List.take k)/\(aD O (J.map (List.take k)) c).2=(aD O J c).2
 | 0,_=>⟨rfl,rfl⟩
 | c+1,h=>by
  obtain ⟨h1,h2⟩:=pX (J:=J) c (by omega);simp only [aD];rw [h1,h2,Lc,va (by omega)];split
  ·split
   ·exact ⟨h1,h2⟩
   ·exact ⟨xp (by omega),rfl⟩
  ·exact ⟨h1,h2⟩
end
section
variable {O:aP} {El:Int->Prop} {m:Nat}
theorem Ik (F:bK O El) {L:Ll} (Z:bt El m L) {Q:LI} (X:tu m Q):(aD O (L.map (bR Q)) Q.length).2.length=(mE O L Q).length:=by
 refine Rk.same (gg F Z) (It F Z X) (pP F Z Q) λx=>?_;rw [fM,Nv];constructor
 ·rintro ⟨j,Y,rfl⟩;exact ⟨j,List.mem_range.1 Y,rfl⟩
 ·rintro ⟨j,Y,e⟩;exact ⟨j,List.mem_range.2 Y,e⟩
end
section
open Go.RowKit
end
section
open Go.RowKit
end
section
variable {O:aP} {El:Int->Prop} {m:Nat}
theorem lh.Jh (F:bK O El) {L:Ll} {P:LI} {c:Nat} (h:lh L P c) (U:bt El m L) {v:LI} (S:Vc El L.length v) {V:LI->Int} (Y:kT O El L.length V)
  {t:Nat} (N:t<=P.length) (h0:∀j,j<t->V (ba L (nth P j).toNat)=0):∀k,k<=t->Vc El L.length (iL O L P v k)/\V (iL O L P v k)=V v/\∀i,i<L.length->nth (iL O L P v k) i=if i<k then 0 else nth v i
 | 0,_=>⟨S,rfl,λi _=>by rw [KY (by omega)];rfl⟩
 | k+1,K=>by
  obtain ⟨h1,h2,h3⟩:=h.Jh F U S Y N h0 k (by omega);have hle:=h.le;have Z:=ch U F.zero (nth P k).toNat;have X:=h1.at (i:=k) (by omega);refine ⟨h1.sub F Z X,?_,λi hi=>?_⟩
  ·rw [iL,Y.sub _ _ _ h1 Z X,h0 k (by omega),F.dh X,F.fw,F.add_zero _ (Y.el _ h1),h2]
  ·rw [iL,eS O _ _ _ i (by rw [Z.1,h1.1]) (by rw [h1.1];exact hi),dj L _ i hi,h.one k i (by omega) hi];by_cases e:i=k
   ·subst e;rw [KX rfl,F.iV X,F.add_neg _ X,KX (by omega)]
   ·rw [KY e,F.dh X,F.fw,F.add_zero _ (h1.at hi),h3 i hi];by_cases Q:i<k
    ·rw [KX Q,KX (by omega)]
    ·rw [KY Q,KY (by omega)]
theorem CB {P:LI} (ha:∀i j,i<j->j<P.length->nth P i<nth P j) {x:Int} (X:¬ x ∈ P):∀k,k<=P.length->∃t,t<=k/\(∀j,j<t->nth P j<x)/\∀j,t<=j->j<k->x<nth P j
 | 0,_=>⟨0,KT _,λj U=>by omega,λj _ U=>by omega⟩
 | k+1,Q=>by
  obtain ⟨t,h1,h2,h3⟩:=CB ha X k (by omega);have hne:nth P k ≠ x:=λe=>X (e ▸ aG (by omega));by_cases S:t=k
  ·subst S;by_cases Y:nth P t<x
   ·exact ⟨t+1,by omega,λj U=>by
     by_cases e:j=t
     ·subst e;exact Y
     ·exact h2 j (by omega),λj Z V=>by omega⟩
   ·exact ⟨t,by omega,h2,λj Z V=>by
     obtain rfl:j=t:=by omega
     omega⟩
  ·refine ⟨t,by omega,h2,λj Z V=>?_⟩;by_cases e:j=k
   ·subst e;have:=ha t j (by omega) (by omega);have:=h3 t (KT _) (by omega);omega
   ·exact h3 j Z (by omega)
theorem G7 (F:bK O El) {R:Ll} {P:LI} (U:bt El m R) (Y:lh R P m) (S:ow R P) {f:Nat->Int} (E:RS O El m R f) {x:Nat} (V:x<m) (h0:∀y,y<x->f y=0) (hne:f x ≠ 0):(x:Int) ∈ P:=by
 refine Lr λN=>hne ?_;obtain ⟨t,h1,h2,h3⟩:=CB S.asc N P.length (KT _);obtain ⟨e,he,h⟩:=E;have X:=Y.lt;obtain ⟨Q,q2,H⟩:=Y.Jh F U (ch U F.zero x) he h1 (λj K=>by have:=h2 j K;have:=X j (by omega);rw [<- h _ (by omega)];exact h0 _ (by omega)) t (KT _);rw [h x V,<- q2];refine he.zero F Q λi hi=>?_;rw [H i hi];split
 ·rfl
 ·rw [dj R x i hi];by_cases Z:i<P.length
  ·have:=h3 i (by omega) Z;exact S.lead i x Z (by omega)
  ·exact Y.zero i x (by omega) hi V
theorem yD (F:bK O El) {R:Ll} {P:LI} (U:bt El m R) (X:lh R P m) {f:Nat->Int} (S:RS O El m R f) (h0:∀j,j<P.length->f (nth P j).toNat=0):∀x,x<m->f x=0:=λx Z=>by obtain ⟨e,he,h⟩:=S;rw [h x Z];refine X.all F U Z e he λy V=>?_;obtain ⟨j,Y,rfl⟩:=(fM P _ _).1 V;rw [<- h _ (by have:=X.lt j Y;omega)];exact h0 j Y
theorem y9 {P:LI} (ha:∀i j,i<j->j<P.length->nth P i<nth P j):P.Pairwise λx y=>x<y:=by rw [Nn];intro i j hi Y Z;have:=ha i j Z Y;rwa [aj hi,aj Y] at this
theorem Gd {P Z:LI} (ha:∀i j,i<j->j<P.length->nth P i<nth P j) (Y:∀i j,i<j->j<Z.length->nth Z i<nth Z j) (h:∀x,x ∈ P ↔ x ∈ Z):P=Z:=by have h1:=y9 ha;have h2:=y9 Y;exact lJ (h1.imp λh=>by omega) (h2.imp λh=>by omega) ((NV (h1.imp λh=>by omega) (h2.imp λh=>by omega)).2 h)
theorem yR (F:bK O El) {R Z:Ll} {P Y:LI} (D:bt El m R) (H:bt El m Z) (K:lh R P m) (X:lh Z Y m) (C:ow R P) (U:ow Z Y) (hlen:R.length=P.length) (V:Z.length=Y.length)
  (h1:eF O El m R Z) (h2:eF O El m Z R):R=Z:=by
 have key:∀ {R Z:Ll} {P Y:LI},bt El m R->lh R P m->ow R P->lh Z Y m->ow Z Y->Z.length=Y.length->eF O El m Z R->∀x ∈ Y,x ∈ P:=λ{R Z P Y} D K C X U V h2 x N=>by obtain ⟨i,hi,rfl⟩:=List.mem_iff_getElem.1 N;have hb:=X.lt i hi;have h3:=G7 F D K C (h2 i (by omega)) (x:=(nth Y i).toNat) (by omega) (λy hy=>U.lead i y hi hy) (by show nth (ai Z i) (nth Y i).toNat ≠ 0;rw [X.one i i hi (by omega),KX rfl];decide);rw [show (((nth Y i).toNat:Nat):Int)=nth Y i by omega,aj hi] at h3;exact h3
 have r:P=Y:=Gd C.asc U.asc λx=>⟨key H X U K C hlen h1 x,key D K C X U V h2 x⟩
 subst r;refine Mi (by omega) λi hi S=>?_;have z:=D _ (Ly hi);have Q:=H _ (Ly S);refine gJ (by rw [z.1,Q.1]) λx N=>?_;rw [z.1] at N;have hz:=yD F D K ((h2 i S).comb F (PB F (m:=m) hi) F.one) (λj hj=>by
  show O.add (nth (ai Z i) (nth P j).toNat) (O.neg (O.mul (nth (ai R i) (nth P j).toNat) 1))=0;rw [X.one j i hj S,K.one j i hj hi];split
  ·rw [F.iV F.one,F.add_neg _ F.one]
  ·rw [F.iV F.zero,F.add_neg _ F.zero]) x N
 have E:O.add (nth (ai Z i) x) (O.neg (O.mul (nth (ai R i) x) 1))=0:=hz;have e1:El (nth R[i] x):=z.2 _ (aG (by rw [z.1];exact N));have e:El (nth Z[i] x):=Q.2 _ (aG (by rw [Q.1];exact N));rw [aE hi,aE S,F.iV e1] at E;have h4:=F.jX e (F.cl.neg _ e1) E;have h5:=congrArg O.neg h4;rwa [F.neg_neg e1,F.neg_neg e] at h5
theorem iF (F:bK O El) (n k:Nat):Vc El n (gu n k):=by
 refine ⟨uZ n k,λx Z=>?_⟩;unfold gu at Z;rcases Mj Z with Z | rfl
 ·rw [L6 Z];exact F.zero
 ·exact F.one
theorem uG {n k i:Nat} (Z:k<n):nth (gu n k) i=if i=k then 1 else 0:=by
 unfold gu;rw [dS _ _ _ _ (by simpa using Z)];split
 ·rfl
 ·unfold nth;simp only [KZ,Ls];split <;> rfl
def cutTo (O:aP) (n:Nat) (v:LI):Nat->LI
 | 0=>v
 | k+1=>dY O (cutTo O n v k) (nth v k) (gu n k)
theorem yM (F:bK O El) {n:Nat} {V:LI->Int} (Z:kT O El n V) {v:LI} (X:Vc El n v):∀k,k<=n->Vc El n (cutTo O n v k)/\(∀i,i<n->nth (cutTo O n v k) i=if i<k then 0 else nth v i) /\
  O.add (V (cutTo O n v k)) (dotN O (λt=>V (gu n t)) (λt=>nth v t) k)=V v
 | 0,_=>⟨X,λi _=>by rw [KY (by omega)];rfl,by rw [dotN];exact F.add_zero _ (Z.el _ X)⟩
 | k+1,Q=>by
  obtain ⟨h1,h2,h3⟩:=yM F Z X k (by omega);have hu:=iF F n k;have Y:=X.at (i:=k) (by omega);refine ⟨h1.sub F hu Y,λi hi=>?_,?_⟩
  ·rw [cutTo,eS O _ _ _ i (by rw [hu.1,h1.1]) (by rw [h1.1];exact hi),uG (by omega),h2 i hi];by_cases e:i=k
   ·subst e;rw [KX rfl,KY (by omega),F.iV Y,F.add_neg _ Y,KX (by omega)]
   ·rw [KY e,F.dh Y,F.fw];by_cases U:i<k
    ·rw [KX U,KX (by omega),F.add_zero _ F.zero]
    ·rw [KY U,KY (by omega),F.add_zero _ (X.at hi)]
  ·have hm:=F.cl.mul _ _ Y (Z.el _ hu);have hd:=kJ F (a:=λt=>V (gu n t)) (b:=λt=>nth v t) k (λp _=>Z.el _ (iF F n p)) (λp S=>X.at (by omega));rw [cutTo,Z.sub _ _ _ h1 hu Y,dotN,F.mul_comm _ _ (Z.el _ hu) Y,F.D5 (Z.el _ h1) (F.cl.neg _ hm) hd hm,F.lL hm,F.add_zero _ (F.cl.add _ _ (Z.el _ h1) hd),h3]
theorem ja (F:bK O El) {n:Nat} {Y:LI->Int} (Z:kT O El n Y) {v:LI} (X:Vc El n v):Y v=dotN O (λt=>Y (gu n t)) (λt=>nth v t) n:=by obtain ⟨h1,h2,h3⟩:=yM F Z X n (KT _);rw [<- h3,Z.zero F h1 λi hi=>by rw [h2 i hi,KX hi],F.tP (kJ F n (λp _=>Z.el _ (iF F n p)) (λp V=>X.at V))]
theorem qR (F:bK O El) {L:Ll} (Y:bt El m L) {x:LI} (Z:∀k,k<L.length->El (nth x k)) {y:Nat} (X:y<m):∀k,k<=L.length->nth (cmbTo O m x L k) y=dotN O (λt=>nth x t) (λt=>nth (ai L t) y) k
 | 0,_=>by rw [cmbTo,dotN];unfold nth;simp only [KZ,Ls];split <;> rfl
 | k+1,N=>by
  have U:=qR F Y Z X k (by omega);obtain ⟨h1,_⟩:=iM F Y Z k (by omega);have V:=Y.row (i:=k) (by omega);have hd:=kJ F (a:=λt=>nth x t) (b:=λt=>nth (ai L t) y) k (λp S=>Z p (by omega)) (λp S=>Ps (Y.row (i:=p) (by omega)) X);rw [cmbTo,dotN];split
  ·rename_i Q;rw [U,Q,F.jw (Ps V X),F.add_zero _ hd]
  ·rw [gj O _ _ _ y (by rw [V.1,h1.1]) (by rw [h1.1];exact X),U];split
   ·rename_i e1;show _=O.add _ (O.mul (nth x k) (nth (ai L k) y));rw [e1,F.dh (Z k (by omega)),F.add_zero _ hd]
   ·rfl
end
section
variable {P M:Int} {mod:LI} {m:Nat} {L:Ll}
end
theorem DS (P M:Int) (am:OA) (mn cm:Nat) (mod:LI) (n:Nat) (a:OA) (k c:Nat) (L:Ll) (W:World) (Bc l:Nat) (hE:aI P M mod n L=0)
  (x0:aQ W Bc [cG P,cG M,.slice am mn cm,cG n,.slice a k c]) (hmod:Ints W am mn mod) (hi:bw W a k L)
  (J:List WX->World->Prop) (U:Nat->Prop) (hML:∀x,U x->x<W.heap.size)
  (hmat:∀V,(∀x,x<W.heap.size->¬ U x->V.heap[x]? = W.heap[x]?)->bw V a k L/\V.cell? ⟨Bc,4,none⟩=some (.slice a k c))
  (hJa:∀pre V Z,J pre V->PY V Z->J pre Z)
  (hJb:∀B pre V v,W.heap.size<=B->(∀x ∈ pre,ablk x.a ≠ B)->J pre V->J pre (V.setCell ⟨B,0,none⟩ v))
  (hY:∀m pre x V,J pre V->pre.length<(ah P M.toNat mod).q ^ k->Ints V x.a n x.l->(∀j,U j->j ≠ ablk x.a)->Ka l n J U m pre x V)
  (hN:(ah P M.toNat mod).q ^ k<=1000000) (h0:J [] W) :
  Calls prog 250 #[.func (.yield l) #[] #[],.pointer (some ⟨Bc,0,none⟩)] W λe V=>e = .returned (.tuple #[]) /\
   ∃xs:List WX,xs.map WX.l=wlkS (ah P M.toNat mod).ops (ah P M.toNat mod).q L (List.replicate n 0)/\J xs V/\aC W V U U:=by
 obtain ⟨N',em,hm1,hm64,F,hR⟩:=aZ hE;obtain rfl:n=N':=by omega
 have hk256:k<=256:=by rw [<- hi.len];exact (di hE).choose_spec.2.2.2.1
 have hfB:=(aL hE).1;have hLk:L.length=k:=hi.len;have HCk:Hid (∀V,PY W V->Calls prog 88 #[.agg #[cG P,cG M,.slice am mn cm,cG n,.slice a k c]] V λe w'=>e = .returned (cG 0)/\PY V w'):=λV hV=>by have h:=dn P M am mn cm mod n a k c L V (hmod.af hV) (hi.af hV);rw [hE] at h;exact h
 have HNw:Hid (∀V,PY W V->Calls prog 52 #[.agg #[cG P,cG M,.slice am mn cm]] V λe w'=>∃b,e = .returned (.tuple #[.pointer (some ⟨b,0,none⟩),cG 0])/\xV V.heap.size w' b (ah P M.toNat mod)/\V.heap.size<=b/\PY V w'):=λV hV=>by
  refine (dH P M am mn cm mod V (hmod.af hV)).mono ?_;rintro e w' (⟨h1,_⟩ | ⟨_,h2⟩)
  ·rw [hfB] at h1;cases h1
  ·exact h2
 obtain ⟨G,hG⟩:∃G,ah P M.toNat mod=G:=⟨_,rfl⟩
 rw [hG] at HNw F hR hY hN ⊢;have HX:=Z5 x0;have HJa:=Z5 hJa;have HJb:=Z5 hJb;have HY:=Z5 hY;have Hmat:=Z5 hmat;have HML:=Z5 hML;have H0:=Z5 h0;have HR:=Z5 hR;have HN:=Z5 hN;have HLk:=Z5 hLk;clear hG hfB hE em hmod hi hJa hJb hY hmat hML h0 hR hN hLk;clear x0;go_enter func250,ntmps250;go_upto_region 1 with fail;obtain ⟨W1,hW1⟩:∃W1:World,W1=W.alloc (.cells #[.func (.yield l) #[] #[]] 251):=⟨_,rfl⟩
 rw [<- hW1];have D:PY W W1:=by rw [hW1];exact an _ _
 have y1:aQ W1 W.heap.size [.func (.yield l) #[] #[]]:=by rw [hW1];exact Po _ _ _ rfl
 have Y1:=Z5 y1;have x1:=HX.af D;have c0:=x1.cell 0 rfl;have c1:=x1.cell 1 rfl;have c2:=x1.cell 2 rfl;have c3:=x1.cell 3 rfl;have c4:=x1.cell 4 rfl;clear hW1 y1 x1;go_wp2_with (go_at_call 88;refine (HCk _ D).mono ?_;rintro e w2 ⟨rfl,hb2⟩;have x2:=(HX.af D).af hb2;have d0:=x2.cell 0 rfl;have d1:=x2.cell 1 rfl;have d2:=x2.cell 2 rfl;have d3:=x2.cell 3 rfl;have d4:=x2.cell 4 rfl;clear x2);refine (HNw w2 (Pm D hb2)).mono ?_;rintro e w3 ⟨b,rfl,hG3,hbb,hb3⟩;have HG3:=Z5 hG3;have Hbb:=Z5 hbb;clear hG3 hbb d0 d1 d2 d3 d4 c0 c1 c2 c3 c4;go_upto_region 5 with fail;obtain ⟨N,S⟩:∃N:World,N=(((w3.alloc (.cells #[.pointer (some ⟨b,0,none⟩)] 79)).alloc (.cells #[cG 0] 3)).alloc (.cells #[.nilFunc] 251)):=⟨_,rfl⟩
 rw [<- S];have hb4:PY w3 N:=by rw [S];exact kS _ _ _ _
 have hs4:N.heap.size=w3.heap.size+3:=by rw [S];simp
 have g4:aQ N w3.heap.size [.pointer (some ⟨b,0,none⟩)]:=by rw [S];exact ((Po _ _ _ rfl).alloc _).alloc _
 have a4:aQ N (w3.heap.size+1) [cG 0]:=by rw [S];exact (Po _ _ _ (by simp)).alloc _
 have f4:aQ N (w3.heap.size+1+1) [.nilFunc]:=by rw [S];exact Po _ _ _ (by simp)
 clear S;have fc:=f4.cell 0 rfl;have ff:=f4.frozen 0;have G4:=Z5 g4;have A4:=Z5 a4;have F4:=Z5 f4;clear g4 a4 f4;have hst:∀(fn:Fn) (x y:Array Value),(store (⟨w3.heap.size+1+1,0,none⟩:Addr) (.func fn x y)).run prog N = .ok () (N.setCell ⟨w3.heap.size+1+1,0,none⟩ (.func fn x y)):=λfn x y=>by rw [run_store _ _ _ _ _ rfl,fc];simp [ff]
 go_upto_region 6 with fail;have F5e:∃FV:Value,FV = .func (.func 251) #[] #[.pointer (some ⟨Bc,0,none⟩),.pointer (some ⟨w3.heap.size+1,0,none⟩),.pointer (some ⟨W.heap.size,0,none⟩),.pointer (some ⟨w3.heap.size,0,none⟩),.pointer (some ⟨w3.heap.size+1+1,0,none⟩)]:=⟨_,rfl⟩
 obtain ⟨Y,H⟩:∃Y:World,Y=N.setCell ⟨w3.heap.size+1+1,0,none⟩ (.func (.func 251) #[] #[.pointer (some ⟨Bc,0,none⟩),.pointer (some ⟨w3.heap.size+1,0,none⟩),.pointer (some ⟨W.heap.size,0,none⟩),.pointer (some ⟨w3.heap.size,0,none⟩),.pointer (some ⟨w3.heap.size+1+1,0,none⟩)]):=⟨_,rfl⟩
 rw [<- H];clear F5e;have E:Below (w3.heap.size+2) N Y:=by rw [H];exact (KU _ _).setCell (p:=⟨w3.heap.size+1+1,0,none⟩) (KT _) _
 have fc5:Y.cell? ⟨w3.heap.size+1+1,0,none⟩=some (.func (.func 251) #[] #[.pointer (some ⟨Bc,0,none⟩),.pointer (some ⟨w3.heap.size+1,0,none⟩),.pointer (some ⟨W.heap.size,0,none⟩),.pointer (some ⟨w3.heap.size,0,none⟩),.pointer (some ⟨w3.heap.size+1+1,0,none⟩)]):=by rw [H];exact Nl _ _ _ (by rw [fc];rfl)
 have hs5:Y.heap.size=w3.heap.size+3:=by rw [H,<- hs4];simp
 clear H hst fc ff;have hb12:=Pm D hb2;have hb13:=Pm hb12 hb3;have z:PY w3 Y:=hb4.trans (E.mono (by omega));have K:PY W Y:=Pm hb13 z;have cN:=(HX.af K).cell 3 rfl;have gc5:Y.cell? ⟨w3.heap.size,0,none⟩=some (.pointer (some ⟨b,0,none⟩)):=(E.cell (p:=⟨w3.heap.size,0,none⟩) (by show w3.heap.size<_;omega)).trans (G4.cell 0 rfl);have ac5:zH Y (w3.heap.size+1) 0:=zH.of_block (V:=N) ⟨A4.cell 0 rfl,A4.frozen 0⟩ (E.block _ (by omega));have yc5:Y.cell? ⟨W.heap.size,0,none⟩=some (.func (.yield l) #[] #[]):=((Y1.af hb2).af hb3 |>.af z).cell 0 rfl;have hsz1:W.heap.size<W1.heap.size:=Y1.1;have hsz2:=hb2.size;have hsz3:=hb3.size;have Hc:Hid (∀V a1 c1,V.ownsRow Y.heap.size 3 1 (.slice a1 n c1) n ((List.replicate n (0:Int)).map (Value.int .i64))->PY Y V ->
   Calls prog 251 #[cG 0,.slice a1 n c1,.pointer (some ⟨Bc,0,none⟩),.pointer (some ⟨w3.heap.size+1,0,none⟩),.pointer (some ⟨W.heap.size,0,none⟩),.pointer (some ⟨w3.heap.size,0,none⟩),.pointer (some ⟨w3.heap.size+1+1,0,none⟩)] V
    λe Z=>e = .returned (.bool true)/\∃xs:List WX,xs.map WX.l=wlkS G.ops G.q L (List.replicate n 0)/\J xs Z/\aC W Z U U):=by
  intro V a1 c1 hown X;have C:PY W V:=Pm K X;have Q:PY w3 V:=z.trans (X.mono (by omega));have hMo:∀Z,aC V Z (λx=>U x\/x=w3.heap.size+1) (λx=>U x\/x=w3.heap.size+1)->∀x,x<W.heap.size->¬ U x->Z.heap[x]? = W.heap[x]?:=λZ hm x hx hn =>
   (hm.block x (by have:=C.size;omega) (λh=>h.elim hn (by omega))).trans (C.block x hx)
  obtain ⟨hia,_⟩:=Pn hown;have hres:=xo (W0:=V) (b:=b) (G:=G) (Bc:=Bc) (Bat:=w3.heap.size+1) (By:=W.heap.size) (Bg:=w3.heap.size) (Bf:=w3.heap.size+1+1) (l:=l) (ag:=a) (k:=k) (cg:=c) (n:=n) (L:=L)
   (I:=λx=>U x\/x=w3.heap.size+1) J U (λx h=>.inl h) (.inr rfl) (λh=>by have:=HML _ h;omega)
   (λx h=>by have:=C.size;have:=Q.size;have:=X.size;exact h.elim (λh=>by have:=HML _ h;omega) (λh=>by omega))
   (λZ hm=>by
    obtain ⟨hma,hgc⟩:=Hmat Z (hMo Z hm);have hnI:∀x,W.heap.size<=x->x ≠ w3.heap.size+1->¬ (U x\/x=w3.heap.size+1):=λx h1 h2 h3=>h3.elim (λh=>by have:=HML _ h;omega) h2;refine ⟨hgc,hma,?_,?_,?_,?_,?_⟩
    ·exact hm.cell ((X.cell (p:=⟨W.heap.size,0,none⟩) (Lb _ _ yc5)).trans yc5) (hnI _ (KT _) (by show W.heap.size ≠ _;omega))
    ·exact hm.cell ((X.cell (p:=⟨w3.heap.size,0,none⟩) (Lb _ _ gc5)).trans gc5) (hnI _ (by show W.heap.size<=w3.heap.size;omega) (by show w3.heap.size ≠ _;omega))
    ·refine HG3 Z λx h1 h2=>(hm.block x (by have:=Q.size;omega) (hnI x (by omega) (by omega))).trans (Q.block x h2)
    ·exact hm.cell ((X.cell (p:=⟨w3.heap.size+1+1,0,none⟩) (Lb _ _ fc5)).trans fc5) (hnI _ (by show W.heap.size<=w3.heap.size+1+1;omega) (by show w3.heap.size+1+1 ≠ _;omega))
    ·have:=hm.size;have:=Q.size;have:=X.size;omega)
   HJa (λpre Z v hp hj=>HJb _ pre Z v (by omega) hp hj) (G.q ^ k)
   (λm pre x Z _ hj hlt hix hI=>HY m pre x Z hj hlt hix λj hj'=>hI j (.inl hj'))
   HN (by omega) hm1 HR.out (by omega) F.cl k 0 (by omega)
   a1 c1 (List.replicate n 0) [] V (Pz _ _) (HJa _ _ _ H0.out C) (λx hx=>by simp at hx) (ac5.af X) hia
   (λj hj=>by
    have h2:=(aT hown (λe=>by have:=hia.pl (by omega);rw [e] at this;cases this)).1;rcases hj with h | h
    ·have:=HML _ h;have:=K.size;omega
    ·omega)
   (λx hx=>by rw [(List.mem_replicate.1 hx).2];exact F.zero) (by simp)
  refine hres.mono ?_;rintro e Z ⟨he,xs,h1,h2,_,_,h5⟩;refine ⟨he,xs,by rw [h1,MK],by simpa using h2,?_⟩;have r:aC W Z (λx=>U x\/x=w3.heap.size+1) (λx=>U x\/x=w3.heap.size+1):=(Pr C _).trans h5;exact ⟨r.os,r.tape,r.output,r.size,λx hx hn=>r.block x hx λh=>h.elim hn (by omega),λx h=>.inl h⟩
 have hmk:=run_mk (P:=prog) 22 3 (cG 0) 8 underlying22 bh rfl n (by omega) (by omega);have hoD:(Y.alloc (.cells (Array.replicate n (Value.int .i64 0)) 3)).drew.ownsRow Y.heap.size 3 1 (.slice (some ⟨Y.heap.size,0,none⟩) n n) n (List.replicate n (Value.int .i64 0)):=l0 Y.drew 3 (cG 0) n rfl (KT _) (by unfold maxLen;omega);rw [<- Mv (f:=Value.int .i64)] at hoD;have HC:=Z5 (Hc _ _ _ hoD ((KU _ _).alloc (KT _) _).drew);have fc6:=(((KU Y.heap.size Y).alloc (KT _) (.cells (Array.replicate n (Value.int .i64 0)) 3)).cell (p:=⟨w3.heap.size+1+1,0,none⟩) (Lb _ _ fc5)).trans fc5;clear hoD gc5 yc5 ac5 hs5 hs4;go_region_law ((first
  | (go_simp;go_at_call 251;((with_reducible refine HC.out.mono ?_);rintro e V ⟨rfl,xs,hx,hJx,hmx⟩))))
 all_goals go_wp2_with fail
 all_goals go_end0
 all_goals exact ⟨rfl,xs,hx,hJx,hmx⟩
def Ac (P M:Int) (am:OA) (Y cm:Nat) (mod:LI) (N:Int) (a:OA) (n c:Nat) (L:Ll) (W:Int) (w:World) (e:Ending) (w':World):Prop :=
 PY w w'/\((aI P M mod N L ≠ 0/\e = .returned (.tuple #[.pointer none,cG (aI P M mod N L)])) \/
 (aI P M mod N L=0/\∃(b:Nat) (Z:World),e = .returned (.tuple #[.pointer (some ⟨Z.heap.size,0,none⟩),cG 0])/\PY w Z/\dU Z b (ah P M.toNat mod)/\PY Z w' /\
  aQ w' Z.heap.size [.pointer (some ⟨b,0,none⟩),cG P,cG M,.slice am Y cm,cG N,.slice a n c,ds,.bool false,cG 0,cG W,ds,cG 0]))
theorem BB (P M:Int) (am:OA) (S cm:Nat) (mod:LI) (N:Int) (a:OA) (n c:Nat) (L:Ll) (W:Int) (w:World) (Q:Ints w am S mod) (hi:bw w a n L) :
  Calls prog 182 #[.agg #[cG P,cG M,.slice am S cm,cG N,.slice a n c],cG W] w (Ac P M am S cm mod N a n c L W w):=by
 go_enter func182,ntmps182;go_wp2_with fail;obtain ⟨U,E⟩:∃U:World,U=w.alloc (.cells #[cG P,cG M,.slice am S cm,cG N,.slice a n c] 27):=⟨_,rfl⟩
 rw [<- E];have V:PY w U:=by rw [E];exact an _ _
 have r:aQ U w.heap.size [cG P,cG M,.slice am S cm,cG N,.slice a n c]:=by rw [E];exact Po _ _ _ rfl
 have j:=Z5 r;clear E r;refine (dn P M am S cm mod N a n c L U (Q.af V) (hi.af V)).mono ?_;rintro e w1 ⟨rfl,Y⟩;have Z:=Pm V Y;by_cases K:aI P M mod N L=0
 ·obtain ⟨hf,_⟩:=aL K;have C:=Z5 K;have Hf:=Z5 hf;rw [K];have F:=j.af Y;have c0:=F.cell 0 rfl;have c1:=F.cell 1 rfl;have c2:=F.cell 2 rfl;have z:=(Q.af V).af Y;clear K F hf;go_wp2_with fail;refine (dH P M am S cm mod w1 z).mono ?_;rintro e w2 (⟨D,rfl,X⟩ | ⟨D,b,rfl,hG,hbl,X⟩)
  ·rw [Hf.out] at D;cases D
  ·clear D;have hg:=hG.gf;have H:=(j.af Y).af X;have e0:=H.cell 0 rfl;have e1:=H.cell 1 rfl;have e2:=H.cell 2 rfl;have e3:=H.cell 3 rfl;have e4:=H.cell 4 rfl;clear H c0 c1 c2;go_wp2_with fail;go_ret2;exact ⟨Pm (Pm Z X) (an _ _),.inr ⟨C,b,w2,rfl,Pm Z X,hg,an _ _,Po w2 [.pointer (some ⟨b,0,none⟩),cG P,cG M,.slice am S cm,cG N,.slice a n c,ds,.bool false,cG 0,cG W,ds,cG 0] _ rfl⟩⟩
 ·have C:=Z5 K;have hE':(aI P M mod N L != 0)=true:=by simpa using K
  clear K;go_wp2_with fail;go_ret2;exact ⟨Z,.inl ⟨C,rfl⟩⟩
def Iy (P M:Int) (am:OA) (U cm:Nat) (mod:LI) (m:Nat) (a:OA) (n c:Nat) (L:Ll) (Y:OA) (X cy:Nat) (C:js) (w w':World) (V:Nat):Prop :=
 ∃(b:Nat) (Z:World),V=Z.heap.size/\PY w Z/\Ak Z b (ah P M.toNat mod) a n L m Y X C/\PY Z w'/\aQ w' V (mA b P M am U cm m a n c Y X cy C ds 0)
section
variable {O:aP} {El:Int->Prop} {m:Nat} {L:Ll}
theorem fZ {R:Ll} {r:LI} (h:r ∈ R):∃j,j<R.length/\ai R j=r:=by obtain ⟨j,Z,e⟩:=List.mem_iff_getElem.1 h;exact ⟨j,Z,by rw [aE Z];exact e⟩
theorem RS.el (F:bK O El) (Y:bt El m L) {f:Nat->Int} (h:RS O El m L f) {x:Nat} (Z:x<m):El (f x):=by obtain ⟨e,he,h2⟩:=h;rw [h2 x Z];exact he.el _ (ch Y F.zero x)
structure KP (O:aP) (El:Int->Prop) (m:Nat) (L R:Ll) (Z:LI):Prop where
 rws:bt El m R
 sub:eF O El m R L
 zero:∀r ∈ R,∀z ∈ Z,nth r z.toNat=0
 all:∀f,RS O El m L f->(∀z ∈ Z,f z.toNat=0)->RS O El m R f
 cnt:R.length+kC O L Z=L.length
end
section
structure RX where
 a:OA
 c:Nat
 l:LI
structure gB (A:Nat->Prop) (w:World) (a:OA) (n:Nat) (L:Ll):Prop where
 len:L.length=n
 pl:Pl a n
 max:n<=maxLen
 no:0<n->¬ A (ablk a)
 cell:∀i,i<n->∃b m c,w.cell? ⟨ablk a,aJ a+i,none⟩=some (.slice b m c)/\Ints w b m (ai L i)/\(0<m->¬ A (ablk b))
theorem gB.iZ {A:Nat->Prop} {w:World} {a:OA} {n:Nat} {L:Ll} (h:gB A w a n L):bw w a n L :=
 ⟨h.len,h.pl,h.max,λi hi=>by obtain ⟨b,m,c,h1,h2,_⟩:=h.cell i hi;exact ⟨b,m,c,h1,h2⟩⟩
theorem gB.dc {A Y:Nat->Prop} {w w':World} {a:OA} {n:Nat} {L:Ll} (h:gB A w a n L) (Z:aC w w' A Y):gB A w' a n L :=
 ⟨h.len,h.pl,h.max,h.no,λi hi=>by obtain ⟨b,m,c,h1,h2,h3⟩:=h.cell i hi;exact ⟨b,m,c,Z.cell h1 (h.no (by omega)),h2.dc Z h3,h3⟩⟩
theorem gB.af {A:Nat->Prop} {w w':World} {a:OA} {n:Nat} {L:Ll} (h:gB A w a n L) (hb:PY w w'):gB A w' a n L:=h.dc (Pr hb A)
theorem gB.FX {A:Nat->Prop} {w:World} {a:OA} {n:Nat} {L:Ll} (h:bw w a n L) (Y:∀b,A b->w.heap.size<=b):gB A w a n L :=
 ⟨h.len,h.pl,h.max,λX Z=>by have:=Y _ Z;have:=h.lt X;omega,λi hi=>by obtain ⟨b,m,c,h1,h2⟩:=h.cell i hi;exact ⟨b,m,c,h1,h2,λhm Z=>by have:=Y _ Z;have:=h2.lt hm;omega⟩⟩
variable {w:World} {b:Nat} {G:cZ}
end
theorem gB.cells {I:Nat->Prop} {w:World} {a:OA} {n:Nat} {L:Ll} (h:gB I w a n L):∃l:List Value,l.length=n/\(∀j,j<n->w.cell? ⟨ablk a,aJ a+j,none⟩=l[j]?)/\(∀u ∈ l,u.oneCell'=true) /\
  ∀j,j<n->∃b m c,l[j]? = some (.slice b m c)/\Ints w b m (ai L j)/\(0<m->¬ I (ablk b)):=by
 have key:∀k,k<=n->∃l:List Value,l.length=k/\(∀j,j<k->w.cell? ⟨ablk a,aJ a+j,none⟩=l[j]?)/\(∀u ∈ l,u.oneCell'=true)/\∀j,j<k->∃b m c,l[j]? = some (.slice b m c)/\Ints w b m (ai L j)/\(0<m->¬ I (ablk b)):=λk U=>by
  induction k with
  | zero=>exact ⟨[],rfl,λj Z=>by omega,λu hu=>by simp at hu,λj Z=>by omega⟩
  | succ k V =>
   obtain ⟨l,h1,h2,h3,Y⟩:=V (by omega)
   obtain ⟨b,m,c,X,hi⟩:=h.cell k (by omega)
   refine ⟨l ++ [.slice b m c],by simp [h1],λj Z=>?_,λu hu=>?_,λj Z=>?_⟩
   ·by_cases e:j=k
    ·subst e;rw [X,<- h1,Nd]
    ·rw [Lg (by omega)];exact h2 j (by omega)
   ·rcases List.mem_append.1 hu with hu | hu
    ·exact h3 u hu
    ·rw [List.mem_singleton.1 hu];rfl
   ·by_cases e:j=k
    ·subst e;exact ⟨b,m,c,by rw [<- h1,Nd],hi⟩
    ·rw [Lg (by omega)];exact Y j (by omega)
 exact key n (KT _)
theorem tR {P:Program} {w:World} {ops:Array Oper} {rest:List Oper} {o:Oper} {ac:Act} {Q:Exit->Act->World->Prop}
  (hg:o.guard=none) (s x:Operand) (t e:TypeId) (H:o.op = .call { callee:=.builtin .append,args:=#[s,x],argTypes:=#[t,t] }) (bytes:Nat)
  (h1:P.underlying t=some (.slice e)) (h2:(P.info? e).map (λi=>(i.zero,i.size,i.bytes))=some (some ds,1,bytes))
  (I:Nat->Prop) (hI:∀b,I b->b<w.heap.size) (a:OA) (k:Nat) (A:Ll) (hs:ac.eval s = .slice a k k) (V:gB I w a k A)
  (a2:OA) (n c:Nat) (L:Ll) (hx:ac.eval x = .slice a2 n c) (F:gB I w a2 n L) (b2:(k+n) * bytes<=140737488355328) (b3:k+n<=maxLen)
  (hK:∀a' r w',gB I w' a' (k+n) (A ++ L)->PY w w'->wpList P ops Q rest (ac.put o.dst (.slice a' (k+n) r)) w') :
  wpList P ops Q (o :: rest) ac w:=by
 obtain ⟨i,hi,hz0,hz1,C⟩:=info_parts h2;by_cases hn:n=0
 ·subst hn;obtain rfl:L=[]:=Lw F.len;refine wpList_plain hg λK hK'=>?_;unfold Oper.wp execOp;simp only [H,resolve,invoke,builtin,OV,OW,NZ,N8,N3,OX,hs,hx,lf (P:=P) w t o.type e i h1 hi a a2 k k c (KT _)];exact hK' _ _ (hK a k w (by rw [Mh];exact V) (KU _ _))
 ·obtain ⟨S,o1,o2,o3,o4⟩:=V.cells;obtain ⟨news,n1,n2,n3,n4⟩:=F.cells;have U:=F.pl (by omega);have N:∀ {l:List Value} {j:Nat} {u:Value},l[j]? = some u->j<l.length:=λh=>(List.getElem?_eq_some_iff.1 h).1;refine wpList_append_grows (P:=P) w hg s x t H e i ds 1 bytes h1 hi hz0 hz1 C rfl (by decide) a k k S hs (λh0=>?_) (by omega) (λb hb j u X=>?_) ⟨ablk a2,aJ a2,none⟩ n c news (by rw [hx,<- U]) (by omega) (λj u X=>?_) n3 (by omega) b3 b2 λv' w' Y Z=>?_
  ·rcases MI k with h | h
   ·exact ⟨h,h⟩
   ·have:=V.pl h;rw [h0] at this;cases this
  ·have hj1:=N X;have hp:=V.pl (by omega);subst hb;injection hp with U
   rw [U,OU,o2 j (by omega)];exact X
  ·have hj1:=N X;rw [OU,n2 j (by omega)];exact X
  ·obtain ⟨a',r,rfl,hpl⟩:=PG Y;have hb:PY w w':=⟨Z.os,Z.tape,Z.output,Z.size,λj X=>Z.block j X (by simp)⟩
   refine hK a' r w' ⟨by rw [K6,V.len,F.len],hpl,b3,λh0 E=>?_,λj X=>?_⟩ hb
   ·have h3:=hI _ E;have h4:=(dR Y h0).1;omega
   have E:=(bH Y j X).1;by_cases h:j<k
   ·obtain ⟨b,m,c2,e1,z,D⟩:=o4 j h;refine ⟨b,m,c2,?_,?_,D⟩
    ·rw [E,Lg (by omega),e1]
    ·rw [show ai (A ++ L) j=ai A j by simp only [ai,KZ];rw [Lg (by rw [V.len];exact h)]];exact z.af hb
   ·obtain ⟨b,m,c2,e1,z,D⟩:=n4 (j - k) (by omega);refine ⟨b,m,c2,?_,?_,D⟩
    ·rw [E,L4 (by omega),o1,e1]
    ·rw [show ai (A ++ L) j=ai L (j - k) by simp only [ai,KZ];rw [L4 (by rw [V.len];omega),V.len]];exact z.af hb
theorem aC.rp (w:World) {I:Nat->Prop} {p:Addr} (Y:I p.block) (v:Value):aC w (w.setCell p v) I I:=by have Z:Below 0 w (w.setCell p v):=(KU 0 w).setCell (K0 _) v;exact ⟨Z.os,Z.tape,Z.output,Z.size,λb hb hI=>Lf _ _ _ _ λe=>hI (e ▸ Y),λb hb=>.inl hb⟩
theorem cF.Fq {A:Nat->Prop} {B:Nat} {w:World} {a:OA} {n:Nat} {L:Ll} (h:cF B w a n L) (Y:∀b,A b->b<B):gB A w a n L :=
 ⟨h.len,h.pl,h.max,λX Z=>N4 _ (Lx (Y _ Z) (h.lo X)),λi hi=>by obtain ⟨b,m,c,h1,h2⟩:=h.cell i hi;exact ⟨b,m,c,h1,h2.ints,λhm Z=>N4 _ (Lx (Y _ Z) (h2.lo hm))⟩⟩
theorem cF.KH {B g:Nat} {w:World} {a:OA} {n:Nat} {L:Ll} (h:cF B w a n L) (Z:g<B) (x y:Value):gB (λb=>b=g) ((w.setCell ⟨g,0,none⟩ x).setCell ⟨g,1,none⟩ y) a n L :=
 ((h.Fq (A:=λb=>b=g) (λb hb=>by rw [show b=g from hb];exact Z)).dc (aC.rp w (I:=λb=>b=g) (p:=⟨g,0,none⟩) rfl x)).dc (aC.rp _ (I:=λb=>b=g) (p:=⟨g,1,none⟩) rfl y)
theorem Ints.kr {w:World} {a:OA} {n:Nat} {l:LI} (h:Ints w a n l) {p:Addr} {b:OA} {m c:Nat} (Z:w.cell? p=some (.slice b m c)) (v:Value):Ints (w.setCell p v) a n l :=
 ⟨h.len,h.pl,h.max,λi hi=>by have Y:=h.cell i hi;rw [Le _ _ _ _ (λe=>by rw [e,Y] at Z;cases Z)];exact Y⟩
theorem bw.kr {w:World} {a:OA} {n:Nat} {L:Ll} (h:bw w a n L) {p:Addr} {b:OA} {m c:Nat} (Z:w.cell? p=some (.slice b m c)) (hne:0<n->p.block ≠ ablk a) (v:Value):bw (w.setCell p v) a n L :=
 ⟨h.len,h.pl,h.max,λi hi=>by obtain ⟨b',X,Y,h1,h2⟩:=h.cell i hi;exact ⟨b',X,Y,by rw [Le _ _ _ _ (λe=>hne (by omega) (by rw [e]))];exact h1,h2.kr Z v⟩⟩
theorem aQ.Kt {w:World} {b:Nat} {cs:List Value} (h:aQ w b cs) {g:Nat} (hb:g ≠ b) (i:Nat) (v:Value):aQ (w.setCell ⟨g,i,none⟩ v) b cs:=by
 refine ⟨by rw [OP];exact h.1,λj x Z=>?_,λj=>?_⟩
 ·rw [Le _ _ _ _ (by intro e;injection e with e1 _ _;exact hb e1)];exact h.2.1 j x Z
 ·rw [L7];exact h.2.2 j
section
variable {O:aP} {El:Int->Prop} {m:Nat} {A B L:Ll}
theorem FP (F:bK O El) (N:bt El m A) {X:Nat->Nat} (V:∀j,j<A.length->X j<m) (h1:∀i j,i<A.length->j<A.length->nth (ai A i) (X j)=if i=j then 1 else 0) {f:Nat->Int} (K:∀x,x<m->El (f x)) :
  ∀k,k<=A.length->∃g,RS O El m A g/\∀j,j<k->g (X j)=f (X j)
 | 0,_=>⟨λ_=>0,RS.Gb F λ_ _=>rfl,λj E=>by omega⟩
 | k+1,D=>by
  obtain ⟨g,Q,h2⟩:=FP F N V h1 K k (by omega);have U:=λx (H:x<m)=>RS.el F N Q H;have Y:=U _ (V k (by omega));have Z:=K _ (V k (by omega));have S:El (O.add (g (X k)) (O.neg (f (X k)))):=F.cl.add _ _ Y (F.cl.neg _ Z);refine ⟨_,Q.comb F (PB F (show k<A.length by omega)) S,λj E=>?_⟩;show O.add (g (X j)) (O.neg (O.mul (nth (ai A k) (X j)) (O.add (g (X k)) (O.neg (f (X k))))))=_;rw [h1 k j (by omega) (by omega)];by_cases e:k=j
  ·subst e;rw [KX rfl,F.one_mul _ S,F.neg_add Y (F.cl.neg _ Z),F.neg_neg Z,<- F.add_assoc _ _ _ Y (F.cl.neg _ Y) Z,F.add_neg _ Y,F.tP Z]
  ·rw [KY e,F.jw S,F.fw,F.add_zero _ (U _ (V j (by omega)))];exact h2 j (by omega)
theorem uF (F:bK O El) {a b c:Nat->Int}:∀t,(∀p,p<t->El (a p))->(∀p,p<t->El (b p))->(∀p,p<t->El (c p))->dotN O (λp=>O.add (a p) (O.neg (b p))) c t=O.add (dotN O a c t) (O.neg (dotN O b c t))
 | 0,_,_,_=>by show (0:Int)=O.add 0 (O.neg 0);rw [F.fw,F.add_zero _ F.zero]
 | t+1,ha,hb,Y=>by have V:=uF F t (λp Z=>ha p (by omega)) (λp Z=>hb p (by omega)) (λp Z=>Y p (by omega));have h1:=ha t (by omega);have h2:=hb t (by omega);have h3:=Y t (by omega);have d1:=kJ F t (λp Z=>ha p (by omega)) (λp Z=>Y p (by omega));have d2:=kJ F t (λp Z=>hb p (by omega)) (λp Z=>Y p (by omega));have m1:=F.cl.mul _ _ h1 h3;have X:=F.cl.mul _ _ h2 h3;show O.add (dotN O (λp=>O.add (a p) (O.neg (b p))) c t) (O.mul (O.add (a t) (O.neg (b t))) (c t))=O.add (O.add (dotN O a c t) (O.mul (a t) (c t))) (O.neg (O.add (dotN O b c t) (O.mul (b t) (c t))));rw [V,F.mul_comm _ _ (F.cl.add _ _ h1 (F.cl.neg _ h2)) h3,F.mul_add _ _ _ h3 h1 (F.cl.neg _ h2),F.mul_neg h3 h2,F.mul_comm _ _ h3 h1,F.mul_comm _ _ h3 h2,F.neg_add d2 X,F.D5 d1 (F.cl.neg _ d2) m1 (F.cl.neg _ X)]
theorem RS.dot (F:bK O El) (Y:bt El m A) (S:bt El m B) (V:ou O m A B) {f:Nat->Int} (U:RS O El m A f) {i:Nat} (hi:i<B.length):dotN O f (λp=>nth (ai B i) p) m=0:=by obtain ⟨e,he,h2⟩:=U;have hb:∀p,p<m->El (nth (ai B i) p):=λp Z=>Ps (S.row hi) Z;rw [eO (a':=λp=>e (ba A p)) (b':=λp=>nth (ai B i) p) m λp Z=>⟨h2 p Z,rfl⟩];rw [gr F m (λp _=>he.el _ (ch Y F.zero p)) hb];refine kj F Y he hb λj X=>?_;rw [gr F m hb λp Z=>Ps (Y.row X) Z];exact V j i X hi
theorem qX (F:bK O El) (D:bt El m A) (hB:bt El m B) {r Y:Nat->Nat} (hι:∀j,j<A.length->r j<m) (h1:∀i j,i<A.length->j<A.length->nth (ai A i) (r j)=if i=j then 1 else 0)
  (z:∀i,i<B.length->Y i<m) (h2:∀i j,i<B.length->j<B.length->nth (ai B i) (Y j)=if i=j then 1 else 0)
  (X:∀x,x<m->(∃j,j<A.length/\r j=x)\/∃i,i<B.length/\Y i=x) (ho:ou O m A B) {f:Nat->Int} (S:∀x,x<m->El (f x)) (C:∀i,i<B.length->dotN O f (λp=>nth (ai B i) p) m=0):RS O El m A f:=by
 obtain ⟨g,E,N⟩:=FP F D hι h1 S A.length (KT _);have Z:=λx (H:x<m)=>RS.el F D E H;refine E.congr λx H=>?_;rcases X x H with ⟨j,K,rfl⟩ | ⟨i,hi,rfl⟩
 ·exact (N j K).symm
 ·have hb:∀p,p<m->El (nth (ai B i) p):=λp U=>Ps (hB.row hi) U;have hd:=uF F m S Z hb;rw [C i hi,RS.dot F D hB ho E hi,F.fw,F.add_zero _ F.zero] at hd;have V:=z i hi;have Q:El (O.add (f (Y i)) (O.neg (g (Y i)))):=F.cl.add _ _ (S _ V) (F.cl.neg _ (Z _ V));have h3:=lW F (a:=λp=>O.add (f p) (O.neg (g p))) (b:=λp=>nth (ai B i) p) (x:=Y i) (F.cl.mul _ _ Q (hb _ V)) m λp U hne=>?_
  ·rw [hd,KX V] at h3;have h4:O.mul (O.add (f (Y i)) (O.neg (g (Y i)))) (nth (ai B i) (Y i))=0:=h3.symm;rw [h2 i i hi hi,KX rfl,F.iV Q] at h4;have h5:=F.jX (S _ V) (F.cl.neg _ (Z _ V)) h4;rw [<- F.neg_neg (S _ V),<- h5,F.neg_neg (Z _ V)]
  ·show O.mul (O.add (f p) (O.neg (g p))) (nth (ai B i) p)=0;rcases X p U with ⟨j,K,rfl⟩ | ⟨j,K,rfl⟩
   ·rw [N j K,F.add_neg _ (S _ U),F.jw (hb _ U)]
   ·rw [h2 i j hi K,KY (λe=>hne (by rw [e])),F.dh (F.cl.add _ _ (S _ U) (F.cl.neg _ (Z _ U)))]
theorem vw (P:LI):∀k i j,i<j->j<(eX P k).length->(eX P k).getD i 0<(eX P k).getD j 0
 | 0,i,j,_,h=>by simp [eX] at h
 | k+1,i,j,Y,h=>by
  have V:=vw P k i j Y;rw [eX] at h ⊢;split at h
  ·rename_i X;rw [KX X];exact V h
  ·rename_i X;rw [KY X];rw [K6,Lo] at h;have e1:(eX P k ++ [k]).getD i 0=(eX P k).getD i 0:=by simp only [KZ];rw [Lg (by omega)]
   rw [e1];by_cases e:j<(eX P k).length
   ·have Z:(eX P k ++ [k]).getD j 0=(eX P k).getD j 0:=by simp only [KZ];rw [Lg e]
    rw [Z];exact V e
   ·have Z:(eX P k ++ [k]).getD j 0=k:=by
     have U:j=(eX P k).length:=by omega
     simp only [KZ];rw [L4 (by omega)];simp [U]
    rw [Z];exact (lS (k:=k) (j:=i) (by omega)).1
theorem xB (F:bK O El) {R:Ll} {P:LI} (S:bt El m R) (X:lh R P m) (hl:ow R P) (hlen:R.length=P.length) {f:Nat->Int} (z:∀x,x<m->El (f x)) :
  ((∀i,i<R.length->dotN O f (λp=>nth (ai R i) p) m=0)->RS O El m (dk O m R P m) f)/\((∀i,i<(dk O m R P m).length->dotN O f (λp=>nth (ai (dk O m R P m) i) p) m=0)->RS O El m R f):=by
 have H:=fY F S X hlen;have r:=od F S X hl hlen;have U:=fR O m R P m;have Q:∀j,j<R.length->(nth P j).toNat<m:=λj Z=>by have:=X.lt j (by omega);omega
 have h1:∀i j,i<R.length->j<R.length->nth (ai R i) (nth P j).toNat=if i=j then 1 else 0:=λi j hi Z=>X.one j i (by omega) hi
 have V:∀i,i<(dk O m R P m).length->(eX P m).getD i 0<m:=λi hi=>(lS (by omega)).1;have h2:∀i j,i<(dk O m R P m).length->j<(dk O m R P m).length->nth (ai (dk O m R P m) i) ((eX P m).getD j 0)=if i=j then 1 else 0:=λi j hi Z=>by
  rw [U] at hi Z;obtain ⟨a1,a2⟩:=lS (P:=P) hi;obtain ⟨b1,b2⟩:=lS (P:=P) Z;rw [jF O m R P m hi];by_cases e:i=j
  ·subst e;rw [KX rfl];exact je X a1 a2 _ (KT _)
  ·rw [KY e];refine jJ X b1 (λC=>?_) _ (KT _) λq E C=>?_
   ·rcases Nat.lt_or_gt_of_ne e with h | h
    ·have:=vw P m i j h Z;omega
    ·have:=vw P m j i h hi;omega
   ·apply b2;have K:=X.lt q E;rw [<- C,Mk K.1];exact aG E
 have Y:∀x,x<m->(∃j,j<R.length/\(nth P j).toNat=x)\/∃i,i<(dk O m R P m).length/\(eX P m).getD i 0=x:=λx N=>by
  by_cases D:(x:Int) ∈ P
  ·obtain ⟨j,Z,e⟩:=List.mem_iff_getElem.1 D;exact .inl ⟨j,by omega,by rw [aj Z,e];simp⟩
  ·obtain ⟨j,Z,e⟩:=List.mem_iff_getElem.1 ((jD (P:=P) m).2 ⟨N,D⟩);exact .inr ⟨j,by rw [U];exact Z,by rw [KZ,LC Z];exact e⟩
 exact ⟨qX F H S V h2 Q h1 (λx N=>(Y x N).symm) (ou.symm F S H r) z,qX F S H Q h1 V h2 Y r z⟩
def gG (O:aP) (m:Nat) (L:Ll):Ll:=bI O m (dk O m (bI O m L) (aD O L m).2 m)
theorem mj (F:bK O El) (Z:bt El m L):bt El m (gG O m L):=bS F (fY F (bS F Z) (bU F Z).1 (cI F Z))
theorem mT (F:bK O El) (Y:bt El m A) {f:Nat->Int} (Z:∀x,x<m->El (f x)) (h:∀i,i<A.length->dotN O f (λp=>nth (ai A i) p) m=0) {g:Nat->Int} (V:RS O El m A g):dotN O f g m=0:=by obtain ⟨e,he,h2⟩:=V;rw [eO (a':=f) (b':=λp=>e (ba A p)) m λp X=>⟨rfl,h2 p X⟩];exact kj F Y he Z h
theorem qS (F:bK O El) (Y:bt El m L) {f:Nat->Int} (V:∀x,x<m->El (f x)):RS O El m (gG O m L) f ↔ ∀i,i<L.length->dotN O f (λp=>nth (ai L i) p) m=0:=by
 obtain ⟨U,S⟩:=bU F Y;have hlen:=cI F Y;have Z:=bS F Y;have X:=fY F Z U hlen;obtain ⟨s1,s2⟩:=dN F X;obtain ⟨t1,t2⟩:=dN F Y;have N:=ou.symm F Z X (od F Z U S hlen);constructor
 ·intro h i hi;exact mT F Z V (λj Q=>RS.dot F X Z N (s1.rs h) Q) (t2 i hi)
 ·intro h;refine s2.rs ((xB F Z U S hlen V).1 λi hi=>?_);exact mT F Y V h (t1 i hi)
theorem CR (F:bK O El) (Z:bt El m L) {f:Nat->Int} (X:∀x,x<m->El (f x)):(∀i,i<(gG O m L).length->dotN O f (λp=>nth (ai (gG O m L) i) p) m=0) ↔ RS O El m L f:=by
 obtain ⟨S,K⟩:=bU F Z;have hlen:=cI F Z;have U:=bS F Z;have N:=fY F U S hlen;obtain ⟨s1,s2⟩:=dN F N;obtain ⟨t1,t2⟩:=dN F Z;have V:=mj F Z;constructor
 ·intro h;exact t1.rs ((xB F U S K hlen X).2 λi hi=>mT F V X h (s2 i hi))
 ·intro h i hi;have Y:∀p,p<m->El (nth (ai (gG O m L) i) p):=λp Q=>Ps (V.row hi) Q;rw [gr F m X Y];exact mT F Z Y ((qS F Z Y).1 (PB F hi)) h
def bM (m:Nat) (z:Int):LI:=(List.replicate m 0).set z.toNat 1
def Cy (O:aP) (m:Nat) (L:Ll) (Z:LI):Ll:=gG O m (gG O m L ++ Z.map (bM m))
theorem lA (F:bK O El) (m:Nat) (z:Int):Vc El m (bM m z):=⟨by simp [bM],λy Z=>by
 rcases Mj Z with h | rfl
 ·rw [L6 h];exact F.zero
 ·exact F.one⟩
theorem pc {m:Nat} {z:Int} (Z:z.toNat<m) (i:Nat):nth (bM m z) i=if i=z.toNat then 1 else 0:=by
 unfold bM;rw [dS _ _ _ _ (by simpa using Z)];split
 ·rfl
 ·simp [nth,KZ,Ls];split <;> rfl
theorem nP (F:bK O El) {f:Nat->Int} (Y:∀x,x<m->El (f x)) {z:Int} (Z:z.toNat<m):dotN O f (λp=>nth (bM m z) p) m=f z.toNat:=by
 have h1:=lW F (a:=f) (b:=λp=>nth (bM m z) p) (x:=z.toNat) (by show El (O.mul (f z.toNat) (nth (bM m z) z.toNat));rw [pc Z,KX rfl,F.iV (Y _ Z)];exact Y _ Z) m λp X hne=>by show O.mul (f p) (nth (bM m z) p)=0;rw [pc Z,KY hne,F.dh (Y p X)]
 rw [h1,KX Z];show O.mul (f z.toNat) (nth (bM m z) z.toNat)=_;rw [pc Z,KX rfl,F.iV (Y _ Z)]
def KK (m:Nat) (Z:LI):Prop:=∀z ∈ Z,0<=z/\z<(m:Int)
theorem EB (F:bK O El) (U:bt El m L) {Z:LI} (N:KK m Z) {f:Nat->Int} (V:∀x,x<m->El (f x)):RS O El m (Cy O m L Z) f ↔ RS O El m L f/\∀z ∈ Z,f z.toNat=0:=by
 have K:=mj F U;have H:bt El m (gG O m L ++ Z.map (bM m)):=λr Y=>by
  rcases List.mem_append.1 Y with h | h
  ·exact K r h
  ·obtain ⟨z,_,rfl⟩:=List.mem_map.1 h;exact lA F m z
 have key:RS O El m (Cy O m L Z) f ↔ ∀r ∈ gG O m L ++ Z.map (bM m),dotN O f (λp=>nth r p) m=0:=by refine (qS F H V).trans ⟨λh r Y=>?_,λh i hi=>h _ (eZ hi)⟩;obtain ⟨j,S,rfl⟩:=fZ Y;exact h j S
 rw [key];constructor
 ·intro h;refine ⟨(CR F U V).1 λi hi=>h _ (List.mem_append.2 (.inl (eZ hi))),λz X=>?_⟩;have Q:=N z X;rw [<- nP F V (z:=z) (by omega)];exact h _ (List.mem_append.2 (.inr (List.mem_map.2 ⟨z,X,rfl⟩)))
 ·rintro ⟨h1,h2⟩ r Y;rcases List.mem_append.1 Y with h | h
  ·obtain ⟨j,S,rfl⟩:=fZ h;exact (CR F U V).2 h1 j S
  ·obtain ⟨z,X,rfl⟩:=List.mem_map.1 h;have Q:=N z X;rw [nP F V (by omega)];exact h2 z X
theorem RS.KG (F:bK O El) (S:bt El m L) {f:Nat->Int} (h:RS O El m L f):∃v,Vc El L.length v/\∀x,x<m->f x=nth (cmbTo O m v L L.length) x:=by
 obtain ⟨e,he,h2⟩:=h;obtain ⟨c,N⟩:∃c,((List.range L.length).map λt=>e (gu L.length t))=c:=⟨_,rfl⟩
 have V:c.length=L.length:=by rw [<- N];simp
 have Z:∀t,t<L.length->nth c t=e (gu L.length t):=λt X=>by rw [<- N,ed _ _ _ X]
 have Y:Vc El L.length c:=⟨V,λy K=>by obtain ⟨t,X,rfl⟩:=List.mem_iff_getElem.1 K;rw [<- aj X,Z t (by omega)];exact he.el _ (iF F _ _)⟩
 refine ⟨c,Y,λx U=>?_⟩;rw [h2 x U,ja F he (ch S F.zero x),qR F S (λk H=>Y.at H) U _ (KT _)];exact eO _ λp Q=>⟨(Z p Q).symm,dj _ _ _ Q⟩
theorem IJ {l:LN} {x:Nat} (U:∀y ∈ l,y<m) (V:x<m):kB O El A.length (ba A) l x ↔ ∀f,RS O El m A f->(∀y ∈ l,f y=0)->f x=0:=by
 constructor
 ·rintro h f ⟨e,he,h2⟩ h0;rw [h2 x V];exact h e he λy Y=>by rw [<- h2 y (U y Y)];exact h0 y Y
 ·intro h X Z h0;exact h (λx=>X (ba A x)) ⟨X,Z,λ_ _=>rfl⟩ h0
end
theorem zL (P M:Int) (am:OA) (Q cm:Nat) (mod:LI) (n:Nat) (a:OA) (k c:Nat) (L:Ll) (w:World) (C:aI P M mod n L=0) (Y:Ints w am Q mod) (hi:bw w a k L) :
  Calls prog 210 #[.agg #[cG P,cG M,.slice am Q cm,cG n,.slice a k c]] w λe w' =>
   e = .returned (.tuple #[cG (oq (ah P M.toNat mod).q k),cG (jP (ah P M.toNat mod).q k)])/\PY w w':=by
 have hk256:k<=256:=by rw [<- hi.len];exact (di C).choose_spec.2.2.2.1
 have E:=(aL C).1;have r:Hid (∀V,PY w V->Calls prog 88 #[.agg #[cG P,cG M,.slice am Q cm,cG n,.slice a k c]] V λe w'=>e = .returned (cG 0)/\PY V w'):=λV S=>by have h:=dn P M am Q cm mod n a k c L V (Y.af S) (hi.af S);rw [C] at h;exact h
 have F:Hid (∀V,PY w V->Calls prog 52 #[.agg #[cG P,cG M,.slice am Q cm]] V λe w'=>∃b,e = .returned (.tuple #[.pointer (some ⟨b,0,none⟩),cG 0])/\dU w' b (ah P M.toNat mod)/\PY V w'):=λV S=>by
  refine (dH P M am Q cm mod V (Y.af S)).mono ?_;rintro e w' (⟨h1,_⟩ | ⟨_,b,h2,h3,_,h4⟩)
  ·rw [E] at h1;cases h1
  ·exact ⟨b,h2,h3.gf,h4⟩
 obtain ⟨G,hG⟩:∃G,ah P M.toNat mod=G:=⟨_,rfl⟩
 rw [hG] at F ⊢;clear hG E C Y hi;go_enter func210,ntmps210;go_upto_region 1 with fail;obtain ⟨W,z⟩:∃W:World,W=w.alloc (.cells #[cG P,cG M,.slice am Q cm,cG n,.slice a k c] 27):=⟨_,rfl⟩
 rw [<- z];have N:PY w W:=by rw [z];exact an _ _
 have D:aQ W w.heap.size [cG P,cG M,.slice am Q cm,cG n,.slice a k c]:=by rw [z];exact Po _ _ _ rfl
 have HX:=Z5 D;have c0:=D.cell 0 rfl;have c1:=D.cell 1 rfl;have c2:=D.cell 2 rfl;clear z D;go_wp2_with (go_at_call 52;refine (F _ N).mono ?_;rintro e w2 ⟨b,rfl,hG2,Z⟩;have H:=HX.af Z;have d0:=H.cell 0 rfl;have d1:=H.cell 1 rfl;have d2:=H.cell 2 rfl;have d3:=H.cell 3 rfl;have d4:=H.cell 4 rfl;clear H);refine (r _ (Pm N Z)).mono ?_;rintro e w3 ⟨rfl,U⟩;have X:=hG2.af U;have hq2:(2:Int)<=G.q:=by have:=X.q2;omega
 have K:(G.q:Int)<=256:=by have:=X.q256;omega
 have e4:=((HX.af Z).af U).cell 4 rfl;have j:∀m,dU (w3.drewN m) b G:=λm=>X.drewN m;clear d0 d1 d2 d3 d4 c0 c1 c2;go_wp2_with fail;have HS:Hid (∀V,PY w3 V->V.cell? ⟨w.heap.size,4,none⟩=some (.slice a k c)/\dU V b G/\PY w3 V):=λV S =>
  ⟨(((HX.af Z).af U).af S).cell 4 rfl,X.af S,S⟩
 clear e4 j;go_region_held3 (λV=>V.cell? ⟨w.heap.size,4,none⟩=some (.slice a k c)/\dU V b G/\PY w3 V)
  ((refine HS _ ?_;first | exact (KU _ _).drew | (go_split_ands;assumption) | (go_split_ands;exact Pm (by assumption) (by assumption))))
  (first
   | (go_at_call 63;((with_reducible refine (Bk (b:=b) (G:=G) (by go_split_ands;assumption)).mono ?_);rintro e w4 ⟨rfl,rfl⟩))
   | (go_at_call 207;((with_reducible refine (GK (G.q:Int) k _ hq2 K (by omega)).mono ?_);rintro e w5 ⟨rfl,rfl⟩)))
 all_goals go_wp2_with fail
 all_goals go_ret2
 all_goals exact ⟨rfl,Pm (Pm (Pm N Z) U) (by go_split_ands;assumption)⟩
theorem Ee (P M:Int) (am:OA) (Z cm:Nat) (mod:LI) (Y:OA) (U X:Nat) (w:World) (h:Ints w am Z mod) (F:Ints w Y U mod) :
  Calls prog 228 #[.agg #[cG P,cG M,.slice am Z cm],.agg #[cG P,cG M,.slice Y U X]] w λe w'=>e = .returned (.bool true)/\PY w w':=by
 obtain rfl:Z=U:=by have:=h.len;have:=F.len;omega
 have hpl:=h.pl;have j:=F.pl;have N:=h.max;unfold maxLen at N;go_enter func228,ntmps228;go_upto_region 1 with fail;obtain ⟨W,S⟩:∃W:World,W=(w.alloc (.cells #[cG P,cG M,.slice am Z cm] 24)).alloc (.cells #[cG P,cG M,.slice Y Z X] 24):=⟨_,rfl⟩
 rw [<- S];have V:PY w W:=by rw [S];exact bY _ _ _
 have H:aQ W w.heap.size [cG P,cG M,.slice am Z cm]:=by rw [S];exact (Po _ _ _ rfl).alloc _
 have K:aQ W (w.heap.size+1) [cG P,cG M,.slice Y Z X]:=by rw [S];exact Po _ _ _ (by simp)
 have hh:=h.af V;have D:=F.af V;have c0:=H.cell 0 rfl;have c1:=H.cell 1 rfl;have c2:=H.cell 2 rfl;have d0:=K.cell 0 rfl;have d1:=K.cell 1 rfl;have d2:=K.cell 2 rfl;clear S H K;have r:(P != P)=false:=by simp
 have z:(M != M)=false:=by simp
 have E:((Z:Int) != Z)=false:=by simp
 go_wp2_with fail;clear r z E;go_loop [31] (λC=>∃k:Nat,k<=Z/\C = cG k) (λC=>Z - (intOf C).toNat);case atStart=>exact ⟨0,K0 _,rfl⟩
 case round =>
  obtain ⟨k,hk,rfl⟩:=hrel
  by_cases Q:k<Z
  ·have cc:=hh.cell k Q
   have dd:=D.cell k Q
   have hne:(nth mod k != nth mod k)=false:=by simp
   go_wp2_with fail
   go_round
   case rel=>exact ⟨k+1,by omega,by go_num⟩
   case measure=>simp [intOf] <;> omega
  ·obtain rfl:k=Z:=by omega
   go_wp2_with fail
   go_ret
   exact ⟨rfl,V⟩
theorem Ie (P M:Int) (am:OA) (N cm:Nat) (mod:LI) (m:Nat) (a:OA) (n c:Nat) (L:Ll) (Z:OA) (Y X:Nat) (a':OA) (F E:Nat) (L':Ll) (w:World)
  (Q:Ints w am N mod) (hi:bw w a n L) (U:Ints w Z Y mod) (hi':bw w a' F L') (hE:aI P M mod m L=0) (j:aI P M mod m L'=0) :
  Calls prog 180 #[.agg #[cG P,cG M,.slice am N cm,cG m,.slice a n c],.agg #[cG P,cG M,.slice Z Y X,cG m,.slice a' F E]] w λe w'=>e = .returned (cG 0)/\PY w w':=by
 have HC1:Hid (∀V,PY w V->Calls prog 88 #[.agg #[cG P,cG M,.slice am N cm,cG m,.slice a n c]] V λe w'=>e = .returned (cG 0)/\PY V w'):=λV S=>by have h:=dn P M am N cm mod m a n c L V (Q.af S) (hi.af S);rw [hE] at h;exact h
 have HC2:Hid (∀V,PY w V->Calls prog 88 #[.agg #[cG P,cG M,.slice Z Y X,cG m,.slice a' F E]] V λe w'=>e = .returned (cG 0)/\PY V w'):=λV S=>by have h:=dn P M Z Y X mod m a' F E L' V (U.af S) (hi'.af S);rw [j] at h;exact h
 have HSm:Hid (∀V,PY w V->Calls prog 228 #[.agg #[cG P,cG M,.slice am N cm],.agg #[cG P,cG M,.slice Z Y X]] V λe w'=>e = .returned (.bool true)/\PY V w'):=λV S =>
  Ee P M am N cm mod Z Y X V (Q.af S) (U.af S)
 clear Q hi U hi' hE j;go_enter func180,ntmps180;go_upto_region 1 with fail;obtain ⟨W,hW⟩:∃W:World,W=(w.alloc (.cells #[cG P,cG M,.slice am N cm,cG m,.slice a n c] 27)).alloc (.cells #[cG P,cG M,.slice Z Y X,cG m,.slice a' F E] 27):=⟨_,rfl⟩
 rw [<- hW];have hbW:PY w W:=by rw [hW];exact bY _ _ _
 have x0:aQ W w.heap.size [cG P,cG M,.slice am N cm,cG m,.slice a n c]:=by rw [hW];exact (Po _ _ _ rfl).alloc _
 have y0:aQ W (w.heap.size+1) [cG P,cG M,.slice Z Y X,cG m,.slice a' F E]:=by rw [hW];exact Po _ _ _ (by simp)
 have HS:Hid (∀V,PY W V->V.cell? ⟨w.heap.size,0,none⟩=some (cG P)/\V.cell? ⟨w.heap.size,1,none⟩=some (cG M)/\V.cell? ⟨w.heap.size,2,none⟩=some (.slice am N cm)/\V.cell? ⟨w.heap.size,3,none⟩=some (cG m)/\V.cell? ⟨w.heap.size,4,none⟩=some (.slice a n c) /\
   V.cell? ⟨w.heap.size+1,0,none⟩=some (cG P)/\V.cell? ⟨w.heap.size+1,1,none⟩=some (cG M)/\V.cell? ⟨w.heap.size+1,2,none⟩=some (.slice Z Y X)/\V.cell? ⟨w.heap.size+1,3,none⟩=some (cG m)/\V.cell? ⟨w.heap.size+1,4,none⟩=some (.slice a' F E)):=λV S=>by have D:=x0.af S;have y1:=y0.af S;exact ⟨D.cell 0 rfl,D.cell 1 rfl,D.cell 2 rfl,D.cell 3 rfl,D.cell 4 rfl,y1.cell 0 rfl,y1.cell 1 rfl,y1.cell 2 rfl,y1.cell 3 rfl,y1.cell 4 rfl⟩
 clear hW x0 y0;obtain ⟨c0,c1,c2,c3,c4,d0,d1,d2,d3,d4⟩:=HS W (KU _ _);have C:=Z5 hbW;clear hbW;go_wp2_with fail;refine (HC1 W C.out).mono ?_;rintro e w1 ⟨rfl,H⟩;have hF1:=Pm C.out H;clear c0 c1 c2 c3 c4 d0 d1 d2 d3 d4;obtain ⟨c0,c1,c2,c3,c4,d0,d1,d2,d3,d4⟩:=HS w1 H;go_wp2_with fail;refine (HC2 w1 hF1).mono ?_;rintro e w2 ⟨rfl,z⟩;have hF2:=Pm hF1 z;have K:=Pm H z;clear c0 c1 c2 c3 c4 d0 d1 d2 d3 d4;obtain ⟨c0,c1,c2,c3,c4,d0,d1,d2,d3,d4⟩:=HS w2 K;have hmm:((m:Int) != m)=false:=by simp
 go_wp2_with (go_at_call 228;refine (HSm w2 hF2).mono ?_;rintro e w3 ⟨rfl,r⟩;obtain ⟨_,_,_,e3,_,_,_,_,g3,_⟩:=HS w3 (Pm K r);have hF3:=Pm hF2 r);go_ret;exact ⟨rfl,hF3⟩
def sc (P M:Int) (mod:LI) (m:Nat) (a:OA) (n c:Nat) (L:Ll) (w:World) (e:Ending) (w':World):Prop :=
 ∃b ap cp v2,e = .returned (.tuple #[.agg #[.pointer (some ⟨b,0,none⟩),cG m,.slice a n c,.slice ap (bq (ah P M.toNat mod) L m).length cp],v2,cG 0]) /\
  (∃(S:Nat) (U:Int) (a2:OA) (X c2:Nat) (Y:OA) (V Z:Nat),v2 = .agg #[.pointer (some ⟨S,0,none⟩),cG U,.slice a2 X c2,.slice Y V Z])/\dU w' b (ah P M.toNat mod)/\Ints w' ap (bq (ah P M.toNat mod) L m).length (bq (ah P M.toNat mod) L m)/\PY w w'
theorem E0 (P M:Int) (am:OA) (mn cm:Nat) (mod:LI) (m:Nat) (a:OA) (n c:Nat) (L:Ll) (a':OA) (j c':Nat) (L':Ll) (w:World)
  (hmod:Ints w am mn mod) (hi:bw w a n L) (hi':bw w a' j L') (hE:dD P M mod m L=0) (hE':dD P M mod m L'=0) :
  Calls prog 229 #[.agg #[cG P,cG M,.slice am mn cm],.agg #[cG m,.slice a n c],.agg #[cG m,.slice a' j c']] w (sc P M mod m a n c L w):=by
 have HO:Hid (∀V a n c L,PY w V->bw V a n L->dD P M mod m L=0->Calls prog 190 #[.agg #[cG P,cG M,.slice am mn cm],.agg #[cG m,.slice a n c]] V λe w'=>PY V w'/\∃b ap cp,
   e = .returned (.tuple #[.agg #[.pointer (some ⟨b,0,none⟩),cG m,.slice a n c,.slice ap (bq (ah P M.toNat mod) L m).length cp],cG 0])/\xV V.heap.size w' b (ah P M.toNat mod)/\bL V.heap.size w' ap (bq (ah P M.toNat mod) L m).length (bq (ah P M.toNat mod) L m)):=λV a n c L hV hM h=>by
  refine (jW P M am mn cm mod m a n c L V (hmod.af hV) hM).mono ?_;rintro e w' ⟨hb,⟨h1,_⟩ | ⟨_,m',b,hm',ap,cp,rfl,D,_,E⟩⟩
  ·exact absurd h h1
  ·obtain rfl:m=m':=by omega
   exact ⟨hb,b,ap,cp,rfl,D,E⟩
 have H:Hid (∀b ap cp v2 V,(∃(b2:Nat) (m2:Int) (a2:OA) (n2 c2:Nat) (N:OA) (k2 Q:Nat),v2 = .agg #[.pointer (some ⟨b2,0,none⟩),cG m2,.slice a2 n2 c2,.slice N k2 Q])->dU V b (ah P M.toNat mod)->Ints V ap (bq (ah P M.toNat mod) L m).length (bq (ah P M.toNat mod) L m)->PY w V ->
   sc P M mod m a n c L w (.returned (.tuple #[.agg #[.pointer (some ⟨b,0,none⟩),cG m,.slice a n c,.slice ap (bq (ah P M.toNat mod) L m).length cp],v2,cG 0])) V):=λb ap cp v2 V h1 h2 h3 h4=>⟨b,ap,cp,v2,rfl,h1,h2,h3,h4⟩
 have HI:=Z5 (K3 hi hi');have HO1:=Z5 (λV hV hM=>HO V a n c L hV hM hE);have HO2:=Z5 (λV hV hM=>HO V a' j c' L' hV hM hE');generalize sc P M mod m a n c L w=Post at *;obtain ⟨k,hk⟩:∃k,(bq (ah P M.toNat mod) L m).length=k:=⟨_,rfl⟩
 obtain ⟨k',hk'⟩:∃k,(bq (ah P M.toNat mod) L' m).length=k:=⟨_,rfl⟩
 rw [hk] at HO1 H;rw [hk'] at HO2;clear hmod hi hi' hE hE' HO hk hk';generalize bq (ah P M.toNat mod) L m=Pv at *;generalize bq (ah P M.toNat mod) L' m=Pv' at *;generalize ah P M.toNat mod=G at *;go_enter func229,ntmps229;go_upto_region 1 with fail;obtain ⟨W,hW⟩:∃W:World,W=((((w.alloc (.cells #[cG P,cG M,.slice am mn cm] 24)).alloc (.cells #[cG m,.slice a n c] 94)).alloc (.cells #[cG m,.slice a' j c'] 94)).alloc (.cells #[.pointer none,cG 0,ds,ds] 210)).alloc (.cells #[.pointer none,cG 0,ds,ds] 210):=⟨_,rfl⟩
 rw [<- hW];have hbW:PY w W:=by rw [hW];exact Pm (kS _ _ _ _) (bY _ _ _)
 have hsW:W.heap.size=w.heap.size+5:=by rw [hW];simp
 have K:aQ W w.heap.size [cG P,cG M,.slice am mn cm]:=by rw [hW];exact ((((Po _ _ _ rfl).alloc _).alloc _).alloc _).alloc _
 have C:aQ W (w.heap.size+1) [cG m,.slice a n c]:=by rw [hW];exact (((Po _ _ _ (by simp)).alloc _).alloc _).alloc _
 have x2:aQ W (w.heap.size+1+1) [cG m,.slice a' j c']:=by rw [hW];exact ((Po _ _ _ (by simp)).alloc _).alloc _
 have Y:aQ W (w.heap.size+1+1+1) [.pointer none,cG 0,ds,ds]:=by rw [hW];exact (Po _ _ _ (by simp)).alloc _
 have x4:aQ W (w.heap.size+1+1+1+1) [.pointer none,cG 0,ds,ds]:=by rw [hW];exact Po _ _ _ (by simp)
 clear hW;have HX:=Z5 (K3 K (K3 C (K3 x2 (K3 Y x4))));have HbW:=Z5 hbW;have HsW:=Z5 hsW;go_cut [8] (λv8 wx=>v8 = cG 0/\∃b ap cp,aQ wx (w.heap.size+1+1+1) [.pointer (some ⟨b,0,none⟩),cG m,.slice a n c,.slice ap k cp]/\aQ wx w.heap.size [cG P,cG M,.slice am mn cm]/\aQ wx (w.heap.size+1) [cG m,.slice a n c]/\aQ wx (w.heap.size+1+1) [cG m,.slice a' j c']/\aQ wx (w.heap.size+1+1+1+1) [.pointer none,cG 0,ds,ds]/\xV (w.heap.size+5) wx b G/\bL (w.heap.size+5) wx ap k Pv/\PY w wx);case first =>
  have c0:=K.cell 0 rfl
  have c1:=K.cell 1 rfl
  have c2:=K.cell 2 rfl
  have d0:=C.cell 0 rfl
  have d1:=C.cell 1 rfl
  clear K C x2 Y x4 hbW hsW
  go_wp2_with fail
  refine (HO1 W HbW.out (HI.1.af HbW.out)).mono ?_
  rintro e w1 ⟨S,b,ap,cp,rfl,D,E⟩
  clear c0 c1 c2 d0 d1
  obtain ⟨K,C,x2,Y,x4⟩:=HX.out
  have K:=K.af S
  have C:=C.af S
  have x2:=x2.af S
  have Y:=Y.af S
  have x4:=x4.af S
  have z0:=Y.cell 0 rfl
  have z1:=Y.cell 1 rfl
  have z2:=Y.cell 2 rfl
  have z3:=Y.cell 3 rfl
  have f0:=Y.frozen 0
  have f1:=Y.frozen 1
  have f2:=Y.frozen 2
  have f3:=Y.frozen 3
  have hs:=HsW.out
  have hF:=Pm HbW.out S
  have HR:Hid (aQ ((((w1.setCell ⟨w.heap.size+1+1+1,0,none⟩ (.pointer (some ⟨b,0,none⟩))).setCell ⟨w.heap.size+1+1+1,1,none⟩ (cG m)).setCell ⟨w.heap.size+1+1+1,2,none⟩ (.slice a n c)).setCell ⟨w.heap.size+1+1+1,3,none⟩ (.slice ap k cp)) (w.heap.size+1+1+1) [.pointer (some ⟨b,0,none⟩),cG m,.slice a n c,.slice ap k cp] /\
    (∀g cs,g ≠ w.heap.size+1+1+1->aQ w1 g cs->aQ ((((w1.setCell ⟨w.heap.size+1+1+1,0,none⟩ (.pointer (some ⟨b,0,none⟩))).setCell ⟨w.heap.size+1+1+1,1,none⟩ (cG m)).setCell ⟨w.heap.size+1+1+1,2,none⟩ (.slice a n c)).setCell ⟨w.heap.size+1+1+1,3,none⟩ (.slice ap k cp)) g cs) /\
    xV (w.heap.size+5) ((((w1.setCell ⟨w.heap.size+1+1+1,0,none⟩ (.pointer (some ⟨b,0,none⟩))).setCell ⟨w.heap.size+1+1+1,1,none⟩ (cG m)).setCell ⟨w.heap.size+1+1+1,2,none⟩ (.slice a n c)).setCell ⟨w.heap.size+1+1+1,3,none⟩ (.slice ap k cp)) b G /\
    bL (w.heap.size+5) ((((w1.setCell ⟨w.heap.size+1+1+1,0,none⟩ (.pointer (some ⟨b,0,none⟩))).setCell ⟨w.heap.size+1+1+1,1,none⟩ (cG m)).setCell ⟨w.heap.size+1+1+1,2,none⟩ (.slice a n c)).setCell ⟨w.heap.size+1+1+1,3,none⟩ (.slice ap k cp)) ap k Pv /\
    PY w ((((w1.setCell ⟨w.heap.size+1+1+1,0,none⟩ (.pointer (some ⟨b,0,none⟩))).setCell ⟨w.heap.size+1+1+1,1,none⟩ (cG m)).setCell ⟨w.heap.size+1+1+1,2,none⟩ (.slice a n c)).setCell ⟨w.heap.size+1+1+1,3,none⟩ (.slice ap k cp))):=by
   refine ⟨(((Y.setCell 0 _).setCell 1 _).setCell 2 _).setCell 3 _,λg cs hg hx=>(((hx.Kt (Pf hg) 0 _).Kt (Pf hg) 1 _).Kt (Pf hg) 2 _).Kt (Pf hg) 3 _,?_,?_,?_⟩
   ·rw [<- hs];exact (((D.setCell (p:=⟨w.heap.size+1+1+1,0,none⟩) (by simp;omega) _).setCell (p:=⟨w.heap.size+1+1+1,1,none⟩) (by simp;omega) _).setCell (p:=⟨w.heap.size+1+1+1,2,none⟩) (by simp;omega) _).setCell (p:=⟨w.heap.size+1+1+1,3,none⟩) (by simp;omega) _
   ·rw [<- hs];exact (((E.setCell (p:=⟨w.heap.size+1+1+1,0,none⟩) (by simp;omega) _).setCell (p:=⟨w.heap.size+1+1+1,1,none⟩) (by simp;omega) _).setCell (p:=⟨w.heap.size+1+1+1,2,none⟩) (by simp;omega) _).setCell (p:=⟨w.heap.size+1+1+1,3,none⟩) (by simp;omega) _
   ·exact (((hF.setCell (p:=⟨w.heap.size+1+1+1,0,none⟩) (by simp;omega) _).setCell (p:=⟨w.heap.size+1+1+1,1,none⟩) (by simp;omega) _).setCell (p:=⟨w.heap.size+1+1+1,2,none⟩) (by simp;omega) _).setCell (p:=⟨w.heap.size+1+1+1,3,none⟩) (by simp;omega) _
  have HY:=Z5 (K3 K (K3 C (K3 x2 x4)))
  clear D E hs hF K C x2 Y x4
  go_wp2_with fail
  go_meet
  obtain ⟨r1,r2,r3,r4,r5⟩:=HR.out
  obtain ⟨r,z,F,Z⟩:=HY.out
  exact ⟨rfl,b,ap,cp,r1,r2 _ _ (by omega) r,r2 _ _ (by omega) z,r2 _ _ (by omega) F,r2 _ _ (by omega) Z,r3,r4,r5⟩
 obtain ⟨rfl,b,ap,cp,z3,r,z,F,Z,D,E,hF⟩:=hcut;generalize wc=V at *;clear K C x2 Y x4 hbW hsW HX HO1;have c0:=r.cell 0 rfl;have c1:=r.cell 1 rfl;have c2:=r.cell 2 rfl;have d0:=F.cell 0 rfl;have d1:=F.cell 1 rfl;have HZ:=Z5 (K3 z3 (K3 r (K3 z (K3 F Z))));have HG:=Z5 (K3 D E);clear z3 r z F Z D E;go_wp2_with fail;refine (HO2 V hF (HI.2.af hF)).mono ?_;rintro e w2 ⟨U,b2,N,Q,rfl,_,_⟩;clear c0 c1 c2 d0 d1;obtain ⟨z3,r,z,F,Z⟩:=HZ.out;have z3:=z3.af U;have z:=z.af U;have F:=F.af U;have Z:=Z.af U;have p0:=z3.cell 0 rfl;have p1:=z3.cell 1 rfl;have p2:=z3.cell 2 rfl;have p3:=z3.cell 3 rfl;have e0:=z.cell 0 rfl;have g0:=F.cell 0 rfl;have q0:=Z.cell 0 rfl;have q1:=Z.cell 1 rfl;have q2:=Z.cell 2 rfl;have q3:=Z.cell 3 rfl;have f0:=Z.frozen 0;have f1:=Z.frozen 1;have f2:=Z.frozen 2;have f3:=Z.frozen 3;have fp0:=z3.frozen 0;have fp1:=z3.frozen 1;have fp2:=z3.frozen 2;have fp3:=z3.frozen 3;have hmm:((m:Int) != m)=false:=by simp
 have hF2:=Pm hF U;obtain ⟨D,E⟩:=HG.out;have hG2:=D.af U;have hN2:=E.af U;have HFin:Hid (∀(X:World),X=((((w2.setCell ⟨w.heap.size+1+1+1+1,0,none⟩ (.pointer (some ⟨b2,0,none⟩))).setCell ⟨w.heap.size+1+1+1+1,1,none⟩ (cG m)).setCell ⟨w.heap.size+1+1+1+1,2,none⟩ (.slice a' j c')).setCell ⟨w.heap.size+1+1+1+1,3,none⟩ (.slice N k' Q)) ->
   Post (.returned (.tuple #[.agg #[.pointer (some ⟨b,0,none⟩),cG m,.slice a n c,.slice ap k cp],.agg #[.pointer (some ⟨b2,0,none⟩),cG m,.slice a' j c',.slice N k' Q],cG 0])) X):=λX hX=>by
  subst hX;refine H b ap cp _ _ ⟨_,_,_,_,_,_,_,_,rfl⟩ ?_ ?_ ?_
  ·exact ((((hG2.setCell (p:=⟨w.heap.size+1+1+1+1,0,none⟩) (by simp) _).setCell (p:=⟨w.heap.size+1+1+1+1,1,none⟩) (by simp) _).setCell (p:=⟨w.heap.size+1+1+1+1,2,none⟩) (by simp) _).setCell (p:=⟨w.heap.size+1+1+1+1,3,none⟩) (by simp) _).gf
  ·exact ((((hN2.setCell (p:=⟨w.heap.size+1+1+1+1,0,none⟩) (by simp) _).setCell (p:=⟨w.heap.size+1+1+1+1,1,none⟩) (by simp) _).setCell (p:=⟨w.heap.size+1+1+1+1,2,none⟩) (by simp) _).setCell (p:=⟨w.heap.size+1+1+1+1,3,none⟩) (by simp) _).ints
  ·exact (((hF2.setCell (p:=⟨w.heap.size+1+1+1+1,0,none⟩) (by simp;omega) _).setCell (p:=⟨w.heap.size+1+1+1+1,1,none⟩) (by simp;omega) _).setCell (p:=⟨w.heap.size+1+1+1+1,2,none⟩) (by simp;omega) _).setCell (p:=⟨w.heap.size+1+1+1+1,3,none⟩) (by simp;omega) _
 clear D E hG2 hN2 z3 r z F Z HZ HG;go_wp2_with fail;exact bodyPost_ret (v:=.tuple #[.agg #[.pointer (some ⟨b,0,none⟩),cG m,.slice a n c,.slice ap k cp],.agg #[.pointer (some ⟨b2,0,none⟩),cG m,.slice a' j c',.slice N k' Q],cG 0]) (by simp [results,results229,go_sem,p0,p1,p2,p3,q0,q1,q2,q3]) rfl (HFin _ rfl)
def cmpL:LI->LI->Int
 | [],[]=>0
 | [],_ :: _=>-1
 | _ :: _,[]=>1
 | x :: a,y :: b=>if x<y then -1 else if y<x then 1 else cmpL a b
def fu (a b:LI):Bool:=decide (a.length<b.length) || (decide (a.length=b.length) && decide (cmpL a b<0))
theorem gR {a b:LI}:fu a b=true ↔ a.length<b.length\/a.length=b.length/\cmpL a b<0:=by unfold fu;rw [NO,Lm,LM,LM,LM]
def KL (lo n:Nat) (t:LI):Prop:=t.Pairwise (· < ·)/\∀x ∈ t,(lo:Int)<=x/\x<n
theorem Cz:∀ {a b:LI},a.Pairwise (· < ·)->b.Pairwise (· < ·)->(∀x,x ∈ a ↔ x ∈ b)->a=b
 | [],[],_,_,_=>rfl
 | [],y :: b,_,_,h=>by have:=(h y).2 (by simp);simp at this
 | x :: a,[],_,_,h=>by have:=(h x).1 (by simp);simp at this
 | x :: a,y :: b,ha,hb,h=>by
  obtain ⟨a1,a2⟩:=List.pairwise_cons.1 ha;obtain ⟨X,V⟩:=List.pairwise_cons.1 hb;have e:x=y:=by
   rcases List.mem_cons.1 ((h x).1 (by simp)) with e | e
   ·exact e
   ·rcases List.mem_cons.1 ((h y).2 (by simp)) with Y | Y
    ·exact Y.symm
    ·have:=a1 _ Y;have:=X _ e;omega
  subst e;rw [Cz a2 V λz=>?_];constructor
  ·intro Z;rcases List.mem_cons.1 ((h z).1 (by simp [Z])) with e | e
   ·have:=a1 z Z;omega
   ·exact e
  ·intro Z;rcases List.mem_cons.1 ((h z).2 (by simp [Z])) with e | e
   ·have:=X z Z;omega
   ·exact e
section
variable {O:aP} {El:Int->Prop} {m:Nat} {L:Ll}
end
section
open Go.RowKit
end
section
open Go.RowKit
end
end Go.Proofs.YthglbncgemdcbaaGreat
