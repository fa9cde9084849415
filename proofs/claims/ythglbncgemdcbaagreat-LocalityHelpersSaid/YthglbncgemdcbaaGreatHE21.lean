import Derived.Test.YthglbncgemdcbaaGreatHE18
namespace Go.Proofs.YthglbncgemdcbaaGreat
set_option linter.all false
set_option maxRecDepth 100000
set_option maxHeartbeats 4000000
open Go.RowKit Go.Proofs.Tryz
def i5 (P M : Int) (mod : LI) (m : Nat) (L : Ll) (w : World) (e : Ending) (w' : World) : Prop :=
 ∃a1 c1 a2 c2,e = .returned (.tuple #[.agg #[.int .i64 P,.int .i64 M,.slice a1 mod.length c1,.int .i64 m,.slice a2 (aZ (ah P M.toNat mod) L m).length c2],.int .i64 0])/\bA w.heap.size w' a1 mod.length mod /\
  bQ w.heap.size w' a2 (aZ (ah P M.toNat mod) L m).length (aZ (ah P M.toNat mod) L m)/\Mv w w'
theorem oL {w : World} {g : Nat} {x y u v : Value} (h0 : w.cell? ⟨g,0,none⟩=some x) (h1 : w.cell? ⟨g,1,none⟩=some y) :
  ((w.setCell ⟨g,0,none⟩ u).setCell ⟨g,1,none⟩ v).cell? ⟨g,0,none⟩=some u/\((w.setCell ⟨g,0,none⟩ u).setCell ⟨g,1,none⟩ v).cell? ⟨g,1,none⟩=some v:=by
 have e1 : (w.setCell ⟨g,0,none⟩ u).cell? ⟨g,0,none⟩=some u:=Ih w _ _ h0;have e2 : (w.setCell ⟨g,0,none⟩ u).cell? ⟨g,1,none⟩=some y:=by rw [H9 _ _ _ _ (by simp)];exact h1
 exact ⟨by rw [H9 _ _ _ _ (by simp)];exact e1,Ih _ _ _ e2⟩
theorem qe (P M : Int) (am : OA) (mn cm : Nat) (mod : LI) (m : Nat) (a : OA) (n c : Nat) (L : Ll) (w : World) (hmod : Ints w am mn mod) (hi : bC w a n L) (hE : aG P M mod m L=0) (hmn : mn<=1000000) :
  Calls prog 80 #[.agg #[.int .i64 P,.int .i64 M,.slice am mn cm,.int .i64 m,.slice a n c]] w (i5 P M mod m L w):=by
 go_enter func80,ntmps80;go_wp2_with fail;obtain ⟨W,hW⟩ : ∃W : World,W=(w.alloc (.cells #[.int .i64 P,.int .i64 M,.slice am mn cm,.int .i64 m,.slice a n c] 27)).alloc (.cells #[.int .i64 0,.int .i64 0,.slice none 0 0,.int .i64 0,.slice none 0 0] 27):=⟨_,rfl⟩
 rw [<- hW];have hbW : Mv w W:=by rw [hW];exact du _ _ _
 have hsW : W.heap.size=w.heap.size+2:=by rw [hW];simp
 have x0 : aO W w.heap.size [.int .i64 P,.int .i64 M,.slice am mn cm,.int .i64 m,.slice a n c]:=by rw [hW];exact (LZ _ _ _ rfl).alloc _
 have z0 : aO W (w.heap.size+1) [.int .i64 0,.int .i64 0,.slice none 0 0,.int .i64 0,.slice none 0 0]:=by rw [hW];exact LZ _ _ _ (by simp)
 clear hW;refine (b8 P M am mn cm mod m a n c L W (hmod.af hbW) (hi.af hbW)).mono ?_;rintro e w1 ⟨rfl,hb1⟩;have hbw1:=LY hbW hb1;have HK : Hid (∀V,Mv w1 V->Calls prog 133 #[.agg #[.int .i64 P,.int .i64 M,.slice am mn cm],.agg #[.int .i64 m,.slice a n c]] V (oO (ah P M.toNat mod) L m V)):=λV hV =>
  zf P M am mn cm mod m a n c L V (hmod.af (LY hbw1 hV)) (hi.af (LY hbw1 hV)) hE
 have HO : Hid (∀V a5 k5 c5,Mv w1 V->Calls prog 120 #[.agg #[.int .i64 P,.int .i64 M,.slice am mn cm],.agg #[.int .i64 m,.slice a5 k5 c5],.int .i64 0] V (nf P M mod m a5 k5 c5 V)):=λV a5 k5 c5 hV =>
  y5 P M am mn cm mod m a5 k5 c5 V (hmod.af (LY hbw1 hV)) hmn
 have HPost : Hid (∀a1 c1 a2 c2 w',bA w.heap.size w' a1 mod.length mod->bQ w.heap.size w' a2 (aZ (ah P M.toNat mod) L m).length (aZ (ah P M.toNat mod) L m)->Mv w w' ->
   i5 P M mod m L w (.returned (.tuple #[.agg #[.int .i64 P,.int .i64 M,.slice a1 mod.length c1,.int .i64 m,.slice a2 (aZ (ah P M.toNat mod) L m).length c2],.int .i64 0])) w'):=λa1 c1 a2 c2 w' h1 h2 h3=>⟨a1,c1,a2,c2,rfl,h1,h2,h3⟩
 rw [hE];unfold oO at HK;obtain ⟨KM,hKM⟩ : ∃KM,aZ (ah P M.toNat mod) L m=KM:=⟨_,rfl⟩
 rw [hKM] at HK HPost;have hS : ∀V,Mv w1 V->V.cell? ⟨w.heap.size,0,none⟩=some (.int .i64 P)/\V.cell? ⟨w.heap.size,1,none⟩=some (.int .i64 M)/\V.cell? ⟨w.heap.size,2,none⟩=some (.slice am mn cm)/\V.cell? ⟨w.heap.size,3,none⟩=some (.int .i64 m)/\V.cell? ⟨w.heap.size,4,none⟩=some (.slice a n c) /\
   aO V (w.heap.size+1) [.int .i64 0,.int .i64 0,.slice none 0 0,.int .i64 0,.slice none 0 0]:=λV hV=>by have x1:=(x0.af hb1).af hV;exact ⟨x1.cell 0 rfl,x1.cell 1 rfl,x1.cell 2 rfl,x1.cell 3 rfl,x1.cell 4 rfl,(z0.af hb1).af hV⟩
 have HS:=Z5 hS;have Hbw1:=Z5 hbw1;have HsW : Hid (w.heap.size+2<=w1.heap.size):=by show _<=_;rw [<- hsW];exact hb1.size
 obtain ⟨c0,c1,c2,c3,c4,_⟩:=HS.out w1 (GS _ _);obtain ⟨q,hq⟩ : ∃q,KM.length=q:=⟨_,rfl⟩
 rw [hq] at HK HPost;clear hE hKM hS x0 z0 hbW hsW hmod hi hb1 hbw1 hq;go_wp2_with fail;go_cut [5,6] (λv5 v6 wx=>∃g a5 c5,v5 = .pointer (some ⟨g,0,none⟩)/\v6 = .int .i64 0/\wx.cell? ⟨g,0,none⟩=some (.int .i64 m)/\wx.cell? ⟨g,1,none⟩=some (.slice a5 q c5)/\bQ w1.heap.size wx a5 q KM/\Mv w1 wx);case first =>
  obtain ⟨b0,b1,b2,b3,b4,_⟩:=HS.out (w1.alloc (.cells #[.int .i64 0,.slice none 0 0] 94)) (an _ _)
  go_region_law ((first
   | (go_simp;go_at_call 91;((with_reducible refine (mL P M am mn cm m a n c _).mono ?_);rintro e w4 ⟨rfl,hb4⟩;have hb04 : Mv w1 w4:=(by first | exact LY (GS _ _).drew hb4 | exact LY (an _ (.cells #[.int .i64 0,.slice none 0 0] 94)).drew hb4 | exact LY (L5 (GS _ _).drew _) hb4);obtain ⟨c0,c1,c2,c3,c4,_⟩:=HS.out w4 hb04;obtain ⟨d0,d1,d2,d3,d4,_⟩:=HS.out (w4.alloc (.cells #[.int .i64 0,.slice none 0 0] 94)) (L5 hb04 _);(first | (have gz0:=ak hb4 (aE (g:=w1.heap.size) w1 #[.int .i64 0,.slice none 0 0] 94 rfl 0);have gz1:=ak hb4 (aE (g:=w1.heap.size) w1 #[.int .i64 0,.slice none 0 0] 94 rfl 1);have gf0:=dr hb4 (by simp) (eZ (g:=w1.heap.size) w1 #[.int .i64 0,.slice none 0 0] 94 rfl 0);have gf1:=dr hb4 (by simp) (eZ (g:=w1.heap.size) w1 #[.int .i64 0,.slice none 0 0] 94 rfl 1)) | skip)))
   | (go_simp;go_at_call 133;((with_reducible refine (HK.out _ (by first | exact hb04 | exact L5 hb04 _)).mono ?_);rintro e w5 ⟨a5,c5,rfl,hN5,hb5⟩;have hb05 : Mv w1 w5:=(by first | exact LY hb04 hb5 | exact LY (L5 hb04 _) hb5);(first | (have gy0:=ak hb5 gz0;have gy1:=ak hb5 gz1;have gh0:=dr hb5 (G8 _ _ gz0) gf0;have gh1:=dr hb5 (G8 _ _ gz1) gf1) | (have gy0:=ak hb5 (aE w4 #[.int .i64 0,.slice none 0 0] 94 rfl 0);have gy1:=ak hb5 (aE w4 #[.int .i64 0,.slice none 0 0] 94 rfl 1);have gh0:=dr hb5 (by simp) (eZ w4 #[.int .i64 0,.slice none 0 0] 94 rfl 0);have gh1:=dr hb5 (by simp) (eZ w4 #[.int .i64 0,.slice none 0 0] 94 rfl 1)) | skip)))))
  all_goals (go_wp2_with fail;go_meet)
  all_goals (first
   | exact ⟨w5.heap.size,a5,c5,rfl,rfl,aE _ _ _ rfl 0,aE _ _ _ rfl 1,(hN5.af (an _ _)).mono (by first | exact hb04.size | exact (L5 hb04 _).size),L5 hb05 _⟩
   | exact ⟨w1.heap.size,a5,c5,rfl,rfl,(oL gy0 gy1).1,(oL gy0 gy1).2,((hN5.setCell (p:=⟨w1.heap.size,0,none⟩) (G8 _ _ gz0) _).setCell (p:=⟨w1.heap.size,1,none⟩) (G8 _ _ gz1) _).mono hb04.size,(hb05.setCell (p:=⟨w1.heap.size,0,none⟩) (GQ _) _).setCell (p:=⟨w1.heap.size,1,none⟩) (GQ _) _⟩
   | exact ⟨w4.heap.size,a5,c5,rfl,rfl,(oL gy0 gy1).1,(oL gy0 gy1).2,((hN5.setCell (p:=⟨w4.heap.size,0,none⟩) (by simp) _).setCell (p:=⟨w4.heap.size,1,none⟩) (by simp) _).mono (L5 hb04 _).size,(hb05.setCell (p:=⟨w4.heap.size,0,none⟩) hb04.size _).setCell (p:=⟨w4.heap.size,1,none⟩) hb04.size _⟩)
 obtain ⟨g,a5,c5,rfl,rfl,g0,g1,hN5,hb5⟩:=hcut;generalize wc=V at *;obtain ⟨c0,c1,c2,c3,c4,zz⟩:=HS.out V hb5;have HOV:=Z5 (HO.out V a5 q c5 hb5);clear HK HO;go_wp2_with fail;refine HOV.out.mono ?_;rintro e w6 ⟨a6,c6,rfl,hN6,hb6⟩;obtain ⟨_,_,_,_,_,zz6⟩:=HS.out w6 (LY hb5 hb6);have z0:=zz6.cell 0 rfl;have z1:=zz6.cell 1 rfl;have z2:=zz6.cell 2 rfl;have z3:=zz6.cell 3 rfl;have z4:=zz6.cell 4 rfl;have f0:=zz6.frozen 0;have f1:=zz6.frozen 1;have f2:=zz6.frozen 2;have f3:=zz6.frozen 3;have f4:=zz6.frozen 4;have hbF:=LY Hbw1.out (LY hb5 hb6);have hs:=HsW.out;have hs2:=hb5.size;have hM6:=hN5.af hb6;have hFin:=HPost.out a6 c6 a5 c5 (((((w6.setCell ⟨w.heap.size+1,0,none⟩ (.int .i64 P)).setCell ⟨w.heap.size+1,1,none⟩ (.int .i64 M)).setCell ⟨w.heap.size+1,2,none⟩ (.slice a6 mod.length c6)).setCell ⟨w.heap.size+1,3,none⟩ (.int .i64 m)).setCell ⟨w.heap.size+1,4,none⟩ (.slice a5 q c5))
  ((((((hN6.setCell (p:=⟨w.heap.size+1,0,none⟩) (by simp;omega) _).setCell (p:=⟨w.heap.size+1,1,none⟩) (by simp;omega) _).setCell (p:=⟨w.heap.size+1,2,none⟩) (by simp;omega) _).setCell (p:=⟨w.heap.size+1,3,none⟩) (by simp;omega) _).setCell (p:=⟨w.heap.size+1,4,none⟩) (by simp;omega) _).mono (by omega))
  ((((((hM6.setCell (p:=⟨w.heap.size+1,0,none⟩) (by simp;omega) _).setCell (p:=⟨w.heap.size+1,1,none⟩) (by simp;omega) _).setCell (p:=⟨w.heap.size+1,2,none⟩) (by simp;omega) _).setCell (p:=⟨w.heap.size+1,3,none⟩) (by simp;omega) _).setCell (p:=⟨w.heap.size+1,4,none⟩) (by simp;omega) _).mono (by omega))
  (((((hbF.setCell (p:=⟨w.heap.size+1,0,none⟩) (by simp) _).setCell (p:=⟨w.heap.size+1,1,none⟩) (by simp) _).setCell (p:=⟨w.heap.size+1,2,none⟩) (by simp) _).setCell (p:=⟨w.heap.size+1,3,none⟩) (by simp) _).setCell (p:=⟨w.heap.size+1,4,none⟩) (by simp) _)
 have HFin:=Z5 hFin;clear hFin hM6 hN5 hN6 HOV zz zz6;go_wp2_with fail;exact bodyPost_ret (v:=.tuple #[.agg #[.int .i64 P,.int .i64 M,.slice a6 mod.length c6,.int .i64 m,.slice a5 q c5],.int .i64 0]) (by simp [results,results80,go_sem,z0,z1,z2,z3,z4]) rfl HFin.out
section
variable {O : aM} {El : Int->Prop}
def gy (O : aM) : LI->Int->Int
 | [],_=>0
 | c :: a,x=>O.add c (O.mul x (gy O a x))
def quoP (O : aM) (s : Int) : LI->LI
 | []=>[]
 | [_]=>[]
 | _ :: d :: a=>gy O (d :: a) s :: quoP O s (d :: a)
theorem ka (F : bZ O El) {x : Int} (hx : El x) : ∀ {a : LI},(∀c ∈ a,El c)->El (gy O a x)
 | [],_=>F.zero
 | c :: a,h=>F.cl.add _ _ (h c (by simp)) (F.cl.mul _ _ hx (ka F hx λy hy=>h y (Iz _ hy)))
theorem wN (O : aM) (s : Int) : ∀a : LI,(quoP O s a).length=a.length - 1
 | []=>rfl
 | [_]=>rfl
 | _ :: d :: a=>by rw [quoP,Io,wN O s (d :: a)];simp
theorem oK (F : bZ O El) {s : Int} (hs : El s) : ∀ {a : LI},(∀c ∈ a,El c)->∀c ∈ quoP O s a,El c
 | [],_,c,hc=>by simp [quoP] at hc
 | [_],_,c,hc=>by simp [quoP] at hc
 | b :: d :: a,h,c,hc=>by
  rw [quoP] at hc;rcases List.mem_cons.1 hc with rfl | hc
  ·exact ka F hs λy hy=>h y (Iz _ hy)
  ·exact oK F hs (λy hy=>h y (Iz _ hy)) c hc
theorem zV (F : bZ O El) {c x : Int} (hc : El c) (hx : El x) : gy O [c] x=c:=by show O.add c (O.mul x 0)=c;rw [F.dh hx,F.add_zero _ hc]
theorem zS (F : bZ O El) {s x : Int} (hs : El s) (hx : El x) : ∀ {a : LI},(∀c ∈ a,El c)->gy O a x=O.add (O.mul (O.add x (O.neg s)) (gy O (quoP O s a) x)) (gy O a s)
 | [],_=>by show (0 : Int)=O.add (O.mul _ 0) 0;rw [F.dh (F.cl.add _ _ hx (F.cl.neg _ hs)),F.add_zero _ F.zero]
 | [c],h=>by have hc:=h c (by simp);rw [zV F hc hx,zV F hc hs];show c=O.add (O.mul _ 0) c;rw [F.dh (F.cl.add _ _ hx (F.cl.neg _ hs)),F.tR hc]
 | c :: d :: a,h=>by
  have hc:=h c (by simp);have ha : ∀y ∈ d :: a,El y:=λy hy=>h y (Iz _ hy);have ih:=zS F hs hx ha;have hAs:=ka F hs ha;have hAx:=ka F hx ha;have hq:=ka F hx (oK F hs ha);have hxs:=F.cl.add _ _ hx (F.cl.neg _ hs);have e1 : gy O (c :: d :: a) x=O.add c (O.mul x (gy O (d :: a) x)):=rfl;have e2 : gy O (c :: d :: a) s=O.add c (O.mul s (gy O (d :: a) s)):=rfl;have e3 : gy O (quoP O s (c :: d :: a)) x=O.add (gy O (d :: a) s) (O.mul x (gy O (quoP O s (d :: a)) x)):=rfl;rw [e1,e2,e3];generalize gy O (d :: a) s=A at *;generalize gy O (d :: a) x=B at *;generalize gy O (quoP O s (d :: a)) x=Q at *;generalize hD : O.add x (O.neg s)=D at *;have hxD : x=O.add D s:=by rw [<- hD,F.add_assoc _ _ _ hx (F.cl.neg _ hs) hs,F.nA hs,F.add_zero _ hx]
  have hDA:=F.cl.mul _ _ hxs hAs;have hsA:=F.cl.mul _ _ hs hAs;have hxQ:=F.cl.mul _ _ hx hq;have hDxQ:=F.cl.mul _ _ hxs hxQ;have hxA:=F.cl.mul _ _ hx hAs;have hDQ:=F.cl.mul _ _ hxs hq;have f1 : O.mul x B=O.add (O.mul D (O.mul x Q)) (O.mul x A):=by rw [ih,F.mul_add _ _ _ hx hDQ hAs,<- F.mul_assoc _ _ _ hx hxs hq,F.mul_comm _ _ hx hxs,F.mul_assoc _ _ _ hxs hx hq]
  have f2 : O.mul x A=O.add (O.mul D A) (O.mul s A):=by rw [F.mul_comm _ _ hx hAs,F.mul_comm _ _ hxs hAs,F.mul_comm _ _ hs hAs,<- F.mul_add _ _ _ hAs hxs hs,<- hxD]
  rw [f1,f2,F.mul_add _ _ _ hxs hAs hxQ];generalize O.mul D A=u at *;generalize O.mul s A=v at *;generalize O.mul D (O.mul x Q)=z at *;rw [F.add_comm _ _ hDA hDxQ,F.add_assoc _ _ _ hDxQ hDA (F.cl.add _ _ hc hsA),<- F.add_assoc _ _ _ hc hDxQ (F.cl.add _ _ hDA hsA),F.add_comm _ _ hc hDxQ,F.add_assoc _ _ _ hDxQ hc (F.cl.add _ _ hDA hsA),<- F.add_assoc _ _ _ hc hDA hsA,F.add_comm _ _ hc hDA,F.add_assoc _ _ _ hDA hc hsA]
theorem i9 (F : bZ O El) {s : Int} (hs : El s) : ∀ {l : LI},(∀y ∈ l,y=0)->gy O l s=0
 | [],_=>rfl
 | y :: l,h=>by show O.add y (O.mul s (gy O l s))=0;rw [i9 F hs λz hz=>h z (Iz _ hz),h y (by simp),F.dh hs,F.add_zero _ F.zero]
theorem sl (F : bZ O El) {s : Int} (hs : El s) : ∀ {c : Int} {a : LI},(∀y ∈ a,El y)->(∀y ∈ quoP O s (c :: a),y=0)->∀y ∈ a,y=0
 | c,[],_,_=>by simp
 | c,d :: a,h,hq=>by
  rw [quoP] at hq;have hd:=h d (by simp);have ha : ∀y ∈ a,El y:=λy hy=>h y (Iz _ hy);have h1:=sl F hs ha λy hy=>hq y (Iz _ hy);have h2 : gy O (d :: a) s=0:=hq _ (by simp);have h3 : d=0:=by have e : gy O (d :: a) s=O.add d (O.mul s (gy O a s)):=rfl;rw [e,i9 F hs h1,F.dh hs,F.add_zero _ hd] at h2;exact h2
  intro y hy;rcases List.mem_cons.1 hy with rfl | hy
  ·exact h3
  ·exact h1 y hy
theorem ju (F : bZ O El) : ∀ {X a : LI},X.Nodup->(∀x ∈ X,El x)->(∀c ∈ a,El c)->(∀x ∈ X,gy O a x=0)->a.length<=X.length->∀c ∈ a,c=0
 | [],a,_,_,_,_,hl=>by have e : a=[]:=Iq (by simpa using hl);subst e;simp
 | s :: X,[],_,_,_,_,_=>by simp
 | s :: X,c :: a,hn,hX,ha,h0,hl=>by
  have hs:=hX s (by simp);have hX' : ∀x ∈ X,El x:=λx hx=>hX x (Iz _ hx);have h1:=ju F (X:=X) (a:=quoP O s (c :: a)) (List.nodup_cons.1 hn).2 hX' (oK F hs ha) (λx hx=>by
   have hxe:=hX' x hx;have h2:=zS F hs hxe ha;rw [h0 x (Iz _ hx),h0 s (by simp)] at h2;have hD:=F.cl.add _ _ hxe (F.cl.neg _ hs);have hQ:=ka F hxe (oK F hs ha);rw [F.add_zero _ (F.cl.mul _ _ hD hQ)] at h2;refine F.th hD hQ (λe=>(List.nodup_cons.1 hn).1 ?_) h2.symm;have h3 : x=s:=by
    have h4:=F.mX hxe (F.cl.neg _ hs) e;have h5 : O.neg (O.neg s)=O.neg (O.neg x):=by rw [h4]
    rw [F.neg_neg hs,F.neg_neg hxe] at h5;exact h5.symm
   rw [<- h3];exact hx) (by rw [wN];simp only [Io] at hl ⊢;omega)
  have h2:=sl F hs (λy hy=>ha y (Iz _ hy)) h1;intro y hy;rcases List.mem_cons.1 hy with rfl | hy
  ·have h3:=h0 s (by simp);have e : gy O (y :: a) s=O.add y (O.mul s (gy O a s)):=rfl;have hz : gy O a s=0:=i9 F hs h2;rw [e,hz,F.dh hs,F.add_zero _ (ha y (by simp))] at h3;exact h3
  ·exact h2 y hy
end
def F8 (P M : Int) (mod : LI) (N : Int) (L : Ll) : Int:=if aG P M mod N L=0 then lW (ah P M.toNat mod).q L.length else 0
def Ga (P M : Int) (mod : LI) (N : Int) (L : Ll) : Int:=if aG P M mod N L=0 then iW (ah P M.toNat mod).q L.length else aG P M mod N L
theorem oT {P M : Int} {mod : LI} {N : Int} {L : Ll} (hE : aG P M mod N L=0) : aI P M=((ah P M.toNat mod).q : Nat)/\(2 : Int)<=(ah P M.toNat mod).q/\((ah P M.toNat mod).q : Int)<=256:=by
 obtain ⟨m,hm,_,hq,_⟩:=fK (aQ hE).1;subst hm;rw [GW];rw [hq];have h0 : aI P m ≠ 0:=by intro h0;have h1:=(aQ hE).1;unfold ba bM at h1;simp [h0] at h1
 obtain ⟨h1,h2,h3,h4,h5,h6⟩:=fV h0;refine ⟨rfl,?_,by omega⟩;rw [h6];have:=df (show 1<=P by omega) (show 1<=(m : Int).toNat by omega);have e : P ^ 1=P:=by rw [IE,Ju,J2]
 omega
theorem nZ (P M : Int) (am : OA) (mn cm : Nat) (mod : LI) (N : Int) (a : OA) (k c : Nat) (L : Ll) (w : World) (hmod : Ints w am mn mod) (hi : bC w a k L) :
  Calls prog 46 #[.agg #[.int .i64 P,.int .i64 M,.slice am mn cm,.int .i64 N,.slice a k c]] w λe w' =>
   e = .returned (.tuple #[.int .i64 (F8 P M mod N L),.int .i64 (Ga P M mod N L)])/\Mv w w':=by
 have HCk : Hid (∀V,Mv w V->Calls prog 35 #[.agg #[.int .i64 P,.int .i64 M,.slice am mn cm,.int .i64 N,.slice a k c]] V λe w'=>e = .returned (.int .i64 (aG P M mod N L))/\Mv V w'):=λV hV=>by have h:=kq P M am mn cm mod N a k c L V (hmod.af hV) (hi.af hV) λh=>lV h;rw [sc] at h;exact h
 have hkl : L.length=k:=hi.len;go_enter func46,ntmps46;go_upto_region 1 with fail;obtain ⟨W,hW⟩ : ∃W : World,W=w.alloc (.cells #[.int .i64 P,.int .i64 M,.slice am mn cm,.int .i64 N,.slice a k c] 27):=⟨_,rfl⟩
 rw [<- hW];have hbW : Mv w W:=by rw [hW];exact an _ _
 have x0 : aO W w.heap.size [.int .i64 P,.int .i64 M,.slice am mn cm,.int .i64 N,.slice a k c]:=by rw [hW];exact LZ _ _ _ rfl
 have HX:=Z5 x0;have c0:=x0.cell 0 rfl;have c1:=x0.cell 1 rfl;have c2:=x0.cell 2 rfl;have c3:=x0.cell 3 rfl;have c4:=x0.cell 4 rfl;clear hW x0;by_cases hE : aG P M mod N L=0
 ·have hk256 : k<=256:=by rw [<- hkl];exact (dT hE).choose_spec.2.2.2.1
  obtain ⟨ho,hq2,hq256⟩:=oT hE;have HV : Hid (F8 P M mod N L=lW (ah P M.toNat mod).q k/\Ga P M mod N L=iW (ah P M.toNat mod).q k):=by show _/\_;unfold F8 Ga;rw [GV hE,GV hE,hkl];exact ⟨rfl,rfl⟩
  rw [hE] at HCk;have HOr : Hid (∀V,Calls prog 24 #[.agg #[.int .i64 P,.int .i64 M,.slice am mn cm]] V λe w'=>e = .returned (.int .i64 ((ah P M.toNat mod).q : Nat))/\Mv V w'):=λV=>by have h:=gX P M am mn cm V;rw [ho] at h;exact h
  generalize (ah P M.toNat mod).q=q at *;clear ho hE hkl;go_wp2_with (go_at_call 35;refine (HCk.out _ hbW).mono ?_;rintro e w3 ⟨rfl,hb3⟩;clear c0 c1 c2 c3 c4);have HS : Hid (∀V,Mv w3 V->V.cell? ⟨w.heap.size,0,none⟩=some (.int .i64 P)/\V.cell? ⟨w.heap.size,1,none⟩=some (.int .i64 M)/\V.cell? ⟨w.heap.size,2,none⟩=some (.slice am mn cm)/\V.cell? ⟨w.heap.size,4,none⟩=some (.slice a k c)/\Mv w3 V):=λV hV=>by have x3:=(HX.out.af hb3).af hV;exact ⟨x3.cell 0 rfl,x3.cell 1 rfl,x3.cell 2 rfl,x3.cell 4 rfl,hV⟩
  go_region_held3 (λV=>V.cell? ⟨w.heap.size,0,none⟩=some (.int .i64 P)/\V.cell? ⟨w.heap.size,1,none⟩=some (.int .i64 M)/\V.cell? ⟨w.heap.size,2,none⟩=some (.slice am mn cm)/\V.cell? ⟨w.heap.size,4,none⟩=some (.slice a k c)/\Mv w3 V)
   ((refine HS.out _ ?_;first | exact (GS _ _).drew | (go_split_ands;assumption) | (go_split_ands;exact LY (by assumption) (by assumption))))
   (first
    | (go_at_call 24;((with_reducible refine (HOr.out _).mono ?_);rintro e w4 ⟨rfl,hb4⟩))
    | (go_at_call 100;((with_reducible refine (Cm (q : Int) k _ hq2 hq256 (by omega)).mono ?_);rintro e w5 ⟨rfl,rfl⟩)))
  all_goals go_wp2_with fail
  all_goals go_ret2
  all_goals exact ⟨kR HV.out.1.symm HV.out.2.symm,LY (LY hbW hb3) (by go_split_ands;assumption)⟩
 ·have HV : Hid (F8 P M mod N L=0/\Ga P M mod N L=aG P M mod N L):=by show _/\_;unfold F8 Ga;rw [GU hE,GU hE];exact ⟨rfl,rfl⟩
  generalize aG P M mod N L=z at *;have hz : (z != 0)=true:=by simpa using hE
  clear hE;go_wp2_with (go_at_call 35;refine (HCk.out _ hbW).mono ?_;rintro e w3 ⟨rfl,hb3⟩;clear c0 c1 c2 c3 c4);go_ret2;exact ⟨kR HV.out.1.symm HV.out.2.symm,LY hbW hb3⟩
end Go.Proofs.YthglbncgemdcbaaGreat
