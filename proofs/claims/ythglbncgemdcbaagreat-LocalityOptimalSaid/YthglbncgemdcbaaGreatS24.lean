import Derived.Test.YthglbncgemdcbaaGreatS20
import Derived.Test.YthglbncgemdcbaaGreatS22
namespace Go.Proofs.YthglbncgemdcbaaGreat
set_option linter.all false
set_option maxRecDepth 100000
set_option maxHeartbeats 8000000
open Go.RowKit Go.Proofs.Tryz
theorem G0 (P M : Int) (am : OA) (mn cm : Nat) (mod : Lz) (am' : OA) (mn' cm' : Nat) (w : World) (h : Ints w am mn mod) (h' : Ints w am' mn' mod) :
  Calls prog 228 #[.agg #[.int .i64 P,.int .i64 M,.slice am mn cm],.agg #[.int .i64 P,.int .i64 M,.slice am' mn' cm']] w λe w'=>e = .returned (.bool true)/\SW w w':=by
 obtain rfl : mn=mn':=by have:=h.len;have:=h'.len;omega
 have hpl:=h.pl;have hpl':=h'.pl;have hmax:=h.max;unfold maxLen at hmax;go_enter func228,ntmps228;go_upto_region 1 with fail;obtain ⟨W,hW⟩ : ∃W : World,W=(w.alloc (.cells #[.int .i64 P,.int .i64 M,.slice am mn cm] 24)).alloc (.cells #[.int .i64 P,.int .i64 M,.slice am' mn cm'] 24):=⟨_,rfl⟩
 rw [<- hW];have hbW : SW w W:=by rw [hW];exact bN _ _ _
 have x0 : aN W w.heap.size [.int .i64 P,.int .i64 M,.slice am mn cm]:=by rw [hW];exact (R9 _ _ _ rfl).alloc _
 have y0 : aN W (w.heap.size+1) [.int .i64 P,.int .i64 M,.slice am' mn cm']:=by rw [hW];exact R9 _ _ _ (by simp)
 have hh:=h.ah hbW;have hh':=h'.ah hbW;have c0:=x0.cell 0 rfl;have c1:=x0.cell 1 rfl;have c2:=x0.cell 2 rfl;have d0:=y0.cell 0 rfl;have d1:=y0.cell 1 rfl;have d2:=y0.cell 2 rfl;clear hW x0 y0;have hPP : (P != P)=false:=by simp
 have hMM : (M != M)=false:=by simp
 have hnn : ((mn : Int) != mn)=false:=by simp
 go_wp2_with fail;clear hPP hMM hnn;go_loop [31] (λiv=>∃k : Nat,k<=mn/\iv = .int .i64 k) (λiv=>mn - (intOf iv).toNat);case atStart=>exact ⟨0,Ni _,rfl⟩
 case round =>
  obtain ⟨k,hk,rfl⟩:=hrel
  by_cases hlt : k<mn
  ·have cc:=hh.cell k hlt
   have dd:=hh'.cell k hlt
   have hne : (nth mod k != nth mod k)=false:=by simp
   go_wp2_with fail
   go_round
   case rel=>exact ⟨k+1,by omega,by go_num⟩
   case measure=>simp [intOf] <;> omega
  ·obtain rfl : k=mn:=by omega
   go_wp2_with fail
   go_ret
   exact ⟨rfl,hbW⟩
theorem KR (P M : Int) (am : OA) (mn cm : Nat) (mod : Lz) (m : Nat) (a : OA) (n c : Nat) (L : ZZ) (am' : OA) (mn' cm' : Nat) (a' : OA) (n' c' : Nat) (L' : ZZ) (w : World)
  (hmod : Ints w am mn mod) (hi : br w a n L) (hmod' : Ints w am' mn' mod) (hi' : br w a' n' L') (hE : aF P M mod m L=0) (hE' : aF P M mod m L'=0) :
  Calls prog 180 #[.agg #[.int .i64 P,.int .i64 M,.slice am mn cm,.int .i64 m,.slice a n c],.agg #[.int .i64 P,.int .i64 M,.slice am' mn' cm',.int .i64 m,.slice a' n' c']] w λe w'=>e = .returned (.int .i64 0)/\SW w w':=by
 have HC1 : Hid (∀V,SW w V->Calls prog 88 #[.agg #[.int .i64 P,.int .i64 M,.slice am mn cm,.int .i64 m,.slice a n c]] V λe w'=>e = .returned (.int .i64 0)/\SW V w'):=λV hV=>by have h:=dr P M am mn cm mod m a n c L V (hmod.ah hV) (hi.ah hV);rw [hE] at h;exact h
 have HC2 : Hid (∀V,SW w V->Calls prog 88 #[.agg #[.int .i64 P,.int .i64 M,.slice am' mn' cm',.int .i64 m,.slice a' n' c']] V λe w'=>e = .returned (.int .i64 0)/\SW V w'):=λV hV=>by have h:=dr P M am' mn' cm' mod m a' n' c' L' V (hmod'.ah hV) (hi'.ah hV);rw [hE'] at h;exact h
 have HSm : Hid (∀V,SW w V->Calls prog 228 #[.agg #[.int .i64 P,.int .i64 M,.slice am mn cm],.agg #[.int .i64 P,.int .i64 M,.slice am' mn' cm']] V λe w'=>e = .returned (.bool true)/\SW V w'):=λV hV =>
  G0 P M am mn cm mod am' mn' cm' V (hmod.ah hV) (hmod'.ah hV)
 clear hmod hi hmod' hi' hE hE';go_enter func180,ntmps180;go_upto_region 1 with fail;obtain ⟨W,hW⟩ : ∃W : World,W=(w.alloc (.cells #[.int .i64 P,.int .i64 M,.slice am mn cm,.int .i64 m,.slice a n c] 27)).alloc (.cells #[.int .i64 P,.int .i64 M,.slice am' mn' cm',.int .i64 m,.slice a' n' c'] 27):=⟨_,rfl⟩
 rw [<- hW];have hbW : SW w W:=by rw [hW];exact bN _ _ _
 have x0 : aN W w.heap.size [.int .i64 P,.int .i64 M,.slice am mn cm,.int .i64 m,.slice a n c]:=by rw [hW];exact (R9 _ _ _ rfl).alloc _
 have y0 : aN W (w.heap.size+1) [.int .i64 P,.int .i64 M,.slice am' mn' cm',.int .i64 m,.slice a' n' c']:=by rw [hW];exact R9 _ _ _ (by simp)
 have HS : Hid (∀V,SW W V->V.cell? ⟨w.heap.size,0,none⟩=some (.int .i64 P)/\V.cell? ⟨w.heap.size,1,none⟩=some (.int .i64 M)/\V.cell? ⟨w.heap.size,2,none⟩=some (.slice am mn cm)/\V.cell? ⟨w.heap.size,3,none⟩=some (.int .i64 m)/\V.cell? ⟨w.heap.size,4,none⟩=some (.slice a n c) /\
   V.cell? ⟨w.heap.size+1,0,none⟩=some (.int .i64 P)/\V.cell? ⟨w.heap.size+1,1,none⟩=some (.int .i64 M)/\V.cell? ⟨w.heap.size+1,2,none⟩=some (.slice am' mn' cm')/\V.cell? ⟨w.heap.size+1,3,none⟩=some (.int .i64 m)/\V.cell? ⟨w.heap.size+1,4,none⟩=some (.slice a' n' c')):=λV hV=>by have x1:=x0.ah hV;have y1:=y0.ah hV;exact ⟨x1.cell 0 rfl,x1.cell 1 rfl,x1.cell 2 rfl,x1.cell 3 rfl,x1.cell 4 rfl,y1.cell 0 rfl,y1.cell 1 rfl,y1.cell 2 rfl,y1.cell 3 rfl,y1.cell 4 rfl⟩
 clear hW x0 y0;obtain ⟨c0,c1,c2,c3,c4,d0,d1,d2,d3,d4⟩:=HS.out W (Nc _ _);have HbW:=Z5 hbW;clear hbW;go_wp2_with fail;refine (HC1.out W HbW.out).mono ?_;rintro e w1 ⟨rfl,hb1⟩;have hF1:=RZ HbW.out hb1;clear c0 c1 c2 c3 c4 d0 d1 d2 d3 d4;obtain ⟨c0,c1,c2,c3,c4,d0,d1,d2,d3,d4⟩:=HS.out w1 hb1;go_wp2_with fail;refine (HC2.out w1 hF1).mono ?_;rintro e w2 ⟨rfl,hb2⟩;have hF2:=RZ hF1 hb2;have hb12:=RZ hb1 hb2;clear c0 c1 c2 c3 c4 d0 d1 d2 d3 d4;obtain ⟨c0,c1,c2,c3,c4,d0,d1,d2,d3,d4⟩:=HS.out w2 hb12;have hmm : ((m : Int) != m)=false:=by simp
 go_wp2_with (go_at_call 228;refine (HSm.out w2 hF2).mono ?_;rintro e w3 ⟨rfl,hb3⟩;obtain ⟨_,_,_,e3,_,_,_,_,g3,_⟩:=HS.out w3 (RZ hb12 hb3);have hF3:=RZ hF2 hb3);go_ret;exact ⟨rfl,hF3⟩
def xh (P M : Int) (mod : Lz) (m : Nat) (a : OA) (n c : Nat) (L : ZZ) (w : World) (e : Ending) (w' : World) : Prop :=
 ∃b ap cp v2,e = .returned (.tuple #[.agg #[.pointer (some ⟨b,0,none⟩),.int .i64 m,.slice a n c,.slice ap (bw (af P M.toNat mod) L m).length cp],v2,.int .i64 0]) /\
  (∃(b2 : Nat) (m2 : Int) (a2 : OA) (n2 c2 : Nat) (ap2 : OA) (k2 cp2 : Nat),v2 = .agg #[.pointer (some ⟨b2,0,none⟩),.int .i64 m2,.slice a2 n2 c2,.slice ap2 k2 cp2])/\ew w' b (af P M.toNat mod)/\Ints w' ap (bw (af P M.toNat mod) L m).length (bw (af P M.toNat mod) L m)/\SW w w'
theorem Jp (P M : Int) (am : OA) (mn cm : Nat) (mod : Lz) (m : Nat) (a : OA) (n c : Nat) (L : ZZ) (a' : OA) (n' c' : Nat) (L' : ZZ) (w : World)
  (hmod : Ints w am mn mod) (hi : br w a n L) (hi' : br w a' n' L') (hE : eB P M mod m L=0) (hE' : eB P M mod m L'=0) :
  Calls prog 229 #[.agg #[.int .i64 P,.int .i64 M,.slice am mn cm],.agg #[.int .i64 m,.slice a n c],.agg #[.int .i64 m,.slice a' n' c']] w (xh P M mod m a n c L w):=by
 have HO : Hid (∀V a n c L,SW w V->br V a n L->eB P M mod m L=0->Calls prog 190 #[.agg #[.int .i64 P,.int .i64 M,.slice am mn cm],.agg #[.int .i64 m,.slice a n c]] V λe w'=>SW V w'/\∃b ap cp,
   e = .returned (.tuple #[.agg #[.pointer (some ⟨b,0,none⟩),.int .i64 m,.slice a n c,.slice ap (bw (af P M.toNat mod) L m).length cp],.int .i64 0])/\BT V.heap.size w' b (af P M.toNat mod)/\cR V.heap.size w' ap (bw (af P M.toNat mod) L m).length (bw (af P M.toNat mod) L m)):=λV a n c L hV hM h=>by
  refine (my P M am mn cm mod m a n c L V (hmod.ah hV) hM).mono ?_;rintro e w' ⟨hb,⟨h1,_⟩ | ⟨_,m',b,hm',ap,cp,rfl,hG,_,hN⟩⟩
  ·exact absurd h h1
  ·obtain rfl : m=m':=by omega
   exact ⟨hb,b,ap,cp,rfl,hG,hN⟩
 have HPost : Hid (∀b ap cp v2 V,(∃(b2 : Nat) (m2 : Int) (a2 : OA) (n2 c2 : Nat) (ap2 : OA) (k2 cp2 : Nat),v2 = .agg #[.pointer (some ⟨b2,0,none⟩),.int .i64 m2,.slice a2 n2 c2,.slice ap2 k2 cp2])->ew V b (af P M.toNat mod)->Ints V ap (bw (af P M.toNat mod) L m).length (bw (af P M.toNat mod) L m)->SW w V ->
   xh P M mod m a n c L w (.returned (.tuple #[.agg #[.pointer (some ⟨b,0,none⟩),.int .i64 m,.slice a n c,.slice ap (bw (af P M.toNat mod) L m).length cp],v2,.int .i64 0])) V):=λb ap cp v2 V h1 h2 h3 h4=>⟨b,ap,cp,v2,rfl,h1,h2,h3,h4⟩
 have HI:=Z5 (Np hi hi');have HO1:=Z5 (λV hV hM=>HO.out V a n c L hV hM hE);have HO2:=Z5 (λV hV hM=>HO.out V a' n' c' L' hV hM hE');generalize xh P M mod m a n c L w=Post at *;obtain ⟨k,hk⟩ : ∃k,(bw (af P M.toNat mod) L m).length=k:=⟨_,rfl⟩
 obtain ⟨k',hk'⟩ : ∃k,(bw (af P M.toNat mod) L' m).length=k:=⟨_,rfl⟩
 rw [hk] at HO1 HPost;rw [hk'] at HO2;clear hmod hi hi' hE hE' HO hk hk';generalize bw (af P M.toNat mod) L m=Pv at *;generalize bw (af P M.toNat mod) L' m=Pv' at *;generalize af P M.toNat mod=G at *;go_enter func229,ntmps229;go_upto_region 1 with fail;obtain ⟨W,hW⟩ : ∃W : World,W=((((w.alloc (.cells #[.int .i64 P,.int .i64 M,.slice am mn cm] 24)).alloc (.cells #[.int .i64 m,.slice a n c] 94)).alloc (.cells #[.int .i64 m,.slice a' n' c'] 94)).alloc (.cells #[.pointer none,.int .i64 0,.slice none 0 0,.slice none 0 0] 210)).alloc (.cells #[.pointer none,.int .i64 0,.slice none 0 0,.slice none 0 0] 210):=⟨_,rfl⟩
 rw [<- hW];have hbW : SW w W:=by rw [hW];exact RZ (mF _ _ _ _) (bN _ _ _)
 have hsW : W.heap.size=w.heap.size+5:=by rw [hW];simp
 have x0 : aN W w.heap.size [.int .i64 P,.int .i64 M,.slice am mn cm]:=by rw [hW];exact ((((R9 _ _ _ rfl).alloc _).alloc _).alloc _).alloc _
 have x1 : aN W (w.heap.size+1) [.int .i64 m,.slice a n c]:=by rw [hW];exact (((R9 _ _ _ (by simp)).alloc _).alloc _).alloc _
 have x2 : aN W (w.heap.size+1+1) [.int .i64 m,.slice a' n' c']:=by rw [hW];exact ((R9 _ _ _ (by simp)).alloc _).alloc _
 have x3 : aN W (w.heap.size+1+1+1) [.pointer none,.int .i64 0,.slice none 0 0,.slice none 0 0]:=by rw [hW];exact (R9 _ _ _ (by simp)).alloc _
 have x4 : aN W (w.heap.size+1+1+1+1) [.pointer none,.int .i64 0,.slice none 0 0,.slice none 0 0]:=by rw [hW];exact R9 _ _ _ (by simp)
 clear hW;have HX:=Z5 (Np x0 (Np x1 (Np x2 (Np x3 x4))));have HbW:=Z5 hbW;have HsW:=Z5 hsW;go_cut [8] (λv8 wx=>v8 = .int .i64 0/\∃b ap cp,aN wx (w.heap.size+1+1+1) [.pointer (some ⟨b,0,none⟩),.int .i64 m,.slice a n c,.slice ap k cp]/\aN wx w.heap.size [.int .i64 P,.int .i64 M,.slice am mn cm]/\aN wx (w.heap.size+1) [.int .i64 m,.slice a n c]/\aN wx (w.heap.size+1+1) [.int .i64 m,.slice a' n' c']/\aN wx (w.heap.size+1+1+1+1) [.pointer none,.int .i64 0,.slice none 0 0,.slice none 0 0]/\BT (w.heap.size+5) wx b G/\cR (w.heap.size+5) wx ap k Pv/\SW w wx);case first =>
  have c0:=x0.cell 0 rfl
  have c1:=x0.cell 1 rfl
  have c2:=x0.cell 2 rfl
  have d0:=x1.cell 0 rfl
  have d1:=x1.cell 1 rfl
  clear x0 x1 x2 x3 x4 hbW hsW
  go_wp2_with fail
  refine (HO1.out W HbW.out (HI.out.1.ah HbW.out)).mono ?_
  rintro e w1 ⟨hb1,b,ap,cp,rfl,hG,hN⟩
  clear c0 c1 c2 d0 d1
  obtain ⟨x0,x1,x2,x3,x4⟩:=HX.out
  have x0:=x0.ah hb1
  have x1:=x1.ah hb1
  have x2:=x2.ah hb1
  have x3:=x3.ah hb1
  have x4:=x4.ah hb1
  have z0:=x3.cell 0 rfl
  have z1:=x3.cell 1 rfl
  have z2:=x3.cell 2 rfl
  have z3:=x3.cell 3 rfl
  have f0:=x3.frozen 0
  have f1:=x3.frozen 1
  have f2:=x3.frozen 2
  have f3:=x3.frozen 3
  have hs:=HsW.out
  have hF:=RZ HbW.out hb1
  have HR : Hid (aN ((((w1.setCell ⟨w.heap.size+1+1+1,0,none⟩ (.pointer (some ⟨b,0,none⟩))).setCell ⟨w.heap.size+1+1+1,1,none⟩ (.int .i64 m)).setCell ⟨w.heap.size+1+1+1,2,none⟩ (.slice a n c)).setCell ⟨w.heap.size+1+1+1,3,none⟩ (.slice ap k cp)) (w.heap.size+1+1+1) [.pointer (some ⟨b,0,none⟩),.int .i64 m,.slice a n c,.slice ap k cp] /\
    (∀g cs,g ≠ w.heap.size+1+1+1->aN w1 g cs->aN ((((w1.setCell ⟨w.heap.size+1+1+1,0,none⟩ (.pointer (some ⟨b,0,none⟩))).setCell ⟨w.heap.size+1+1+1,1,none⟩ (.int .i64 m)).setCell ⟨w.heap.size+1+1+1,2,none⟩ (.slice a n c)).setCell ⟨w.heap.size+1+1+1,3,none⟩ (.slice ap k cp)) g cs) /\
    BT (w.heap.size+5) ((((w1.setCell ⟨w.heap.size+1+1+1,0,none⟩ (.pointer (some ⟨b,0,none⟩))).setCell ⟨w.heap.size+1+1+1,1,none⟩ (.int .i64 m)).setCell ⟨w.heap.size+1+1+1,2,none⟩ (.slice a n c)).setCell ⟨w.heap.size+1+1+1,3,none⟩ (.slice ap k cp)) b G /\
    cR (w.heap.size+5) ((((w1.setCell ⟨w.heap.size+1+1+1,0,none⟩ (.pointer (some ⟨b,0,none⟩))).setCell ⟨w.heap.size+1+1+1,1,none⟩ (.int .i64 m)).setCell ⟨w.heap.size+1+1+1,2,none⟩ (.slice a n c)).setCell ⟨w.heap.size+1+1+1,3,none⟩ (.slice ap k cp)) ap k Pv /\
    SW w ((((w1.setCell ⟨w.heap.size+1+1+1,0,none⟩ (.pointer (some ⟨b,0,none⟩))).setCell ⟨w.heap.size+1+1+1,1,none⟩ (.int .i64 m)).setCell ⟨w.heap.size+1+1+1,2,none⟩ (.slice a n c)).setCell ⟨w.heap.size+1+1+1,3,none⟩ (.slice ap k cp))):=by
   refine ⟨(((x3.setCell 0 _).setCell 1 _).setCell 2 _).setCell 3 _,λg cs hg hx=>(((hx.MI (RQ hg) 0 _).MI (RQ hg) 1 _).MI (RQ hg) 2 _).MI (RQ hg) 3 _,?_,?_,?_⟩
   ·rw [<- hs];exact (((hG.setCell (p:=⟨w.heap.size+1+1+1,0,none⟩) (by simp;omega) _).setCell (p:=⟨w.heap.size+1+1+1,1,none⟩) (by simp;omega) _).setCell (p:=⟨w.heap.size+1+1+1,2,none⟩) (by simp;omega) _).setCell (p:=⟨w.heap.size+1+1+1,3,none⟩) (by simp;omega) _
   ·rw [<- hs];exact (((hN.setCell (p:=⟨w.heap.size+1+1+1,0,none⟩) (by simp;omega) _).setCell (p:=⟨w.heap.size+1+1+1,1,none⟩) (by simp;omega) _).setCell (p:=⟨w.heap.size+1+1+1,2,none⟩) (by simp;omega) _).setCell (p:=⟨w.heap.size+1+1+1,3,none⟩) (by simp;omega) _
   ·exact (((hF.setCell (p:=⟨w.heap.size+1+1+1,0,none⟩) (by simp;omega) _).setCell (p:=⟨w.heap.size+1+1+1,1,none⟩) (by simp;omega) _).setCell (p:=⟨w.heap.size+1+1+1,2,none⟩) (by simp;omega) _).setCell (p:=⟨w.heap.size+1+1+1,3,none⟩) (by simp;omega) _
  have HY:=Z5 (Np x0 (Np x1 (Np x2 x4)))
  clear hG hN hs hF x0 x1 x2 x3 x4
  go_wp2_with fail
  go_meet
  obtain ⟨r1,r2,r3,r4,r5⟩:=HR.out
  obtain ⟨y0,y1,y2,y4⟩:=HY.out
  exact ⟨rfl,b,ap,cp,r1,r2 _ _ (by omega) y0,r2 _ _ (by omega) y1,r2 _ _ (by omega) y2,r2 _ _ (by omega) y4,r3,r4,r5⟩
 obtain ⟨rfl,b,ap,cp,z3,y0,y1,y2,y4,hG,hN,hF⟩:=hcut;generalize wc=V at *;clear x0 x1 x2 x3 x4 hbW hsW HX HO1;have c0:=y0.cell 0 rfl;have c1:=y0.cell 1 rfl;have c2:=y0.cell 2 rfl;have d0:=y2.cell 0 rfl;have d1:=y2.cell 1 rfl;have HZ:=Z5 (Np z3 (Np y0 (Np y1 (Np y2 y4))));have HG:=Z5 (Np hG hN);clear z3 y0 y1 y2 y4 hG hN;go_wp2_with fail;refine (HO2.out V hF (HI.out.2.ah hF)).mono ?_;rintro e w2 ⟨hb2,b2,ap2,cp2,rfl,_,_⟩;clear c0 c1 c2 d0 d1;obtain ⟨z3,y0,y1,y2,y4⟩:=HZ.out;have z3:=z3.ah hb2;have y1:=y1.ah hb2;have y2:=y2.ah hb2;have y4:=y4.ah hb2;have p0:=z3.cell 0 rfl;have p1:=z3.cell 1 rfl;have p2:=z3.cell 2 rfl;have p3:=z3.cell 3 rfl;have e0:=y1.cell 0 rfl;have g0:=y2.cell 0 rfl;have q0:=y4.cell 0 rfl;have q1:=y4.cell 1 rfl;have q2:=y4.cell 2 rfl;have q3:=y4.cell 3 rfl;have f0:=y4.frozen 0;have f1:=y4.frozen 1;have f2:=y4.frozen 2;have f3:=y4.frozen 3;have fp0:=z3.frozen 0;have fp1:=z3.frozen 1;have fp2:=z3.frozen 2;have fp3:=z3.frozen 3;have hmm : ((m : Int) != m)=false:=by simp
 have hF2:=RZ hF hb2;obtain ⟨hG,hN⟩:=HG.out;have hG2:=hG.ah hb2;have hN2:=hN.ah hb2;have HFin : Hid (∀(X : World),X=((((w2.setCell ⟨w.heap.size+1+1+1+1,0,none⟩ (.pointer (some ⟨b2,0,none⟩))).setCell ⟨w.heap.size+1+1+1+1,1,none⟩ (.int .i64 m)).setCell ⟨w.heap.size+1+1+1+1,2,none⟩ (.slice a' n' c')).setCell ⟨w.heap.size+1+1+1+1,3,none⟩ (.slice ap2 k' cp2)) ->
   Post (.returned (.tuple #[.agg #[.pointer (some ⟨b,0,none⟩),.int .i64 m,.slice a n c,.slice ap k cp],.agg #[.pointer (some ⟨b2,0,none⟩),.int .i64 m,.slice a' n' c',.slice ap2 k' cp2],.int .i64 0])) X):=λX hX=>by
  subst hX;refine HPost.out b ap cp _ _ ⟨_,_,_,_,_,_,_,_,rfl⟩ ?_ ?_ ?_
  ·exact ((((hG2.setCell (p:=⟨w.heap.size+1+1+1+1,0,none⟩) (by simp) _).setCell (p:=⟨w.heap.size+1+1+1+1,1,none⟩) (by simp) _).setCell (p:=⟨w.heap.size+1+1+1+1,2,none⟩) (by simp) _).setCell (p:=⟨w.heap.size+1+1+1+1,3,none⟩) (by simp) _).gf
  ·exact ((((hN2.setCell (p:=⟨w.heap.size+1+1+1+1,0,none⟩) (by simp) _).setCell (p:=⟨w.heap.size+1+1+1+1,1,none⟩) (by simp) _).setCell (p:=⟨w.heap.size+1+1+1+1,2,none⟩) (by simp) _).setCell (p:=⟨w.heap.size+1+1+1+1,3,none⟩) (by simp) _).ints
  ·exact (((hF2.setCell (p:=⟨w.heap.size+1+1+1+1,0,none⟩) (by simp;omega) _).setCell (p:=⟨w.heap.size+1+1+1+1,1,none⟩) (by simp;omega) _).setCell (p:=⟨w.heap.size+1+1+1+1,2,none⟩) (by simp;omega) _).setCell (p:=⟨w.heap.size+1+1+1+1,3,none⟩) (by simp;omega) _
 clear hG hN hG2 hN2 z3 y0 y1 y2 y4 HZ HG;go_wp2_with fail;exact bodyPost_ret (v:=.tuple #[.agg #[.pointer (some ⟨b,0,none⟩),.int .i64 m,.slice a n c,.slice ap k cp],.agg #[.pointer (some ⟨b2,0,none⟩),.int .i64 m,.slice a' n' c',.slice ap2 k' cp2],.int .i64 0]) (by simp [results,results229,go_sem,p0,p1,p2,p3,q0,q1,q2,q3]) rfl (HFin.out _ rfl)
theorem tk (x : Int) (w : World) : Calls prog 221 #[.int .i64 x] w λe w'=>e = .returned (.bool false)/\w=w':=by go_enter func221,ntmps221;go_wp2;go_ret;exact ⟨by simp,rfl⟩
def xJ (x y : Int) : Int:=if x<y then -1 else if y<x then 1 else 0
theorem wk (x y : Int) (w : World) : Calls prog 212 #[.int .i64 x,.int .i64 y] w λe w'=>e = .returned (.int .i64 (xJ x y))/\w=w':=by
 obtain ⟨r,hr⟩ : ∃r,xJ x y=r:=⟨_,rfl⟩
 rw [hr];go_enter func212,ntmps212;unfold xJ at hr;by_cases h1 : x<y
 ·have d1 : decide (x<y)=true:=by simpa using h1
  rw [Nd h1] at hr;clear h1;go_wp2_with (go_at_call 221;refine (tk _ _).mono ?_;rintro e w' ⟨rfl,rfl⟩);go_ret;exact ⟨by rw [<- hr];rfl,rfl⟩
 ·have d1 : decide (x<y)=false:=by simpa using h1
  rw [Nf h1] at hr;by_cases h2 : y<x
  ·have d2 : decide (y<x)=true:=by simpa using h2
   rw [Nd h2] at hr;clear h1 h2;go_wp2_with (go_at_call 221;refine (tk _ _).mono ?_;rintro e w' ⟨rfl,rfl⟩);go_ret;exact ⟨by rw [<- hr];rfl,rfl⟩
  ·have d2 : decide (y<x)=false:=by simpa using h2
   rw [Nf h2] at hr;clear h1 h2;go_wp2_with (go_at_call 221;refine (tk _ _).mono ?_;rintro e w' ⟨rfl,rfl⟩);go_ret;exact ⟨by rw [<- hr];rfl,rfl⟩
theorem FL : ∀ {a b : Lz} {k : Nat},(∀j,j<k->nth a j=nth b j)->k<a.length->k<b.length->xJ (nth a k) (nth b k) ≠ 0->cmpL a b=xJ (nth a k) (nth b k)
 | [],_,k,_,h,_,_=>by simp at h
 | x :: a,[],k,_,_,h,_=>by simp at h
 | x :: a,y :: b,0,_,_,_,hne=>by
  have e1 : nth (x :: a) 0=x:=rfl;have e2 : nth (y :: b) 0=y:=rfl;rw [e1,e2] at hne ⊢;rw [cmpL];unfold xJ at hne ⊢;split
  ·rfl
  ·split
   ·rfl
   ·rename_i h1 h2;rw [Nf h1,Nf h2] at hne;exact absurd rfl hne
 | x :: a,y :: b,k+1,h0,ha,hb,hne=>by
  have e : x=y:=by simpa [nth] using h0 0 (by omega)
  rw [cmpL,Nf (by omega),Nf (by omega)];have h1:=FL (a:=a) (b:=b) (k:=k) (λj hj=>by simpa [nth] using h0 (j+1) (by omega)) (by simpa using ha) (by simpa using hb) (by simpa [nth] using hne);simpa [nth] using h1
theorem we : ∀ {a b : Lz} {k : Nat},(∀j,j<k->nth a j=nth b j)->(k=a.length\/k=b.length)->k<=a.length->k<=b.length->cmpL a b=if a.length<b.length then -1 else if b.length<a.length then 1 else 0
 | [],[],_,_,_,_,_=>by simp [cmpL]
 | [],y :: b,_,_,_,_,_=>by simp [cmpL]
 | x :: a,[],_,_,_,_,_=>by simp [cmpL]
 | x :: a,y :: b,0,_,h,_,_=>by simp at h
 | x :: a,y :: b,k+1,h0,h,ha,hb=>by
  have e : x=y:=by simpa [nth] using h0 0 (by omega)
  rw [cmpL,Nf (by omega),Nf (by omega)];have h1:=we (a:=a) (b:=b) (k:=k) (λj hj=>by simpa [nth] using h0 (j+1) (by omega)) (by simpa using h) (by simpa using ha) (by simpa using hb);rw [h1];simp
theorem Cz (a : OA) (n c : Nat) (l : Lz) (a2 : OA) (n2 c2 : Nat) (l2 : Lz) (w : World) (hi : Ints w a n l) (hi2 : Ints w a2 n2 l2) :
  Calls prog 159 #[.slice a n c,.slice a2 n2 c2] w λe w'=>e = .returned (.int .i64 (cmpL l l2))/\w=w':=by
 have Hl:=Z5 hi.len;have Hl2:=Z5 hi2.len;have hpl:=hi.pl;have hpl2:=hi2.pl;have hmax:=hi.max;have hmax2:=hi2.max;unfold maxLen at hmax hmax2;go_enter func159,ntmps159;go_wp2_with fail;go_loop [11] (λiv=>∃k : Nat,k<=n/\k<=n2/\iv = .int .i64 k/\Hid (∀j,j<k->nth l j=nth l2 j)) (λiv=>n - (intOf iv).toNat);case atStart=>exact ⟨0,Ni _,Ni _,rfl,λj hj=>by omega⟩
 case round =>
  obtain ⟨k,hk,hk2,rfl,hall⟩:=hrel
  by_cases hlt : k<n
  ·have ck:=hi.cell k hlt
   by_cases hlt2 : k<n2
   ·have ck2:=hi2.cell k hlt2
    have hge : decide ((n2 : Int)<=(k : Int))=false:=by simp;omega
    by_cases he : xJ (nth l k) (nth l2 k)=0
    ·have hEq : Hid (nth l k=nth l2 k):=by
      show _=_;unfold xJ at he;split at he
      ·omega
      ·split at he
       ·omega
       ·omega
     have hc:=wk (nth l k) (nth l2 k)
     rw [he] at hc
     have Hc:=Z5 hc
     clear he hc
     go_wp2_with (go_at_call 212;refine (Hc.out _).mono ?_;rintro e w' ⟨rfl,rfl⟩)
     go_round
     case rel=>exact ⟨k+1,by omega,by omega,by go_num,λj hj=>by
      rcases N3 j k with h | h
      ·exact hall.out j h
      ·rw [show j=k by omega];exact hEq.out⟩
     case measure=>simp [intOf] <;> omega
    ·have Hv:=Z5 (FL hall.out (by rw [Hl.out];exact hlt) (by rw [Hl2.out];exact hlt2) he)
     have Hc:=Z5 (wk (nth l k) (nth l2 k))
     have hne : (xJ (nth l k) (nth l2 k) != 0)=true:=by simpa using he
     clear he
     generalize xJ (nth l k) (nth l2 k)=r at *
     go_wp2_with (go_at_call 212;refine (Hc.out _).mono ?_;rintro e w' ⟨rfl,rfl⟩)
     go_ret
     exact ⟨aP Hv.out.symm,rfl⟩
   ·have hge : decide ((n2 : Int)<=(k : Int))=true:=by simp;omega
    have Hv : Hid (cmpL l l2=1):=by show _=_;rw [we hall.out (.inr (by rw [Hl2.out];omega)) (by rw [Hl.out];exact hk) (by rw [Hl2.out];exact hk2),Hl.out,Hl2.out,Nf (by omega),Nd (by omega)]
    go_wp2_with fail
    go_ret
    exact ⟨aP Hv.out.symm,rfl⟩
  ·have Hv : Hid (cmpL l l2=if n<n2 then -1 else 0):=by show _=_;rw [we hall.out (.inl (by rw [Hl.out];omega)) (by rw [Hl.out];exact hk) (by rw [Hl2.out];exact hk2),Hl.out,Hl2.out,Nf (show ¬ n2<n by omega)]
   obtain rfl : k=n:=by omega
   by_cases h2 : k<n2
   ·rw [Nd h2] at Hv
    go_wp2_with fail
    go_ret
    exact ⟨aP Hv.out.symm,rfl⟩
   ·rw [Nf h2] at Hv
    go_wp2_with fail
    go_ret
    exact ⟨aP Hv.out.symm,rfl⟩
section
open Go.RowKit Go.Shelf
theorem Cd : (prog.info? 22).map (λi=>(i.zero,i.size,i.bytes))=some (some (.slice none 0 0),1,24):=by kernel_rfl
theorem Lf (n : Nat) (b2 : n<=1000000) (w : World) :
  (Instr.makeSlice 25 (.int .i64 0) (.int .i64 n)).run prog w = .ok (.slice (some ⟨w.heap.size,0,none⟩) 0 n) (w.alloc (.cells (List.replicate n (Value.slice none 0 0)).toArray 22)):=by
 obtain ⟨i,hi,hz0,hz1,hz2⟩:=info_parts Cd;have h:=run_make (P:=prog) w 25 22 i (.slice none 0 0) underlying25 hi hz0 .i64 .i64 0 n (by omega) (by omega) (by rw [hz2];omega) (by omega);rw [hz1,Nat.mul_one,show (Value.slice none 0 0).cells = #[Value.slice none 0 0] from rfl,Nb] at h;have e : madeCells #[Value.slice none 0 0] n=(List.replicate n (Value.slice none 0 0)).toArray:=by rw [<- toList_madeCells_one]
 rw [h,e];rfl
def EM (B Bo Br n NN : Nat) (pre : List WX) (V : World) : Prop :=
 (aN V Bo [.slice (some ⟨Br,0,none⟩) pre.length NN]/\V.ownsRow B 22 1 (.slice (some ⟨Br,0,none⟩) pre.length NN) pre.length (pre.map λx=>.slice x.a n x.c)) /\
  ∀x ∈ pre,Ints V x.a n x.l/\ablk x.a ≠ Bo/\ablk x.a ≠ Br
theorem EM.bq {B Bo Br n NN : Nat} {pre : List WX} {V V' : World} (h : EM B Bo Br n NN pre V) (ho : V'.heap[Bo]? = V.heap[Bo]?) (hr : V'.heap[Br]? = V.heap[Br]?) (hx : ∀x ∈ pre,V'.heap[ablk x.a]? = V.heap[ablk x.a]?) (hs : V.heap.size<=V'.heap.size) : EM B Bo Br n NN pre V' :=
 ⟨⟨⟨NR h.1.1.1 hs,λi v hv=>(NT (w:=V) (a:=⟨Bo,i,none⟩) ho).trans (h.1.1.2.1 i v hv),λi=>(N1 (w:=V) (a:=⟨Bo,i,none⟩) ho).trans (h.1.1.2.2 i)⟩,
  gZ h.1.2 hr⟩,λx hxp=>⟨(h.2 x hxp).1.of_block λ_=>hx x hxp,(h.2 x hxp).2⟩⟩
theorem EM.MD {B Bo Br n NN : Nat} {pre : List WX} {V : World} (h : EM B Bo Br n NN pre V) : B<=Br/\Br<V.heap.size:=aY h.1.2 (by simp)
theorem aN.MS {w : World} {b : Nat} {v : Value} (h : aN w b [v]) (u : Value) : aN (w.setCell ⟨b,0,none⟩ u) b [u] :=
 ⟨by have:=((Nc 0 w).setCell (p:=⟨b,0,none⟩) (Ni _) u).size;exact NR h.1 this,λi x hx=>by
  cases i with
  | zero=>simp at hx;subst hx;exact P1 _ _ _ (by rw [h.2.1 0 v rfl];rfl)
  | succ i=>simp at hx,λi=>by rw [Oq];exact h.2.2 i⟩
theorem aN.of_block {w w' : World} {b : Nat} {cs : List Value} (h : aN w b cs) (hb : w'.heap[b]? = w.heap[b]?) (hs : w.heap.size<=w'.heap.size) : aN w' b cs :=
 ⟨NR h.1 hs,λi v hv=>(NT (w:=w) (a:=⟨b,i,none⟩) hb).trans (h.2.1 i v hv),λi=>(N1 (w:=w) (a:=⟨b,i,none⟩) hb).trans (h.2.2 i)⟩
theorem aE.LX {w w' : World} {I : Nat->Prop} {B : Nat} (hg : w.grownBy w' (some B)) (hB : I B) : aE w w' I I :=
 ⟨hg.os,hg.tape,hg.output,hg.size,λb hb hI=>hg.block b hb (λe=>by cases e;exact hI hB),λb hb=>.inl hb⟩
theorem EM.step {B Br n NN : Nat} {pre : List WX} {x : WX} {W W1 : World} {o : Obj} (h : EM B (Br+1) Br n NN pre W) (hix : Ints W x.a n x.l) (hn : 1<=n) (hx1 : ablk x.a ≠ Br+1) (hx2 : ablk x.a ≠ Br)
  (hg : (W.alloc o).grownBy W1 (some Br)) (hown : W1.ownsRow B 22 1 (.slice (some ⟨Br,0,none⟩) (pre.length+1) NN) (pre.length+1) (pre.map (λx=>.slice x.a n x.c) ++ [.slice x.a n x.c])) :
  EM B (Br+1) Br n NN (pre ++ [x]) (W1.setCell ⟨Br+1,0,none⟩ (.slice (some ⟨Br,0,none⟩) (pre.length+1) NN)) /\
   aE W (W1.setCell ⟨Br+1,0,none⟩ (.slice (some ⟨Br,0,none⟩) (pre.length+1) NN)) (λy=>y=Br+1\/y=Br) (λy=>y=Br+1\/y=Br):=by
 have hblk : ∀y,y<W.heap.size->y ≠ Br->W1.heap[y]? = W.heap[y]?:=λy hy h2=>(hg.block y (by simp;omega) (λe=>by cases e;exact h2 rfl)).trans (QN _ _ _ hy);have hsz : W.heap.size<=W1.heap.size:=by have:=hg.size;simp at this;omega
 have hbx : aN W1 (Br+1) [.slice (some ⟨Br,0,none⟩) pre.length NN]:=h.1.1.of_block (hblk _ h.1.1.1 (by omega)) hsz;refine ⟨⟨⟨by rw [Nl];exact hbx.MS _,?_⟩,?_⟩,((Se (an W o) _).trans (aE.LX hg (.inr rfl))).trans (aE.setAt _ (.inl rfl) _)⟩
 ·have h2:=gZ hown (w':=W1.setCell ⟨Br+1,0,none⟩ (.slice (some ⟨Br,0,none⟩) (pre.length+1) NN)) (Nz _ _ _ _ (by show Br ≠ Br+1;omega));rw [Nl,NM];exact h2
 ·intro y hy;have hy' : Ints W y.a n y.l/\ablk y.a ≠ Br+1/\ablk y.a ≠ Br:=by
   rcases List.mem_append.1 hy with hy | hy
   ·exact h.2 y hy
   ·rw [List.mem_singleton.1 hy];exact ⟨hix,hx1,hx2⟩
  refine ⟨hy'.1.of_block λh0=>?_,hy'.2⟩;exact (Nz _ _ _ _ (by show ablk y.a ≠ Br+1;exact hy'.2.1)).trans (hblk _ (hy'.1.lt h0) hy'.2.2)
attribute [local go_sem] QX
theorem IV (P M : Int) (am : OA) (mn cm : Nat) (N : Int) (a : OA) (k c : Nat) (w : World) :
  Calls prog 211 #[.agg #[.int .i64 P,.int .i64 M,.slice am mn cm,.int .i64 N,.slice a k c]] w λe w' =>
   e = .returned (.func (.func 250) #[] #[.pointer (some ⟨w.heap.size,0,none⟩)])/\w'=w.alloc (.cells #[.int .i64 P,.int .i64 M,.slice am mn cm,.int .i64 N,.slice a k c] 27):=by have hmf : ∀(fn : Fn) (first cap : Array Value) (w : World),(Instr.makeFunc fn first cap).run prog w = .ok (.func fn first cap) w:=λ_ _ _ _=>rfl;go_enter func211,ntmps211;go_wp2;go_ret;exact ⟨rfl,rfl⟩
theorem GA (P M : Int) (am : OA) (mn cm : Nat) (mod : Lz) (n : Nat) (a : OA) (k c : Nat) (L : ZZ) (w : World) (NN : Nat) (hE : aF P M mod n L=0) (hmod : Ints w am mn mod) (hi : br w a k L)
  (hNN : (af P M.toNat mod).q ^ k=NN) (hN6 : NN<=65536) :
  Calls prog 158 #[.agg #[.int .i64 P,.int .i64 M,.slice am mn cm,.int .i64 n,.slice a k c]] w λe w' =>
   ∃ao co,e = .returned (.tuple #[.slice ao NN co,.int .i64 0])/\br w' ao NN (wlkS (af P M.toNat mod).ops (af P M.toNat mod).q L (List.replicate n 0))/\SW w w':=by
 obtain ⟨N',em,hm1,hm64,F,hR⟩:=aM hE;obtain rfl : n=N':=by omega
 have HSz : Hid (∀V,SW w V->Calls prog 210 #[.agg #[.int .i64 P,.int .i64 M,.slice am mn cm,.int .i64 n,.slice a k c]] V λe w'=>e = .returned (.tuple #[.int .i64 (NN : Nat),.int .i64 0])/\SW V w'):=λV hV=>by
  refine (BH P M am mn cm mod n a k c L V hE (hmod.ah hV) (hi.ah hV)).mono ?_;rintro e w' ⟨rfl,h2⟩;have h3 : ((af P M.toNat mod).q : Int) ^ k=(NN : Nat):=by rw [<- hNN];simp
  have h4:=ka (q:=(af P M.toNat mod).q) (k:=k) (by rw [h3];omega);rw [h4.1,h4.2,h3];exact ⟨rfl,h2⟩
 have HWk : Hid (∀(W : World) (Bc l : Nat),SW w W->aN W Bc [.int .i64 P,.int .i64 M,.slice am mn cm,.int .i64 n,.slice a k c]->∀(J : List WX->World->Prop) (MM : Nat->Prop),(∀x,MM x->x<W.heap.size) ->
   (∀V,(∀x,x<W.heap.size->¬ MM x->V.heap[x]? = W.heap[x]?)->br V a k L/\V.cell? ⟨Bc,4,none⟩=some (.slice a k c)) ->
   (∀pre V V',J pre V->SW V V'->J pre V')->(∀B pre V v,W.heap.size<=B->(∀x ∈ pre,ablk x.a ≠ B)->J pre V->J pre (V.setCell ⟨B,0,none⟩ v)) ->
   (∀m pre x V,J pre V->pre.length<NN->Ints V x.a n x.l->(∀j,MM j->j ≠ ablk x.a)->Mm l n J MM m pre x V)->J [] W ->
   Calls prog 250 #[.func (.yield l) #[] #[],.pointer (some ⟨Bc,0,none⟩)] W λe V=>e = .returned (.tuple #[]) /\
    ∃xs : List WX,xs.map WX.l=wlkS (af P M.toNat mod).ops (af P M.toNat mod).q L (List.replicate n 0)/\J xs V/\aE W V MM MM):=by intro W Bc l hb hx J MM h1 h2 h3 h4 h5 h6;refine Gy P M am mn cm mod n a k c L W Bc l hE hx (hmod.ah hb) (hi.ah hb) J MM h1 h2 h3 h4 ?_ (by rw [hNN];omega) h6;intro m pre x V hj hl;rw [hNN] at hl;exact h5 m pre x V hj hl
 have Hmat : Hid (∀V,(∀x,x<w.heap.size->V.heap[x]? = w.heap[x]?)->br V a k L):=λV hV=>⟨hi.len,hi.pl,hi.max,λi hik=>by obtain ⟨b,m,c',h1,h2⟩:=hi.cell i hik;exact ⟨b,m,c',(NT (w:=w) (hV _ (Nt _ _ h1))).trans h1,h2.of_block λh0=>hV _ (h2.lt h0)⟩⟩
 have Hlen : Hid ((wlkS (af P M.toNat mod).ops (af P M.toNat mod).q L (List.replicate n 0)).length=NN):=by show _=_;rw [kt,hi.len,hNN]
 generalize wlkS (af P M.toNat mod).ops (af P M.toNat mod).q L (List.replicate n 0)=R at *;clear hNN hR F em hE hmod hi;refine (callsIn_wide (n:=8)).1 ?_;refine callsIn_of_wp_marks func158 rfl trivial ?_ rfl;simp only [ntmps158,Ps,NP,Po,Nat.reduceAdd,Nat.reduceSub,O3,O4,Pt,O8,N5,O9];refine wpIn_wide.2 ?_;go_upto_region 1 with fail;obtain ⟨W1,hW1⟩ : ∃W1 : World,W1=w.alloc (.cells #[.int .i64 P,.int .i64 M,.slice am mn cm,.int .i64 n,.slice a k c] 27):=⟨_,rfl⟩
 rw [<- hW1];have hb1 : SW w W1:=by rw [hW1];exact an _ _
 have x1 : aN W1 w.heap.size [.int .i64 P,.int .i64 M,.slice am mn cm,.int .i64 n,.slice a k c]:=by rw [hW1];exact R9 _ _ _ rfl
 have X1:=Z5 x1;have c0:=x1.cell 0 rfl;have c1:=x1.cell 1 rfl;have c2:=x1.cell 2 rfl;have c3:=x1.cell 3 rfl;have c4:=x1.cell 4 rfl;clear hW1 x1;go_upto_region 4 with (go_at_call 210;refine (HSz.out _ hb1).mono ?_;rintro e w2 ⟨rfl,hb2⟩;clear c0 c1 c2 c3 c4)
 have hmk:=λV=>Lf NN (by omega) V;go_upto_region 5 with fail;obtain ⟨Br,hBr⟩ : ∃Br,Br=w2.heap.size:=⟨_,rfl⟩
 rw [<- hBr];obtain ⟨W3,hW3⟩ : ∃W3 : World,W3=((w2.alloc (.cells (Array.replicate NN (Value.slice none 0 0)) 22)).alloc (.cells #[.slice (some ⟨Br,0,none⟩) 0 NN] 25)):=⟨_,rfl⟩
 rw [<- hW3];have hb3 : SW w2 W3:=by rw [hW3];exact bN _ _ _
 have hs3 : W3.heap.size=Br+2:=by rw [hW3,hBr];simp
 have hwB : w.heap.size<Br:=by have h1:=X1.out.1;have h2:=hb2.size;omega
 have hwi : EM w.heap.size (Br+1) Br n NN [] W3:=by
  refine ⟨⟨?_,?_⟩,λx hx=>by simp at hx⟩
  ·rw [hW3];exact R9 _ _ _ (by rw [hBr];simp)
  ·refine ⟨rfl,.inr ⟨Br,NN,Array.replicate NN (Value.slice none 0 0),rfl,by omega,?_,by simp,by unfold maxLen;omega,by simp,by simp⟩⟩;rw [hW3,hBr];exact (QN _ _ _ (by simp)).trans (World.alloc_heap_new w2 _)
 have Hwi:=Z5 hwi;have HBr:=Z5 hBr;have hb13:=RZ (RZ hb1 hb2) hb3;have x3:=(X1.out.ah hb2).ah hb3;have c0:=x3.cell 0 rfl;have c1:=x3.cell 1 rfl;have c2:=x3.cell 2 rfl;have c3:=x3.cell 3 rfl;have c4:=x3.cell 4 rfl;have Hs3:=Z5 hs3;clear hW3 hwi hBr x3 hmk;go_wp2_with (go_at_call 211;refine (IV P M am mn cm n a k c W3).mono ?_;rintro e w4 ⟨rfl,hw4⟩;have Hw4:=Z5 hw4;clear hw4 hs3);have hw4:=Hw4.out;have hs3:=Hs3.out;have hb4 : SW W3 w4:=by rw [hw4];exact an _ _
 have hs4 : w4.heap.size=W3.heap.size+1:=by rw [hw4];simp
 have x4 : aN w4 W3.heap.size [.int .i64 P,.int .i64 M,.slice am mn cm,.int .i64 n,.slice a k c]:=by rw [hw4];exact R9 _ _ _ rfl
 clear hw4 c0 c1 c2 c3 c4;have hi4 : EM w.heap.size (Br+1) Br n NN [] w4:=EM.bq Hwi.out (hb4.block _ (by omega)) (hb4.block _ (by omega)) (λx hx=>by simp at hx) hb4.size;have Hs4:=Z5 hs4;obtain ⟨i0,hi,hz0,hz1,hz2⟩:=info_parts Cd;have hMB4 : ∀x,(x=Br+1\/x=Br)->x<w4.heap.size:=λx hx=>by omega
 clear hs3 hs4;refine (wpIn_wide (n:=8)).1 ?_;refine x8 (n:=n) (N:=NN) (lb:=#[.pointer (some ⟨W3.heap.size,0,none⟩)]) (R:=R) rfl (enters_of func250 (by kernel_rfl) rfl) rfl (by omega) hm1
  (λx=>x=Br+1\/x=Br) hMB4 ?hseq (EM w.heap.size (Br+1) Br n NN) ?hIa ?hIb ?hIp hi4
  (λpre x=>{ tmps:=#[.agg #[.int .i64 P,.int .i64 M,.slice am mn cm,.int .i64 n,.slice a k c],.pointer (some ⟨w.heap.size,0,none⟩),.slice none 0 0,.int .i64 0,.int .i64 NN,.int .i64 0,.pointer (some ⟨Br+1,0,none⟩),undef,.slice x.a n x.c,
   .tuple #[.int .i64 NN,.int .i64 0],.agg #[.int .i64 P,.int .i64 M,.slice am mn cm,.int .i64 n,.slice a k c],.tuple #[.int .i64 NN,.int .i64 0],.int .i64 NN,.int .i64 0,.int .i64 0,.bool false,undef,.int .i64 NN,.slice (some ⟨Br,0,none⟩) 0 NN,
   .agg #[.int .i64 P,.int .i64 M,.slice am mn cm,.int .i64 n,.slice a k c],.func (.func 250) #[] #[.pointer (some ⟨W3.heap.size,0,none⟩)],.int .i64 (pre.length : Nat),.slice x.a n x.c,undef,undef,undef,undef,undef],defers:=[] })
  ?assign ?body ?done
 case hseq =>
  intro l J MM W hb hs hMM hJa hJb hY h0
  have hs3:=Hs3.out
  have hs4:=Hs4.out
  have hbw : SW w W:=RZ (RZ hb13 hb4) hb
  refine HWk.out W W3.heap.size l hbw (x4.ah hb) J MM (λx hx=>by have:=hMM x hx;omega) (λV hV=>?_) hJa hJb hY h0
  have hwV : ∀x,x<w.heap.size->V.heap[x]? = w.heap[x]?:=λx hx=>(hV x (by have:=hbw.size;omega) (λh=>by have:=hMM x h;have:=hb4.size;omega)).trans (hbw.block x hx)
  refine ⟨Hmat.out V hwV,?_⟩
  ·refine (NT (w:=W) (a:=⟨W3.heap.size,4,none⟩) (hV _ ?_ ?_)).trans ((x4.ah hb).cell 4 rfl)
   ·have:=(x4.ah hb).1;exact this
   ·intro h
    have h2 : (W3.heap.size=Br+1\/W3.heap.size=Br)\/W3.heap.size=w4.heap.size+1:=hMM _ h
    omega
 case hIa =>
  intro pre V V' h hb
  exact h.bq (hb.block _ h.1.1.1) (hb.block _ h.MD.2) (λx hx=>hb.block _ ((h.2 x hx).1.lt hm1)) hb.size
 case hIb =>
  intro B pre V v hB hx h
  have hs3:=Hs3.out
  have hs4:=Hs4.out
  refine h.bq (Nz _ _ _ _ ?_) (Nz _ _ _ _ ?_) (λx hxp=>Nz _ _ _ _ (hx x hxp)) (((Nc 0 V).setCell (p:=⟨B,0,none⟩) (Ni _) v).size)
  ·show Br+1 ≠ B;omega
  ·show Br ≠ B;omega
 case hIp =>
  intro B pre V o hB hx h
  have hs3:=Hs3.out
  have hs4:=Hs4.out
  refine h.bq (World.putObj_heap_other ?_) (World.putObj_heap_other ?_) (λx hxp=>World.putObj_heap_other (hx x hxp)) (grownBy_putObj' V B o).size
  ·omega
  ·omega
 case assign =>
  intro l m pre x W K hK
  gi_wp2
  exact hK
 case body =>
  rintro l m pre x W h hlt hix hxM
  have hcv:=h.1.1.cell 0 rfl
  have hrow:=h.1.2
  obtain ⟨v,hv⟩ : ∃v,v=Value.slice (some ⟨Br,0,none⟩) pre.length NN:=⟨_,rfl⟩
  rw [<- hv] at hcv
  have Hv:=Z5 hv
  have Hh:=Z5 h
  clear hv h
  gi_wp2_with (gi_at_builtin;refine wpListIn_append_fits _ rfl _ _ 25 rfl w.heap.size 22 i0 1 underlying25 hi hz1 Br pre.length NN (pre.map λx=>.slice x.a n x.c) Hv.out (hrow.alloc _) ⟨W.heap.size,0,none⟩ 1 1 [.slice x.a n x.c] rfl rfl (cell_one_new _ _ _) (by simp [Value.oneCell']) (by omega) ?_;intro w1 hown1 hgrow1;have hbo : aN w1 (Br+1) [.slice (some ⟨Br,0,none⟩) pre.length NN]:=(Hh.out.1.1.alloc _).of_block (hgrow1.block _ (Hh.out.1.1.alloc _).1 (λe=>by injection e with e;omega)) hgrow1.size;have hc1:=hbo.cell 0 rfl;have hf1:=hbo.frozen 0)
  have hst:=EM.step Hh.out hix hm1 (λe=>hxM _ (.inl rfl) e.symm) (λe=>hxM _ (.inr rfl) e.symm) hgrow1 hown1
  exact ⟨hst.1,hst.2⟩
 case done =>
  intro xs V hx hI hm hK
  have hcv:=hI.1.1.cell 0 rfl
  have HI:=Z5 hI
  have Hm:=Z5 hm
  have Hx:=Z5 hx
  clear hI hm hx
  go_wp2_with fail
  refine ⟨by simp,.inl ⟨_,_,rfl,run_takeDeferred hK,?_⟩⟩
  have hxl : xs.length=NN:=by rw [<- Hlen.out,<- Hx.out,Nq]
  have hIV : EM w.heap.size (Br+1) Br n NN xs (V.putObj w4.heap.size (.deferred none)):=by
   have hs3:=Hs3.out;have hs4:=Hs4.out;have hlo : ∀x ∈ xs,ablk x.a ≠ w4.heap.size:=λx hx e=>by obtain ⟨_,ix⟩:=(HI.out.2 x hx).1.cell 0 hm1 |> λh=>Np h (Array.getElem?_eq_some_iff.1 hK).1;have h1:=(HI.out.2 x hx).1.cell 0 hm1;rw [e] at h1;simp [World.cell?,hK] at h1
   exact HI.out.bq (World.putObj_heap_other (by omega)) (World.putObj_heap_other (by omega)) (λx hx=>World.putObj_heap_other (hlo x hx)) (grownBy_putObj' V _ _).size
  have hbw4 : SW w w4:=RZ hb13 hb4
  have hbV : Below w.heap.size w4 V:=Hm.out.below (λb hb=>by have:=hbw4.size;omega) hbw4.size
  refine ⟨_,results_tmp2 rfl _ _ _,some ⟨Br,0,none⟩,NN,?_,?_,?_⟩
  ·simp [hxl]
  ·refine ⟨Hlen.out,λ_=>rfl,by unfold maxLen;omega,λi hi=>?_⟩
   obtain ⟨y,hy⟩ : ∃y,xs[i]? = some y:=⟨xs[i],NQ (by omega)⟩
   have hrow:=hIV.1.2
   have hc:=hrow.cellAt i (by omega)
   rw [Pr,hy] at hc
   refine ⟨y.a,n,y.c,?_,?_⟩
   ·have e : aK (some ⟨Br,0,none⟩ : OA)+i=i:=by simp [aK]
    rw [e];exact hc
   ·have h2:=(hIV.2 y (List.mem_of_getElem? hy)).1
    have e : ai R i=y.l:=by
     rw [<- Hx.out,aC (by rw [Nq];omega),NZ];rw [NQ (by omega)] at hy;injection hy with hy
     rw [hy]
    rw [e];exact h2
  ·exact (hbw4.trans hbV).trans (belowK_b (w:=w4) hbw4.size V w4.heap.size _ _ (Na _) hK rfl rfl)
end
section
variable {O : aL} {El : Int->Prop} {m : Nat} {R : ZZ} {P : Lz}
theorem zw (F : bF O El) (hI : BS.Inv El m ⟨R,P⟩) {S : ZZ} (hS : bp El m S) (hRS : fE O El m R S) {v : Lz} (hv : Vc El m v) : ∀k,k<=R.length->(RS O El m S (λx=>nth (redTo O R P v k) x) ↔ RS O El m S (λx=>nth v x))
 | 0,_=>Iff.rfl
 | k+1,hk=>by
  have hu : Vc El m (redTo O R P v k):=Sr F hI.ok hv k (show k<=R.length by omega);have hp : (nth P k).toNat<m:=hI.ok.pl (show k<R.length by omega);have hr : Vc El m (ai R k):=hI.ok.row (show k<R.length by omega);refine RY ?_ (zw F hI hS hRS hv k (by omega));constructor
  ·intro h;refine (SK F hS h (hRS k (by omega)) (hu.at hp)).congr λx hx=>?_;have e1:=hu.at hx;have e2:=F.cl.mul _ _ (hu.at hp) (hr.at hx);rw [redTo,fP F hu hr hp hx,F.mul_comm _ _ (hr.at hx) (hu.at hp),F.add_assoc _ _ _ e1 (F.cl.neg _ e2) e2,F.lB e2,F.add_zero _ e1]
  ·intro h;refine (h.comb F (hRS k (by omega)) (hu.at hp)).congr λx hx=>?_;rw [redTo,fP F hu hr hp hx,F.mul_comm _ _ (hu.at hp) (hr.at hx)]
theorem jj {A B : ZZ} (h : ∀r ∈ A,RS O El m B (λx=>nth r x)) : fE O El m A B:=λi hi=>h _ (dN hi)
theorem rK {A B : ZZ} (h : fE O El m A B) {r : Lz} (hr : r ∈ A) : RS O El m B (λx=>nth r x):=by obtain ⟨i,hi,rfl⟩:=ei hr;exact h i hi
theorem kc (F : bF O El) {A : ZZ} {r : Lz} (hr : r ∈ A) : RS O El m A (λx=>nth r x):=by obtain ⟨i,hi,rfl⟩:=ei hr;exact Sg F hi
theorem fE.tr {A B C : ZZ} (h : fE O El m A B) (h2 : fE O El m B C) : fE O El m A C:=λi hi=>h2.rs (h i hi)
theorem Cu (F : bF O El) {X Y : ZZ} (hX : bp El m X) (hY : bp El m Y) (h1 : fE O El m X Y) (h2 : fE O El m Y X) : bZ O m X=bZ O m Y:=by obtain ⟨x1,x2⟩:=cB F hX;obtain ⟨y1,y2⟩:=cB F hY;exact wP F (bL F hX) (bL F hY) (bG F hX).1 (bG F hY).1 (bG F hX).2 (bG F hY).2 (bQ F hX) (bQ F hY) ((x1.tr h1).tr y2) ((y1.tr h2).tr x2)
theorem ql {A B : ZZ} (hA : bp El m A) (hB : bp El m B) : bp El m (A ++ B):=λr hr=>by
 rcases List.mem_append.1 hr with h | h
 ·exact hA r h
 ·exact hB r h
def wJ (O : aL) (R : ZZ) (P : Lz) (B : ZZ) : ZZ:=B.map λv=>redTo O R P v R.length
def MU (O : aL) (m : Nat) (R : ZZ) (P : Lz) (B : ZZ) : ZZ:=bZ O m (bZ O m (wJ O R P B) ++ R)
theorem CO (F : bF O El) (hI : BS.Inv El m ⟨R,P⟩) {B : ZZ} (hB : bp El m B) : bp El m (wJ O R P B):=λr hr=>by obtain ⟨v,hv,rfl⟩:=List.mem_map.1 hr;exact Sr F hI.ok (hB v hv) R.length (Na _)
theorem L0 (F : bF O El) (hR : bp El m R) (hP : mg R P m) (hlen : R.length=P.length) {B : ZZ} (hB : bp El m B) : MU O m R P B=bZ O m (R ++ B):=by
 have hI:=oE hR hP hlen;have hD:=CO F hI hB;have hC:=bL F hD;obtain ⟨c1,c2⟩:=cB F hD;have hX:=ql hC hR;have hY:=ql hR hB;refine Cu F hX hY (jj λr hr=>?_) (jj λr hr=>?_)
 ·rcases List.mem_append.1 hr with h | h
  ·refine fE.rs (jj λd hd=>?_) (rK c1 h);obtain ⟨v,hv,rfl⟩:=List.mem_map.1 hd;exact (zw F hI hY (jj λy hy=>kc F (List.mem_append.2 (.inl hy))) (hB v hv) R.length (Na _)).2 (kc F (List.mem_append.2 (.inr hv)))
  ·exact kc F (List.mem_append.2 (.inl h))
 ·rcases List.mem_append.1 hr with h | h
  ·exact kc F (List.mem_append.2 (.inr h))
  ·refine (zw F hI hX (jj λy hy=>kc F (List.mem_append.2 (.inr hy))) (hB r h) R.length (Na _)).1 ?_;refine fE.rs (jj λy hy=>kc F (List.mem_append.2 (.inl hy))) (rK c2 (List.mem_map.2 ⟨r,h,rfl⟩))
theorem Lb (F : bF O El) {A B : ZZ} (hA : bp El m A) (hB : bp El m B) : bZ O m (A ++ bZ O m B)=bZ O m (A ++ B):=by
 obtain ⟨b1,b2⟩:=cB F hB;refine Cu F (ql hA (bL F hB)) (ql hA hB) (jj λr hr=>?_) (jj λr hr=>?_)
 ·rcases List.mem_append.1 hr with h | h
  ·exact kc F (List.mem_append.2 (.inl h))
  ·exact fE.rs (jj λy hy=>kc F (List.mem_append.2 (.inr hy))) (rK b1 h)
 ·rcases List.mem_append.1 hr with h | h
  ·exact kc F (List.mem_append.2 (.inl h))
  ·exact fE.rs (jj λy hy=>kc F (List.mem_append.2 (.inr hy))) (rK b2 h)
end
section
variable {P M : Int} {mod : Lz}
theorem lX {m : Nat} {L : ZZ} (hE : aF P M mod m L=0) : L.length<=m:=by have h:=(eS (aG hE).2.2.2).2;rw [Nb] at h;rw [<- h,eo];exact (fh _ L m).1
theorem yR {m' : Nat} {D0 : ZZ} (hfB : bA P M mod=true) (hD : bp (af P M.toNat mod).El m' D0) (h1 : 1<=m') (h64 : m'<=64) (hl : D0.length<=256) : aF P M mod m' (bZ (af P M.toNat mod).ops m' D0)=0:=by
 have F:=dM hfB;have hKR:=bL F hD;have hidem:=tV F hD;have hcl : (bZ (af P M.toNat mod).ops m' D0).length<=256:=by unfold bZ;rw [NG,bX];omega
 generalize bZ (af P M.toNat mod).ops m' D0=D at *;have hf : eJ P M mod m' D=0:=kA hfB (by omega) hcl hKR;have hsp : eB P M mod m' D=0:=by unfold eB;rw [Nd hf,Nb,Nd];exact hidem
 have hle : kY (m' : Int)=0:=uY (by omega) (by omega);unfold aF;rw [Nd hfB,Nd hle];exact hsp
end
theorem GF {w : World} {b : Nat} {G : dn} (m : Nat) (a : OA) (n c : Nat) (R : ZZ) (ap : OA) (cp : Nat) (Pv : Lz) (a2 : OA) (n2 c2 : Nat) (D : ZZ)
  (h : ew w b G) (hi : br w a n R) (hp : Ints w ap n Pv) (hD : br w a2 n2 D) (hOk : BS.Ok G.El m ⟨R,Pv⟩) (hDe : bp G.El m D) (hn : n<=1000000) (hm : m<=1000000) (hn2 : n2<=1000000) :
  Calls prog 230 #[.agg #[.pointer (some ⟨b,0,none⟩),.int .i64 m,.slice a n c,.slice ap n cp],.agg #[.int .i64 m,.slice a2 n2 c2]] w
   λe w'=>∃a3 c3,e = .returned (.agg #[.int .i64 m,.slice a3 n2 c3])/\dq w.heap.size w' a3 n2 (wJ G.ops R Pv D)/\SW w w':=by
 have hrl : R.length=n:=hi.len;have hdl : D.length=n2:=hD.len;obtain ⟨RL,hRL⟩ : ∃RL,wJ G.ops R Pv D=RL:=⟨_,rfl⟩
 rw [hRL];have HRl : Hid (RL.length=n2):=by show _=_;rw [<- hRL,wJ,Nq];exact hdl
 have HRd : Hid (∀V k ra rc,k<n2->SW w V->Ints V ra m (ai D k)->Calls prog 242 #[.agg #[.pointer (some ⟨b,0,none⟩),.int .i64 m,.slice a n c,.slice ap n cp],.slice ra m rc] V
   λe w'=>∃a1 c1 v2,e = .returned (.tuple #[.slice a1 m c1,v2])/\w'.ownsRow V.heap.size 3 1 (.slice a1 m c1) m ((ai RL k).map (Value.int .i64))/\SW V w'):=λV k ra rc hk hV hr=>by have h1:=ud m a n c R ap cp Pv ra rc (ai D k) (h.ah hV) (hi.ah hV) (hp.ah hV) hr hOk (hDe.row (by omega)) hn hm;rw [<- hRL,wJ,nE _ D (by omega),hrl];exact h1
 have HDr : Hid (∀k,k<n2->(ai D k).length=m):=λk hk=>(hDe.row (i:=k) (by omega)).1;have HRn : Hid (∀k,k<n2->(ai RL k).length=m):=λk hk=>by have h1:=(mO (SA h) hOk.rws (Q:=Pv) hOk.plc (hDe.row (i:=k) (by omega)) R.length (Na _)).1;rw [<- hRL,wJ,nE _ D (by omega)];exact h1
 have HTk : Hid (∀k,k<n2->RL.take (k+1)=RL.take k ++ [ai RL k]):=λk hk=>by
  have hk' : k<RL.length:=by rw [HRl.out];exact hk
  rw [Nj hk',<- aC hk']
 have hpl:=hD.pl;clear h hi hp hOk hDe hRL hrl hdl;go_enter func230,ntmps230;go_upto_region 1 with fail;obtain ⟨W,hW⟩ : ∃W : World,W=((w.alloc (.cells #[.pointer (some ⟨b,0,none⟩),.int .i64 m,.slice a n c,.slice ap n cp] 210)).alloc (.cells #[.int .i64 m,.slice a2 n2 c2] 94)).alloc (.cells #[.int .i64 0,.slice none 0 0] 94):=⟨_,rfl⟩
 rw [<- hW];have hbW : SW w W:=by rw [hW];exact mF _ _ _ _
 have hsW : W.heap.size=w.heap.size+3:=by rw [hW];simp
 have x0 : aN W w.heap.size [.pointer (some ⟨b,0,none⟩),.int .i64 m,.slice a n c,.slice ap n cp]:=by rw [hW];exact ((R9 _ _ _ rfl).alloc _).alloc _
 have x1 : aN W (w.heap.size+1) [.int .i64 m,.slice a2 n2 c2]:=by rw [hW];exact (R9 _ _ _ (by simp)).alloc _
 have x2 : aN W (w.heap.size+1+1) [.int .i64 0,.slice none 0 0]:=by rw [hW];exact R9 _ _ _ (by simp)
 clear hW;have HX:=Z5 (Np x0 (Np x1 x2));have HbW:=Z5 hbW;have HsW:=Z5 hsW;obtain ⟨g,hg⟩ : ∃g,W.heap.size=g:=⟨_,rfl⟩
 have HG:=Z5 hg;clear hg;have m0:=x1.cell 0 rfl;have m1:=x1.cell 1 rfl;go_cut [5] (λv wx=>v = .pointer (some ⟨W.heap.size,0,none⟩)/\qK wx W.heap.size (.int .i64 m) none 0 0 [] []/\SW W wx);case first =>
  clear x0 x1 x2 hbW hsW
  go_wp2_with fail
  go_meet
  exact ⟨rfl,qK.start (R9 W [.int .i64 m,.slice none 0 0] _ rfl),an _ _⟩
 obtain ⟨rfl,hO0,hbc⟩:=hcut;generalize wc=U at *;have hs3:=HG.out;rw [hs3] at hO0 ⊢;have HbU:=Z5 hbc;have r1:=x1.ah hbc;clear m0 m1 x0 x1 x2 hbW;have m0:=r1.cell 0 rfl;have m1:=r1.cell 1 rfl;have hgW : W.heap.size<=g:=by omega
 have HD:=Z5 hD;clear r1 hbc hs3 hD hsW;go_wp2_with fail;clear m0 m1;go_loopw [16] (λiv wr=>∃(j : Nat) (a1 : OA) (c1 : Nat) (Rr : Z4),j<=n2/\iv = .int .i64 j/\qK wr g (.int .i64 m) a1 j c1 Rr (RL.take j)/\Below g U wr) (λiv _=>n2 - (intOf iv).toNat);case atStart=>exact ⟨0,none,0,[],Ni _,rfl,by simpa using hO0,Nc _ _⟩
 case round =>
  clear hO0
  obtain ⟨j,a1,c1,Rr,hj,rfl,hO,hbr⟩:=hrel
  have hbWr:=N2 HbU.out (hbr.mono hgW)
  have hbwr:=RZ HbW.out hbWr
  by_cases hltj : j<n2
  ·obtain ⟨ra,rn,rc,hcell,hrow⟩:=(HD.out.ah hbwr).cell j hltj
   have hrn : rn=m:=by rw [<- hrow.len];exact HDr.out j hltj
   rw [hrn] at hcell hrow
   have Htk:=Z5 (HTk.out j hltj)
   have HR1:=Z5 (HRd.out wr j ra rc hltj hbwr hrow)
   obtain ⟨pk,hpk⟩ : ∃pk,ai RL j=pk:=⟨_,rfl⟩
   have Hpl : Hid (pk.length=m):=by show _=_;rw [<- hpk];exact HRn.out j hltj
   rw [hpk] at HR1 Htk
   have xr:=HX.out.1.ah hbWr
   have v0:=xr.cell 0 rfl
   have v1:=xr.cell 1 rfl
   have v2:=xr.cell 2 rfl
   have v3:=xr.cell 3 rfl
   have hgr:=hO.lt
   have HO:=Z5 hO
   clear hrn hpk hrow xr hO
   go_wp2_with fail
   refine HR1.out.mono ?_
   rintro e w3 ⟨a5,c5,vv,rfl,hown,hb3⟩
   clear v0 v1 v2 v3
   have hs:=HO.out.ah hb3
   have hOk:=hs.om.ah (an w3 (.cells #[.slice a5 m c5] 22))
   have hcp:=hs.c1
   have hgs:=hs.lt
   go_wp2_with (at_builtin;refine aO rfl _ _ 25 22 rfl (.slice none 0 0) 24 underlying25 df rfl (g+1) a1 j c1 _ rfl hOk.own ⟨w3.heap.size,0,none⟩ 1 (.slice a5 m c5) rfl (ba w3 _ _) rfl (by omega) (by unfold maxLen;omega) (by simp;omega) ?_;intro a6 c6 w6 hown6 hgr6 hap6;have hk6:=(hs.AO hgr6).2.1;have hf6:=(hs.AO hgr6).2.2)
   go_roundw
   case rel =>
    have hra : a5 ≠ none->¬ cU a1 Rr (ablk a5):=λh0 hI=>by have h1:=(aY hown h0).1;have h2:=(HO.out.om.lt _ hI).2;omega
    obtain ⟨hP,hbP⟩:=hs.push Hpl.out (aX hown (by omega)) hra hown6 hgr6 hap6
    exact ⟨j+1,a6,c6,_,by omega,by go_num,by rw [Htk.out];exact hP,N2 hbr ((hb3.mono (by omega)).trans hbP)⟩
   case measure=>simp [intOf] <;> omega
  ·obtain rfl : j=n2:=by omega
   rw [No (by rw [HRl.out];exact Na _)] at hO
   have g0:=hO.c0
   have g1:=hO.c1
   have z6:=HX.out.2.2.ah hbWr
   have z0:=z6.cell 0 rfl
   have z1:=z6.cell 1 rfl
   have f0:=z6.frozen 0
   have f1:=z6.frozen 1
   have hs:=HsW.out
   have hg2:=HG.out
   have hMN : dq (g+1) wr a1 j RL:=SL hO.om
   have HF:=Z5 (Np (((hMN.setCell (p:=⟨w.heap.size+1+1,0,none⟩) (by simp;omega) (.int .i64 m)).setCell (p:=⟨w.heap.size+1+1,1,none⟩) (by simp;omega) (.slice a1 j c1)).mono (show w.heap.size<=g+1 by omega))
    ((hbwr.setCell (p:=⟨w.heap.size+1+1,0,none⟩) (by simp;omega) (.int .i64 m)).setCell (p:=⟨w.heap.size+1+1,1,none⟩) (by simp;omega) (.slice a1 j c1)))
   clear hMN z6 hO hs hg2
   go_wp2_with fail
   exact bodyPost_ret (v:=.agg #[.int .i64 m,.slice a1 j c1]) (by simp [results,results230,go_sem,z0,z1]) rfl ⟨a1,c1,rfl,HF.out.1,HF.out.2⟩
theorem lp {X w7 : World} {t : TypeId} (hb : Below (X.alloc (.cells #[.int .i64 0,.slice none 0 0] t)).heap.size (X.alloc (.cells #[.int .i64 0,.slice none 0 0] t)) w7) : aN w7 X.heap.size [.int .i64 0,.slice none 0 0] :=
 (R9 X [.int .i64 0,.slice none 0 0] t rfl).ah hb
theorem nf {X w7 : World} {t : TypeId} (hb : Below (X.alloc (.cells #[.int .i64 0,.slice none 0 0] t)).drew.heap.size (X.alloc (.cells #[.int .i64 0,.slice none 0 0] t)).drew w7) : aN w7 X.heap.size [.int .i64 0,.slice none 0 0] :=
 (R9 X [.int .i64 0,.slice none 0 0] t rfl).ah (RZ (Nc _ _).drew hb)
def sF (S : ZZ) (m : Nat) (w : World) (e : Ending) (w' : World) : Prop :=
 ∃a3 c3,e = .returned (.tuple #[.agg #[.int .i64 m,.slice a3 S.length c3],.int .i64 0])/\dq w.heap.size w' a3 S.length S/\SW w w'
theorem AJ (P M : Int) (am : OA) (mn cm : Nat) (mod : Lz) (m : Nat) (a : OA) (n c : Nat) (L : ZZ) (a' : OA) (n' c' : Nat) (L' : ZZ) (w : World)
  (hmod : Ints w am mn mod) (hi : br w a n L) (hi' : br w a' n' L') (hE : aF P M mod m L=0) (hE' : aF P M mod m L'=0) :
  Calls prog 181 #[.agg #[.int .i64 P,.int .i64 M,.slice am mn cm],.agg #[.int .i64 m,.slice a n c],.agg #[.int .i64 m,.slice a' n' c']] w (sF (bZ (af P M.toNat mod).ops m (L ++ L')) m w):=by
 obtain ⟨N',e,hm1,hm64,F,hR⟩:=aM hE;obtain rfl : m=N':=by omega
 obtain ⟨N',e',_,_,_,hR'⟩:=aM hE';obtain rfl : m=N':=by omega
 have hfB:=(aG hE).1;have hsp:=(aG hE).2.2.2;have hsp':=(aG hE').2.2.2;have hcan:=(eS hsp).2;rw [Nb] at hcan;have hln : L.length=n:=hi.len;have hln' : L'.length=n':=hi'.len;have hn64 : n<=64:=by have:=lX hE;omega
 have hn64' : n'<=64:=by have:=lX hE';omega
 have hpl : (bw (af P M.toNat mod) L m).length=n:=by rw [<- eo,hcan];exact hln
 have hPv : mg L (bw (af P M.toNat mod) L m) m:=by have h:=(bG F hR).1;rw [show bZ (af P M.toNat mod).ops m L=L from hcan] at h;exact h
 have hI:=oE hR hPv (by rw [hpl];exact hln);have hDr:=CO F hI hR';have hS : bZ (af P M.toNat mod).ops m (L ++ L')=bZ (af P M.toNat mod).ops m (bZ (af P M.toNat mod).ops m (wJ (af P M.toNat mod).ops L (bw (af P M.toNat mod) L m) L') ++ L) :=
  (L0 F hR hPv (by rw [hpl];exact hln) hR').symm
 rw [hS];have HPair : Hid (∀V,SW w V->Calls prog 229 #[.agg #[.int .i64 P,.int .i64 M,.slice am mn cm],.agg #[.int .i64 m,.slice a n c],.agg #[.int .i64 m,.slice a' n' c']] V λe w'=>∃b ap cp b2 m2 a2 n2 c2 ap2 k2 cp2,
   e = .returned (.tuple #[.agg #[.pointer (some ⟨b,0,none⟩),.int .i64 m,.slice a n c,.slice ap n cp],.agg #[.pointer (some ⟨b2,0,none⟩),.int .i64 m2,.slice a2 n2 c2,.slice ap2 k2 cp2],.int .i64 0])/\ew w' b (af P M.toNat mod)/\Ints w' ap n (bw (af P M.toNat mod) L m)/\SW V w'):=λV hV=>by refine (Jp P M am mn cm mod m a n c L a' n' c' L' V (hmod.ah hV) (hi.ah hV) (hi'.ah hV) hsp hsp').mono ?_;rintro e w' ⟨b,ap,cp,v2,rfl,⟨b2,m2,a2,n2,c2,ap2,k2,cp2,rfl⟩,h1,h2,h3⟩;rw [hpl] at h2 ⊢;exact ⟨b,ap,cp,b2,m2,a2,n2,c2,ap2,k2,cp2,rfl,h1,h2,h3⟩
 have HRe : Hid (∀V b ap cp,SW w V->ew V b (af P M.toNat mod)->Ints V ap n (bw (af P M.toNat mod) L m)->Calls prog 230 #[.agg #[.pointer (some ⟨b,0,none⟩),.int .i64 m,.slice a n c,.slice ap n cp],.agg #[.int .i64 m,.slice a' n' c']] V
   λe w'=>∃a3 c3,e = .returned (.agg #[.int .i64 m,.slice a3 n' c3])/\dq V.heap.size w' a3 n' (wJ (af P M.toNat mod).ops L (bw (af P M.toNat mod) L m) L')/\SW V w'):=λV b ap cp hV hG hp =>
  GF m a n c L ap cp _ a' n' c' L' hG (hi.ah hV) hp (hi'.ah hV) hI.ok hR' (by omega) (by omega) (by omega)
 obtain ⟨D,hD⟩ : ∃D,wJ (af P M.toNat mod).ops L (bw (af P M.toNat mod) L m) L'=D:=⟨_,rfl⟩
 rw [hD] at HRe hDr ⊢;have hDl : D.length=n':=by rw [<- hD,wJ,Nq];exact hln'
 have hfD : eJ P M mod m D=0:=kA hfB (by omega) (by omega) hDr;have HC1 : Hid (∀V a3 c3,SW w V->br V a3 n' D->Calls prog 118 #[.agg #[.int .i64 P,.int .i64 M,.slice am mn cm],.agg #[.int .i64 m,.slice a3 n' c3]] V λe w'=>∃a5 ap cp,
   e = .returned (.tuple #[.agg #[.int .i64 m,.slice a5 (bw (af P M.toNat mod) D m).length (bw (af P M.toNat mod) D m).length],.slice ap (bw (af P M.toNat mod) D m).length cp,.int .i64 0])/\dq V.heap.size w' a5 (bw (af P M.toNat mod) D m).length (bZ (af P M.toNat mod).ops m D)/\SW V w'):=λV a3 c3 hV hM=>by
  refine (lO P M am mn cm mod m a3 n' c3 D V (hmod.ah hV) hM).mono ?_;rintro e w' ⟨hb,⟨h1,_⟩ | ⟨_,m',hm',a5,ap,cp,rfl,hN,_⟩⟩
  ·exact absurd hfD h1
  ·obtain rfl : m=m':=by omega
   exact ⟨a5,ap,cp,rfl,hN,hb⟩
 have hk64 : (bw (af P M.toNat mod) D m).length<=64:=by have:=(fh (af P M.toNat mod).ops D m).1;show (aD (af P M.toNat mod).ops D m).2.length<=64;omega
 have hCl : (bZ (af P M.toNat mod).ops m D).length=(bw (af P M.toNat mod) D m).length:=eo _ _ _;have hCr:=bL F hDr;obtain ⟨k,hk⟩ : ∃k,(bw (af P M.toNat mod) D m).length=k:=⟨_,rfl⟩
 obtain ⟨C,hC⟩ : ∃C,bZ (af P M.toNat mod).ops m D=C:=⟨_,rfl⟩
 rw [hk,hC] at HC1 hCl;rw [hk] at hk64;rw [hC] at hCr ⊢;have hfX : eJ P M mod m (C ++ L)=0:=kA hfB (by omega) (by rw [Nl];omega) (ql hCr hR);have HC2 : Hid (∀V a6 c6,SW w V->br V a6 (k+n) (C ++ L)->Calls prog 118 #[.agg #[.int .i64 P,.int .i64 M,.slice am mn cm],.agg #[.int .i64 m,.slice a6 (k+n : Nat) c6]] V λe w'=>∃a7 c7 ap q cp,
   e = .returned (.tuple #[.agg #[.int .i64 m,.slice a7 (bZ (af P M.toNat mod).ops m (C ++ L)).length c7],.slice ap q cp,.int .i64 0])/\dq V.heap.size w' a7 (bZ (af P M.toNat mod).ops m (C ++ L)).length (bZ (af P M.toNat mod).ops m (C ++ L))/\SW V w'):=λV a6 c6 hV hM=>by
  refine (lO P M am mn cm mod m a6 (k+n) c6 (C ++ L) V (hmod.ah hV) hM).mono ?_;rintro e w' ⟨hb,⟨h1,_⟩ | ⟨_,m',hm',a5,ap,cp,rfl,hN,_⟩⟩
  ·exact absurd hfX h1
  ·obtain rfl : m=m':=by omega
   rw [<- eo] at hN ⊢;exact ⟨a5,_,ap,_,cp,rfl,hN,hb⟩
 have HI:=Z5 (Np hi hi');obtain ⟨S,hS2⟩ : ∃S,bZ (af P M.toNat mod).ops m (C ++ L)=S:=⟨_,rfl⟩
 rw [hS2] at HC2 ⊢;have HPost : Hid (∀a3 c3 V,dq w.heap.size V a3 S.length S->SW w V->sF S m w (.returned (.tuple #[.agg #[.int .i64 m,.slice a3 S.length c3],.int .i64 0])) V):=λa3 c3 V h1 h2=>⟨a3,c3,rfl,h1,h2⟩
 generalize sF S m w=Post at *;obtain ⟨q,hq⟩ : ∃q,S.length=q:=⟨_,rfl⟩
 rw [hq] at HC2 HPost;generalize af P M.toNat mod=G at *;generalize bw G L m=Pv at *;clear hmod hi hi' hE hE' hfB hsp hsp' hcan hpl hPv hI hDr hS hD hDl hfD hk hC hCl hCr hfX hS2 hq hR hR' F e e' hln hln';go_enter func181,ntmps181;go_upto_region 1 with fail;obtain ⟨W,hW⟩ : ∃W : World,W=(((w.alloc (.cells #[.int .i64 P,.int .i64 M,.slice am mn cm] 24)).alloc (.cells #[.int .i64 m,.slice a n c] 94)).alloc (.cells #[.int .i64 m,.slice a' n' c'] 94)).alloc (.cells #[.int .i64 0,.slice none 0 0] 94):=⟨_,rfl⟩
 rw [<- hW];have hbW : SW w W:=by rw [hW];exact RZ (mF _ _ _ _) (an _ _)
 have hsW : W.heap.size=w.heap.size+4:=by rw [hW];simp
 have x0 : aN W w.heap.size [.int .i64 P,.int .i64 M,.slice am mn cm]:=by rw [hW];exact (((R9 _ _ _ rfl).alloc _).alloc _).alloc _
 have x1 : aN W (w.heap.size+1) [.int .i64 m,.slice a n c]:=by rw [hW];exact ((R9 _ _ _ (by simp)).alloc _).alloc _
 have x2 : aN W (w.heap.size+1+1) [.int .i64 m,.slice a' n' c']:=by rw [hW];exact (R9 _ _ _ (by simp)).alloc _
 have x3 : aN W (w.heap.size+1+1+1) [.int .i64 0,.slice none 0 0]:=by rw [hW];exact R9 _ _ _ (by simp)
 clear hW;have HX : Hid (∀V,SW W V->V.cell? ⟨w.heap.size,0,none⟩=some (.int .i64 P)/\V.cell? ⟨w.heap.size,1,none⟩=some (.int .i64 M)/\V.cell? ⟨w.heap.size,2,none⟩=some (.slice am mn cm)/\V.cell? ⟨w.heap.size+1,0,none⟩=some (.int .i64 m)/\V.cell? ⟨w.heap.size+1,1,none⟩=some (.slice a n c)/\V.cell? ⟨w.heap.size+1+1,0,none⟩=some (.int .i64 m)/\V.cell? ⟨w.heap.size+1+1,1,none⟩=some (.slice a' n' c')):=λV hV=>by have a0:=x0.ah hV;have a1:=x1.ah hV;have a2:=x2.ah hV;exact ⟨a0.cell 0 rfl,a0.cell 1 rfl,a0.cell 2 rfl,a1.cell 0 rfl,a1.cell 1 rfl,a2.cell 0 rfl,a2.cell 1 rfl⟩
 have HX3:=Z5 x3;have HbW:=Z5 hbW;have HsW:=Z5 hsW;clear x0 x1 x2 x3 hbW hsW;go_cut [8,10] (λv8 v10 wx=>v10 = .int .i64 0/\∃g b ap cp,v8 = .pointer (some ⟨g,0,none⟩)/\Hid (aN wx g [.pointer (some ⟨b,0,none⟩),.int .i64 m,.slice a n c,.slice ap n cp])/\Hid (ew wx b G)/\Hid (Ints wx ap n Pv)/\SW W wx);case first =>
  obtain ⟨c0,c1,c2,d0,d1,e0,e1⟩:=HX.out W (Nc _ _)
  go_wp2_with fail
  refine (HPair.out W HbW.out).mono ?_
  rintro e w1 ⟨b,ap,cp,b9,m9,a9,n9,d9,ap9,k9,cp9,rfl,hG,hP,hb1⟩
  have HG:=Z5 (Np hG hP)
  clear c0 c1 c2 d0 d1 e0 e1 hG hP
  go_wp2_with fail
  go_meet
  have hbn:=bN w1 (.cells #[.pointer (some ⟨b,0,none⟩),.int .i64 m,.slice a n c,.slice ap n cp] 210) (.cells #[.pointer (some ⟨b9,0,none⟩),.int .i64 m9,.slice a9 n9 d9,.slice ap9 k9 cp9] 210)
  exact ⟨rfl,w1.heap.size,b,ap,cp,rfl,(R9 w1 [.pointer (some ⟨b,0,none⟩),.int .i64 m,.slice a n c,.slice ap n cp] _ rfl).alloc _,HG.out.1.ah hbn,HG.out.2.ah hbn,RZ hb1 hbn⟩
 obtain ⟨rfl,g,b,ap,cp,rfl,HV,HG,HP,hb1⟩:=hcut;generalize wc=U at *;have hF1:=RZ HbW.out hb1;have HS5 : Hid (∀V,SW U V->V.cell? ⟨w.heap.size,0,none⟩=some (.int .i64 P)/\V.cell? ⟨w.heap.size,1,none⟩=some (.int .i64 M)/\V.cell? ⟨w.heap.size,2,none⟩=some (.slice am mn cm)/\V.cell? ⟨w.heap.size+1+1,0,none⟩=some (.int .i64 m)/\V.cell? ⟨w.heap.size+1+1,1,none⟩=some (.slice a' n' c') /\
   V.cell? ⟨g,0,none⟩=some (.pointer (some ⟨b,0,none⟩))/\V.cell? ⟨g,1,none⟩=some (.int .i64 m)/\V.cell? ⟨g,2,none⟩=some (.slice a n c)/\V.cell? ⟨g,3,none⟩=some (.slice ap n cp)/\SW U V):=λV hV=>by obtain ⟨q0,q1,q2,_,_,q5,q6⟩:=HX.out V (RZ hb1 hV);have y:=HV.out.ah hV;exact ⟨q0,q1,q2,q5,q6,y.cell 0 rfl,y.cell 1 rfl,y.cell 2 rfl,y.cell 3 rfl,hV⟩
 have HR1:=Z5 (λV (hV : SW U V)=>HRe.out V b ap cp (RZ hF1 hV) (HG.out.ah hV) (HP.out.ah hV));have HK1:=Z5 (λV a3 c3 (hV : SW U V) h=>HC1.out V a3 c3 (RZ hF1 hV) h);obtain ⟨c0,c1,c2,e0,e1,g0,g1,g2,g3,_⟩:=HS5.out U (Nc _ _);go_upto_region 4 with fail;go_cut [11,10] (λv11 v10 wx=>v10 = .int .i64 0/\∃h a5,v11 = .pointer (some ⟨h,0,none⟩)/\Hid (aN wx h [.int .i64 m,.slice a5 k k])/\Hid (U.heap.size<=h)/\Hid (jz (λb=>b=h) wx a5 k C)/\SW U wx);case first =>
  go_region_held3 (λV=>V.cell? ⟨w.heap.size,0,none⟩=some (.int .i64 P)/\V.cell? ⟨w.heap.size,1,none⟩=some (.int .i64 M)/\V.cell? ⟨w.heap.size,2,none⟩=some (.slice am mn cm)/\V.cell? ⟨w.heap.size+1+1,0,none⟩=some (.int .i64 m)/\V.cell? ⟨w.heap.size+1+1,1,none⟩=some (.slice a' n' c') /\
   V.cell? ⟨g,0,none⟩=some (.pointer (some ⟨b,0,none⟩))/\V.cell? ⟨g,1,none⟩=some (.int .i64 m)/\V.cell? ⟨g,2,none⟩=some (.slice a n c)/\V.cell? ⟨g,3,none⟩=some (.slice ap n cp)/\SW U V)
   ((refine HS5.out _ ?_;first | exact (Nc _ _).drew | assumption | (go_split_ands;first | assumption | exact RZ (by assumption) (an _ _) | exact (RZ (by assumption) (an _ _)).drew | exact RZ (by assumption) (by assumption) | exact P2 (P2 (by assumption) (by first | exact hB2.size | exact hB3.size | simp) _) (by first | exact hB2.size | exact hB3.size | simp) _)))
   (first
    | (go_at_call 230;((with_reducible refine (HR1.out _ (by go_split_ands;assumption)).mono ?_);rintro e w2 ⟨a3,k3,rfl,hM3,hb2⟩;have hB2 : SW U w2:=(by go_split_ands;exact RZ (by assumption) hb2);have HM3:=Z5 hM3.jt;clear hM3;(first | (have HB2:=Z5 (nf hb2)) | (have HB2:=Z5 (lp hb2)) | skip)))
    | (go_at_call 118;((with_reducible refine (HK1.out _ a3 k3 (by go_split_ands;assumption) (by first | exact HM3.out | exact HM3.out.ah (an _ _) | exact HM3.out.ah (an _ _).drew | exact HM3.out.ah (Nc _ _).drew)).mono ?_);rintro e w3 ⟨a5,ap5,cp5,rfl,hM5,hb3⟩;have hB3 : SW U w3:=(by go_split_ands;exact RZ (by assumption) hb3);have HM5:=Z5 hM5;clear hM5;(first | (have HB3:=Z5 (nf hb3)) | (have HB3:=Z5 (lp hb3)) | (have HB3:=Z5 (HB2.out.ah hb3)) | skip);(first | (have z0:=HB3.out.cell 0 rfl;have z1:=HB3.out.cell 1 rfl;have f0:=HB3.out.frozen 0;have f1:=HB3.out.frozen 1) | skip))))
  all_goals (
   go_wp2_with fail
   go_meet
   first
    | exact ⟨rfl,_,a5,rfl,R9 w3 [.int .i64 m,.slice a5 k k] _ rfl,hB3.size,(jz.IG HM5.out.jt (λb hb=>by rw [show b=w3.heap.size from hb];exact Na _)).ah (an _ _),by go_split_ands;assumption⟩
    | exact ⟨rfl,_,a5,rfl,(HB3.out.setCell 0 (.int .i64 m)).setCell 1 (.slice a5 k k),(by first | exact hB2.size | exact Na _),HM5.out.M1 (by first | exact HB2.out.1 | simp) _ _,by go_split_ands;assumption⟩)
 obtain ⟨rfl,h,a5,rfl,HBx,HUh,HMA,hbV⟩:=hcut;generalize wc=V at *;have hF2:=RZ hF1 hbV;clear c0 c1 c2 e0 e1 g0 g1 g2 g3;have HXV : Hid (∀X,SW U X->X.cell? ⟨w.heap.size,0,none⟩=some (.int .i64 P)/\X.cell? ⟨w.heap.size,1,none⟩=some (.int .i64 M)/\X.cell? ⟨w.heap.size,2,none⟩=some (.slice am mn cm)/\X.cell? ⟨w.heap.size+1,1,none⟩=some (.slice a n c)):=λX hX=>by obtain ⟨q0,q1,q2,_,q4,_⟩:=HX.out X (RZ hb1 hX);exact ⟨q0,q1,q2,q4⟩
 obtain ⟨c0,c1,c2,e1⟩:=HXV.out V hbV;have h0:=HBx.out.cell 0 rfl;have h1:=HBx.out.cell 1 rfl;have hwU:=hF1.size;have hLA : jz (λb=>b=h) V a n L:=(jz.IG HI.out.1 (λb hb=>by rw [show b=h from hb];exact Nr hwU HUh.out)).ah hF2;have HLA:=Z5 hLA;have hhV:=HBx.out.1;have HhV:=Z5 hhV;clear hLA hhV hwU;go_wp2_with (at_builtin;refine xX rfl _ _ 25 22 rfl 24 underlying25 df (λb=>b=h) (λb hb=>by rw [show b=h from hb];exact HhV.out) a5 k C rfl HMA.out a n c L rfl HLA.out (by omega) (by unfold maxLen;omega) ?_;intro a6 c6 w6 hM6 hb6;have k1:=(HBx.out.ah hb6).cell 1 rfl;have k0:=(HBx.out.ah hb6).cell 0 rfl;have f1:=(HBx.out.ah hb6).frozen 1;have hbU6:=RZ hbV hb6;have hM7:=(hM6.dD (aE.wL (I:=λb=>b=h) (p:=⟨h,1,none⟩) w6 rfl (.slice a6 (k+n) c6))).jt;have hb7 : SW U (w6.setCell ⟨h,1,none⟩ (.slice a6 (k+n) c6)):=hbU6.setCell (p:=⟨h,1,none⟩) HUh.out _;have hC7:=HC2.out _ a6 c6 (RZ hF1 hb7) hM7;obtain ⟨r0,r1,r2,_⟩:=HXV.out _ hb7;have y7:=(HBx.out.ah hb6).setCell 1 (.slice a6 (k+n) c6);have s0:=y7.cell 0 rfl;have s1:=y7.cell 1 rfl);refine hC7.mono ?_;rintro e w8 ⟨a7,c7,ap7,q7,cp7,rfl,hN7,hb8⟩;have hbU8:=RZ hb7 hb8;have hF8:=RZ hF1 hbU8;have x3:=HX3.out.ah (RZ hb1 hbU8);have z0:=x3.cell 0 rfl;have z1:=x3.cell 1 rfl;have g0:=x3.frozen 0;have g1:=x3.frozen 1;have hs:=HsW.out;have hs1:=hb1.size;have hs2:=hb7.size;rw [Rn] at hs2;have hz : w.heap.size+1+1+1<w8.heap.size:=x3.1;have HFin : Hid (dq w.heap.size (((w8.setCell ⟨w.heap.size+1+1+1,0,none⟩ (.int .i64 m)).setCell ⟨w.heap.size+1+1+1,1,none⟩ (.slice a7 q c7)).alloc (.cells #[.int .i64 m,.slice a7 q c7] 94)) a7 q S /\
   SW w (((w8.setCell ⟨w.heap.size+1+1+1,0,none⟩ (.int .i64 m)).setCell ⟨w.heap.size+1+1+1,1,none⟩ (.slice a7 q c7)).alloc (.cells #[.int .i64 m,.slice a7 q c7] 94))) :=
  ⟨(((hN7.setCell (p:=⟨w.heap.size+1+1+1,0,none⟩) (by simp;omega) _).setCell (p:=⟨w.heap.size+1+1+1,1,none⟩) (by simp;omega) _).ah (an _ _)).mono (by simp;omega),
   RZ ((hF8.setCell (p:=⟨w.heap.size+1+1+1,0,none⟩) (by simp;omega) _).setCell (p:=⟨w.heap.size+1+1+1,1,none⟩) (by simp;omega) _) (an _ _)⟩
 clear r0 r1 r2 s0 s1 k0 k1 f1 hN7 hM6 hM7 y7 x3 c0 c1 c2 e1 h0 h1;go_wp2_with fail;exact bodyPost_ret (v:=.tuple #[.agg #[.int .i64 m,.slice a7 q c7],.int .i64 0]) (by simp [results,results181,go_sem,z0,z1,hz]) rfl (HPost.out a7 c7 _ HFin.out.1 HFin.out.2)
section
open Go.RowKit
end
section
open Go.RowKit
end
section
open Go.RowKit
end
section
open Go.RowKit
end
section
open Go.RowKit
end
section
open Go.RowKit
end
section
open Go.RowKit
end
theorem aE.JX {U w w' : World} {I : Nat->Prop} {a : OA} {n c : Nat} (h : aE U w I I) (hg : w.grownBy w' (Value.slice a n c).ownBlock) (hI : a ≠ none->I (ablk a)\/U.heap.size<=ablk a) : aE U w' I I :=
 ⟨hg.os.trans h.os,hg.tape.trans h.tape,hg.output.trans h.output,Nr h.size hg.size,λb hb hIb=>(hg.block b (NR hb h.size) (λe=>by
  by_cases ha : gE a b
  ·exact ha.own n c e.symm
  ·have h1 : a ≠ none:=λh=>ha (.inl h);have h2 : ablk a=b:=NH λh=>ha (.inr h);rw [h2] at hI;rcases hI h1 with h3 | h3
   ·exact hIb h3
   ·omega)).trans (h.block b hb hIb),λb hb=>.inl hb⟩
section
open Go.RowKit
end
section
open Go.RowKit
end
section
open Go.RowKit
end
section
open Go.RowKit
end
end Go.Proofs.YthglbncgemdcbaaGreat
