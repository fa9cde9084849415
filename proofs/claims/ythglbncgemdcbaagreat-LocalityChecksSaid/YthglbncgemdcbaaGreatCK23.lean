import Derived.Test.YthglbncgemdcbaaGreatCK22
namespace Go.Proofs.YthglbncgemdcbaaGreat
set_option linter.all false
set_option maxRecDepth 100000
set_option maxHeartbeats 8000000
open Go.RowKit Go.Proofs.Tryz
def uy (P M : Int) (mod : LI) (c r k : Int) (w : World) (e : Ending) (w' : World) : Prop :=
 OC w w'/\((AW P M mod c r k ≠ 0/\e = .returned (.tuple #[.agg #[.int .i64 0,.int .i64 0,.slice none 0 0,.int .i64 0,.slice none 0 0],.int .i64 (AW P M mod c r k)])) \/
  (AW P M mod c r k=0/\∃a1 c1 a2 c2,e = .returned (.tuple #[.agg #[.int .i64 P,.int .i64 M,.slice a1 mod.length c1,.int .i64 ((r.toNat+1) * c.toNat : Nat),.slice a2 (Fv P M mod c.toNat r.toNat k.toNat).length c2],.int .i64 0])/\bJ w.heap.size w' a1 mod.length mod /\
  b8 w.heap.size w' a2 (Fv P M mod c.toNat r.toNat k.toNat).length (Fv P M mod c.toNat r.toNat k.toNat)))
theorem Et (P M : Int) (am : OA) (mn cm : Nat) (mod : LI) (c r k : Int) (w : World) (hmod : Ints w am mn mod) (hmn : mn<=1000000) :
  Calls prog 25 #[.agg #[.int .i64 P,.int .i64 M,.slice am mn cm],.int .i64 c,.int .i64 r,.int .i64 k] w (uy P M mod c r k w):=by
 have HNew : Hid (∀V,OC w V->Calls prog 52 #[.agg #[.int .i64 P,.int .i64 M,.slice am mn cm]] V (BD P M mod V)):=λV hV=>dB P M am mn cm mod V (hmod.af hV);have HE1 : Hid (bq P M mod=false->AW P M mod c r k=1):=I4;have HPe : Hid (∀E w',E ≠ 0->AW P M mod c r k=E->OC w w'->uy P M mod c r k w (.returned (.tuple #[.agg #[.int .i64 0,.int .i64 0,.slice none 0 0,.int .i64 0,.slice none 0 0],.int .i64 E])) w'):=λE w' h0 h1 h2=>⟨h2,.inl ⟨by rw [h1];exact h0,by rw [h1]⟩⟩
 have HP0 : Hid (∀a1 c1 a2 c2 w',AW P M mod c r k=0->bJ w.heap.size w' a1 mod.length mod->b8 w.heap.size w' a2 (Fv P M mod c.toNat r.toNat k.toNat).length (Fv P M mod c.toNat r.toNat k.toNat)->OC w w' ->
   uy P M mod c r k w (.returned (.tuple #[.agg #[.int .i64 P,.int .i64 M,.slice a1 mod.length c1,.int .i64 ((r.toNat+1) * c.toNat : Nat),.slice a2 (Fv P M mod c.toNat r.toNat k.toNat).length c2],.int .i64 0])) w'):=λa1 c1 a2 c2 w' h0 h1 h2 h3=>⟨h3,.inr ⟨h0,a1,c1,a2,c2,rfl,h1,h2⟩⟩
 generalize hPost : uy P M mod c r k w=Post at *;clear hPost;have HBt : Hid (∀n V,Calls prog 64 #[.int .i64 n] V λe w'=>e = .returned (.bool (decide (1<=n) && decide (n<=64)))/\w'=V):=su;have Hmod:=Z5 (JZ hmod hmn);clear hmod hmn;go_enter func25,ntmps25;go_upto_region 1 with fail;obtain ⟨W,hW⟩ : ∃W : World,W=((w.alloc (.cells #[.int .i64 P,.int .i64 M,.slice am mn cm] 24)).alloc (.cells #[.int .i64 0,.int .i64 0,.slice none 0 0,.int .i64 0,.slice none 0 0] 27)):=⟨_,rfl⟩
 rw [<- hW];have hbW : OC w W:=by rw [hW];exact ((JP _ _).alloc (JO _) _).alloc (by simp) _
 have hsW : W.heap.size=w.heap.size+2:=by rw [hW];simp
 have x0 : aO W w.heap.size [.int .i64 P,.int .i64 M,.slice am mn cm]:=by rw [hW];exact (NY _ _ _ rfl).alloc _
 have z0 : aO W (w.heap.size+1) [.int .i64 0,.int .i64 0,.slice none 0 0,.int .i64 0,.slice none 0 0]:=by rw [hW];exact NY _ _ _ (by simp)
 clear hW;have HX:=Z5 (JZ x0 z0);have HbW:=Z5 hbW;have HsW:=Z5 hsW;have HZ : Hid (∀V,OC W V->V.cell? ⟨w.heap.size+1,0,none⟩=some (.int .i64 0)/\V.cell? ⟨w.heap.size+1,1,none⟩=some (.int .i64 0)/\V.cell? ⟨w.heap.size+1,2,none⟩=some (.slice none 0 0)/\V.cell? ⟨w.heap.size+1,3,none⟩=some (.int .i64 0)/\V.cell? ⟨w.heap.size+1,4,none⟩=some (.slice none 0 0) /\
   V.frozen? ⟨w.heap.size+1,0,none⟩=false/\V.frozen? ⟨w.heap.size+1,1,none⟩=false/\V.frozen? ⟨w.heap.size+1,2,none⟩=false/\V.frozen? ⟨w.heap.size+1,3,none⟩=false/\V.frozen? ⟨w.heap.size+1,4,none⟩=false):=λV hV=>by have z1:=z0.af hV;exact ⟨z1.cell 0 rfl,z1.cell 1 rfl,z1.cell 2 rfl,z1.cell 3 rfl,z1.cell 4 rfl,z1.frozen 0,z1.frozen 1,z1.frozen 2,z1.frozen 3,z1.frozen 4⟩
 have HEr : Hid (∀E V,OC W V->E ≠ 0->AW P M mod c r k=E->Post (.returned (.tuple #[.agg #[.int .i64 0,.int .i64 0,.slice none 0 0,.int .i64 0,.slice none 0 0],.int .i64 E])) (((((V.setCell ⟨w.heap.size+1,0,none⟩ (.int .i64 0)).setCell ⟨w.heap.size+1,1,none⟩ (.int .i64 0)).setCell ⟨w.heap.size+1,2,none⟩ (.slice none 0 0)).setCell ⟨w.heap.size+1,3,none⟩ (.int .i64 0)).setCell ⟨w.heap.size+1,4,none⟩ (.slice none 0 0))):=λE V hV h0 h1 =>
  HPe.out E _ h0 h1 (((((NX hbW hV).setCell (by simp) _).setCell (by simp) _).setCell (by simp) _).setCell (by simp) _ |>.setCell (by simp) _)
 have HZ5 : Hid (∀V,OC W V->(((((V.setCell ⟨w.heap.size+1,0,none⟩ (.int .i64 0)).setCell ⟨w.heap.size+1,1,none⟩ (.int .i64 0)).setCell ⟨w.heap.size+1,2,none⟩ (.slice none 0 0)).setCell ⟨w.heap.size+1,3,none⟩ (.int .i64 0)).setCell ⟨w.heap.size+1,4,none⟩ (.slice none 0 0)).cell? ⟨w.heap.size+1,0,none⟩=some (.int .i64 0)/\(((((V.setCell ⟨w.heap.size+1,0,none⟩ (.int .i64 0)).setCell ⟨w.heap.size+1,1,none⟩ (.int .i64 0)).setCell ⟨w.heap.size+1,2,none⟩ (.slice none 0 0)).setCell ⟨w.heap.size+1,3,none⟩ (.int .i64 0)).setCell ⟨w.heap.size+1,4,none⟩ (.slice none 0 0)).cell? ⟨w.heap.size+1,1,none⟩=some (.int .i64 0)/\(((((V.setCell ⟨w.heap.size+1,0,none⟩ (.int .i64 0)).setCell ⟨w.heap.size+1,1,none⟩ (.int .i64 0)).setCell ⟨w.heap.size+1,2,none⟩ (.slice none 0 0)).setCell ⟨w.heap.size+1,3,none⟩ (.int .i64 0)).setCell ⟨w.heap.size+1,4,none⟩ (.slice none 0 0)).cell? ⟨w.heap.size+1,2,none⟩=some (.slice none 0 0)/\(((((V.setCell ⟨w.heap.size+1,0,none⟩ (.int .i64 0)).setCell ⟨w.heap.size+1,1,none⟩ (.int .i64 0)).setCell ⟨w.heap.size+1,2,none⟩ (.slice none 0 0)).setCell ⟨w.heap.size+1,3,none⟩ (.int .i64 0)).setCell ⟨w.heap.size+1,4,none⟩ (.slice none 0 0)).cell? ⟨w.heap.size+1,3,none⟩=some (.int .i64 0)/\(((((V.setCell ⟨w.heap.size+1,0,none⟩ (.int .i64 0)).setCell ⟨w.heap.size+1,1,none⟩ (.int .i64 0)).setCell ⟨w.heap.size+1,2,none⟩ (.slice none 0 0)).setCell ⟨w.heap.size+1,3,none⟩ (.int .i64 0)).setCell ⟨w.heap.size+1,4,none⟩ (.slice none 0 0)).cell? ⟨w.heap.size+1,4,none⟩=some (.slice none 0 0)):=λV hV=>by have z1:=(((((z0.af hV).setCell 0 (.int .i64 0)).setCell 1 (.int .i64 0)).setCell 2 (.slice none 0 0)).setCell 3 (.int .i64 0)).setCell 4 (.slice none 0 0);exact ⟨z1.cell 0 rfl,z1.cell 1 rfl,z1.cell 2 rfl,z1.cell 3 rfl,z1.cell 4 rfl⟩
 have c0:=x0.cell 0 rfl;have c1:=x0.cell 1 rfl;have c2:=x0.cell 2 rfl;clear x0 z0 hbW hsW;go_wp2_with fail;refine (HNew.out W HbW.out).mono ?_;rintro e U hpost;rcases hpost with ⟨hB,rfl,hb1⟩ | ⟨hB,b,rfl,hG,hbge,hb1⟩
 ·have HF:=Z5 (HEr.out 1 U hb1 (by decide) (HE1.out hB));obtain ⟨z0,z1,z2,z3,z4,f0,f1,f2,f3,f4⟩:=HZ.out U hb1;obtain ⟨y0,y1,y2,y3,y4⟩:=HZ5.out U hb1;clear hB c0 c1 c2;go_wp2_with fail;exact bodyPost_ret (v:=.tuple #[.agg #[.int .i64 0,.int .i64 0,.slice none 0 0,.int .i64 0,.slice none 0 0],.int .i64 1]) (by simp [results,results25,go_sem,y0,y1,y2,y3,y4]) rfl HF.out
 clear HE1 HNew c0 c1 c2;have hGU : ee U b (ah P M.toNat mod):=hG.gf;have HG:=Z5 hGU;have O:=Z5 hb1;have HB:=Z5 hB;have HE6 : Hid (∀V,OC W V->(c<1\/64<c\/r<1\/64<r\/k<1\/64<k)->Post (.returned (.tuple #[.agg #[.int .i64 0,.int .i64 0,.slice none 0 0,.int .i64 0,.slice none 0 0],.int .i64 6])) (((((V.setCell ⟨w.heap.size+1,0,none⟩ (.int .i64 0)).setCell ⟨w.heap.size+1,1,none⟩ (.int .i64 0)).setCell ⟨w.heap.size+1,2,none⟩ (.slice none 0 0)).setCell ⟨w.heap.size+1,3,none⟩ (.int .i64 0)).setCell ⟨w.heap.size+1,4,none⟩ (.slice none 0 0))):=λV hV h =>
  HEr.out 6 V hV (by decide) (I8 hB h)
 clear hG hbge hb1 hB;obtain ⟨q,hq⟩ : ∃q,(ah P M.toNat mod).q=q:=⟨_,rfl⟩
 have HOr : Hid (∀V,OC U V->Calls prog 63 #[.pointer (some ⟨b,0,none⟩)] V λe w'=>e = .returned (.int .i64 q)/\V=w'):=λV hV=>by rw [<- hq];exact AD (hGU.af hV)
 have hq2 : 2<=q/\q<=256:=by have:=hGU.q2;have:=hGU.q256;omega
 clear hGU;go_wp2_with fail;refine (HOr.out U (JP _ _)).mono ?_;rintro e V ⟨rfl,rfl⟩;by_cases hc : 1<=c/\c<=64;case neg =>
  have hb : (decide (1<=c) && decide (c<=64))=false:=by simp;omega
  have H1:=HBt.out c
  rw [hb] at H1
  have H1:=Z5 H1
  have HF:=Z5 (HE6.out U O.out (by omega))
  obtain ⟨z0,z1,z2,z3,z4,f0,f1,f2,f3,f4⟩:=HZ.out U O.out
  obtain ⟨y0,y1,y2,y3,y4⟩:=HZ5.out U O.out
  clear hb hc
  go_wp2_with fail
  refine (H1.out U).mono ?_
  rintro e V ⟨rfl,rfl⟩
  go_wp2_with fail
  exact bodyPost_ret (v:=.tuple #[.agg #[.int .i64 0,.int .i64 0,.slice none 0 0,.int .i64 0,.slice none 0 0],.int .i64 6]) (by simp [results,results25,go_sem,y0,y1,y2,y3,y4]) rfl HF.out
 have hb1 : (decide (1<=c) && decide (c<=64))=true:=by simp;omega
 have H1:=HBt.out c;rw [hb1] at H1;have H1:=Z5 H1;clear hb1;by_cases hr : 1<=r/\r<=64;case neg =>
  have hb : (decide (1<=r) && decide (r<=64))=false:=by simp;omega
  have H2:=HBt.out r
  rw [hb] at H2
  have H2:=Z5 H2
  have HF:=Z5 (HE6.out U O.out (by omega))
  obtain ⟨z0,z1,z2,z3,z4,f0,f1,f2,f3,f4⟩:=HZ.out U O.out
  obtain ⟨y0,y1,y2,y3,y4⟩:=HZ5.out U O.out
  clear hb hc hr
  go_wp2_with fail
  refine (H1.out U).mono ?_
  rintro e V ⟨rfl,rfl⟩
  go_wp2_with fail
  refine (H2.out V).mono ?_
  rintro e V ⟨rfl,rfl⟩
  go_wp2_with fail
  exact bodyPost_ret (v:=.tuple #[.agg #[.int .i64 0,.int .i64 0,.slice none 0 0,.int .i64 0,.slice none 0 0],.int .i64 6]) (by simp [results,results25,go_sem,y0,y1,y2,y3,y4]) rfl HF.out
 have hb2 : (decide (1<=r) && decide (r<=64))=true:=by simp;omega
 have H2:=HBt.out r;rw [hb2] at H2;have H2:=Z5 H2;clear hb2;by_cases hk : 1<=k/\k<=64;case neg =>
  have hb : (decide (1<=k) && decide (k<=64))=false:=by simp;omega
  have H3:=HBt.out k
  rw [hb] at H3
  have H3:=Z5 H3
  have HF:=Z5 (HE6.out U O.out (by omega))
  obtain ⟨z0,z1,z2,z3,z4,f0,f1,f2,f3,f4⟩:=HZ.out U O.out
  obtain ⟨y0,y1,y2,y3,y4⟩:=HZ5.out U O.out
  clear hb hc hr hk
  go_wp2_with fail
  refine (H1.out U).mono ?_
  rintro e V ⟨rfl,rfl⟩
  go_wp2_with fail
  refine (H2.out V).mono ?_
  rintro e V ⟨rfl,rfl⟩
  go_wp2_with fail
  refine (H3.out V).mono ?_
  rintro e V ⟨rfl,rfl⟩
  go_wp2_with fail
  exact bodyPost_ret (v:=.tuple #[.agg #[.int .i64 0,.int .i64 0,.slice none 0 0,.int .i64 0,.slice none 0 0],.int .i64 6]) (by simp [results,results25,go_sem,y0,y1,y2,y3,y4]) rfl HF.out
 have hb3 : (decide (1<=k) && decide (k<=64))=true:=by simp;omega
 have H3:=HBt.out k;rw [hb3] at H3;have H3:=Z5 H3;clear hb3 HE6 HBt;go_wp2_with fail;refine (H1.out U).mono ?_;rintro e V ⟨rfl,rfl⟩;go_wp2_with fail;refine (H2.out V).mono ?_;rintro e V ⟨rfl,rfl⟩;go_wp2_with fail;refine (H3.out V).mono ?_;rintro e U ⟨rfl,rfl⟩;clear H1 H2 H3;obtain ⟨cn,F⟩ : ∃n : Nat,c=n:=⟨c.toNat,by omega⟩
 obtain ⟨C,hrn⟩ : ∃n : Nat,r=n:=⟨r.toNat,by omega⟩
 obtain ⟨kn,hkn⟩ : ∃n : Nat,k=n:=⟨k.toNat,by omega⟩
 obtain ⟨Q,hqQ⟩ : ∃Q,q=Q+1:=⟨q - 1,by omega⟩
 have hin:=Io (c:=cn) (r:=C) (k:=kn) HB.out (hq.trans hqQ) (by omega) (by omega) (by omega);rw [<- F,<- hrn,<- hkn] at hin;obtain ⟨R,hR⟩ : ∃R,C+1=R:=⟨_,rfl⟩
 rw [hR] at hin;obtain ⟨x1,hx1⟩ : ∃x,Q % R=x:=⟨_,rfl⟩
 obtain ⟨yq,hy1⟩ : ∃x,Q / R=x:=⟨_,rfl⟩
 obtain ⟨L,hZ1⟩ : ∃x,cn * R=x:=⟨_,rfl⟩
 obtain ⟨Z2,hZ2⟩ : ∃x,cn * C=x:=⟨_,rfl⟩
 rw [hx1,hy1,hZ1,hZ2] at hin;have hyQ : yq<=Q:=by rw [<- hy1];exact NS _ _
 have hZ1b : L<=64 * 65:=by rw [<- hZ1];exact LY (by omega) (by omega)
 have hZ2b : Z2<=64 * 64:=by rw [<- hZ2];exact LY (by omega) (by omega)
 obtain ⟨Ri,hRi⟩ : ∃Ri : Int,Ri=(R : Int):=⟨_,rfl⟩
 obtain ⟨Qi,hQi⟩ : ∃Qi : Int,Qi=(Q : Int):=⟨_,rfl⟩
 obtain ⟨xi,hxi⟩ : ∃xi : Int,xi=(x1 : Int):=⟨_,rfl⟩
 obtain ⟨yi,hyi⟩ : ∃yi : Int,yi=(yq : Int):=⟨_,rfl⟩
 obtain ⟨zi,hzi⟩ : ∃zi : Int,zi=(L : Int):=⟨_,rfl⟩
 obtain ⟨ti,hti⟩ : ∃ti : Int,ti=(Z2 : Int):=⟨_,rfl⟩
 have wR : IntKind.i64.wrap (r+1)=Ri:=by rw [show r+1=Ri by omega];exact J3 _ (by omega)
 have wQ : IntKind.i64.wrap ((q : Int) - 1)=Qi:=by rw [show (q : Int) - 1=Qi by omega];exact J3 _ (by omega)
 have hR0 : (Ri == 0)=false:=by rw [beq_eq_false_iff_ne];omega
 have hR0p : Ri ≠ 0:=by omega
 have tx : Qi.tmod Ri=xi:=by rw [hRi,hQi,hxi,K3 (by omega),<- hx1];simp
 have ty : Qi.tdiv Ri=yi:=by rw [hRi,hQi,hyi,Int.tdiv_eq_ediv_of_nonneg (by omega),<- hy1];simp
 have wy : IntKind.i64.wrap yi=yi:=J3 _ (by omega);have wZ1 : IntKind.i64.wrap (c * Ri)=zi:=by rw [show c * Ri=zi by rw [F,hRi,hzi,<- hZ1];simp];exact J3 _ (by omega)
 have wZ2 : IntKind.i64.wrap (c * r)=ti:=by rw [show c * r=ti by rw [F,hrn,hti,<- hZ2];simp];exact J3 _ (by omega)
 have hin:=Z5 hin;have HDef:=Z5 (JZ hR (JZ hx1 (JZ hy1 (JZ hZ1 hZ2))));have HRi:=Z5 (JZ hRi (JZ hQi (JZ hqQ (JZ hxi (JZ hyi (JZ hzi hti))))));have Y:=Z5 (JZ hc (JZ hr (JZ hk (JZ hyQ (JZ hZ1b (JZ hZ2b (JZ hq (JZ hq2 (JZ F (JZ hrn hkn))))))))));have HD1 : Hid (xi ≠ 0->x1 ≠ 0):=λh h2=>h (by omega);have HD2 : Hid (yi<c ↔ yq<cn):=by show _ ↔ _;omega
 have HD3 : Hid (64<zi ↔ 64<L):=by show _ ↔ _;omega
 have HD4 : Hid (ti<k ↔ Z2<kn):=by show _ ↔ _;omega
 clear hR hx1 hy1 hZ1 hZ2 hRi hQi hqQ hc hr hk hyQ hZ1b hZ2b hq hq2 hxi hyi hzi hti F hrn hkn;by_cases h1 : xi=0;case neg =>
  have d1 : (xi != 0)=true:=by simp;omega
  have HF:=Z5 (HEr.out 10 U O.out (by decide) (by rw [hin.out,JT (.inl (HD1.out h1))]))
  obtain ⟨z0,z1,z2,z3,z4,f0,f1,f2,f3,f4⟩:=HZ.out U O.out
  obtain ⟨y0,y1,y2,y3,y4⟩:=HZ5.out U O.out
  clear h1
  go_wp2_with fail
  exact bodyPost_ret (v:=.tuple #[.agg #[.int .i64 0,.int .i64 0,.slice none 0 0,.int .i64 0,.slice none 0 0],.int .i64 10]) (by simp [results,results25,go_sem,y0,y1,y2,y3,y4]) rfl HF.out
 have d1 : (xi != 0)=false:=by simp;omega
 by_cases h2 : yi<c;case pos =>
  have d2 : decide (yi<c)=true:=Kc h2
  have HF:=Z5 (HEr.out 10 U O.out (by decide) (by rw [hin.out,JT (.inr (HD2.out.1 h2))]))
  obtain ⟨z0,z1,z2,z3,z4,f0,f1,f2,f3,f4⟩:=HZ.out U O.out
  obtain ⟨y0,y1,y2,y3,y4⟩:=HZ5.out U O.out
  clear h1 h2
  go_wp2_with fail
  exact bodyPost_ret (v:=.tuple #[.agg #[.int .i64 0,.int .i64 0,.slice none 0 0,.int .i64 0,.slice none 0 0],.int .i64 10]) (by simp [results,results25,go_sem,y0,y1,y2,y3,y4]) rfl HF.out
 have d2 : decide (yi<c)=false:=Kb h2;have hx10 : x1=0:=by have:=HRi.out.2.2.2.1;omega
 have D:=hin.out;rw [JR (by rintro (h | h);exact h hx10;exact h2 (HD2.out.2 h))] at D;by_cases h3 : 64<zi;case pos =>
  have d3 : decide (64<zi)=true:=Kc h3
  have HF:=Z5 (HEr.out 4 U O.out (by decide) (by rw [D,JT (HD3.out.1 h3)]))
  obtain ⟨z0,z1,z2,z3,z4,f0,f1,f2,f3,f4⟩:=HZ.out U O.out
  obtain ⟨y0,y1,y2,y3,y4⟩:=HZ5.out U O.out
  clear h1 h2 h3 D hx10
  go_wp2_with fail
  exact bodyPost_ret (v:=.tuple #[.agg #[.int .i64 0,.int .i64 0,.slice none 0 0,.int .i64 0,.slice none 0 0],.int .i64 4]) (by simp [results,results25,go_sem,y0,y1,y2,y3,y4]) rfl HF.out
 have d3 : decide (64<zi)=false:=Kb h3;rw [JR λh=>h3 (HD3.out.2 h)] at D;by_cases h4 : ti<k;case pos =>
  have d4 : decide (ti<k)=true:=Kc h4
  have HF:=Z5 (HEr.out 9 U O.out (by decide) (by rw [D,JT (HD4.out.1 h4)]))
  obtain ⟨z0,z1,z2,z3,z4,f0,f1,f2,f3,f4⟩:=HZ.out U O.out
  obtain ⟨y0,y1,y2,y3,y4⟩:=HZ5.out U O.out
  clear h1 h2 h3 h4 D hx10
  go_wp2_with fail
  exact bodyPost_ret (v:=.tuple #[.agg #[.int .i64 0,.int .i64 0,.slice none 0 0,.int .i64 0,.slice none 0 0],.int .i64 9]) (by simp [results,results25,go_sem,y0,y1,y2,y3,y4]) rfl HF.out
 have d4 : decide (ti<k)=false:=Kb h4;rw [JR λh=>h4 (HD4.out.2 h)] at D;have HE0:=Z5 D;clear D;have HS13:=Z5 (JZ h1 (JZ h2 (JZ h3 (JZ h4 hx10))));clear h1 h2 h3 h4 hx10;go_upto_region 13 with fail;clear tx ty wy wZ2 d1 d2 d3 d4 hR0 hR0p wQ;obtain ⟨hc,hr,hk,hyQ,hZ1b,hZ2b,hq,hq2,F,hrn,hkn⟩:=Y.out;obtain ⟨hRi,hQi,hqQ,hxi,hyi,hzi,hti⟩:=HRi.out;obtain ⟨h1,h2,h3,h4,hx10⟩:=HS13.out;obtain ⟨e1,e2,e3,e4,e5⟩:=HDef.out;clear Y HRi HS13 HDef HD1 HD2 HD3 HD4 hin;have hplan:=Gf (k:=0) (c:=cn) HB.out (hq.trans hqQ) (r:=C) (by omega) (by rw [e1,e2];exact hx10) (by rw [e1,e3];omega);rw [e1] at hplan;have hN : R * cn=L:=by rw [Lj];exact e4
 rw [hN] at hplan;have HPw0 : Hid (∀V (x n : Nat),OC U V->1<=x->x<q->n<=1000000->Calls prog 65 #[.pointer (some ⟨b,0,none⟩),.int .i64 x,.int .i64 n] V λe w'=>∃k,e = .returned (.tuple #[.int .i64 (eZ (ah P M.toNat mod).ops x n),.int .i64 0])/\w'=V.drewN k):=λV x n hV K h6 h7 =>
  JE HB.out n (HG.out.af hV) (show 0<=(x : Int)/\(x : Int)<((ah P M.toNat mod).q : Nat) by rw [hq];omega) (by omega) h7
 have HtbS : Hid (Fv P M mod c.toNat r.toNat k.toNat=bH (ah P M.toNat mod).ops L (gF (ah P M.toNat mod).ops (yF (ah P M.toNat mod).ops (ah P M.toNat mod).q C cn) (fW C) kn)):=by show _=_;rw [F,hrn,hkn,JQ,JQ,JQ,Fv,IC,e1,hN]
 have HNN : Hid ((r.toNat+1) * c.toNat=L):=by show _=_;rw [F,hrn,JQ,JQ,e1,hN]
 obtain ⟨g1,g2,g3,g4,g5,g6⟩:=hplan;have HFl:=Z5 (dH HB.out);rw [<- hqQ] at g1 g2 g3;obtain ⟨A,hux⟩ : ∃f,(λx=>Be (ah P M.toNat mod).ops R x)=f:=⟨_,rfl⟩
 have hu1 : A 1=[]:=by rw [<- hux];exact Fz R
 have HuT : Hid (∀x : Nat,1<=x->eZ (ah P M.toNat mod).ops (x : Int) R=1->A (x+1)=A x ++ [(x : Int)]):=λx K h6=>by rw [<- hux];exact xC K h6
 have HuS : Hid (∀x : Nat,1<=x->eZ (ah P M.toNat mod).ops (x : Int) R ≠ 1->A (x+1)=A x):=λx K h6=>by rw [<- hux];exact wP K h6
 have HuL : Hid (∀x,(A x).length<=x):=λx=>by rw [<- hux];exact uc R x
 have euq : Be (ah P M.toNat mod).ops R q=A q:=by rw [<- hux]
 rw [euq] at g1 g2 g3;obtain ⟨I,hpx⟩ : ∃f,(λx=>BB (ah P M.toNat mod).ops (A q) L x)=f:=⟨_,rfl⟩
 obtain ⟨X,hX⟩ : ∃X,yF (ah P M.toNat mod).ops (ah P M.toNat mod).q C cn=X:=⟨_,rfl⟩
 rw [hX] at g3 g4 g5 HtbS;have hp1 : I 1=[]:=by rw [<- hpx];exact F0 _ _
 have HpT : Hid (∀x : Nat,1<=x->(I x).length<L->¬ (x : Int) ∈ I x->I (x+1)=I x ++ dn ((A q).map ((ah P M.toNat mod).mul (x : Int)))):=λx K h6 h7=>by rw [<- hpx] at h6 h7 ⊢;exact EA K h6 h7
 have HpS : Hid (∀x : Nat,1<=x->(x : Int) ∈ I x->I (x+1)=I x):=λx K h6=>by rw [<- hpx] at h6 ⊢;exact Fs K h6
 have HpE : Hid (∀x,x<=q->L<=(I x).length->I x=X):=λx K h6=>by rw [<- hpx] at h6 ⊢;rw [<- g3];exact EY K h6
 have HpQ : Hid (I q=X):=by show _=_;rw [<- hpx];exact g3
 have HZN : Hid (1<=L/\L<=64):=by refine ⟨?_,by omega⟩;have:=LY (show 1<=R by omega) (show 1<=cn by omega);omega
 have HRw : Hid (dy P M mod L (gF (ah P M.toNat mod).ops X (fW C) kn)=0):=by refine jI HB.out (by omega) (by unfold gF;simp;omega) λrr hrr=>?_;obtain ⟨j,_,rfl⟩:=List.mem_map.1 hrr;refine ⟨by rw [J5];exact g4,λy hy=>?_⟩;obtain ⟨u,hu,rfl⟩:=List.mem_map.1 hy;exact eC HFl.out (g5 u hu).1 _
 have HU:=Z5 (JZ g1 g2);have HXp:=Z5 (JZ g4 g5);have HMul : Hid (∀x y,(ah P M.toNat mod).El x->(ah P M.toNat mod).El y->(ah P M.toNat mod).El ((ah P M.toNat mod).mul x y)):=λx y=>HFl.out.cl.mul x y;have HMk:=Z5 (JZ HB.out hq);obtain ⟨G,hGG⟩ : ∃G,ah P M.toNat mod=G:=⟨_,rfl⟩
 rw [hGG] at HPw0 HuT HuS HpT HU HXp HG HFl HMul HtbS HRw;obtain ⟨pw,hpw⟩ : ∃f : Nat->Nat->Int,(λ(x n : Nat)=>eZ G.ops (x : Int) n)=f:=⟨_,rfl⟩
 have HPw : Hid (∀V (x n : Nat),OC U V->1<=x->x<q->n<=1000000->Calls prog 65 #[.pointer (some ⟨b,0,none⟩),.int .i64 x,.int .i64 n] V λe w'=>∃k,e = .returned (.tuple #[.int .i64 (pw x n),.int .i64 0])/\w'=V.drewN k):=by rw [<- hpw];exact HPw0
 have HuT : Hid (∀x : Nat,1<=x->pw x R=1->A (x+1)=A x ++ [(x : Int)]):=by rw [<- hpw];exact HuT
 have HuS : Hid (∀x : Nat,1<=x->pw x R ≠ 1->A (x+1)=A x):=by rw [<- hpw];exact HuS
 have Hpw:=Z5 hpw;have HGG:=Z5 (JZ hGG (JZ hq hqQ));have Y:=Z5 (JZ hc (JZ hr (JZ hk (JZ F (JZ hrn (JZ hkn e1))))));have hRb : R<=65:=by omega
 have hR2 : 2<=R:=by omega
 subst hRi hzi;clear hux hpx hX hpw hGG hq hqQ g1 g2 g3 g4 g5 g6 HPw0 h1 h2 h3 h4 hx10 e1 e2 e3 e4 e5 hN hQi hxi hyi hti hyQ hc hr hk F hrn hkn hZ2b euq;go_wp2_with fail;go_loopw [13,15] (λsv iv wr=>∃(x : Nat) (a1 : OA) (c1 : Nat),1<=x/\x<=q/\iv = .int .i64 x/\sv = .slice a1 (A x).length c1/\wr.ownsRow U.heap.size 3 1 (.slice a1 (A x).length c1) (A x).length ((A x).map (Value.int .i64))/\OC U wr)
  (λ_ iv _=>q - (intOf iv).toNat)
 case atStart=>exact ⟨1,none,0,JO _,by omega,rfl,by rw [hu1];rfl,by rw [hu1];exact ⟨rfl,.inl ⟨rfl,rfl⟩⟩,JP _ _⟩
 case round =>
  obtain ⟨x,a1,c1,hx1,hxq,rfl,rfl,Z,N⟩:=hrel
  by_cases hlt : x<q
  ·have hxl:=HuL.out x
   have HP1:=Z5 (HPw.out wr x R N hx1 hlt (by omega))
   have hbz:=below_drewN N
   by_cases hp : pw x R=1
   ·have hu : Hid (A (x+1)=A x ++ [(x : Int)]):=HuT.out x hx1 hp
    generalize A x=out at *
    rw [hp] at HP1
    clear hp
    go_wp2_with fail
    refine HP1.out.mono ?_
    rintro e w2 ⟨kk,rfl,rfl⟩
    have hbr2:=below_drewN N kk
    have H:=bp Z (below_drewN (JP _ _) kk)
    clear Z
    generalize wr.drewN kk=w2 at *
    have F:=bf w2 (.int .i64 x) 3
    have hbn:=an w2 (.cells #[.int .i64 x] 3)
    have hsz:=hbr2.size
    go_wp2_with (at_builtin;refine aS rfl _ _ 22 3 rfl (.int .i64 0) 8 underlying22 aV rfl U.heap.size a1 out.length c1 _ rfl (H.alloc _) ⟨w2.heap.size,0,none⟩ 1 (.int .i64 x) rfl F rfl (by omega) (by unfold maxLen;omega) (by simp;omega) ?_;intro a5 c5 w5 hown5 hgr5 hap5)
    go_roundw
    case rel =>
     refine ⟨x+1,a5,c5,by omega,by omega,by go_num,by rw [hu.out];simp,?_,N0 (KE hbr2 (hbn.mono hsz)) (H.alloc _) hgr5 (JO _) (J4 hsz hbn.size)⟩
     rw [hu.out];simpa using hown5
    case measure=>simp [intOf] <;> omega
   ·have hu : Hid (A (x+1)=A x):=HuS.out x hx1 hp
    have hpb : (pw x R == 1)=false:=by rw [beq_eq_false_iff_ne];exact hp
    generalize A x=out at *
    clear hp
    go_wp2_with fail
    refine HP1.out.mono ?_
    rintro e w2 ⟨kk,rfl,rfl⟩
    have hbr2:=below_drewN N kk
    have H:=bp Z (below_drewN (JP _ _) kk)
    clear Z
    generalize wr.drewN kk=w2 at *
    go_wp2_with fail
    go_roundw
    case rel=>exact ⟨x+1,a1,c1,by omega,by omega,by go_num,by rw [hu.out],by rw [hu.out];exact H,hbr2⟩
    case measure=>simp [intOf] <;> omega
  ·obtain rfl : x=q:=by omega
   have hUl:=HU.out.1
   have hown1:=bd Z (JO _)
   rw [hUl] at hown1
   have hUi : Ints wr a1 R (A x):=(NZ hown1).1
   have HUe:=Z5 HU.out.2
   have HUi:=Z5 hUi
   have HbW1:=Z5 N
   obtain ⟨UU,hUU⟩ : ∃UU,A x=UU:=⟨_,rfl⟩
   rw [hUU] at HUe HUi HpT hUl
   have HUl:=Z5 hUl
   have hl0 : (A x).length=R:=by rw [hUU];exact hUl
   rw [hl0]
   clear Z hown1 hUi HU HuT HuS HuL hUl hUU hu1 hl0 N hlt
   clear hx1 hxq
   generalize wr=W1 at *
   generalize hxx : x=q at *
   clear hxx
   go_wp2_with (at_make;refine ch rfl _ _ 90 4 rfl (.bool false) 1 underlying90 wI rfl q rfl rfl (by omega) (by unfold maxLen;omega) ?_;intro a8 W2 hown8 hbel8 hge8 hlt8)
   have hown8 : W2.ownsRow W1.heap.size 4 1 (.slice a8 q q) q ((jc q (I 1)).map Value.bool):=by rw [hp1,BX,Lr];exact hown8
   have hs1 : 0<W1.heap.size:=by have h1:=HsW.out;have h2:=O.out.size;have h3:=HbW1.out.size;omega
   have Hge:=Z5 (JZ hge8 (JZ hlt8 hs1))
   have ha8 : a8 ≠ none:=by rintro rfl;have : (0 : Nat)=ablk none:=rfl;omega
   have HCf : Hid (∀V,OC W1 V->ee V b G/\Ints V a1 R UU):=λV hV=>⟨HG.out.af (NX HbW1.out hV),HUi.out.af hV⟩
   have hbel8s:=hbel8.size
   clear hge8 hlt8 hs1
   go_loopw [14,19] (λsv iv wr=>∃(x : Nat) (a4 : OA) (c4 : Nat),1<=x/\x<=q/\(I x).length<=5000/\iv = .int .i64 x/\sv = .slice a4 (I x).length c4/\wr.ownsRow W2.heap.size 3 1 (.slice a4 (I x).length c4) (I x).length ((I x).map (Value.int .i64)) /\
     wr.ownsRow W1.heap.size 4 1 (.slice a8 q q) q ((jc q (I x)).map Value.bool)/\OC W1 wr/\W2.heap.size<=wr.heap.size)
    (λ_ iv _=>q - (intOf iv).toNat)
   case atStart=>exact ⟨1,none,0,JO _,by omega,by rw [hp1];simp,rfl,by rw [hp1];rfl,by rw [hp1];exact ⟨rfl,.inl ⟨rfl,rfl⟩⟩,hown8,hbel8,JO _⟩
   case round =>
    clear hown8 hbel8
    obtain ⟨x,a4,c4,hx1,hxq,hl5,rfl,rfl,Z,hus,N,hsz⟩:=hrel
    by_cases hgo : x<q/\(I x).length<L
    ·obtain ⟨hlt,hlz⟩:=hgo
     obtain ⟨hbl,hmi⟩:=Oy hus
     have hcx:=hbl.cell x hlt
     have hplb:=hbl.pl
     rw [zm _ hlt] at hcx
     by_cases hin8 : (x : Int) ∈ I x
     ·have hd : decide ((x : Int) ∈ I x)=true:=Kc hin8
      rw [hd] at hcx
      have hp : Hid (I (x+1)=I x):=HpS.out x hx1 hin8
      clear hin8 hd hmi hbl
      generalize I x=out at *
      go_wp2_with fail
      go_roundw
      case rel=>exact ⟨x+1,a4,c4,by omega,by omega,by rw [hp.out];exact hl5,by go_num,by rw [hp.out],by rw [hp.out];exact Z,by rw [hp.out];exact hus,N,hsz⟩
      case measure=>simp [intOf] <;> omega
     ·have hd : decide ((x : Int) ∈ I x)=false:=Kb hin8
      rw [hd] at hcx
      have hp : Hid (I (x+1)=I x ++ dn (UU.map (G.mul x))):=HpT.out x hx1 hlz hin8
      have HSc : Hid (Calls prog 66 #[.pointer (some ⟨b,0,none⟩),.int .i64 x,.slice a1 R c1] wr (db wr (UU.map (G.mul x)))):=by obtain ⟨K,h6⟩:=HCf.out wr N;exact yI (x : Int) a1 R c1 UU K (show 0<=(x : Int)/\(x : Int)<(G.q : Nat) by rw [<- HGG.out.1,HGG.out.2.1];omega) h6 HUe.out (by omega)
      have HCe : Hid (∀y ∈ dn (UU.map (G.mul x)),0<=y/\y<q):=λy hy=>by
       obtain ⟨u,hu,rfl⟩:=List.mem_map.1 ((dw _).mem_iff.1 hy);have K:=HMul.out x u (show 0<=(x : Int)/\(x : Int)<(G.q : Nat) by rw [<- HGG.out.1,HGG.out.2.1];omega) (HUe.out u hu);have h6 : 0<=G.mul x u/\G.mul x u<(G.q : Nat):=K;have h7 : G.q=q:=by rw [<- HGG.out.1];exact HGG.out.2.1
       rw [h7] at h6;exact ⟨h6.1,by omega⟩
      have hml : (UU.map (G.mul x)).length=R:=by rw [J5];exact HUl.out
      have hmls : (dn (UU.map (G.mul x))).length=R:=by rw [(dw _).length_eq];exact hml
      obtain ⟨M0,hM0⟩ : ∃l,UU.map (G.mul x)=l:=⟨_,rfl⟩
      rw [hM0] at hp HSc HCe hml hmls
      have Hms:=Z5 hmls
      clear hin8 hd hmi hbl hM0 hmls
      generalize hpxo : I x=out at *
      clear hpxo
      unfold db at HSc
      rw [hml] at HSc
      go_wp2_with fail
      refine HSc.out.mono ?_
      rintro e w3 ⟨a3,c3,rfl,hown3,hb3⟩
      have hs3:=hb3.size
      have HSo:=Z5 (qS wr.heap.size a3 R c3 M0 w3 hown3 hs3 (by omega))
      clear hown3
      go_wp2_with fail
      refine HSo.out.mono ?_
      rintro e w5 ⟨rfl,hown5,_,hb5⟩
      have hs5:=hb5.size
      have hsrt:=(NZ hown5).1
      have hpls:=hsrt.pl
      have hb35 : OC wr w5:=hb3.trans hb5
      have hus5:=bp hus hb35
      have hownp5:=bp Z hb35
      have HB5 : Hid (OC W1 w5):=NX N hb35
      have h3w : wr.heap.size<=ablk a3:=((dT hown5 (by omega))).1
      obtain ⟨cs,hcs⟩ : ∃cs,dn M0=cs:=⟨_,rfl⟩
      rw [hcs] at hp Hms hsrt HCe
      clear hcs hus Z hown5 hb5 hb3 hb35 HSo
      go_wp2_with fail
      go_loopw [133] (λjv ws=>∃t : Nat,t<=R/\jv = .int .i64 t/\ws.ownsRow W1.heap.size 4 1 (.slice a8 q q) q ((jc q (out ++ cs.take t)).map Value.bool)/\dg a8 w5 ws) (λjv _=>R - (intOf jv).toNat)
      case atStart=>exact ⟨0,JU _,rfl,by simpa using hus5,Oi _ _⟩
      case round =>
       clear hus5
       obtain ⟨t,ht,rfl,hut,hon⟩:=hrel
       have hsrt5:=hon.ints hsrt (.inr (.inr (by have:=Hge.out.2.1;omega)))
       by_cases B : t<R
       ·have cq:=hsrt5.cell t B
        have hb:=HCe.out _ (aI (l:=cs) (i:=t) (by rw [Hms.out];exact B))
        obtain ⟨z,hz⟩ : ∃z : Nat,nth cs t=z:=⟨(nth cs t).toNat,by omega⟩
        have hzq : z<q:=by omega
        obtain ⟨hbl,hmi⟩:=Oy hut
        have hfz:=(hmi (by omega)).2 z hzq
        have hcz:=hbl.cell z hzq
        have hnx : Hid (out ++ cs.take (t+1)=(out ++ cs.take t) ++ [(z : Int)]):=by show _=_;rw [JW (by rw [Hms.out];exact B),<- aj,hz,KI]
        rw [hz] at cq
        clear hz hb hbl hmi
        go_wp2_with fail
        go_roundw
        case rel =>
         refine ⟨t+1,by omega,by go_num,?_,hon.trans (Oc _ _ _ ha8)⟩
         have K:=bC hut z hzq (.bool true)
         rw [<- Kh,CN,<- hnx.out] at K
         exact K
        case measure=>simp [intOf] <;> omega
       ·obtain rfl : t=R:=by omega
        rw [JX (by rw [Hms.out];exact JO _),<- hp.out] at hut
        have hbO : Below W1.heap.size w5 wr:=hon.below (λ_=>Hge.out.1) HB5.out.size
        have hbW : OC W1 wr:=HB5.out.trans hbO
        have hne4 : ablk a4 ≠ ablk a8:=by
         rcases kF hownp5 with ⟨K,_⟩ | ⟨K,_⟩
         ·rw [K];have h6 : ablk none=0:=rfl;have:=Hge.out.1;have:=Hge.out.2.2;omega
         ·have:=Hge.out.2.1;omega
        have hl4 : ablk a4<w5.heap.size:=by
         rcases kF hownp5 with ⟨K,_⟩ | ⟨_,K⟩
         ·rw [K];have h6 : ablk none=0:=rfl;have:=HB5.out.size;have:=Hge.out.2.2;omega
         ·exact K
        have hown6:=eS hownp5 (hon.block _ hl4 λK=>hne4 K.2)
        have hsw : W2.heap.size<=wr.heap.size:=by have:=hon.size;omega
        have hpl5:=hsrt5.pl
        have hlcs : (cs.map (Value.int .i64)).length=t:=by rw [J5];exact Hms.out
        have hcc : ∀j,j<t->wr.cell? ⟨ablk a3,aL a3+j,none⟩=(cs.map (Value.int .i64))[j]?:=λj hj=>by rw [hsrt5.cell j hj,Ly,Km (by rw [Hms.out];exact hj),aj (by rw [Hms.out];exact hj)];rfl
        have h1cs : ∀u ∈ cs.map (Value.int .i64),u.oneCell'=true:=λu hu=>by obtain ⟨y,_,rfl⟩:=List.mem_map.1 hu;rfl
        have Hbx:=Z5 (JZ hbW hsw)
        have hlnx : (I (x+1)).length=out.length+t:=by rw [hp.out,J0,Hms.out]
        clear hownp5 hon hbO hsrt5 hsrt
        go_wp2_with (at_builtin;refine dY rfl _ _ 22 3 rfl (.int .i64 0) 8 underlying22 aV rfl W2.heap.size a4 out.length c4 _ rfl hown6 a3 t c3 _ rfl hpl5 hlcs hcc h1cs (by omega) (by unfold maxLen;omega) hsw ?_;intro a7 c7 w7 hown7 hgr7 _)
        go_roundw
        case rel =>
         have hut7:=eS hut (hgr7.block _ (Kl Hge.out.2.1 Hbx.out.2) λK=>(eX.own (.inr hne4) out.length c4) K.symm)
         refine ⟨x+1,a7,c7,by omega,by omega,by omega,by go_num,by rw [hlnx],?_,hut7,N0 Hbx.out.1 hown6 hgr7 hbel8s Hbx.out.1.size,by have:=hgr7.size;omega⟩
         rw [hlnx,hp.out,Ko]
         exact hown7
        case measure=>simp [intOf] <;> omega
    ·have hX0 : Hid (I x=X):=by
      by_cases K : x<q
      ·exact HpE.out x hxq (by omega)
      ·obtain rfl : x=q:=by omega
       exact HpQ.out
     have hXl:=HXp.out.1
     rw [hX0.out,hXl] at Z
     have hXi : Ints wr a4 L X:=(NZ Z).1
     have HXi:=Z5 hXi
     have HbW2:=Z5 N
     have hlX : (I x).length=L:=by rw [hX0.out];exact hXl
     rw [hlX] at hl5 hgo ⊢
     have hstop : ¬ (x<q/\L<L):=by omega
     have HCt : Hid (∀x,x % R=C->iy C (x+1)=iy C x):=λx hx=>Df (by rw [Y.out.2.2.2.2.2.2];exact hx)
     have HCk : Hid (∀x,x % R ≠ C->iy C (x+1)=iy C x+1/\gF G.ops X (fW C) (iy C x+1)=gF G.ops X (fW C) (iy C x) ++ [X.map λy=>eZ G.ops y x]):=λx hx=>by obtain ⟨K,h6⟩:=Cs (r:=C) (x:=x) (by have:=Y.out.2.1;have:=Y.out.2.2.2.2.1;omega) (by rw [Y.out.2.2.2.2.2.2];exact hx);exact ⟨K,by rw [Dg,<- h6]⟩
     have HCl : Hid (∀x,iy C x<kn->x<2 * kn):=λx hx=>Gd (by have:=Y.out.2.1;have:=Y.out.2.2.2.2.1;omega) hx
     have hct0 : iy C 0=0:=Cz C
     have hLL0 : gF G.ops X (fW C) 0=[]:=rfl
     obtain ⟨LL,hLL⟩ : ∃f,gF G.ops X (fW C)=f:=⟨_,rfl⟩
     rw [hLL] at HCk hLL0 HtbS HRw
     obtain ⟨ct,hct⟩ : ∃f,iy C=f:=⟨_,rfl⟩
     rw [hct] at HCt HCk HCl hct0
     obtain ⟨rw',hrw⟩ : ∃f : Nat->LI,(λx=>X.map λy=>eZ G.ops y x)=f:=⟨_,rfl⟩
     have HCk : Hid (∀x,x % R ≠ C->ct (x+1)=ct x+1/\LL (ct x+1)=LL (ct x) ++ [rw' x]):=by rw [<- hrw];exact HCk
     have HRl : Hid (∀x,(rw' x).length=L):=λx=>by rw [<- hrw];simp [hXl]
     have HRn : Hid (∀x z t,t<L->nth X t=((z : Nat) : Int)->nth (rw' x) t=pw z x):=λx z t ht hz=>by rw [<- hrw,<- Hpw.out];show nth (X.map _) t=_;rw [aj (by rw [J5,hXl];exact ht),KF,<- aj,hz]
     have HXe : Hid (∀t,t<L->∃z : Nat,nth X t=z/\1<=z/\z<q):=λt ht=>by
      obtain ⟨K,h6⟩:=HXp.out.2 _ (aI (l:=X) (i:=t) (by rw [hXl];exact ht));have h7 : 0<=nth X t/\nth X t<(G.q : Nat):=K;have h8 : G.q=q:=by rw [<- HGG.out.1];exact HGG.out.2.1
      rw [h8] at h7;exact ⟨(nth X t).toNat,by omega,by omega,by omega⟩
     obtain ⟨kx,rx⟩:=JZ Y.out.2.2.2.2.2.1 Y.out.2.2.2.2.1
     have HkE:=Z5 (JZ kx (JZ rx (JZ Y.out.2.1 Y.out.2.2.1)))
     have hk64 : kn<=64:=by have:=Y.out.2.2.1;have:=Y.out.2.2.2.2.2.1;omega
     have hrwf:=HRl.out
     clear hLL hct hrw hXi Z hus N hX0 hlX hXl HpT HpS HpE HpQ hp1 HMul HFl HCf HUe HUi HUl ha8 hbel8s hin hZ1b kx rx hrwf hsz HOr
     generalize wr=V at *
     clear hgo
     by_cases h5q : x<q
     all_goals (
      go_upto_region 33 with fail
      obtain ⟨g,hg⟩ : ∃g,V.heap.size=g:=⟨_,rfl⟩
      have HGs:=Z5 hg
      clear hg
      go_cut [23] (λv wx=>v = .pointer (some ⟨V.heap.size,0,none⟩)/\lN wx V.heap.size (.int .i64 L) none 0 0 [] []/\OC V wx)
      case first =>
       go_wp2_with fail
       go_meet
       exact ⟨rfl,lN.start (NY V [.int .i64 L,.slice none 0 0] _ rfl),an _ _⟩
      obtain ⟨rfl,hO0,hbc⟩:=hcut
      generalize wc=U3 at *
      have hs3:=HGs.out
      rw [hs3] at hO0 ⊢
      have HbU3:=Z5 hbc
      have hgU:=hO0.lt
      have hO0 : lN U3 g (.int .i64 L) none (ct 0) 0 [] (LL (ct 0)):=by rw [hct0,hLL0];exact hO0
      have hR0p : (R : Int) ≠ 0:=by omega
      have hR0n : R ≠ 0:=by omega
      have hR0b : ((R : Int) == 0)=false:=by rw [beq_eq_false_iff_ne];exact hR0p
      clear hbc hs3 hLL0
      go_wp2_with fail
      go_loopw [24] (λiv wr=>∃(x : Nat) (a5 : OA) (c5 : Nat) (Rr : LA),x<=2 * kn/\ct x<=kn/\iv = .int .i64 x/\lN wr g (.int .i64 L) a5 (ct x) c5 Rr (LL (ct x))/\Below g U3 wr) (λiv _=>2 * kn - (intOf iv).toNat)
      case atStart=>exact ⟨0,none,0,[],JU _,by rw [hct0];exact JU _,rfl,hO0,JP _ _⟩
      case round =>
       clear hO0
       obtain ⟨x,a5,c5,Rr,hx2,hxk,rfl,hO,N⟩:=hrel
       have hgr:=hO.lt
       have g1:=hO.c1
       obtain ⟨hk1,hr1,hr2,hk2⟩:=HkE.out
       by_cases hltk : ct x<kn
       ·have hxlt:=HCl.out x hltk
        have d1 : decide (((ct x : Nat) : Int)<k)=true:=by rw [hk1];simp;omega
        obtain ⟨xm,hxm⟩ : ∃xm : Int,xm=((x % R : Nat) : Int):=⟨_,rfl⟩
        have tm : (x : Int).tmod (R : Int)=xm:=by rw [hxm,K3 (by omega)];simp
        by_cases hm : x % R=C
        ·have hs:=Z5 (HCt.out x hm)
         have d2 : (xm == r)=true:=by rw [hxm,hm,hr1];simp
         have hO':=Z5 hO
         generalize ct x=cx at *
         clear hm hxm hk1 hr1 hr2 hk2 hO
         go_wp2_with fail
         go_roundw
         case rel=>exact ⟨x+1,a5,c5,Rr,by omega,by rw [hs.out];omega,by go_num,by rw [hs.out];exact hO'.out,N⟩
         case measure=>simp [intOf] <;> omega
        ·have hs:=Z5 (HCk.out x hm)
         have d2 : (xm == r)=false:=by rw [beq_eq_false_iff_ne,hxm,hr1];omega
         have hO':=Z5 hO
         have Hrl:=Z5 (HRl.out x)
         have Hrn:=Z5 (HRn.out x)
         have HP1 : Hid (∀V' z,OC V V'->1<=z->z<q->Calls prog 65 #[.pointer (some ⟨b,0,none⟩),.int .i64 z,.int .i64 x] V' λe w'=>∃k,e = .returned (.tuple #[.int .i64 (pw z x),.int .i64 0])/\w'=V'.drewN k):=λV' z hV K h6 =>
          HPw.out V' z x (NX HbW1.out (NX HbW2.out hV)) K h6 (by have:=HkE.out.2.2.2;have:=HkE.out.1;omega)
         obtain ⟨rr,hrr⟩ : ∃l,rw' x=l:=⟨_,rfl⟩
         rw [hrr] at hs Hrl Hrn
         generalize hcx : ct x=cx at *
         have hcx200 : cx<=64:=by have:=HkE.out.2.2.2;have:=HkE.out.1;omega
         have hbV:=KE HbU3.out (N.mono (MT HGs.out))
         have hgV:=HGs.out
         clear hm hxm hk1 hr1 hr2 hk2 hO hcx hrr
         go_wp2_with fail
         have HbR:=Z5 (JZ N hgr)
         clear N
         generalize wr=V1 at *
         go_loopw [25,162] (λrv jv ws=>∃(t : Nat) (a6 : OA) (c6 : Nat),t<=L/\jv = .int .i64 t/\rv = .slice a6 t c6/\ws.ownsRow V1.heap.size 3 1 (.slice a6 t c6) t ((rr.take t).map (Value.int .i64))/\OC V1 ws)
          (λ_ jv _=>L - (intOf jv).toNat)
         case atStart=>exact ⟨0,none,0,JU _,rfl,rfl,⟨rfl,.inl ⟨rfl,rfl⟩⟩,JP _ _⟩
         case round =>
          obtain ⟨t,a6,c6,ht,rfl,rfl,Z,hbt⟩:=hrel
          have hbVt:=NX hbV hbt
          have hXt:=HXi.out.af hbVt
          have hpl4:=hXt.pl
          by_cases B : t<L
          ·have cq:=hXt.cell t B
           obtain ⟨z,hz,hz1,hzq⟩:=HXe.out t B
           have HP2:=Z5 (HP1.out wr z hbVt hz1 hzq)
           have htk : Hid (rr.take (t+1)=rr.take t ++ [pw z x]):=by show _=_;rw [JW (by rw [Hrl.out];exact B),<- aj,Hrn.out z t B hz]
           rw [hz] at cq
           clear hz hXt
           go_wp2_with fail
           refine HP2.out.mono ?_
           rintro e w2 ⟨kk,rfl,rfl⟩
           have hbr2:=below_drewN hbt kk
           have H:=bp Z (below_drewN (JP _ _) kk)
           clear Z
           generalize wr.drewN kk=w2 at *
           obtain ⟨yv,hyv⟩ : ∃y,pw z x=y:=⟨_,rfl⟩
           rw [hyv] at htk ⊢
           clear hyv HP2
           have F:=bf w2 (.int .i64 yv) 3
           have hbn:=an w2 (.cells #[.int .i64 yv] 3)
           have hsz:=hbr2.size
           go_wp2_with (at_builtin;refine aS rfl _ _ 22 3 rfl (.int .i64 0) 8 underlying22 aV rfl V1.heap.size a6 t c6 _ rfl (H.alloc _) ⟨w2.heap.size,0,none⟩ 1 (.int .i64 yv) rfl F rfl (by omega) (by unfold maxLen;omega) (by simp;omega) ?_;intro a7 c7 w7 hown7 hgr7 hap7)
           go_roundw
           case rel =>
            refine ⟨t+1,a7,c7,by omega,by go_num,rfl,?_,N0 (KE hbr2 (hbn.mono hsz)) (H.alloc _) hgr7 (JO _) (J4 hsz hbn.size)⟩
            rw [htk.out];simpa using hown7
           case measure=>simp [intOf] <;> omega
          ·obtain rfl : t=L:=by omega
           rw [JX (by rw [Hrl.out];exact JO _)] at Z
           have hs6:=hO'.out.af hbt
           have hOk:=hs6.om.af (an wr (.cells #[.slice a6 t c6] 22))
           have hcp:=hs6.c1
           have hgs:=hs6.lt
           clear g1
           go_wp2_with (at_builtin;refine aS rfl _ _ 25 22 rfl (.slice none 0 0) 24 underlying25 dO rfl (g+1) a5 cx c5 _ rfl hOk.own ⟨wr.heap.size,0,none⟩ 1 (.slice a6 t c6) rfl (bf wr _ _) rfl (by omega) (by unfold maxLen;omega) (by simp;omega) ?_;intro a7 c7 w6 hown6 hgr6 hap6;have hk6:=(hs6.uv hgr6).2.1;have hf6:=(hs6.uv hgr6).2.2)
           go_roundw
           case rel =>
            have hra : a6 ≠ none->¬ bX a5 Rr (ablk a6):=λh0 hI=>by have h1:=(ba Z h0).1;have h2:=(hO'.out.om.lt _ hI).2;omega
            obtain ⟨hP,hbP⟩:=hs6.push Hrl.out (bd Z (by have:=HbR.out.2;omega)) hra hown6 hgr6 hap6
            exact ⟨x+1,a7,c7,_,by omega,by rw [hs.out.1];omega,by go_num,by rw [hs.out.1,hs.out.2];exact hP,KE HbR.out.1 ((hbt.mono (by have:=HbR.out.2;omega)).trans hbP)⟩
           case measure=>simp [intOf] <;> omega
       ·have hk3 : ct x=kn:=by omega
        have d1 : decide (((ct x : Nat) : Int)<k)=false:=by rw [hk1];simp;omega
        rw [hk3] at hO d1 g1
        have g0:=hO.c0
        have hMN : b8 (g+1) wr a5 kn (LL kn):=Ot hO.om
        have hbV:=KE HbU3.out (N.mono (MT HGs.out))
        have hbE : OC W wr:=NX (NX (NX O.out HbW1.out) HbW2.out) hbV
        have hSt:=HtbS.out
        obtain ⟨S,hS⟩ : ∃S,bH G.ops L (LL kn)=S:=⟨_,rfl⟩
        rw [hS] at hSt
        have HNw : Hid (Calls prog 68 #[.agg #[.int .i64 P,.int .i64 M,.slice am mn cm],.agg #[.int .i64 L,.slice a5 kn c5]] wr λe w'=>∃a1 c1 a2 c2,e = .returned (.tuple #[.agg #[.int .i64 P,.int .i64 M,.slice a1 mod.length c1,.int .i64 L,.slice a2 S.length c2],.int .i64 0])/\bJ wr.heap.size w' a1 mod.length mod/\b8 wr.heap.size w' a2 S.length S/\OC wr w'):=by have h:=po P M am mn cm mod L a5 kn c5 (LL kn) wr (Hmod.out.1.af (NX HbW.out hbE)) hMN.je HRw.out HZN.out.1 HZN.out.2 Hmod.out.2;unfold rF at h;rw [HGG.out.1] at h;have e : bU G (LL kn) L=S:=hS;rw [e] at h;exact h
        have HPF:=HP0.out
        rw [HNN.out,hSt] at HPF
        have HPF:=Z5 HPF
        have HbE:=Z5 hbE
        have bx:=HX.out.1.af hbE
        have c0:=bx.cell 0 rfl
        have c1':=bx.cell 1 rfl
        have c2':=bx.cell 2 rfl
        clear hS hSt bx hMN hO N hbV hbE hk3 hk1 hr1 hr2 hk2 Y HkE
        go_wp2_with fail
        refine HNw.out.mono ?_
        rintro e w6 ⟨b1,d1',b2,d2',rfl,hI6,hM6,hb6⟩
        have hbF:=NX HbE.out hb6
        have hsz:=HbE.out.size
        have hsW:=HsW.out
        obtain ⟨z0,z1,z2,z3,z4,f0,f1,f2,f3,f4⟩:=HZ.out w6 hbF
        have zz:=(((((HX.out.2.af hbF).setCell 0 (.int .i64 P)).setCell 1 (.int .i64 M)).setCell 2 (.slice b1 mod.length d1')).setCell 3 (.int .i64 L)).setCell 4 (.slice b2 S.length d2')
        have y0:=zz.cell 0 rfl
        have y1:=zz.cell 1 rfl
        have y2:=zz.cell 2 rfl
        have y3:=zz.cell 3 rfl
        have y4:=zz.cell 4 rfl
        have HF:=Z5 (HPF.out b1 d1' b2 d2' (((((w6.setCell ⟨w.heap.size+1,0,none⟩ (.int .i64 P)).setCell ⟨w.heap.size+1,1,none⟩ (.int .i64 M)).setCell ⟨w.heap.size+1,2,none⟩ (.slice b1 mod.length d1')).setCell ⟨w.heap.size+1,3,none⟩ (.int .i64 L)).setCell ⟨w.heap.size+1,4,none⟩ (.slice b2 S.length d2')) HE0.out
         ((((((hI6.setCell (p:=⟨w.heap.size+1,0,none⟩) (by simp;omega) _).setCell (p:=⟨w.heap.size+1,1,none⟩) (by simp;omega) _).setCell (p:=⟨w.heap.size+1,2,none⟩) (by simp;omega) _).setCell (p:=⟨w.heap.size+1,3,none⟩) (by simp;omega) _).setCell (p:=⟨w.heap.size+1,4,none⟩) (by simp;omega) _).mono (by omega))
         ((((((hM6.setCell (p:=⟨w.heap.size+1,0,none⟩) (by simp;omega) _).setCell (p:=⟨w.heap.size+1,1,none⟩) (by simp;omega) _).setCell (p:=⟨w.heap.size+1,2,none⟩) (by simp;omega) _).setCell (p:=⟨w.heap.size+1,3,none⟩) (by simp;omega) _).setCell (p:=⟨w.heap.size+1,4,none⟩) (by simp;omega) _).mono (by omega))
         ((((((NX HbW.out hbF).setCell (p:=⟨w.heap.size+1,0,none⟩) (by simp) _).setCell (p:=⟨w.heap.size+1,1,none⟩) (by simp) _).setCell (p:=⟨w.heap.size+1,2,none⟩) (by simp) _).setCell (p:=⟨w.heap.size+1,3,none⟩) (by simp) _).setCell (p:=⟨w.heap.size+1,4,none⟩) (by simp) _))
        clear hI6 hM6 hb6 hbF zz
        go_wp2_with fail
        exact bodyPost_ret (v:=.tuple #[.agg #[.int .i64 P,.int .i64 M,.slice b1 mod.length d1',.int .i64 L,.slice b2 S.length d2'],.int .i64 0]) (by simp [results,results25,go_sem,y0,y1,y2,y3,y4]) rfl HF.out)
theorem Cv {P M : Int} {am : OA} {O cm : Nat} {mod : LI} {m : Nat} {L : Ll} (Q : aJ P M mod m L=0) (H : OA) (G : Nat) (x : LI) (a : OA) (n c : Nat) (w : World)
  (X : Ints w am O mod) (B : Ints w H n x) (hi : bu w a n L) (Z : ∀k,k<L.length->(ah P M.toNat mod).El (nth x k)) :
  Calls prog 213 #[.agg #[.int .i64 P,.int .i64 M,.slice am O cm],.slice H n G,.slice a n c,.int .i64 m] w λe w' =>
   ∃a1 c1,e = .returned (.slice a1 m c1)/\Ints w' a1 m (cmbTo (ah P M.toNat mod).ops m x L L.length)/\OC w w':=by
 obtain ⟨_,_,F,_⟩:=aN Q;have hn : n<=256:=by rw [<- hi.len];exact (cZ Q).choose_spec.2.2.2.1
 have I:=hi.len;obtain ⟨E,em,_,_,_,V⟩:=aY Q;obtain rfl : m=E:=by omega
 obtain ⟨k,D,K,r,hF,z,_⟩:=fE (aN Q).1;subst D;obtain ⟨A,e2,N,Y⟩:=dI (P:=P) (M:=(k : Int)) (mod:=mod) (by rw [bW];exact (aN Q).1);obtain rfl : k=A:=by omega
 rw [JQ] at Z V ⊢;rw [<- K] at Z V;have U:=tB hF z V Z;refine (uh P k am O cm mod H G x a n c L m w ⟨N,Y w am O X⟩ B hi (λj C=>Z j (by omega)) V
  (λj C=>by rw [<- U j (by omega)];exact (ju hF V Z j (by omega)).1) (by omega) (by omega)).mono ?_
 rintro e w' ⟨a1,c1,rfl,S,hb⟩;refine ⟨a1,c1,rfl,?_,hb⟩;rw [U _ (JO _),I];exact (NZ S).1
theorem Ds (L : Ll) (t : LI) : (List.range t.length).map (aX (L.map (bP t)))=t.map λq=>aX L q.toNat:=by refine KW (by simp) λi h1 h2=>?_;rw [J5,KU] at h1;rw [KF,Lt,KF];unfold aX;rw [NI];refine Lh λr _=>?_;show nth (bP t r) i=_;rw [oJ t r h1,aj h1]
theorem wu (P M : Int) (am : OA) (D cm : Nat) (mod : LI) (m : Nat) (a : OA) (n c : Nat) (L : Ll) (ay : OA) (cy : Nat) (y : LI) (G : OA) (I ct : Nat) (t : LI) (w : World)
  (hmod : Ints w am D mod) (hi : bu w a n L) (hE : aJ P M mod m L=0) (hy : Ints w ay m y) (ht : Ints w G I t) (hyv : Vc (ah P M.toNat mod).El m y) (hT : Ak m t) (hrk : mh (ah P M.toNat mod).ops L t=t.length) (hnt : I<=64) :
  Calls prog 237 #[.agg #[.int .i64 P,.int .i64 M,.slice am D cm,.int .i64 m,.slice a n c],.slice ay m cy,.slice G I ct] w λe w' =>
   ∃a1 c1,e = .returned (.slice a1 m c1)/\Ints w' a1 m (qp (ah P M.toNat mod).ops m L y t)/\OC w w':=by
 obtain ⟨m',em,hm1,hm64,F,hR⟩:=aY hE;obtain rfl : m=m':=by omega
 have hn64 : n<=64:=by rw [<- hi.len];have h:=(B4 hE).len;rw [KU] at h;omega
 have hil:=hi.len;have htl:=ht.len;obtain ⟨hAr,hbe⟩:=Bx F hR hyv hT;obtain ⟨_,_,hxe,hpl⟩:=Ba F hR hyv hT hrk;have hyl:=hy.len;obtain ⟨S,rfl,hel,_,_,_,_⟩:=fE (aN hE).1;obtain ⟨M2,e2,hrf,_⟩:=dI (by rw [bW];exact (aN hE).1);obtain rfl : S=M2:=by omega
 rw [JQ] at *;have HNg : Hid (∀(V : World) (x : Int),(ah P S mod).El x->Calls prog 107 #[.agg #[.int .i64 P,.int .i64 S,.slice am D cm],.int .i64 x] V λe w'=>e = .returned (.int .i64 ((ah P S mod).ops.neg x))/\OC V w'):=λV x hx =>
  nP P S am D cm x V hrf (hrf.gV (by rw [hel];exact hx))
 have HYe : Hid (∀j,j<m->(ah P S mod).El (nth y j)):=λj hj=>hyv.at hj;have HKp : Hid (∀V,OC w V->Calls prog 262 #[.slice a n c,.slice G I ct] V λe w'=>∃a1 c1,e = .returned (.slice a1 n c1)/\bu w' a1 n (L.map (bP t))/\OC V w'):=λV N=>by refine (sX m a n c L G I ct t V (hi.af N) (ht.af N) (λr hr=>(hR r hr).1) hT (by omega) (by omega)).mono ?_;rintro e w' ⟨a1,c1,R,rfl,hO,hb⟩;exact ⟨a1,c1,rfl,hO.je,hb⟩
 obtain ⟨A,hA⟩ : ∃A,(t.map λq=>aX L q.toNat)=A:=⟨_,rfl⟩
 obtain ⟨B,hB⟩ : ∃B,(t.map λq=>(ah P S mod).ops.neg (nth y q.toNat))=B:=⟨_,rfl⟩
 have HTu : Hid (∀V a1 c1,bu V a1 n (L.map (bP t))->Calls prog 263 #[.slice a1 n c1,.int .i64 I] V λe w'=>∃a2 c2 R,e = .returned (.slice a2 I c2)/\aT w' V.heap.size a2 I c2 R A/\OC V w'):=λV a1 c1 N=>by
  have h:=Dl a1 n c1 (L.map (bP t)) I I V N (λi hi'=>by rw [mN _ _ (by omega)];simp [bP,htl]) (JO _) (by omega) (by omega);have e : (List.range I).map (aX (L.map (bP t)))=A:=by rw [<- htl,Ds,hA]
  rw [e] at h;exact h
 unfold qp;have hX : xA (ah P S mod).ops L y t=vl (ah P S mod).ops A B n:=by unfold xA;rw [hA,hB,hil]
 rw [hX] at hxe ⊢;rw [hA] at hAr hpl;rw [hB] at hbe hpl;rw [hil] at hAr hpl;have HSo : Hid (∀V aA cA ab cb,OC w V->bu V aA I A->Ints V ab I B->Calls prog 264 #[.agg #[.int .i64 P,.int .i64 S,.slice am D cm],.agg #[.int .i64 n,.slice aA I cA],.slice ab I cb] V λe w' =>
   ∃a1 c1,e = .returned (.tuple #[.slice a1 n c1,.int .i64 0])/\Ints w' a1 n (vl (ah P S mod).ops A B n)/\OC V w'):=λV aA cA ab cb N h1 h2=>by have h:=zy P S am D cm mod n aA I cA A ab cb B V (hmod.af N) h1 h2 (aN hE).1 (by rw [JQ];exact hAr) (by rw [JQ];exact hbe) (by rw [JQ,hpl,htl]) hn64 hnt;rw [JQ] at h;exact h
 obtain ⟨Xs,hXs⟩ : ∃Xs,vl (ah P S mod).ops A B n=Xs:=⟨_,rfl⟩
 rw [hXs] at hxe HSo ⊢;have hcv:=(ju F hR hxe L.length (JO _)).1;have HCb : Hid (∀V ax cx,OC w V->Ints V ax n Xs->Calls prog 213 #[.agg #[.int .i64 P,.int .i64 S,.slice am D cm],.slice ax n cx,.slice a n c,.int .i64 m] V λe w' =>
   ∃a1 c1,e = .returned (.slice a1 m c1)/\Ints w' a1 m (cmbTo (ah P S mod).ops m Xs L L.length)/\OC V w'):=λV ax cx N h1=>by have h:=Cv (cm:=cm) hE ax cx Xs a n c V (hmod.af N) h1 (hi.af N) (by rw [JQ];exact hxe);rw [JQ] at h;exact h
 obtain ⟨Cm,hCm⟩ : ∃Cm,cmbTo (ah P S mod).ops m Xs L L.length=Cm:=⟨_,rfl⟩
 rw [hCm] at hcv HCb ⊢;have HAd : Hid (∀V au cu,OC w V->Ints V au m Cm->Calls prog 227 #[.agg #[.int .i64 P,.int .i64 S,.slice am D cm],.slice ay m cy,.int .i64 1,.slice au m cu] V λe w' =>
   ∃a1 c1,e = .returned (.slice a1 m c1)/\Ints w' a1 m (bN (ah P S mod).ops y 1 Cm)/\OC V w'):=λV au cu N h1=>by have h:=sV (cm:=cm) hE ay cy y 1 au cu Cm V (hmod.af N) (hy.af N) h1 (by rw [JQ];exact hyv) (by rw [JQ];exact F.one) (by rw [JQ];exact hcv);rw [JQ] at h;exact h
 obtain ⟨Z,hZ⟩ : ∃Z,bN (ah P S mod).ops y 1 Cm=Z:=⟨_,rfl⟩
 rw [hZ] at HAd ⊢;have HTk : Hid (∀i,i<I->∃p : Nat,nth t i=p/\p<m/\B.take (i+1)=B.take i ++ [(ah P S mod).ops.neg (nth y p)]):=λi hi'=>by have h:=hT i (by omega);refine ⟨(nth t i).toNat,by omega,by omega,?_⟩;rw [JW (by rw [<- hB,J5];omega)];congr 1;rw [aj (show i<t.length by omega)];simp [<- hB]
 have HBl : Hid (B.length=I):=by show _=_;rw [<- hB,J5];exact htl
 generalize (ah P S mod).ops=O at *;generalize (ah P S mod).El=El at *;clear hE em F hR hAr hbe hxe hpl hcv hCm hZ hXs hX hA hB hel e2 hrf hmod hi hyv hT hrk;go_enter func237,ntmps237;go_wp2_with fail;obtain ⟨W,hW⟩ : ∃W : World,W=w.alloc (.cells #[.int .i64 P,.int .i64 S,.slice am D cm,.int .i64 m,.slice a n c] 27):=⟨_,rfl⟩
 rw [<- hW];have hbW : OC w W:=by rw [hW];exact an _ _
 have x0 : aO W w.heap.size [.int .i64 P,.int .i64 S,.slice am D cm,.int .i64 m,.slice a n c]:=by rw [hW];exact NY _ _ _ rfl
 have HS : Hid (∀V,OC W V->V.cell? ⟨w.heap.size,0,none⟩=some (.int .i64 P)/\V.cell? ⟨w.heap.size,1,none⟩=some (.int .i64 S)/\V.cell? ⟨w.heap.size,2,none⟩=some (.slice am D cm)/\V.cell? ⟨w.heap.size,3,none⟩=some (.int .i64 m)/\V.cell? ⟨w.heap.size,4,none⟩=some (.slice a n c)):=λV N=>by have r0:=x0.af N;exact ⟨r0.cell 0 rfl,r0.cell 1 rfl,r0.cell 2 rfl,r0.cell 3 rfl,r0.cell 4 rfl⟩
 have HbW:=Z5 hbW;have htW:=ht.af hbW;have hyW:=hy.af hbW;have hplt:=ht.pl;have hply:=hy.pl;clear hW x0 hbW ht hy;go_loopw [7,8] (λbv iv wr=>∃(i : Nat) (ar : OA) (cr : Nat),i<=I/\iv = .int .i64 i/\bv = .slice ar i cr/\wr.ownsRow W.heap.size 3 1 (.slice ar i cr) i ((B.take i).map (Value.int .i64))/\OC W wr) (λ_ iv _=>I - (intOf iv).toNat);case atStart=>exact ⟨0,none,0,JU _,rfl,rfl,by simpa using cF,JP _ _⟩
 case round =>
  obtain ⟨i,ar,cr,hint,rfl,rfl,C,hbr⟩:=hrel
  generalize wr=U at *
  by_cases hlt : i<I
  ·obtain ⟨p,hp,hpm,hst⟩:=HTk.out i hlt
   have ct':=(htW.af hbr).cell i hlt
   rw [hp] at ct'
   have cy':=(hyW.af hbr).cell p hpm
   have Hng:=Z5 (λV=>HNg.out V _ (HYe.out p hpm))
   obtain ⟨x,hx⟩ : ∃x,nth y p=x:=⟨_,rfl⟩
   rw [hx] at cy' hst Hng
   obtain ⟨z,hz⟩ : ∃z,O.neg x=z:=⟨_,rfl⟩
   rw [hz] at hst Hng
   have Hst:=Z5 hst
   have ct0:=htW.cell i hlt
   have cy0:=hyW.cell p hpm
   rw [hp] at ct0
   rw [hx] at cy0
   have HS3 : Hid (∀V,OC W V->V.cell? ⟨w.heap.size,0,none⟩=some (.int .i64 P)/\V.cell? ⟨w.heap.size,1,none⟩=some (.int .i64 S)/\V.cell? ⟨w.heap.size,2,none⟩=some (.slice am D cm)/\V.cell? ⟨ablk G,aL G+i,none⟩=some (.int .i64 p)/\V.cell? ⟨ablk ay,aL ay+p,none⟩=some (.int .i64 x)):=λV N=>by obtain ⟨q0,q1,q2,_⟩:=HS.out V N;exact ⟨q0,q1,q2,aB N ct0,aB N cy0⟩
   have Hown:=Z5 (JZ C hbr)
   have hsz:=hbr.size
   have hi1 : (i : Int)<I:=by omega
   have hp1 : (p : Int)<m:=by omega
   have hp0 : (0 : Int)<=p:=by omega
   clear hst C hx hz hp ct' cy' ct0 cy0
   go_wp2_with fail
   go_region_held3 (λV=>V.cell? ⟨w.heap.size,0,none⟩=some (.int .i64 P)/\V.cell? ⟨w.heap.size,1,none⟩=some (.int .i64 S)/\V.cell? ⟨w.heap.size,2,none⟩=some (.slice am D cm)/\V.cell? ⟨ablk G,aL G+i,none⟩=some (.int .i64 p)/\V.cell? ⟨ablk ay,aL ay+p,none⟩=some (.int .i64 x))
    ((refine HS3.out _ ?_;first | exact E | exact NX Hown.out.2 hb4w | exact NX Hown.out.2 (JP _ _).drew | exact hB4 | exact hB4.drew))
    (first
     | (go_at_call 107;((with_reducible refine (Hng.out _).mono ?_);rintro e w4 ⟨rfl,hb4⟩;have hb4w : OC U w4:=NX (JP _ _).drew hb4;have hO4:=bp Hown.out.1 (N1 hb4w (.cells #[.int .i64 z] 3));have hB4:=NX Hown.out.2 (N1 hb4w (.cells #[.int .i64 z] 3))))
     | (refine fg (by rfl) (.tmp 18) (.tmp 29) 22 3 (by rfl) (.int .i64 0) 8 underlying22 aV (by rfl) W.heap.size ar i cr ((B.take i).map (Value.int .i64)) (by rfl) (by exact hO4) _ 1 1 [.int .i64 z] (by rfl) (λ_=>rfl) rfl (by intro j hj;obtain rfl : j=0:=(by omega);exact ew _ _ _ rfl) (by intro y hy;simp at hy;subst hy;rfl) (by omega) (by unfold maxLen;omega) (by exact hB4.size) ?_;intro a5 c5 w5 hown5 hgr5 hap5;have E : OC W w5:=(by first | exact N0 hB4 hO4 hgr5 (JO _) hB4.size | exact N0 hB4.drew (by exact hO4) hgr5 (JO _) hB4.drew.size)))
   all_goals (
    go_wp2_with fail
    go_roundw
    case rel=>exact ⟨i+1,a5,c5,by omega,by go_num,rfl,by rw [Hst.out,Ko];exact hown5,E⟩
    case measure=>simp [intOf] <;> omega)
  ·obtain rfl : i=I:=by omega
   have hB1 : B.take i=B:=JX (by rw [HBl.out];exact JO _)
   rw [hB1] at C
   have hIB:=Z5 (NZ C).1
   have hbwU:=NX HbW.out hbr
   have HKp2 : Hid (∀V,OC U V->Calls prog 262 #[.slice a n c,.slice G i ct] V λe w'=>∃a1 c1,e = .returned (.slice a1 n c1)/\bu w' a1 n (L.map (bP t))/\OC V w'):=λV N=>HKp.out V (NX hbwU N)
   have HS4 : Hid (∀V,OC U V->V.cell? ⟨w.heap.size,0,none⟩=some (.int .i64 P)/\V.cell? ⟨w.heap.size,1,none⟩=some (.int .i64 S)/\V.cell? ⟨w.heap.size,2,none⟩=some (.slice am D cm)/\V.cell? ⟨w.heap.size,3,none⟩=some (.int .i64 m)/\V.cell? ⟨w.heap.size,4,none⟩=some (.slice a n c)):=λV N=>HS.out V (NX hbr N)
   have HbU:=Z5 (JZ hbr hbwU)
   obtain ⟨c0,c1,c2,c3,c4⟩:=HS4.out U (JP _ _)
   clear hB1 C hbr hbwU HKp
   go_upto_region 6 with fail
   go_cut [9] (λv wx=>∃g,v = .pointer (some ⟨g,0,none⟩)/\U.heap.size<=g/\(∃a2 c2,aO wx g [.int .i64 n,.slice a2 i c2]/\bu wx a2 i A)/\OC U wx)
   case first =>
    obtain ⟨Zo,hZo⟩ : ∃Zo : Obj,Zo = .cells #[.int .i64 0,.slice none 0 0] 94:=⟨_,rfl⟩
    have hA1 : OC U (U.alloc Zo):=an _ _
    have hZ1 : aO (U.alloc Zo) U.heap.size [.int .i64 0,.slice none 0 0]:=by rw [hZo];exact NY _ _ _ rfl
    have hA2 : ∀V,OC U V->aO (V.alloc Zo) V.heap.size [.int .i64 0,.slice none 0 0]:=λV _=>by rw [hZo];exact NY _ _ _ rfl
    have HA:=Z5 (JZ hA1 (JZ hZ1 hA2))
    obtain ⟨z0,z1,z2,z3,z4⟩:=HS4.out (U.alloc Zo) hA1
    rw [hZo] at z0 z1 z2 z3 z4 HA
    clear hA1 hZ1 hA2 hZo
    go_region_law ((first
     | (go_simp;go_at_call 262;((with_reducible refine (HKp2.out _ (by first | exact (JP _ _).drew | exact HA.out.1 | exact HA.out.1.drew)).mono ?_);rintro e w3 ⟨a3,k3,rfl,hM3,hb3⟩;have Q : OC U w3:=(by first | exact NX (JP _ _).drew hb3 | exact NX HA.out.1 hb3 | exact NX HA.out.1.drew hb3);obtain ⟨d0,d1,d2,d3,d4⟩:=HS4.out w3 Q;obtain ⟨y0,y1,y2,y3,y4⟩:=HS4.out _ (N1 Q (.cells #[.int .i64 0,.slice none 0 0] 94));(first | (have K:=HA.out.2.1.af hb3;have p0:=K.cell 0 rfl;have p1:=K.cell 1 rfl;have pf0:=K.frozen 0;have pf1:=K.frozen 1) | (have K:=(HA.out.2.1.af (JP _ _).drew).af hb3;have p0:=K.cell 0 rfl;have p1:=K.cell 1 rfl;have pf0:=K.frozen 0;have pf1:=K.frozen 1) | skip)))
     | (go_simp;go_at_call 263;((with_reducible refine (HTu.out _ a3 k3 (by first | exact hM3 | exact hM3.af (an _ _))).mono ?_);rintro e w5 ⟨a5,k5,R5,rfl,H,E⟩;have Y : OC U w5:=(by first | exact NX Q E | exact NX (N1 Q _) E | exact NX (N1 Q _).drew E);obtain ⟨e0,e1,e2,e3,e4⟩:=HS4.out w5 Y;obtain ⟨g0,g1,g2,g3,g4⟩:=HS4.out _ (N1 Y (.cells #[.int .i64 0,.slice none 0 0] 94));have hZ6:=HA.out.2.2 w5 Y;have r0:=hZ6.cell 0 rfl;have r1:=hZ6.cell 1 rfl;have rf0:=hZ6.frozen 0;have rf1:=hZ6.frozen 1;(first | (have X:=K.af E;have q0:=X.cell 0 rfl;have q1:=X.cell 1 rfl;have qf0:=X.frozen 0;have qf1:=X.frozen 1) | (have X:=(HA.out.2.2 w3 Q).af E;have q0:=X.cell 0 rfl;have q1:=X.cell 1 rfl;have qf0:=X.frozen 0;have qf1:=X.frozen 1) | (have X:=((HA.out.2.2 w3 Q).af (JP _ _).drew).af E;have q0:=X.cell 0 rfl;have q1:=X.cell 1 rfl;have qf0:=X.frozen 0;have qf1:=X.frozen 1) | skip)))))
    all_goals (
     go_wp2_with fail
     go_meet
     first
     | exact ⟨w5.heap.size,rfl,Y.size,⟨a5,k5,NY _ _ _ rfl,H.je.af (an _ _)⟩,N1 Y _⟩
     | exact ⟨U.heap.size,rfl,JO _,⟨a5,k5,(X.setCell 0 _).setCell 1 _,(aT.bj (H.bj λx hx=>J6 _ _ _ _ λe=>(by have h1:=(H.lt x hx).1;have h2:=hb3.size;have h3:=K.1;have e' : x=U.heap.size:=e;omega)) λx hx=>J6 _ _ _ _ λe=>(by have h1:=(H.lt x hx).1;have h2:=hb3.size;have h3:=K.1;have e' : x=U.heap.size:=e;omega)).je⟩,(Y.setCell (JO _) _).setCell (JO _) _⟩
     | exact ⟨w3.heap.size,rfl,Q.size,⟨a5,k5,(X.setCell 0 _).setCell 1 _,(aT.bj (H.bj λx hx=>J6 _ _ _ _ λe=>(by have h1:=(H.lt x hx).1;simp at h1;have e' : x=w3.heap.size:=e;omega)) λx hx=>J6 _ _ _ _ λe=>(by have h1:=(H.lt x hx).1;simp at h1;have e' : x=w3.heap.size:=e;omega)).je⟩,(Y.setCell Q.size _).setCell Q.size _⟩
     | exact ⟨w5.heap.size,rfl,Y.size,⟨a5,k5,(hZ6.setCell 0 _).setCell 1 _,(aT.bj ((H.af (an _ _)).bj λx hx=>J6 _ _ _ _ λe=>(by have h1:=(H.lt x hx).2;have e' : x=w5.heap.size:=e;omega)) λx hx=>J6 _ _ _ _ λe=>(by have h1:=(H.lt x hx).2;have e' : x=w5.heap.size:=e;omega)).je⟩,((N1 Y _).setCell Y.size _).setCell Y.size _⟩)
   obtain ⟨g,rfl,hg,⟨a2,k2,hbx,hMA⟩,hbU6⟩:=hcut
   generalize wc=V6 at *
   clear c0 c1 c2 c3 c4
   obtain ⟨c0,c1,c2,c3,c4⟩:=HS4.out V6 hbU6
   have m0:=hbx.cell 0 rfl
   have m1:=hbx.cell 1 rfl
   have hbw6:=NX HbU.out.2 hbU6
   have HSo2:=Z5 (HSo.out V6 a2 k2 ar cr hbw6 hMA (hIB.out.af hbU6))
   clear HSo HTu HKp2 hbx hMA
   go_wp2_with fail
   refine HSo2.out.mono ?_
   rintro e w7 ⟨a7,k7,rfl,hI7,hb7⟩
   have hbw7:=NX hbw6 hb7
   have hbU7:=NX hbU6 hb7
   have HCb2 : Hid (∀V,OC w7 V->Calls prog 213 #[.agg #[.int .i64 P,.int .i64 S,.slice am D cm],.slice a7 n k7,.slice a n c,.int .i64 m] V λe w' =>
     ∃a1 c1,e = .returned (.slice a1 m c1)/\Ints w' a1 m Cm/\OC V w'):=λV N=>HCb.out V a7 k7 (NX hbw7 N) (hI7.af N)
   have HAd2 : Hid (∀V au cu,OC w7 V->Ints V au m Cm->Calls prog 227 #[.agg #[.int .i64 P,.int .i64 S,.slice am D cm],.slice ay m cy,.int .i64 1,.slice au m cu] V λe w' =>
     ∃a1 c1,e = .returned (.slice a1 m c1)/\Ints w' a1 m Z/\OC V w'):=λV au cu N h1=>HAd.out V au cu (NX hbw7 N) h1
   have HS7 : Hid (∀V,OC w7 V->V.cell? ⟨w.heap.size,0,none⟩=some (.int .i64 P)/\V.cell? ⟨w.heap.size,1,none⟩=some (.int .i64 S)/\V.cell? ⟨w.heap.size,2,none⟩=some (.slice am D cm)/\V.cell? ⟨w.heap.size,3,none⟩=some (.int .i64 m)/\V.cell? ⟨w.heap.size,4,none⟩=some (.slice a n c)/\OC w7 V):=λV N=>by obtain ⟨q0,q1,q2,q3,q4⟩:=HS4.out V (NX hbU7 N);exact ⟨q0,q1,q2,q3,q4,N⟩
   have Hbw7:=Z5 hbw7
   clear c0 c1 c2 c3 c4 m0 m1 HCb HAd hI7 hb7 HSo2
   go_upto_region 8 with fail
   go_region_held3 (λV=>V.cell? ⟨w.heap.size,0,none⟩=some (.int .i64 P)/\V.cell? ⟨w.heap.size,1,none⟩=some (.int .i64 S)/\V.cell? ⟨w.heap.size,2,none⟩=some (.slice am D cm)/\V.cell? ⟨w.heap.size,3,none⟩=some (.int .i64 m)/\V.cell? ⟨w.heap.size,4,none⟩=some (.slice a n c)/\OC w7 V)
    ((refine HS7.out _ ?_;first | exact hb9w | exact hb8w | exact (JP _ _).drew | assumption | (go_split_ands;assumption)))
    (first
     | (go_at_call 213;((with_reducible refine (HCb2.out _ (by go_split_ands;assumption)).mono ?_);rintro e w8 ⟨a8,k8,rfl,hI8,hb8⟩;have hb8w : OC w7 w8:=(by go_split_ands;exact NX (by assumption) hb8)))
     | (go_at_call 227;((with_reducible refine (HAd2.out _ a8 k8 (by go_split_ands;assumption) hI8).mono ?_);rintro e w9 ⟨a9,k9,rfl,hI9,hb9⟩;have hb9w : OC w7 w9:=(by go_split_ands;exact NX (by assumption) hb9))))
   all_goals (
    have HF:=Z5 hI9
    clear hI9
    go_wp2_with fail
    go_ret
    exact ⟨a9,k9,rfl,HF.out,NX Hbw7.out hb9w⟩)
theorem qC {P M : Int} {mod : LI} {m : Nat} {L : Ll} (V : aJ P M mod m L=0) : bU (ah P M.toNat mod) (aQ (ah P M.toNat mod) L m) m=aQ (ah P M.toNat mod) L m:=by
 obtain ⟨X,e,U,Y,F,Z⟩:=aY V;obtain rfl : m=X:=by omega
 exact oN F (fI F (bQ F Z) (bS F Z).1 (bY F Z))
theorem lW (P M : Int) (am : OA) (X cm : Nat) (mod : LI) (m : Nat) (a : OA) (n c : Nat) (L : Ll) (w : World) (Z : Ints w am X mod) (hi : bu w a n L) (Q : aJ P M mod m L=0) :
  Calls prog 99 #[.agg #[.int .i64 P,.int .i64 M,.slice am X cm,.int .i64 m,.slice a n c]] w (iw (ah P M.toNat mod) L m w):=by
 have K : Hid (∀V,OC w V->Calls prog 157 #[.agg #[.int .i64 P,.int .i64 M,.slice am X cm],.slice a n c,.int .i64 m] V (iw (ah P M.toNat mod) L m V)):=λV H=>by
  obtain ⟨G,e,z,I,F,B⟩:=aY Q;obtain rfl : m=G:=by omega
  have hn:=hi.len;have hl:=jL Q;exact oo P M am X cm mod m a n c L V (Z.af H) (hi.af H) (aN Q).1 B (by omega) (by omega)
 clear Z hi Q;unfold iw at K ⊢;generalize aQ (ah P M.toNat mod) L m=D at *;go_enter func99,ntmps99;go_upto_region 1 with fail;obtain ⟨W,S⟩ : ∃W : World,W=w.alloc (.cells #[.int .i64 P,.int .i64 M,.slice am X cm,.int .i64 m,.slice a n c] 27):=⟨_,rfl⟩
 rw [<- S];have Y : OC w W:=by rw [S];exact an _ _
 have U : aO W w.heap.size [.int .i64 P,.int .i64 M,.slice am X cm,.int .i64 m,.slice a n c]:=by rw [S];exact NY _ _ _ rfl
 have c0:=U.cell 0 rfl;have c1:=U.cell 1 rfl;have c2:=U.cell 2 rfl;have r:=U.cell 3 rfl;have E:=U.cell 4 rfl;clear S U;go_wp2_with fail;refine (K.out W Y).mono ?_;rintro e w1 ⟨a1,A,R,rfl,N,O⟩;have C:=Y.size;have hF:=NX Y O;have j:=Z5 (aT.mono N C);clear N c0 c1 c2 r E;go_wp2_with fail;go_ret;exact ⟨a1,A,R,rfl,j.out,hF⟩
def qe (P M : Int) (mod : LI) (N : Int) (L : Ll) (w : World) (e : Ending) (w' : World) : Prop :=
 OC w w'/\((aJ P M mod N L ≠ 0/\e = .returned (.tuple #[.agg #[.int .i64 0,.int .i64 0,.slice none 0 0,.int .i64 0,.slice none 0 0],.int .i64 (aJ P M mod N L)])) \/
  (aJ P M mod N L=0/\∃a1 c1 a2 c2,e = .returned (.tuple #[.agg #[.int .i64 P,.int .i64 M,.slice a1 mod.length c1,.int .i64 N,.slice a2 (aQ (ah P M.toNat mod) L N.toNat).length c2],.int .i64 0])/\Ints w' a1 mod.length mod /\
   bu w' a2 (aQ (ah P M.toNat mod) L N.toNat).length (aQ (ah P M.toNat mod) L N.toNat)))
theorem AK {P M : Int} {mod : LI} {m : Nat} {L : Ll} (Z : aJ P M mod m L=0) : (aQ (ah P M.toNat mod) L m).length<=m:=jL (jz Z).1
theorem oT (P M : Int) (am : OA) (O cm : Nat) (mod : LI) (N : Int) (a : OA) (n c : Nat) (L : Ll) (w : World) (X : Ints w am O mod) (hi : bu w a n L) :
  Calls prog 45 #[.agg #[.int .i64 P,.int .i64 M,.slice am O cm,.int .i64 N,.slice a n c]] w (qe P M mod N L w):=by
 have HK : Hid (∀V,OC w V->Calls prog 35 #[.agg #[.int .i64 P,.int .i64 M,.slice am O cm,.int .i64 N,.slice a n c]] V λe w'=>e = .returned (.int .i64 (aJ P M mod N L))/\OC V w'):=λV Q=>rG P M am O cm mod N a n c L V (X.af Q) (hi.af Q);have r : Hid (aJ P M mod N L=0->∀V,OC w V->Calls prog 99 #[.agg #[.int .i64 P,.int .i64 M,.slice am O cm,.int .i64 N,.slice a n c]] V λe w'=>∃a1 B,e = .returned (.slice a1 (aQ (ah P M.toNat mod) L N.toNat).length B)/\bu w' a1 (aQ (ah P M.toNat mod) L N.toNat).length (aQ (ah P M.toNat mod) L N.toNat)/\OC V w'):=λK V Q=>by obtain ⟨m,rfl,_⟩:=aY K;rw [JQ];refine (lW P M am O cm mod m a n c L V (X.af Q) (hi.af Q) K).mono ?_;rintro e w' ⟨a1,B,R,rfl,hO,hb⟩;exact ⟨a1,B,rfl,hO.je,hb⟩
 have j : Hid (aJ P M mod N L=0->∀V a1 B,OC w V->bu V a1 (aQ (ah P M.toNat mod) L N.toNat).length (aQ (ah P M.toNat mod) L N.toNat)->Calls prog 72 #[.agg #[.int .i64 P,.int .i64 M,.slice am O cm],.slice a1 (aQ (ah P M.toNat mod) L N.toNat).length B,.int .i64 N] V λe w' =>
   ∃a2 c2 a3 H,e = .returned (.agg #[.int .i64 P,.int .i64 M,.slice a2 mod.length c2,.int .i64 N,.slice a3 (aQ (ah P M.toNat mod) L N.toNat).length H])/\bJ V.heap.size w' a2 mod.length mod/\b8 V.heap.size w' a3 (aQ (ah P M.toNat mod) L N.toNat).length (aQ (ah P M.toNat mod) L N.toNat)/\OC V w'):=λK V a1 B Q hM=>by
  obtain ⟨m,rfl,hm1,hm64,F,hR⟩:=aY K;rw [JQ] at hM ⊢;have hmn : O<=8:=by have:=jd (aN K).1;rw [<- X.len];exact this
  have hRd : bs (ah P M.toNat mod).El m (aQ (ah P M.toNat mod) L m):=by
   obtain ⟨N',e,_,_,_,hR'⟩:=aY (jz K).1;obtain rfl : m=N':=by omega
   exact hR'
  have h:=oS P M am O cm mod m a1 (aQ (ah P M.toNat mod) L m).length B (aQ (ah P M.toNat mod) L m) V (X.af Q) hM (aN K).1 hRd (by omega) (by have h6:=AK K;omega) (by omega);unfold nF at h;rw [qC K] at h;exact h
 have I : Hid (∀a2 c2 a3 H w',aJ P M mod N L=0->OC w w'->Ints w' a2 mod.length mod->bu w' a3 (aQ (ah P M.toNat mod) L N.toNat).length (aQ (ah P M.toNat mod) L N.toNat) ->
   qe P M mod N L w (.returned (.tuple #[.agg #[.int .i64 P,.int .i64 M,.slice a2 mod.length c2,.int .i64 N,.slice a3 (aQ (ah P M.toNat mod) L N.toNat).length H],.int .i64 0])) w'):=λa2 c2 a3 H w' K hb h1 h2=>⟨hb,.inr ⟨K,a2,c2,a3,H,rfl,h1,h2⟩⟩
 have HNo : Hid (∀w',aJ P M mod N L ≠ 0->OC w w'->qe P M mod N L w (.returned (.tuple #[.agg #[.int .i64 0,.int .i64 0,.slice none 0 0,.int .i64 0,.slice none 0 0],.int .i64 (aJ P M mod N L)])) w'):=λw' h hb=>⟨hb,.inl ⟨h,rfl⟩⟩
 generalize qe P M mod N L w=Post at *;generalize aJ P M mod N L=ce at *;obtain ⟨q,hq⟩ : ∃q,(aQ (ah P M.toNat mod) L N.toNat).length=q:=⟨_,rfl⟩
 rw [hq] at r j I;clear hq;generalize aQ (ah P M.toNat mod) L N.toNat=D at *;have hHm:=Z5 X;clear X hi hHm;go_enter func45,ntmps45;go_wp2_with fail;obtain ⟨W,hW⟩ : ∃W : World,W=(w.alloc (.cells #[.int .i64 P,.int .i64 M,.slice am O cm,.int .i64 N,.slice a n c] 27)).alloc (.cells #[.int .i64 0,.int .i64 0,.slice none 0 0,.int .i64 0,.slice none 0 0] 27):=⟨_,rfl⟩
 rw [<- hW];have G : OC w W:=by rw [hW];exact bT _ _ _
 have hsW : W.heap.size=w.heap.size+2:=by rw [hW];simp
 have x0 : aO W w.heap.size [.int .i64 P,.int .i64 M,.slice am O cm,.int .i64 N,.slice a n c]:=by rw [hW];exact (NY _ _ _ rfl).alloc _
 have z0 : aO W (w.heap.size+1) [.int .i64 0,.int .i64 0,.slice none 0 0,.int .i64 0,.slice none 0 0]:=by rw [hW];exact NY _ _ _ (by simp)
 clear hW;have hS : ∀V,OC W V->V.cell? ⟨w.heap.size,0,none⟩=some (.int .i64 P)/\V.cell? ⟨w.heap.size,1,none⟩=some (.int .i64 M)/\V.cell? ⟨w.heap.size,2,none⟩=some (.slice am O cm)/\V.cell? ⟨w.heap.size,3,none⟩=some (.int .i64 N)/\V.cell? ⟨w.heap.size,4,none⟩=some (.slice a n c) /\
   aO V (w.heap.size+1) [.int .i64 0,.int .i64 0,.slice none 0 0,.int .i64 0,.slice none 0 0]:=λV Q=>by have x1:=x0.af Q;exact ⟨x1.cell 0 rfl,x1.cell 1 rfl,x1.cell 2 rfl,x1.cell 3 rfl,x1.cell 4 rfl,z0.af Q⟩
 have HS:=Z5 hS;have HbW:=Z5 G;have HsW:=Z5 hsW;refine (HK.out W G).mono ?_;rintro e E ⟨rfl,U⟩;have S:=NX G U;have hs1 : w.heap.size+2<=E.heap.size:=by rw [<- hsW];exact U.size
 have Hs1:=Z5 hs1;clear hS x0 z0 G hsW hs1;have HS5 : Hid (∀(V : World) (v0 v1 v2 v3 v4 : Value),OC w V->OC w (((((V.setCell ⟨w.heap.size+1,0,none⟩ v0).setCell ⟨w.heap.size+1,1,none⟩ v1).setCell ⟨w.heap.size+1,2,none⟩ v2).setCell ⟨w.heap.size+1,3,none⟩ v3).setCell ⟨w.heap.size+1,4,none⟩ v4)):=λV v0 v1 v2 v3 v4 h =>
  (((((h.setCell (p:=⟨w.heap.size+1,0,none⟩) (by simp) _).setCell (p:=⟨w.heap.size+1,1,none⟩) (by simp) _).setCell (p:=⟨w.heap.size+1,2,none⟩) (by simp) _).setCell (p:=⟨w.heap.size+1,3,none⟩) (by simp) _).setCell (p:=⟨w.heap.size+1,4,none⟩) (by simp) _)
 by_cases h0 : ce=0;rotate_left
 ·have d0 : (ce != 0)=true:=by simpa using h0
  obtain ⟨_,_,_,_,_,Z⟩:=HS.out E U;have z0:=Z.cell 0 rfl;have z1:=Z.cell 1 rfl;have z2:=Z.cell 2 rfl;have z3:=Z.cell 3 rfl;have z4:=Z.cell 4 rfl;have f0:=Z.frozen 0;have f1:=Z.frozen 1;have f2:=Z.frozen 2;have f3:=Z.frozen 3;have f4:=Z.frozen 4;have HF:=Z5 (HNo.out _ h0 (HS5.out E (.int .i64 0) (.int .i64 0) (.slice none 0 0) (.int .i64 0) (.slice none 0 0) S));clear h0 Z;go_wp2_with fail;exact bodyPost_ret (v:=.tuple #[.agg #[.int .i64 0,.int .i64 0,.slice none 0 0,.int .i64 0,.slice none 0 0],.int .i64 ce]) (by simp [results,results45,go_sem,z0,z1,z2,z3,z4]) rfl HF.out
 have d0 : (ce != 0)=false:=by simp [h0]
 have HPa1:=Z5 (r.out h0);have HMk1:=Z5 (j.out h0);have HSet : Hid (∀(V : World) (a2 : OA) (c2 : Nat) (a3 : OA) (H : Nat),OC E V->bJ E.heap.size V a2 mod.length mod->b8 E.heap.size V a3 q D->Post (.returned (.tuple #[.agg #[.int .i64 P,.int .i64 M,.slice a2 mod.length c2,.int .i64 N,.slice a3 q H],.int .i64 0])) (((((V.setCell ⟨w.heap.size+1,0,none⟩ (.int .i64 P)).setCell ⟨w.heap.size+1,1,none⟩ (.int .i64 M)).setCell ⟨w.heap.size+1,2,none⟩ (.slice a2 mod.length c2)).setCell ⟨w.heap.size+1,3,none⟩ (.int .i64 N)).setCell ⟨w.heap.size+1,4,none⟩ (.slice a3 q H))):=λV a2 c2 a3 H Q hN hM=>by
  have h1:=Hs1.out;refine I.out a2 c2 a3 H _ h0 (HS5.out V _ _ _ _ _ (NX S Q)) ?_ ?_
  ·exact (((((hN.setCell (p:=⟨w.heap.size+1,0,none⟩) (by simp;omega) _).setCell (p:=⟨w.heap.size+1,1,none⟩) (by simp;omega) _).setCell (p:=⟨w.heap.size+1,2,none⟩) (by simp;omega) _).setCell (p:=⟨w.heap.size+1,3,none⟩) (by simp;omega) _).setCell (p:=⟨w.heap.size+1,4,none⟩) (by simp;omega) _).ints
  ·exact (((((hM.setCell (p:=⟨w.heap.size+1,0,none⟩) (by simp;omega) _).setCell (p:=⟨w.heap.size+1,1,none⟩) (by simp;omega) _).setCell (p:=⟨w.heap.size+1,2,none⟩) (by simp;omega) _).setCell (p:=⟨w.heap.size+1,3,none⟩) (by simp;omega) _).setCell (p:=⟨w.heap.size+1,4,none⟩) (by simp;omega) _).je
 obtain ⟨c0,c1,c2,H,c4,_⟩:=HS.out E U;clear h0 r j I HNo HK;go_upto_region 4 with fail;go_region_law ((first
  | (go_simp;go_at_call 99;((with_reducible refine (HPa1.out _ (by first | exact S.drew | exact S)).mono ?_);rintro e w3 ⟨a3,k3,rfl,hM3,hb3⟩;have Y : OC E w3:=(by first | exact NX (JP _ _).drew hb3 | exact hb3);obtain ⟨g0,g1,g2,g3,g4,_⟩:=HS.out w3 (NX U Y)))
  | (go_simp;go_at_call 72;((with_reducible refine (HMk1.out _ a3 k3 (by first | exact NX S Y | exact (NX S Y).drew) (by first | exact hM3 | exact hM3.af (JP _ _).drew)).mono ?_);rintro e w5 ⟨a5,k5,a6,k6,rfl,A,z,hb5⟩;have C : OC E w5:=(by first | exact NX Y hb5 | exact NX Y.drew hb5);have HFi:=Z5 (HSet.out w5 a5 k5 a6 k6 C (by first | exact A.mono Y.size | exact A.mono Y.drew.size) (by first | exact z.mono Y.size | exact z.mono Y.drew.size));obtain ⟨_,_,_,_,_,Z⟩:=HS.out w5 (NX U C);have z0:=Z.cell 0 rfl;have z1:=Z.cell 1 rfl;have z2:=Z.cell 2 rfl;have z3:=Z.cell 3 rfl;have z4:=Z.cell 4 rfl;have f0:=Z.frozen 0;have f1:=Z.frozen 1;have f2:=Z.frozen 2;have f3:=Z.frozen 3;have f4:=Z.frozen 4;clear Z A z))))
 all_goals (
  go_wp2_with fail
  exact bodyPost_ret (v:=.tuple #[.agg #[.int .i64 P,.int .i64 M,.slice a5 mod.length k5,.int .i64 N,.slice a6 q k6],.int .i64 0]) (by simp [results,results45,go_sem,z0,z1,z2,z3,z4]) rfl HFi.out)
theorem wj (P M : Int) (am : OA) (U cm : Nat) (mod : LI) (N : Int) (a : OA) (n c : Nat) (L : Ll) (w : World) (Y : Ints w am U mod) (hi : bu w a n L) (O : aJ P M mod N L ≠ 0) :
  Calls prog 80 #[.agg #[.int .i64 P,.int .i64 M,.slice am U cm,.int .i64 N,.slice a n c]] w λe w'=>e = .returned (.tuple #[.agg #[.int .i64 0,.int .i64 0,.slice none 0 0,.int .i64 0,.slice none 0 0],.int .i64 (aJ P M mod N L)])/\OC w w':=by
 have I : Hid (∀V,OC w V->Calls prog 88 #[.agg #[.int .i64 P,.int .i64 M,.slice am U cm,.int .i64 N,.slice a n c]] V λe w'=>e = .returned (.int .i64 (aJ P M mod N L))/\OC V w'):=λV K=>df P M am U cm mod N a n c L V (Y.af K) (hi.af K);generalize aJ P M mod N L=ce at *;have d0 : (ce != 0)=true:=by simpa using O
 clear Y hi O;go_enter func80,ntmps80;go_wp2_with fail;obtain ⟨W,Q⟩ : ∃W : World,W=(w.alloc (.cells #[.int .i64 P,.int .i64 M,.slice am U cm,.int .i64 N,.slice a n c] 27)).alloc (.cells #[.int .i64 0,.int .i64 0,.slice none 0 0,.int .i64 0,.slice none 0 0] 27):=⟨_,rfl⟩
 rw [<- Q];have X : OC w W:=by rw [Q];exact bT _ _ _
 have z0 : aO W (w.heap.size+1) [.int .i64 0,.int .i64 0,.slice none 0 0,.int .i64 0,.slice none 0 0]:=by rw [Q];exact NY _ _ _ (by simp)
 have F:=Z5 z0;clear Q z0;refine (I.out W X).mono ?_;rintro e E ⟨rfl,S⟩;have Z:=F.out.af S;have z0:=Z.cell 0 rfl;have G:=Z.cell 1 rfl;have z2:=Z.cell 2 rfl;have z3:=Z.cell 3 rfl;have z4:=Z.cell 4 rfl;have f0:=Z.frozen 0;have f1:=Z.frozen 1;have f2:=Z.frozen 2;have f3:=Z.frozen 3;have f4:=Z.frozen 4;have hF:=NX X S;have H:=Z5 (((((hF.setCell (p:=⟨w.heap.size+1,0,none⟩) (by simp) (.int .i64 0)).setCell (p:=⟨w.heap.size+1,1,none⟩) (by simp) (.int .i64 0)).setCell (p:=⟨w.heap.size+1,2,none⟩) (by simp) (.slice none 0 0)).setCell (p:=⟨w.heap.size+1,3,none⟩) (by simp) (.int .i64 0)).setCell (p:=⟨w.heap.size+1,4,none⟩) (by simp) (.slice none 0 0));clear Z hF;go_wp2_with fail;exact bodyPost_ret (v:=.tuple #[.agg #[.int .i64 0,.int .i64 0,.slice none 0 0,.int .i64 0,.slice none 0 0],.int .i64 ce]) (by simp [results,results80,go_sem,z0,G,z2,z3,z4]) rfl ⟨rfl,H.out⟩
def sI (P M : Int) (mod : LI) (m : Nat) (L : Ll) (k : Nat) (x : LI) (T : Ll) : Bool :=
 decide (fD P M mod m (aQ (ah P M.toNat mod) L m) x=0) && jX P M mod m (aQ (ah P M.toNat mod) L m) x && decide (nth x k=1) && decide (iN P M mod m (cJ P M mod m L k) x ((gU x : Int) - 1) T=0)
def lkTo (P M : Int) (mod : LI) (m : Nat) (L Z : Ll) (TT : List Ll) : Nat->Bool
 | 0=>true
 | k+1=>lkTo P M mod m L Z TT k && sI P M mod m L k (ai Z k) (nV TT k)
theorem vj {P M : Int} {mod : LI} {m : Nat} {L Z : Ll} {TT : List Ll} {k : Nat} (h : sI P M mod m L k (ai Z k) (nV TT k)=false) : ∀d,lkTo P M mod m L Z TT (k+1+d)=false
 | 0=>by rw [MW,lkTo,h,Nh]
 | d+1=>by rw [show k+1+(d+1)=(k+1+d)+1 by omega,lkTo,vj h d,Bool.false_and]
def lK (P M : Int) (mod : LI) (N : Int) (L Z : Ll) (TT : List Ll) : Int :=
 if aJ P M mod N L=0 then (if (Z.length : Int)=N/\(TT.length : Int)=N/\lkTo P M mod N.toNat L Z TT N.toNat=true then 0 else 13) else aJ P M mod N L
def lZ (Z : Ll) (k : Nat) : LI:=(Z.take k).map λx=>(gU x : Int) - 1
def iI (Z : Int) (V : LI) (n : Nat) (w : World) (e : Ending) (w' : World) : Prop :=
 OC w w'/\((Z ≠ 0/\e = .returned (.tuple #[.slice none 0 0,.int .i64 Z]))\/(Z=0/\∃a c,e = .returned (.tuple #[.slice a n c,.int .i64 0])/\Ints w' a n V))
theorem pa (P M : Int) (am : OA) (C cm : Nat) (mod : LI) (N : Int) (a : OA) (n c : Nat) (L : Ll) (aw : OA) (G cw : Nat) (Z : Ll) (Q : OA) (H ct : Nat) (TT : List Ll) (w : World)
  (I : Ints w am C mod) (hi : bu w a n L) (hw : bu w aw G Z) (ht : gq w Q H TT) :
  Calls prog 31 #[.agg #[.int .i64 P,.int .i64 M,.slice am C cm,.int .i64 N,.slice a n c],.agg #[.slice aw G cw,.slice Q H ct]] w (iI (lK P M mod N L Z TT) (lZ Z N.toNat) N.toNat w):=by
 have S : Hid (∀V er,lK P M mod N L Z TT=er->er ≠ 0->OC w V->iI (lK P M mod N L Z TT) (lZ Z N.toNat) N.toNat w (.returned (.tuple #[.slice none 0 0,.int .i64 er])) V):=λV er h1 h2 h3=>⟨h3,.inl ⟨by rw [h1];exact h2,by rw [h1]⟩⟩
 have hmw:=hw.max;have hmt:=ht.max;have hplw:=hw.pl;have hplt:=ht.pl;unfold maxLen at hmw hmt;by_cases hE : aJ P M mod N L=0;rotate_left
 ·have HD : Hid (∀V,OC w V->Calls prog 80 #[.agg #[.int .i64 P,.int .i64 M,.slice am C cm,.int .i64 N,.slice a n c]] V λe w'=>e = .returned (.tuple #[.agg #[.int .i64 0,.int .i64 0,.slice none 0 0,.int .i64 0,.slice none 0 0],.int .i64 (aJ P M mod N L)])/\OC V w'):=λV X =>
   wj P M am C cm mod N a n c L V (I.af X) (hi.af X) hE
  have HR : Hid (lK P M mod N L Z TT=aJ P M mod N L):=by show _=_;rw [lK,JR hE]
  generalize iI (lK P M mod N L Z TT) (lZ Z N.toNat) N.toNat w=Post at *;generalize aJ P M mod N L=ce at *;have d0 : (ce != 0)=true:=by simpa using hE
  have H0:=Z5 hE;clear I hi hw ht hE;go_enter func31,ntmps31;go_upto_region 1 with fail;obtain ⟨W,hW⟩ : ∃W : World,W=(w.alloc (.cells #[.int .i64 P,.int .i64 M,.slice am C cm,.int .i64 N,.slice a n c] 27)).alloc (.cells #[.slice aw G cw,.slice Q H ct] 48):=⟨_,rfl⟩
  rw [<- hW];have hbW : OC w W:=by rw [hW];exact bT _ _ _
  have x0 : aO W w.heap.size [.int .i64 P,.int .i64 M,.slice am C cm,.int .i64 N,.slice a n c]:=by rw [hW];exact (NY _ _ _ rfl).alloc _
  have c0:=x0.cell 0 rfl;have c1:=x0.cell 1 rfl;have c2:=x0.cell 2 rfl;have c3:=x0.cell 3 rfl;have c4:=x0.cell 4 rfl;have HbW:=Z5 hbW;clear hW x0 hbW;go_wp2_with fail;refine (HD.out W HbW.out).mono ?_;rintro e w1 ⟨rfl,hb1⟩;have hF:=NX (NX HbW.out hb1) (an w1 (.cells #[.int .i64 0,.int .i64 0,.slice none 0 0,.int .i64 0,.slice none 0 0] 27));clear c0 c1 c2 c3 c4;go_wp2_with fail;exact S.out _ _ HR.out H0.out hF
 obtain ⟨m,rfl,hm1,hm64,_⟩:=aY hE;have hml : mod.length<=8:=jd (aN hE).1;have hmn : C<=8:=by rw [<- I.len];exact hml
 have HD : Hid (∀V,OC w V->Calls prog 80 #[.agg #[.int .i64 P,.int .i64 M,.slice am C cm,.int .i64 m,.slice a n c]] V (jE P M mod m L V)):=λV X=>qL P M am C cm mod m a n c L V (I.af X) (hi.af X) hE (by omega);have B : Hid (∀V a1 c1 a2 c2 F O rc x,Ints V a1 mod.length mod->bu V a2 (aQ (ah P M.toNat mod) L m).length (aQ (ah P M.toNat mod) L m)->Ints V F O x->Calls prog 81 #[.agg #[.int .i64 P,.int .i64 M,.slice a1 mod.length c1,.int .i64 m,.slice a2 (aQ (ah P M.toNat mod) L m).length c2],.slice F O rc] V
   λe w'=>e = .returned (.tuple #[.bool (jX P M mod m (aQ (ah P M.toNat mod) L m) x),.int .i64 (fD P M mod m (aQ (ah P M.toNat mod) L m) x)])/\OC V w'):=λV a1 c1 a2 c2 F O rc x h1 h2 h3 =>
  uw P M a1 _ c1 mod m a2 _ c2 _ F O rc x V h1 h2 h3
 have HWl : Hid (∀x,fD P M mod m (aQ (ah P M.toNat mod) L m) x=0->x.length=m):=λx h=>by have h1:=(lE h).2.1;simpa using h1
 have HZe : Hid (∀ V (k : Nat), k < m → OC w V → Calls prog 74 #[.agg #[.int .i64 P, .int .i64 M, .slice am C cm, .int .i64 m, .slice a n c], .int .i64 k] V fun e w' =>
       ∃a1 c1 a2 c2,e = .returned (.tuple #[.agg #[.int .i64 P,.int .i64 M,.slice a1 mod.length c1,.int .i64 m,.slice a2 (cJ P M mod m L k).length c2],.int .i64 0])/\Ints w' a1 mod.length mod/\bu w' a2 (cJ P M mod m L k).length (cJ P M mod m L k)/\OC V w'):=λV k hk X =>
  rE P M am C cm mod m a n c L k V (I.af X) (hi.af X) hE hk
 have HCk : Hid (∀ V a1 c1 a2 c2 (k : Nat) F rc x W ab nb cb T, Ints V a1 mod.length mod → bu V a2 (cJ P M mod m L k).length (cJ P M mod m L k) → Ints V F m x → bu V ab nb T → Calls prog 82 #[.agg #[.int .i64 P, .int .i64 M, .slice a1 mod.length c1, .int .i64 m, .slice a2 (cJ P M mod m L k).length c2], .slice F m rc, .int .i64 W, .agg #[.slice ab nb cb]] V
       λe w'=>e = .returned (.int .i64 (iN P M mod m (cJ P M mod m L k) x W T))/\OC V w'):=λV a1 c1 a2 c2 k F rc x W ab nb cb T h1 h2 h3 h4 =>
  oI P M a1 _ c1 mod m a2 _ c2 _ F m rc x W ab nb cb T V h1 h2 h3 h4
 have HEl : Hid (lK P M mod m L Z TT=if (G : Int)=m/\(H : Int)=m/\lkTo P M mod m L Z TT m=true then 0 else 13):=by show _=_;rw [lK,JT hE,hw.len,ht.len,JQ]
 have HTn : Hid (∀k,k<m->sI P M mod m L k (ai Z k) (nV TT k)=false->lK P M mod m L Z TT=13):=λk hk h=>by rw [HEl.out,JR];rintro ⟨_,_,h3⟩;have h4:=vj (TT:=TT) h (m - (k+1));rw [show k+1+(m - (k+1))=m by omega,h3] at h4;cases h4
 have HTs : Hid (∀k,lkTo P M mod m L Z TT k=true->sI P M mod m L k (ai Z k) (nV TT k)=true->lkTo P M mod m L Z TT (k+1)=true):=λk h1 h2=>by rw [lkTo,h1,h2];rfl
 have HOk : Hid (∀k x T,sI P M mod m L k x T=(decide (fD P M mod m (aQ (ah P M.toNat mod) L m) x=0) && jX P M mod m (aQ (ah P M.toNat mod) L m) x && decide (nth x k=1) && decide (iN P M mod m (cJ P M mod m L k) x ((gU x : Int) - 1) T=0))):=λk x T=>rfl;have HVk : Hid (∀k,k<G->lZ Z (k+1)=lZ Z k ++ [(gU (ai Z k) : Int) - 1]):=λk hk=>by
  have hkA : k<Z.length:=by rw [hw.len];exact hk
  unfold lZ;rw [JW hkA,Ko,aE hkA];rfl
 have HV0 : Hid (lZ Z 0=[]/\lkTo P M mod m L Z TT 0=true):=⟨rfl,rfl⟩
 have HVl : Hid (∀k,k<=G->(lZ Z k).length=k):=λk hk=>by unfold lZ;rw [J5,Ki,hw.len];omega
 rw [JQ] at S ⊢;have HFin : Hid (∀a1 c1 V,lK P M mod m L Z TT=0->Ints V a1 m (lZ Z m)->OC w V->iI (lK P M mod m L Z TT) (lZ Z m) m w (.returned (.tuple #[.slice a1 m c1,.int .i64 0])) V):=λa1 c1 V h0 h1 h2=>⟨h2,.inr ⟨h0,a1,c1,rfl,h1⟩⟩
 unfold jE at HD;generalize hPo : iI (lK P M mod m L Z TT) (lZ Z m) m w=Post at *;generalize lK P M mod m L Z TT=le at *;generalize lkTo P M mod m L Z TT=LT at *;generalize sI P M mod m L=ok at *;generalize aQ (ah P M.toNat mod) L m=D at *;generalize hVc : cJ P M mod m L=vc at *;generalize lZ Z=LV at *;obtain ⟨r,hnm⟩ : ∃r,mod.length=r:=⟨_,rfl⟩
 obtain ⟨nd,hnd⟩ : ∃nd,D.length=nd:=⟨_,rfl⟩
 rw [hnm] at HD B HZe HCk;rw [hnd] at HD B;have HI:=Z5 (JZ hw ht);clear I hi hw ht hE hm1 hml hmn hPo hVc hnm hnd;go_enter func31,ntmps31;go_upto_region 1 with fail;obtain ⟨W,hW⟩ : ∃W : World,W=(w.alloc (.cells #[.int .i64 P,.int .i64 M,.slice am C cm,.int .i64 m,.slice a n c] 27)).alloc (.cells #[.slice aw G cw,.slice Q H ct] 48):=⟨_,rfl⟩
 rw [<- hW];have hbW : OC w W:=by rw [hW];exact bT _ _ _
 have x0 : aO W w.heap.size [.int .i64 P,.int .i64 M,.slice am C cm,.int .i64 m,.slice a n c]:=by rw [hW];exact (NY _ _ _ rfl).alloc _
 have y0 : aO W (w.heap.size+1) [.slice aw G cw,.slice Q H ct]:=by rw [hW];exact NY _ _ _ (by simp)
 clear hW;have HX : Hid (∀V,OC W V->V.cell? ⟨w.heap.size,0,none⟩=some (.int .i64 P)/\V.cell? ⟨w.heap.size,1,none⟩=some (.int .i64 M)/\V.cell? ⟨w.heap.size,2,none⟩=some (.slice am C cm)/\V.cell? ⟨w.heap.size,3,none⟩=some (.int .i64 m)/\V.cell? ⟨w.heap.size,4,none⟩=some (.slice a n c)/\V.cell? ⟨w.heap.size+1,0,none⟩=some (.slice aw G cw)/\V.cell? ⟨w.heap.size+1,1,none⟩=some (.slice Q H ct)):=λV X=>by have x1:=x0.af X;have y1:=y0.af X;exact ⟨x1.cell 0 rfl,x1.cell 1 rfl,x1.cell 2 rfl,x1.cell 3 rfl,x1.cell 4 rfl,y1.cell 0 rfl,y1.cell 1 rfl⟩
 have HbW:=Z5 hbW;clear x0 y0 hbW;obtain ⟨c0,c1,c2,c3,c4,d0,d1⟩:=HX.out W (JP _ _);go_wp2_with fail;refine (HD.out W HbW.out).mono ?_;rintro e w1 ⟨a1,k1,a2,k2,rfl,hI1,hM1,hb1⟩;have hn1:=an w1 (.cells #[.int .i64 P,.int .i64 M,.slice a1 r k1,.int .i64 m,.slice a2 nd k2] 27);have y1 : aO (w1.alloc (.cells #[.int .i64 P,.int .i64 M,.slice a1 r k1,.int .i64 m,.slice a2 nd k2] 27)) w1.heap.size [.int .i64 P,.int .i64 M,.slice a1 r k1,.int .i64 m,.slice a2 nd k2]:=NY _ _ _ rfl;have hI1':=hI1.ints.af hn1;have hM1':=hM1.je.af hn1;clear c0 c1 c2 c3 c4 d0 d1 hI1 hM1;go_upto_region 2 with fail;obtain ⟨U,hU⟩ : ∃U,w1.alloc (.cells #[.int .i64 P,.int .i64 M,.slice a1 r k1,.int .i64 m,.slice a2 nd k2] 27)=U:=⟨_,rfl⟩
 rw [hU] at hn1 y1 hI1' hM1' ⊢;obtain ⟨g1,hg1⟩ : ∃g,w1.heap.size=g:=⟨_,rfl⟩
 rw [hg1] at y1 ⊢;have hbU:=NX hb1 hn1;have hF1:=NX HbW.out hbU;have HDc : Hid (∀V,OC U V->V.cell? ⟨g1,0,none⟩=some (.int .i64 P)/\V.cell? ⟨g1,1,none⟩=some (.int .i64 M)/\V.cell? ⟨g1,2,none⟩=some (.slice a1 r k1)/\V.cell? ⟨g1,3,none⟩=some (.int .i64 m)/\V.cell? ⟨g1,4,none⟩=some (.slice a2 nd k2)):=λV X=>by have y:=y1.af X;exact ⟨y.cell 0 rfl,y.cell 1 rfl,y.cell 2 rfl,y.cell 3 rfl,y.cell 4 rfl⟩
 have HH:=Z5 (λV F O rc x (X : OC U V) h=>B.out V a1 k1 a2 k2 F O rc x (hI1'.af X) (hM1'.af X) h);clear hU hg1 y1 hI1' hM1' B HD hn1 hb1;obtain ⟨c0,c1,c2,c3,c4,d0,d1⟩:=HX.out U hbU;by_cases h1 : (G : Int)=m;rotate_left
 ·have e1 : ((G : Int) != m)=true:=by simpa using h1
  have HF:=Z5 (S.out U 13 (by rw [HEl.out,JR (λh=>h1 h.1)]) (by decide) hF1);clear h1;go_wp2_with fail;exact HF.out
 obtain rfl : G=m:=by omega
 by_cases h2 : (H : Int)=G;rotate_left
 ·have e1 : ((G : Int) != G)=false:=by simp
  have e2 : ((H : Int) != G)=true:=by simpa using h2
  have HF:=Z5 (S.out U 13 (by rw [HEl.out,JR (λh=>h2 h.2.1)]) (by decide) hF1);clear h1 h2;go_wp2_with fail;exact HF.out
 obtain rfl : H=G:=by omega
 have e1 : ((H : Int) != H)=false:=by simp
 have A:=Z5 (JZ hF1 hbU);clear h1 h2;go_wp2_with fail;clear c0 c1 c2 c3 c4 d0 d1 e1;go_loopw [8,39] (λsv iv wr=>∃(k : Nat) (a8 : OA) (c8 : Nat),k<=H/\iv = .int .i64 k/\sv = .slice a8 k c8/\Hid (wr.ownsRow U.heap.size 3 1 (.slice a8 k c8) k ((LV k).map (Value.int .i64)))/\OC U wr/\Hid (LT k=true)) (λ_ iv _=>H - (intOf iv).toNat);case atStart=>exact ⟨0,none,0,JU _,rfl,rfl,by show World.ownsRow _ _ _ _ _ _ _;rw [HV0.out.1];exact cF,JP _ _,HV0.out.2⟩
 case round =>
  obtain ⟨k,a8,c8,hk,rfl,rfl,Hown,z,Hlt⟩:=hrel
  by_cases j : k<H
  ·have hbwr:=NX A.out.1 z
   obtain ⟨F,O,rc,hcell,hrw⟩:=(HI.out.1.af hbwr).cell k j
   have HRw:=Z5 hrw
   have HTk:=Z5 (HTn.out k j)
   have HSk:=Z5 (HTs.out k Hlt.out)
   have HVk1:=Z5 (HVk.out k j)
   have HTr:=Z5 ((HI.out.2.af hbwr).cell k j)
   have hok:=HOk.out k (ai Z k) (nV TT k)
   have HLk:=Z5 (HWl.out (ai Z k))
   have HHk:=Z5 (HH.out wr F O rc _ z hrw)
   have hpr:=hrw.pl
   obtain ⟨x,hx⟩ : ∃x,ai Z k=x:=⟨_,rfl⟩
   rw [hx] at HRw HTk HSk HVk1 hok HLk HHk
   obtain ⟨T,hT⟩ : ∃T,nV TT k=T:=⟨_,rfl⟩
   rw [hT] at HTk HSk hok HTr
   have Y:=Z5 hok
   obtain ⟨wE,hwE⟩ : ∃e,fD P M mod H D x=e:=⟨_,rfl⟩
   obtain ⟨X,hhV⟩ : ∃e,jX P M mod H D x=e:=⟨_,rfl⟩
   rw [hwE,hhV] at HHk Y
   rw [hwE] at HLk
   obtain ⟨q0,q1,q2,q3,q4⟩:=HDc.out wr z
   have Hbr:=Z5 z
   clear hx hT hwE hhV hok hrw z hbwr
   go_wp2_with fail
   refine HHk.out.mono ?_
   rintro e w3 ⟨rfl,hb3⟩
   have hbr3:=NX Hbr.out hb3
   have hF3:=NX A.out.1 hbr3
   clear q0 q1 q2 q3 q4
   by_cases h0 : wE=0
   rotate_left
   ·have e0 : (wE != 0)=true:=by simpa using h0
    have HF:=Z5 (S.out w3 13 (HTk.out (by rw [Y.out,Kb h0];rfl)) (by decide) hF3)
    clear h0
    go_wp2_with fail
    exact HF.out
   subst h0
   have hxl:=HLk.out rfl
   have hrn : O=H:=by rw [<- HRw.out.len];exact hxl
   subst hrn
   cases X
   ·have HF:=Z5 (S.out w3 13 (HTk.out (by rw [Y.out];simp)) (by decide) hF3)
    clear hxl
    go_wp2_with fail
    exact HF.out
   have hrw3:=HRw.out.af hb3
   have ck:=hrw3.cell k j
   have Hxl:=Z5 hxl
   have HRw3:=Z5 hrw3
   obtain ⟨y,hy⟩ : ∃y,nth x k=y:=⟨_,rfl⟩
   rw [hy] at ck Y
   have hk1 : (k : Int)<O:=by omega
   clear hy hxl hrw3
   by_cases hy1 : y=1
   rotate_left
   ·have e0 : (y != 1)=true:=by simpa using hy1
    have HF:=Z5 (S.out w3 13 (HTk.out (by rw [Y.out,Kb hy1];simp)) (by decide) hF3)
    clear hy1
    go_wp2_with fail
    exact HF.out
   subst hy1
   have HZk:=Z5 (HZe.out w3 k j hF3)
   obtain ⟨vk,hvk⟩ : ∃vk,vc k=vk:=⟨_,rfl⟩
   obtain ⟨qv,hqv⟩ : ∃q,vk.length=q:=⟨_,rfl⟩
   have hck2:=λV a1 c1 a2 c2=>HCk.out V a1 c1 a2 c2 k F rc x
   rw [hvk,hqv] at HZk hck2
   rw [hvk] at Y
   have HCk2:=Z5 hck2
   obtain ⟨c0,c1,c2,c3,c4,_,d1⟩:=HX.out w3 (NX A.out.2 hbr3)
   clear hvk hqv hck2
   go_wp2_with fail
   refine HZk.out.mono ?_
   rintro e w4 ⟨a3,k3,a4,k4,rfl,hI3,hM3,hb4⟩
   have hn4:=an w4 (.cells #[.int .i64 P,.int .i64 M,.slice a3 r k3,.int .i64 O,.slice a4 qv k4] 27)
   have y4 : aO (w4.alloc (.cells #[.int .i64 P,.int .i64 M,.slice a3 r k3,.int .i64 O,.slice a4 qv k4] 27)) w4.heap.size [.int .i64 P,.int .i64 M,.slice a3 r k3,.int .i64 O,.slice a4 qv k4]:=NY _ _ _ rfl
   have hI3':=hI3.af hn4
   have hM3':=hM3.af hn4
   clear c0 c1 c2 c3 c4 d1 hI3 hM3 ck
   go_upto_region 14 with fail
   obtain ⟨V3,hV3⟩ : ∃V3,w4.alloc (.cells #[.int .i64 P,.int .i64 M,.slice a3 r k3,.int .i64 O,.slice a4 qv k4] 27)=V3:=⟨_,rfl⟩
   rw [hV3] at hn4 y4 hI3' hM3' ⊢
   have K:=NX hb4 hn4
   have hrV3:=HRw3.out.af K
   have E:=NX hbr3 K
   obtain ⟨g3,hg3⟩ : ∃g,w4.heap.size=g:=⟨_,rfl⟩
   rw [hg3] at y4 ⊢
   obtain ⟨ab,nb,cb,hcT,hmT,_⟩:=HTr.out
   have hcT3:=aB (NX hb3 K) hcT
   have hmT3:=hmT.af (NX hb3 K)
   have hxm : gU x<=O:=by have h:=zF (x:=x);rw [Hxl.out] at h;exact h
   obtain ⟨wt,hwt⟩ : ∃wt,gU x=wt:=⟨_,rfl⟩
   rw [hwt] at hxm Y HVk1
   have w1' : IntKind.i64.wrap ((wt : Int) - 1)=(wt : Int) - 1:=J3 _ (by omega)
   have HW3 : Hid (∀V,OC V3 V->Calls prog 76 #[.slice F O rc] V λe w'=>e = .returned (.int .i64 (wt : Nat))/\OC V w'):=λV X=>by rw [<- hwt];exact nS F O rc _ V (hrV3.af X) (by omega)
   have HC3:=Z5 (λV (X : OC V3 V)=>HCk2.out V a3 k3 a4 k4 ((wt : Int) - 1) ab nb cb T (hI3'.af X) (hM3'.af X) (hrV3.af X) (hmT3.af X))
   obtain ⟨ce,hce⟩ : ∃ce,iN P M mod O vk x ((wt : Int) - 1) T=ce:=⟨_,rfl⟩
   rw [hce] at HC3 Y
   have HS5 : Hid (∀V,OC V3 V->V.cell? ⟨g3,0,none⟩=some (.int .i64 P)/\V.cell? ⟨g3,1,none⟩=some (.int .i64 M)/\V.cell? ⟨g3,2,none⟩=some (.slice a3 r k3)/\V.cell? ⟨g3,3,none⟩=some (.int .i64 O)/\V.cell? ⟨g3,4,none⟩=some (.slice a4 qv k4)/\V.cell? ⟨w.heap.size+1,1,none⟩=some (.slice Q O ct)/\V.cell? ⟨ablk Q,aL Q+k,none⟩=some (.slice ab nb cb)/\OC V3 V):=λV X=>by have y:=y4.af X;obtain ⟨_,_,_,_,_,_,d1⟩:=HX.out V (NX (NX A.out.2 E) X);exact ⟨y.cell 0 rfl,y.cell 1 rfl,y.cell 2 rfl,y.cell 3 rfl,y.cell 4 rfl,d1,aB X hcT3,X⟩
   have HV3:=Z5 (JZ K E)
   have hsz4:=E.size
   clear hV3 hg3 hI3' hM3' hrV3 hn4 hb4 y4 hcT hmT hcT3 hmT3 hwt hce K E
   obtain ⟨c0,c1,c2,c3,c4,d1,d2,_⟩:=HS5.out V3 (JP _ _)
   have e0 : ((0 : Int) != 0)=false:=rfl
   go_cut [84] (λv wx=>v = .bool (ce != 0)/\OC V3 wx)
   case first =>
    go_region_held3 (λV=>V.cell? ⟨g3,0,none⟩=some (.int .i64 P)/\V.cell? ⟨g3,1,none⟩=some (.int .i64 M)/\V.cell? ⟨g3,2,none⟩=some (.slice a3 r k3)/\V.cell? ⟨g3,3,none⟩=some (.int .i64 O)/\V.cell? ⟨g3,4,none⟩=some (.slice a4 qv k4)/\V.cell? ⟨w.heap.size+1,1,none⟩=some (.slice Q O ct)/\V.cell? ⟨ablk Q,aL Q+k,none⟩=some (.slice ab nb cb)/\OC V3 V)
     ((refine HS5.out _ ?_;first | exact (JP _ _).drew | assumption | (go_split_ands;first | assumption | exact NX (by assumption) (by assumption))))
     (first
      | (go_at_call 76;((with_reducible refine (HW3.out _ (by go_split_ands;assumption)).mono ?_);rintro e w5 ⟨rfl,hb5⟩;have hB5 : OC V3 w5:=(by go_split_ands;exact NX (by assumption) hb5)))
      | (go_at_call 82;((with_reducible refine (HC3.out _ (by go_split_ands;assumption)).mono ?_);rintro e w6 ⟨rfl,hb6⟩;have hB6 : OC V3 w6:=(by go_split_ands;exact NX (by assumption) hb6))))
    all_goals (
     go_wp2_with fail
     go_meet
     exact ⟨rfl,by go_split_ands;assumption⟩)
   obtain ⟨rfl,hbV⟩:=hcut
   generalize wc=V5 at *
   have hbr5:=NX HV3.out.2 hbV
   have hF5:=NX A.out.1 hbr5
   clear c0 c1 c2 c3 c4 d1 d2
   by_cases hc0 : ce=0
   rotate_left
   ·have e2 : (ce != 0)=true:=by simpa using hc0
    have HF:=Z5 (S.out V5 13 (HTk.out (by rw [Y.out,Kb hc0];simp)) (by decide) hF5)
    clear hc0
    go_wp2_with fail
    exact HF.out
   subst hc0
   have e2 : ((0 : Int) != 0)=false:=rfl
   have HLT1:=Z5 (HSk.out (by rw [Y.out];rfl))
   have HW5:=Z5 (HW3.out V5 hbV)
   go_wp2_with fail
   refine HW5.out.mono ?_
   rintro e w7 ⟨rfl,hb7⟩
   have hbr7:=NX hbr5 hb7
   have hcn:=bf w7 (.int .i64 ((wt : Int) - 1)) 3
   have hown7:=bp Hown.out (NX (NX (NX hb3 HV3.out.1) (NX hbV hb7)) (an w7 (.cells #[.int .i64 ((wt : Int) - 1)] 3)))
   have hs7:=hbr7.size
   go_wp2_with (at_builtin;refine aS rfl _ _ 22 3 rfl (.int .i64 0) 8 underlying22 aV rfl U.heap.size a8 k c8 _ rfl hown7 ⟨w7.heap.size,0,none⟩ 1 (.int .i64 ((wt : Int) - 1)) rfl hcn rfl (by omega) (by unfold maxLen;omega) (by simp;omega) ?_;intro a9 c9 w9 hown9 hgr9 hap9)
   go_roundw
   case rel=>exact ⟨k+1,a9,c9,by omega,by go_num,rfl,by show World.ownsRow _ _ _ _ _ _ _;rw [HVk1.out,Ko];exact hown9,N0 (NX hbr7 (an w7 (.cells #[.int .i64 ((wt : Int) - 1)] 3))) hown7 hgr9 (JO _) (by simp;omega),HLT1.out⟩
   case measure=>simp [intOf] <;> omega
  ·obtain rfl : k=H:=by omega
   have HF:=Z5 (HFin.out a8 c8 wr (by rw [HEl.out,JT (by first | exact ⟨rfl,rfl,Hlt.out⟩ | exact ⟨trivial,trivial,Hlt.out⟩)]) (NZ Hown.out).1 (NX A.out.1 z))
   go_wp2_with fail
   exact HF.out
theorem wY (a : OA) (n c : Nat) (l : LI) (w : World) (hi : Ints w a n l) :
  Calls prog 194 #[.slice a n c] w λe w'=>e = .returned (.bool (kq l))/\w=w':=by
 have N:=hi.pl;have Y:=hi.max;have Q:=Z5 hi.len;unfold maxLen at Y;go_enter func194,ntmps194;go_wp2_with fail;go_loop [3] (λU=>∃k : Nat,k<=n/\U = .int .i64 k/\Hid (∀j,j<k->nth l j=0)) (λU=>n - (intOf U).toNat);case atStart=>exact ⟨0,JU _,rfl,λj S=>by omega⟩
 case round =>
  obtain ⟨k,L,rfl,Z⟩:=hrel
  by_cases X : k<n
  ·have K:=hi.cell k X
   by_cases h0 : nth l k=0
   ·have hd : (nth l k != 0)=false:=by simpa using h0
    have O : Hid (∀j,j<k+1->nth l j=0):=λj S=>by
     by_cases e : j=k
     ·subst e;exact h0
     ·exact Z.out j (by omega)
    clear h0 Z
    go_wp2_with fail
    go_round
    case rel=>exact ⟨k+1,by omega,by go_num,O.out⟩
    case measure=>simp [intOf] <;> omega
   ·have hd : (nth l k != 0)=true:=by simpa using h0
    have V : Hid (kq l=false):=by
     show _=_;cases h : kq l
     ·rfl
     ·exact absurd (mR.1 h k (by rw [Q.out];exact X)) h0
    clear h0 Z
    go_wp2_with fail
    go_ret
    exact ⟨aU V.out.symm,rfl⟩
  ·obtain rfl : k=n:=by omega
   have V : Hid (kq l=true):=mR.2 λj S=>Z.out j (by rw [<- Q.out];exact S)
   clear Z
   go_wp2_with fail
   go_ret
   exact ⟨aU V.out.symm,rfl⟩
def Eo (R : Ll) (k : Nat) : LI:=(List.range k).map λ(i : Nat)=>((fnz (ai R i) : Nat) : Int)
theorem Fk (R : Ll) (k : Nat) : Eo R (k+1)=Eo R k ++ [((fnz (ai R k) : Nat) : Int)]:=by unfold Eo;rw [K5];simp
theorem GH (R : Ll) (k : Nat) : (Eo R k).length=k:=by simp [Eo]
theorem Gu (R : Ll) {k i : Nat} (h : i<k) : nth (Eo R k) i=((fnz (ai R i) : Nat) : Int):=by rw [aj (by rw [GH];exact h)];simp [Eo]
theorem sB (a : OA) (n c : Nat) (L : Ll) (w : World) (hi : bu w a n L) (hn : n<=1000000) :
  Calls prog 244 #[.slice a n c] w λe w'=>∃a1 c1,e = .returned (.slice a1 n c1)/\Ints w' a1 n (Eo L n)/\OC w w':=by
 have hpl:=hi.pl;have z:=hi.max;unfold maxLen at z;have Hi:=Z5 hi;go_enter func244,ntmps244;go_wp2_with fail;go_loopw [3,4] (λov iv wr=>∃(k : Nat) (C : OA) (co : Nat),k<=n/\iv = .int .i64 k/\ov = .slice C k co/\wr.ownsRow w.heap.size 3 1 (.slice C k co) k ((Eo L k).map (Value.int .i64))/\OC w wr) (λ_ iv _=>n - (intOf iv).toNat);case atStart=>exact ⟨0,none,0,JU _,rfl,rfl,cF,JP _ _⟩
 case round =>
  obtain ⟨k,C,co,hk,rfl,rfl,S,Q⟩:=hrel
  generalize wr=V at *
  by_cases hlt : k<n
  ·obtain ⟨rb,rn,rc,hcell,Z⟩:=(Hi.out.af Q).cell k hlt
   have hplr:=Z.pl
   have hmr:=Z.max
   unfold maxLen at hmr
   have I:=Z.len
   have D : Hid (Eo L (k+1)=Eo L k ++ [((fnz (ai L k) : Nat) : Int)]):=Fk L k
   obtain ⟨r,hr⟩ : ∃r,ai L k=r:=⟨_,rfl⟩
   rw [hr] at D I Z
   have A:=Z5 Z
   have G:=Z5 I
   have K:=Z5 S
   clear hr Z I S
   go_wp2_with fail
   go_loop [5] (λcv=>∃j : Nat,j<=rn/\cv = .int .i64 j/\Hid (∀i,i<j->nth r i=0)) (λcv=>rn - (intOf cv).toNat)
   case atStart=>exact ⟨0,JU _,rfl,λi hi=>by omega⟩
   case round =>
    obtain ⟨j,hj,rfl,O⟩:=hrel
    by_cases B : j<rn
    ·have cj:=A.out.cell j B
     by_cases h0 : nth r j=0
     ·have hd : (nth r j == 0)=true:=by simpa using h0
      have Hn : Hid (∀i,i<j+1->nth r i=0):=λi hi=>by
       by_cases e : i=j
       ·subst e;exact h0
       ·exact O.out i (by omega)
      clear h0 O
      go_wp2_with fail
      go_round
      case rel=>exact ⟨j+1,by omega,by go_num,Hn.out⟩
      case measure=>simp [intOf] <;> omega
     ·have hd : (nth r j == 0)=false:=by simpa using h0
      have Hf : Hid (((fnz r : Nat) : Int)=(j : Int)):=by show _=_;rw [vd r j (by rw [G.out];exact B) O.out h0]
      have X:=K.out.alloc (.cells #[.int .i64 (j : Int)] 3)
      have E:=bf V (.int .i64 (j : Int)) 3
      have H:=an V (.cells #[.int .i64 (j : Int)] 3)
      have F:=Q.size
      have Y : w.heap.size<=(V.alloc (.cells #[.int .i64 (j : Int)] 3)).heap.size:=by simp;omega
      clear h0 O
      go_wp2_with (at_builtin;refine aS rfl _ _ 22 3 rfl (.int .i64 0) 8 underlying22 aV rfl w.heap.size C k co _ rfl X ⟨V.heap.size,0,none⟩ 1 (.int .i64 (j : Int)) rfl E rfl (by omega) (by unfold maxLen;omega) Y ?_;intro a5 c5 w5 U N hap5)
      go_roundw
      case rel =>
       refine ⟨k+1,a5,c5,by omega,by go_num,rfl,?_,N0 (KE Q (H.mono F)) X N (JO _) Y⟩
       rw [D.out,Hf.out]
       simpa using U
      case measure=>simp [intOf] <;> omega
    ·obtain rfl : j=rn:=by omega
     have Hf : Hid (((fnz r : Nat) : Int)=(j : Int)):=by show _=_;rw [ru r (by rw [G.out];exact O.out),G.out]
     have X:=K.out.alloc (.cells #[.int .i64 (j : Int)] 3)
     have E:=bf V (.int .i64 (j : Int)) 3
     have H:=an V (.cells #[.int .i64 (j : Int)] 3)
     have F:=Q.size
     have Y : w.heap.size<=(V.alloc (.cells #[.int .i64 (j : Int)] 3)).heap.size:=by simp;omega
     clear O
     go_wp2_with (at_builtin;refine aS rfl _ _ 22 3 rfl (.int .i64 0) 8 underlying22 aV rfl w.heap.size C k co _ rfl X ⟨V.heap.size,0,none⟩ 1 (.int .i64 (j : Int)) rfl E rfl (by omega) (by unfold maxLen;omega) Y ?_;intro a5 c5 w5 U N hap5)
     go_roundw
     case rel =>
      refine ⟨k+1,a5,c5,by omega,by go_num,rfl,?_,N0 (KE Q (H.mono F)) X N (JO _) Y⟩
      rw [D.out,Hf.out]
      simpa using U
     case measure=>simp [intOf] <;> omega
  ·obtain rfl : k=n:=by omega
   have HF:=Z5 (NZ S).1
   clear S
   go_wp2_with fail
   go_ret
   exact ⟨C,co,rfl,HF.out,Q⟩
theorem De {P M : Int} {am : OA} {V cm : Nat} {mod : LI} (U : bq P M mod=true) (x : Int) (w : World) (Y : (ah P M.toNat mod).El x) :
  Calls prog 107 #[.agg #[.int .i64 P,.int .i64 M,.slice am V cm],.int .i64 x] w λe w'=>e = .returned (.int .i64 ((ah P M.toNat mod).ops.neg x))/\OC w w':=by
 obtain ⟨k,S,X,N,hF,O,_⟩:=fE U;subst S;obtain ⟨Q,L,Z,_⟩:=dI (P:=P) (M:=(k : Int)) (mod:=mod) (by rw [bW];exact U);obtain rfl : k=Q:=by omega
 rw [JQ] at Y ⊢;rw [<- X] at Y;rw [O.neg x Y];exact nP P k am V cm x w Z (Z.gV Y)
theorem xp (P M : Int) (am : OA) (D cm : Nat) (mod : LI) (m : Nat) (a : OA) (n c : Nat) (L : Ll) (ax : OA) (cx : Nat) (x : LI) (w : World) (z : Ints w am D mod) (hi : bu w a n L) (hx : Ints w ax m x)
  (hE : aJ P M mod m L=0) (U : Vc (ah P M.toNat mod).El m x) :
  Calls prog 195 #[.agg #[.int .i64 P,.int .i64 M,.slice am D cm],.slice a n c,.slice ax m cx] w λe w'=>∃a1 c1,e = .returned (.slice a1 m c1)/\Ints w' a1 m (eU (ah P M.toNat mod).ops L x n)/\OC w w':=by
 have hil:=hi.len;obtain ⟨m',em,hm1,hm64,F,hR⟩:=aY hE;obtain rfl : m=m':=by omega
 have hn : n<=256:=by rw [<- hil];exact (cZ hE).choose_spec.2.2.2.1
 have hff:=(wH hE U).1;obtain ⟨G,I⟩ : ∃G,ah P M.toNat mod=G:=⟨_,rfl⟩
 have hvc:=mD F hR U hff;have HNeg : Hid (∀V y,G.El y->Calls prog 107 #[.agg #[.int .i64 P,.int .i64 M,.slice am D cm],.int .i64 y] V λe w'=>e = .returned (.int .i64 (G.ops.neg y))/\OC V w'):=λV y hy=>by rw [<- I] at hy ⊢;exact De (aN hE).1 y V hy
 have HAdd : Hid (∀V av cv v s au cu u,OC w V->Ints V av m v->Ints V au m u->Vc G.El m v->G.El s->Vc G.El m u ->
   Calls prog 227 #[.agg #[.int .i64 P,.int .i64 M,.slice am D cm],.slice av m cv,.int .i64 s,.slice au m cu] V λe w'=>∃a1 c1,e = .returned (.slice a1 m c1)/\Ints w' a1 m (bN G.ops v s u)/\OC V w'):=λV av cv v s au cu u Q h1 h2 h3 h4 h5=>by rw [<- I] at h3 h4 h5 ⊢;exact sV hE av cv v s au cu u V (z.af Q) h1 h2 h3 h4 h5
 rw [I] at F hR hvc U ⊢;have HF:=Z5 F;have HRw:=Z5 hR;have Hvc:=Z5 hvc;have Hff:=Z5 hff;have Hxe:=Z5 U;have Hil:=Z5 hil;have hplx:=hx.pl;have hpla:=hi.pl;have Hx:=Z5 hx;have Hi:=Z5 hi;have hxl:=U.1;clear F hR hvc hff U hil hE I em z;go_enter func195,ntmps195;go_upto_region 1 with fail;obtain ⟨W,hW⟩ : ∃W : World,W=w.alloc (.cells #[.int .i64 P,.int .i64 M,.slice am D cm] 24):=⟨_,rfl⟩
 rw [<- hW];have j : OC w W:=by rw [hW];exact an _ _
 have x0 : aO W w.heap.size [.int .i64 P,.int .i64 M,.slice am D cm]:=by rw [hW];exact NY _ _ _ rfl
 have HX:=Z5 x0;have HbW:=Z5 j;clear hW x0;go_wp2_with fail;refine (sB a n c L W (hi.af j) (by omega)).mono ?_;rintro e w1 ⟨ap,cp,rfl,hP1,hb1⟩;have A:=NX j hb1;have hx1:=hx.af A;go_upto_region 2 with fail;iterate 7 go_step
 have hO1:=gg w1 3;have O:=an w1 (.cells #[] 3);have hx2:=hx1.af O;refine dY (by rfl) (.tmp 12) (.tmp 13) 22 3 (by rfl) (.int .i64 0) 8 underlying22 aV (by rfl) w1.heap.size _ 0 0 [] (by rfl) hO1 ax m cx (x.map (Value.int .i64)) (by rfl) hx2.pl (by simp [hxl]) (N7 hx2) (ints_oneCell _ _) (by omega) (by unfold maxLen;omega) (K8 O) ?_;intro a3 c3 w3 Z r hap3;have hb3 : OC w1 w3:=N0 (B:=w1.heap.size) (e:=3) (xs:=[]) O hO1 r (JO _) (K8 O);rw [LJ] at Z ⊢;rw [KL] at Z;have HI3:=Z5 (NZ Z).1;have HP3:=Z5 (hP1.af hb3);have hbw3:=NX A hb3;have HX3:=Z5 (HX.out.af (NX hb1 hb3));have hplp:=hP1.pl;clear r hap3 hx2 O hO1 Z hx1 hP1;go_wp2_with fail;go_loopw [8,9] (λov iv wr=>∃(k : Nat) (a1 : OA) (c1 : Nat),k<=n/\iv = .int .i64 k/\ov = .slice a1 m c1/\Hid (Ints wr a1 m (eU G.ops L x k))/\OC w3 wr) (λ_ iv _=>n - (intOf iv).toNat);case atStart=>exact ⟨0,a3,c3,JU _,rfl,rfl,HI3.out,JP _ _⟩
 case round =>
  obtain ⟨k,a1,c1,hk,rfl,rfl,hI,H⟩:=hrel
  generalize wr=Y at *
  have X:=NX hbw3 H
  by_cases E : k<n
  ·have hkL : k<L.length:=by rw [Hil.out];exact E
   have hf:=Hff.out k hkL
   have S:=HRw.out.row hkL
   obtain ⟨ra,rn,rc,er,ir⟩:=(Hi.out.af X).cell k E
   have hrn : rn=m:=by rw [<- ir.len];exact S.1
   rw [hrn] at er ir
   have ep:=(HP3.out.af H).cell k E
   rw [Gu L E] at ep
   have N : eU G.ops L x (k+1)=bN G.ops (eU G.ops L x k) (G.ops.neg (nth x (fnz (ai L k)))) (ai L k):=rfl
   obtain ⟨f,hfe⟩ : ∃f,fnz (ai L k)=f:=⟨_,rfl⟩
   rw [hfe] at hf ep N
   have hfm : ((f : Nat) : Int)<(m : Int):=by omega
   have ex:=(Hx.out.af X).cell f hf
   have K : G.El (nth x f):=Hxe.out.at hf
   obtain ⟨xf,C⟩ : ∃xf,nth x f=xf:=⟨_,rfl⟩
   rw [C] at N ex K
   have Hst:=Z5 N
   have Hngx:=Z5 (HNeg.out · xf K)
   have Hadd : Hid (∀V,OC Y V->Calls prog 227 #[.agg #[.int .i64 P,.int .i64 M,.slice am D cm],.slice a1 m c1,.int .i64 (G.ops.neg xf),.slice ra m rc] V λe w'=>∃a1 c1,e = .returned (.slice a1 m c1)/\Ints w' a1 m (eU G.ops L x (k+1))/\OC V w'):=λV Q=>by rw [Hst.out];exact HAdd.out V a1 c1 _ _ ra rc _ (NX X Q) (hI.out.af Q) (ir.af Q) (Hvc.out k (by rw [Hil.out];exact hk)) (HF.out.cl.neg _ K) S
   have HS2 : Hid (∀V,OC Y V->V.cell? ⟨w.heap.size,0,none⟩=some (.int .i64 P)/\V.cell? ⟨w.heap.size,1,none⟩=some (.int .i64 M)/\V.cell? ⟨w.heap.size,2,none⟩=some (.slice am D cm) /\
     V.cell? ⟨ablk ax,aL ax+f,none⟩=some (.int .i64 xf)/\V.cell? ⟨ablk ap,aL ap+k,none⟩=some (.int .i64 ((f : Nat) : Int))/\V.cell? ⟨ablk a,aL a+k,none⟩=some (.slice ra m rc)/\OC Y V):=λV Q=>by have x1:=HX3.out.af (NX H Q);exact ⟨x1.cell 0 rfl,x1.cell 1 rfl,x1.cell 2 rfl,aB Q ex,aB Q ep,aB Q er,Q⟩
   clear N hfe C hrn S ir er ep ex hI K hkL
   go_wp2_with fail
   go_region_held3 (λV=>V.cell? ⟨w.heap.size,0,none⟩=some (.int .i64 P)/\V.cell? ⟨w.heap.size,1,none⟩=some (.int .i64 M)/\V.cell? ⟨w.heap.size,2,none⟩=some (.slice am D cm) /\
     V.cell? ⟨ablk ax,aL ax+f,none⟩=some (.int .i64 xf)/\V.cell? ⟨ablk ap,aL ap+k,none⟩=some (.int .i64 ((f : Nat) : Int))/\V.cell? ⟨ablk a,aL a+k,none⟩=some (.slice ra m rc)/\OC Y V)
    ((refine HS2.out _ ?_;first | exact (JP _ _).drew | assumption | (go_split_ands;exact NX (by assumption) (by assumption))))
    (first
     | (go_at_call 107;((with_reducible refine (Hngx.out _).mono ?_);rintro e w4 ⟨rfl,hb4⟩))
     | (go_at_call 227;((with_reducible refine (Hadd.out _ (by go_split_ands;assumption)).mono ?_);rintro e w5 ⟨a4,c4,rfl,hI4,hb5⟩;have HI4:=Z5 hI4;clear hI4)))
   all_goals (
    have hbY5 : OC Y w5:=by go_split_ands;first | assumption | exact NX (by assumption) hb5
    go_wp2_with fail
    go_roundw
    case rel=>exact ⟨k+1,a4,c4,by omega,by go_num,rfl,HI4.out,NX H hbY5⟩
    case measure=>simp [intOf] <;> omega)
  ·obtain rfl : k=n:=by omega
   have HF4:=Z5 hI.out
   clear hI
   go_wp2_with fail
   go_ret
   exact ⟨a1,c1,rfl,HF4.out,X⟩
theorem Dd (P M : Int) (am : OA) (S cm : Nat) (mod : LI) (m : Nat) (a : OA) (n c : Nat) (L : Ll) (Q : OA) (N : Nat) (x : LI) (w : World) (Z : Ints w am S mod) (hi : bu w a n L) (F : Ints w Q m x)
  (I : aJ P M mod m L=0) (Y : Vc (ah P M.toNat mod).El m x) :
  Calls prog 138 #[.agg #[.int .i64 P,.int .i64 M,.slice am S cm],.slice a n c,.slice Q m N] w λe w'=>e = .returned (.bool (hasB P M mod m L x))/\OC w w':=by
 have hb:=Ew I Y;obtain ⟨z,X⟩ : ∃z,hasB P M mod m L x=z:=⟨_,rfl⟩
 rw [X] at hb ⊢;have C : Hid (∀V,OC w V->Calls prog 195 #[.agg #[.int .i64 P,.int .i64 M,.slice am S cm],.slice a n c,.slice Q m N] V λe w'=>∃a1 c1 l,e = .returned (.slice a1 m c1)/\Ints w' a1 m l/\kq l=z/\OC V w'):=λV H=>by refine (xp P M am S cm mod m a n c L Q N x V (Z.af H) (hi.af H) (F.af H) I Y).mono ?_;rintro e w' ⟨a1,c1,rfl,h1,h2⟩;exact ⟨a1,c1,_,rfl,h1,by rw [<- hi.len];exact hb,h2⟩
 clear Z hi F I Y hb X;go_enter func138,ntmps138;go_wp2_with fail;obtain ⟨W,O⟩ : ∃W : World,W=w.alloc (.cells #[.int .i64 P,.int .i64 M,.slice am S cm] 24):=⟨_,rfl⟩
 rw [<- O];have U : OC w W:=by rw [O];exact an _ _
 clear O;refine (C.out W U).mono ?_;rintro e D ⟨a1,c1,l,rfl,hI,G,K⟩;have X:=wY a1 m c1 l D hI;rw [G] at X;have E:=Z5 X;have hF:=NX U K;clear hI G X;go_wp2_with fail;refine E.out.mono ?_;rintro e B ⟨rfl,rfl⟩;go_wp2_with fail;go_ret;exact ⟨rfl,hF⟩
theorem zt (P M : Int) (am : OA) (U cm : Nat) (mod : LI) (N : Int) (a : OA) (n c : Nat) (L : Ll) (H : OA) (nx F : Nat) (x : LI) (w : World) (Z : Ints w am U mod) (hi : bu w a n L) (j : Ints w H nx x) :
  Calls prog 84 #[.agg #[.int .i64 P,.int .i64 M,.slice am U cm,.int .i64 N,.slice a n c],.slice H nx F] w λe w'=>e = .returned (.tuple #[.bool (jX P M mod N L x),.int .i64 (fD P M mod N L x)])/\OC w w':=by
 have X : Hid (fD P M mod N L x=0->∀V,OC w V->Calls prog 138 #[.agg #[.int .i64 P,.int .i64 M,.slice am U cm],.slice a n c,.slice H nx F] V λe w'=>e = .returned (.bool (jX P M mod N L x))/\OC V w'):=λh V I=>by
  obtain ⟨K,O⟩:=lE h;rw [jX,JT h];obtain ⟨m,rfl,_⟩:=cZ K;rw [JQ] at O ⊢;have e1 : nx=m:=by rw [<- j.len];exact O.1
  subst e1;exact Dd P M am U cm mod nx a n c L H F x V (Z.af I) (hi.af I) (j.af I) K O
 have Q : Hid (∀V,OC w V->Calls prog 137 #[.agg #[.int .i64 P,.int .i64 M,.slice am U cm,.int .i64 N,.slice a n c],.slice H nx F] V λe w'=>e = .returned (.int .i64 (fD P M mod N L x))/\OC V w'):=λV I =>
  pf P M am U cm mod N a n c L H nx F x V (Z.af I) (hi.af I) (j.af I)
 have r : Hid (fD P M mod N L x ≠ 0->jX P M mod N L x=false):=λh=>by rw [jX,JR h]
 clear Z hi j;obtain ⟨A,C⟩ : ∃A,fD P M mod N L x=A:=⟨_,rfl⟩
 obtain ⟨z,hz⟩ : ∃z,jX P M mod N L x=z:=⟨_,rfl⟩
 rw [C] at Q r X ⊢;rw [hz] at r X ⊢;clear C hz;go_enter func84,ntmps84;go_wp2_with fail;obtain ⟨W,B⟩ : ∃W : World,W=w.alloc (.cells #[.int .i64 P,.int .i64 M,.slice am U cm,.int .i64 N,.slice a n c] 27):=⟨_,rfl⟩
 rw [<- B];have G : OC w W:=by rw [B];exact an _ _
 have x0 : aO W w.heap.size [.int .i64 P,.int .i64 M,.slice am U cm,.int .i64 N,.slice a n c]:=by rw [B];exact NY _ _ _ rfl
 have HX:=Z5 x0;have HbW:=Z5 G;clear B x0;refine (Q.out W G).mono ?_;rintro e w1 ⟨rfl,S⟩;have Y:=NX HbW.out S;by_cases K : A=0;rotate_left
 ·have hE2 : (A != 0)=true:=by simpa using K
  have HN2:=Z5 (r.out K);clear K;go_wp2_with fail;go_ret2;exact ⟨by rw [HN2.out];rfl,Y⟩
 subst K;have D:=Z5 (X.out rfl w1 Y);have E:=HX.out.af S;have c0:=E.cell 0 rfl;have c1:=E.cell 1 rfl;have c2:=E.cell 2 rfl;have c4:=E.cell 4 rfl;clear Q S X r E;go_wp2_with fail;refine D.out.mono ?_;rintro e w2 ⟨rfl,hb2⟩;have hF:=NX Y hb2;go_wp2_with fail;go_ret2;exact ⟨rfl,hF⟩
theorem sA (P M : Int) (am : OA) (A cm : Nat) (mod : LI) (m : Nat) (a : OA) (n c : Nat) (L : Ll) (ay : OA) (ny cy : Nat) (C : iz) (sa : OA) (ns cs : Nat) (s : LI) (H : OA) (nt ct : Nat) (t : LI) (w : World)
  (D : Ints w am A mod) (hi : bu w a n L) (hE : aJ P M mod m L=0) (hc : C.cos=true) (hny : ny=m) (hy : Ints w ay ny C.y) (hyv : Vc (ah P M.toNat mod).El m C.y) (hns : ns<=64) (hs : Ints w sa ns s) (ht : Ints w H nt t) :
  Calls prog 187 #[kQ P M am A cm m a n c ay ny cy C,.slice sa ns cs,.slice H nt ct] w λe w'=>e = .returned (.bool (dm (ah P M.toNat mod).ops L m C s t))/\OC w w':=by
 have N:=Z5 ht.len;have hplt:=ht.pl;have hmax:=ht.max;unfold maxLen at hmax;obtain ⟨RS,hRS⟩ : ∃RS,dm (ah P M.toNat mod).ops L m C s t=RS:=⟨_,rfl⟩
 rw [hRS];have HRS : Hid (RS=(kU m s t && (decide ((lT (ah P M.toNat mod).ops L t).length=t.length) && (decide ((lT (ah P M.toNat mod).ops L (frTo false s m)).length=t.length) && decide (C.W<s.length+kg (ah P M.toNat mod).ops L C.y s t))))):=by show _=_;rw [<- hRS,dm,hc];simp only [if_true]
 have Hm:=Z5 (cZ hE);have Hny:=Z5 hny;unfold kQ;rw [hc];clear hny;clear hRS hc;go_enter func187,ntmps187;go_wp2_with fail;obtain ⟨U,hU⟩ : ∃U : World,U=w.alloc (.cells #[.int .i64 P,.int .i64 M,.slice am A cm,.int .i64 m,.slice a n c,.int .i64 C.M,.int .i64 C.W,.slice ay ny cy,.bool true] 149):=⟨_,rfl⟩
 rw [<- hU];have r : OC w U:=by rw [hU];exact an _ _
 have x0 : aO U w.heap.size [.int .i64 P,.int .i64 M,.slice am A cm,.int .i64 m,.slice a n c,.int .i64 C.M,.int .i64 C.W,.slice ay ny cy,.bool true]:=by rw [hU];exact NY _ _ _ rfl
 have HS : Hid (∀V,OC U V->V.cell? ⟨w.heap.size,0,none⟩=some (.int .i64 P)/\V.cell? ⟨w.heap.size,1,none⟩=some (.int .i64 M)/\V.cell? ⟨w.heap.size,2,none⟩=some (.slice am A cm)/\V.cell? ⟨w.heap.size,3,none⟩=some (.int .i64 m)/\V.cell? ⟨w.heap.size,4,none⟩=some (.slice a n c) /\
   V.cell? ⟨w.heap.size,5,none⟩=some (.int .i64 C.M)/\V.cell? ⟨w.heap.size,6,none⟩=some (.int .i64 C.W)/\V.cell? ⟨w.heap.size,7,none⟩=some (.slice ay ny cy)/\V.cell? ⟨w.heap.size,8,none⟩=some (.bool true)):=λV K=>by have x1:=x0.af K;exact ⟨x1.cell 0 rfl,x1.cell 1 rfl,x1.cell 2 rfl,x1.cell 3 rfl,x1.cell 4 rfl,x1.cell 5 rfl,x1.cell 6 rfl,x1.cell 7 rfl,x1.cell 8 rfl⟩
 clear hU x0;refine (zh m H nt ct t U (ht.af r)).mono ?_;rintro e w1 ⟨rfl,hd1⟩;have hb1 : OC U w1:=hd1.below;have Z:=NX r hb1;obtain ⟨zo,hzo⟩ : ∃zo,fF m t=zo:=⟨_,rfl⟩
 rw [hzo];cases zo
 ·have HF : Hid (RS=false):=by show _=_;rw [HRS.out,kU,hzo];rfl
  clear hzo;go_wp2_with fail;go_ret;exact ⟨by rw [HF.out];rfl,Z⟩
 have Hok:=Z5 hzo;clear hzo;have ht1:=ht.af Z;have hs1:=hs.af Z;go_wp2_with fail;go_loop [7] (λiv=>∃k : Nat,k<=nt/\iv = .int .i64 k/\Hid (∀j,j<k->¬ nth t j ∈ s)) (λiv=>nt - (intOf iv).toNat);case atStart=>exact ⟨0,JU _,rfl,λj hj=>by omega⟩
 case round =>
  obtain ⟨k,hk,rfl,hno⟩:=hrel
  generalize w1=wr at *
  by_cases hlt : k<nt
  ·have ck:=ht1.cell k hlt
   have HI:=Z5 (tk sa ns cs s (nth t k) wr hs1)
   by_cases S : nth t k ∈ s
   ·have hmd : decide (nth t k ∈ s)=true:=by simpa using S
    rw [hmd] at HI
    have HF : Hid (RS=false):=by
     show _=_;have h1 : t.all (λx=>decide (¬ x ∈ s))=false:=by rw [Le];exact ⟨nth t k,aI (by rw [N.out];exact hlt),by simpa using S⟩
     rw [HRS.out,kU,h1,Nh];rfl
    clear S hmd
    go_wp2_with fail
    refine HI.out.mono ?_
    rintro e w6 ⟨rfl,rfl⟩
    go_wp2_with fail
    go_ret
    exact ⟨by rw [HF.out];rfl,Z⟩
   ·have hmd : decide (nth t k ∈ s)=false:=by simpa using S
    rw [hmd] at HI
    have Hno2 : Hid (∀j,j<k+1->¬ nth t j ∈ s):=λj hj=>by
     by_cases e : j=k
     ·rw [e];exact S
     ·exact hno.out j (by omega)
    clear S hmd hno
    go_wp2_with fail
    refine HI.out.mono ?_
    rintro e w6 ⟨rfl,rfl⟩
    go_wp2_with fail
    go_round
    case rel=>exact ⟨k+1,by omega,by go_num,Hno2.out⟩
    case measure=>simp [intOf] <;> omega
  ·have hkn : k=nt:=by omega
   subst hkn
   have hset : kU m s t=true:=by rw [kU,Hok.out,Lm,Ky];intro x hx;obtain ⟨j,hj,rfl⟩:=List.mem_iff_getElem.1 hx;have h1:=hno.out j (by rw [<- N.out];exact hj);rw [aj hj] at h1;simpa using h1
   obtain ⟨m',hm',S,hm2,_,_⟩:=Hm.out
   have hklen : k<=64:=by have h1:=jB Hok.out (by omega);rw [N.out] at h1;omega
   have HO:=Z5 (tY P M am A cm mod m a n c L H k ct t wr (D.af Z) (hi.af Z) ht1 hE (D2 Hok.out) (by omega))
   have O : Hid (RS=(decide ((lT (ah P M.toNat mod).ops L t).length=k) && (decide ((lT (ah P M.toNat mod).ops L (frTo false s m)).length=k) && decide (C.W<s.length+kg (ah P M.toNat mod).ops L C.y s t)))):=by show _=_;rw [HRS.out,hset,Lm,N.out]
   have hts : ∀x ∈ t,¬ x ∈ s:=(wG hset).2
   have hT : Ak m t:=D2 Hok.out
   obtain ⟨m'', em, _, _, F, hR⟩ := aY hE
   obtain rfl : m = m'' := by omega
   have hsl:=hs.len
   have HVn : Hid ((lT (ah P M.toNat mod).ops L t).length=k->∀V,OC w V->Calls prog 237 #[.agg #[.int .i64 P,.int .i64 M,.slice am A cm,.int .i64 m,.slice a n c],.slice ay m cy,.slice H k ct] V λe w' =>
     ∃a1 c1,e = .returned (.slice a1 m c1)/\Ints w' a1 m (qp (ah P M.toNat mod).ops m L C.y t)/\OC V w'):=λhk V K =>
    wu P M am A cm mod m a n c L ay cy C.y H k ct t V (D.af K) (hi.af K) hE (by rw [<- Hny.out];exact hy.af K) (ht.af K) hyv hT (by rw [N.out];exact hk) (by omega)
   have Y : Hid ((lT (ah P M.toNat mod).ops L t).length=k->(lT (ah P M.toNat mod).ops L (frTo false s m)).length=k->kg (ah P M.toNat mod).ops L C.y s t=gU (bP (frTo false s m) (qp (ah P M.toNat mod).ops m L C.y t))):=λh1 h2=>by obtain ⟨hcos,h0,_,_⟩:=Ba F hR hyv hT (show mh (ah P M.toNat mod).ops L t=t.length by rw [N.out];exact h1);rw [Cc F hR hyv hT (show mh (ah P M.toNat mod).ops L t=t.length by rw [N.out];exact h1) (show mh (ah P M.toNat mod).ops L (frTo false s m)=t.length by rw [N.out];exact h2) hts hcos h0,Bh]
   have E : Ak m (frTo false s m):=λj hj=>by obtain ⟨i,hi',e,_⟩:=(eo m).1 (aI hj);omega
   have hfl:=jA false s m
   obtain ⟨Fr,hFr⟩ : ∃Fr,frTo false s m=Fr:=⟨_,rfl⟩
   rw [hFr] at O Y E hfl
   have HOt : Hid (∀V,OC w V->Calls prog 132 #[.slice sa ns cs,.int .i64 m] V λe w'=>∃a2 c2,e = .returned (.slice a2 Fr.length c2)/\Ints w' a2 Fr.length Fr/\OC V w'):=λV K=>by have h:=jr sa ns cs s m V (hs.af K) (by omega);rw [hFr] at h;refine h.mono ?_;rintro e w' ⟨a2,c2,rfl,ho,hbw⟩;exact ⟨a2,c2,rfl,(NZ ho).1,hbw⟩
   have G : Hid (∀V X co,OC w V->Ints V X Fr.length Fr->Calls prog 235 #[.agg #[.int .i64 P,.int .i64 M,.slice am A cm],.slice a n c,.slice X Fr.length co] V λe w'=>e = .returned (.int .i64 (lT (ah P M.toNat mod).ops L Fr).length)/\OC V w'):=λV X co K ho =>
    tY P M am A cm mod m a n c L X Fr.length co Fr V (D.af K) (hi.af K) ho hE E (by omega)
   obtain ⟨r1,hr1⟩ : ∃r1,(lT (ah P M.toNat mod).ops L t).length=r1:=⟨_,rfl⟩
   obtain ⟨r2,Q⟩ : ∃r2,(lT (ah P M.toNat mod).ops L Fr).length=r2:=⟨_,rfl⟩
   obtain ⟨lt,hlt2⟩ : ∃lt,kg (ah P M.toNat mod).ops L C.y s t=lt:=⟨_,rfl⟩
   obtain ⟨B,hVn⟩ : ∃B,qp (ah P M.toNat mod).ops m L C.y t=B:=⟨_,rfl⟩
   rw [hr1] at HO O HVn Y
   rw [Q] at O G Y
   rw [hlt2] at O Y
   rw [hVn] at HVn Y
   rw [hsl] at O
   obtain ⟨z,hfle⟩ : ∃z,Fr.length=z:=⟨_,rfl⟩
   rw [hfle] at HOt G hfl
   have Hfle:=Z5 hfle
   have HPi : Hid (∀V av cv X co,Ints V av m B->Ints V X z Fr->Calls prog 59 #[.slice av m cv,.slice X z co] V λe w'=>∃a1 c1,e = .returned (.slice a1 z c1)/\Ints w' a1 z (bP Fr B)/\OC V w'):=λV av cv X co h1 h2=>by
    refine (tz av m cv B X z co Fr V h1 h2 E (by omega)).mono ?_;rintro e w' ⟨a1,c1,rfl,ho,hb⟩;have hpl : (bP Fr B).length=z:=by simp [bP,Hfle.out]
    rw [hpl] at ho ⊢;exact ⟨a1,c1,rfl,(NZ ho).1,hb⟩
   have HWt : Hid (∀V X co,Ints V X z (bP Fr B)->Calls prog 41 #[.slice X z co] V λe w'=>e = .returned (.int .i64 (gU (bP Fr B)))/\w'=V):=λV X co h=>lO X z co _ V h
   have hwl : gU (bP Fr B)<=z:=by have h : gU (bP Fr B)<=(bP Fr B).length:=M9;simpa [bP,Hfle.out] using h
   obtain ⟨wt,hwt⟩ : ∃wt,gU (bP Fr B)=wt:=⟨_,rfl⟩
   rw [hwt] at Y HWt hwl
   obtain ⟨c0,c1,c2,c3,c4,c5,c6,c7,c8⟩:=HS.out wr hb1
   clear hset hr1 Q hlt2 hVn hfle hwt hFr hm' S hm2 em F hR hT hts E hsl D hi hs ht hy hyv hs1 ht1
   go_wp2_with fail
   refine HO.out.mono ?_
   rintro e w2 ⟨rfl,hb2⟩
   have hb12:=NX hb1 hb2
   have hbF:=NX r hb12
   clear c0 c1 c2 c3 c4 c5 c6 c7 c8 HO
   obtain ⟨c0,c1,c2,c3,c4,c5,c6,c7,c8⟩:=HS.out w2 hb12
   by_cases I : r1=k
   rotate_left
   ·have HF : Hid (RS=false):=by show _=_;rw [O.out,Kb I];rfl
    have hne : ((r1 : Int) != k)=true:=by simp;omega
    clear I
    go_wp2_with fail
    go_ret
    exact ⟨by rw [HF.out];rfl,hbF⟩
   have hne : ((r1 : Int) != k)=false:=by simp [I]
   have HVn2:=Z5 (HVn.out I)
   have HLt2:=Z5 (Y.out I)
   have Hot:=Z5 (HOt.out w2 hbF)
   have HR3 : Hid (RS=(decide (r2=k) && decide (C.W<ns+lt))):=by show _=_;rw [O.out,Kc I,Lm]
   clear I HVn Y HOt O
   go_wp2_with fail
   refine Hot.out.mono ?_
   rintro e w3 ⟨X,co,rfl,hIo,hb3⟩
   have hb13:=NX hb12 hb3
   have hbF3:=NX r hb13
   have Hof:=Z5 (G.out w3 X co hbF3 hIo)
   clear c0 c1 c2 c3 c4 c5 c6 c7 c8 Hot G
   obtain ⟨c0,c1,c2,c3,c4,c5,c6,c7,c8⟩:=HS.out w3 hb13
   go_wp2_with fail
   refine Hof.out.mono ?_
   rintro e w4 ⟨rfl,hb4⟩
   have hb14:=NX hb13 hb4
   have hbF4:=NX r hb14
   have HIo:=Z5 (hIo.af hb4)
   clear c0 c1 c2 c3 c4 c5 c6 c7 c8 Hof hIo
   obtain ⟨c0,c1,c2,c3,c4,c5,c6,c7,c8⟩:=HS.out w4 hb14
   by_cases Q : r2=k
   rotate_left
   ·have HF : Hid (RS=false):=by show _=_;rw [HR3.out,Kb Q];rfl
    have hne2 : ((k : Int) != r2)=true:=by simp;omega
    clear Q
    go_wp2_with fail
    go_ret
    exact ⟨by rw [HF.out];rfl,hbF4⟩
   have hne2 : ((k : Int) != r2)=false:=by simp;omega
   have hltw:=HLt2.out Q
   have HR4 : Hid (RS=decide ((C.W : Int)<(ns : Int)+wt)):=by show _=_;rw [HR3.out,Kc Q,Lm,hltw];exact decide_eq_decide.2 (by omega)
   have kwr : IntKind.i64.wrap ((ns : Int)+wt)=(ns : Int)+wt:=J3 _ (by omega)
   obtain ⟨bz,hbz⟩ : ∃bz,decide ((C.W : Int)<(ns : Int)+wt)=bz:=⟨_,rfl⟩
   rw [hbz] at HR4
   have HS4 : Hid (∀V,OC w4 V->V.cell? ⟨w.heap.size,0,none⟩=some (.int .i64 P)/\V.cell? ⟨w.heap.size,1,none⟩=some (.int .i64 M)/\V.cell? ⟨w.heap.size,2,none⟩=some (.slice am A cm)/\V.cell? ⟨w.heap.size,3,none⟩=some (.int .i64 m)/\V.cell? ⟨w.heap.size,4,none⟩=some (.slice a n c) /\
     V.cell? ⟨w.heap.size,6,none⟩=some (.int .i64 C.W)/\V.cell? ⟨w.heap.size,7,none⟩=some (.slice ay m cy)/\OC w4 V):=λV K=>by obtain ⟨q0,q1,q2,q3,q4,q5,q6,q7,q8⟩:=HS.out V (NX hb14 K);rw [Hny.out] at q7;exact ⟨q0,q1,q2,q3,q4,q6,q7,K⟩
   have HVn3 : Hid (∀V,OC w4 V->Calls prog 237 #[.agg #[.int .i64 P,.int .i64 M,.slice am A cm,.int .i64 m,.slice a n c],.slice ay m cy,.slice H k ct] V λe w' =>
     ∃a1 c1,e = .returned (.slice a1 m c1)/\Ints w' a1 m B/\OC V w'):=λV K=>HVn2.out V (NX hbF4 K)
   have HbF4:=Z5 hbF4
   clear c0 c1 c2 c3 c4 c5 c6 c7 c8 Q hltw HVn2 HLt2 HR3 HS
   obtain ⟨c0,c1,c2,c3,c4,c6,c7,_⟩:=HS4.out w4 (JP _ _)
   go_upto_region 15 with fail
   go_region_held3 (λV=>V.cell? ⟨w.heap.size,0,none⟩=some (.int .i64 P)/\V.cell? ⟨w.heap.size,1,none⟩=some (.int .i64 M)/\V.cell? ⟨w.heap.size,2,none⟩=some (.slice am A cm)/\V.cell? ⟨w.heap.size,3,none⟩=some (.int .i64 m)/\V.cell? ⟨w.heap.size,4,none⟩=some (.slice a n c) /\
     V.cell? ⟨w.heap.size,6,none⟩=some (.int .i64 C.W)/\V.cell? ⟨w.heap.size,7,none⟩=some (.slice ay m cy)/\OC w4 V)
    ((refine HS4.out _ ?_;first | exact hb9w | exact hb7w | exact hb5w | exact (JP _ _).drew | assumption | (go_split_ands;assumption)))
    (first
     | (go_at_call 237;((with_reducible refine (HVn3.out _ (by go_split_ands;assumption)).mono ?_);rintro e w5 ⟨a5,k5,rfl,hI5,hb5⟩;have hb5w : OC w4 w5:=(by go_split_ands;exact NX (by assumption) hb5)))
     | (go_at_call 59;((with_reducible refine (HPi.out _ a5 k5 X co hI5 (HIo.out.af hb5w)).mono ?_);rintro e w7 ⟨a7,k7,rfl,hI7,hb7⟩;have hb7w : OC w4 w7:=(by go_split_ands;exact NX hb5w hb7)))
     | (go_at_call 41;((with_reducible refine (HWt.out _ a7 k7 hI7).mono ?_);rintro e w9 ⟨rfl,rfl⟩;have hb9w:=hb7w)))
   all_goals (
    have hF:=NX HbF4.out hb7w
    clear hI5 hI7
    go_wp2_with fail
    go_ret
    exact ⟨by rw [HR4.out];rfl,hF⟩)
theorem Ah {P M : Int} {am : OA} {U cm : Nat} {mod : LI} {m : Nat} {a : OA} {n c : Nat} {L : Ll} {Q : OA} {cy : Nat} {C : iz} {Y : World}
  (Z : Ints Y am U mod) (hi : bu Y a n L) (D : aJ P M mod m L=0) (I : C.cos=true) (G : Ints Y Q m C.y) (O : Vc (ah P M.toNat mod).El m C.y) : zw P M am U cm mod m a n c L Q m cy C Y:=λV E ns cs s X F ct t S N H K =>
 sA P M am U cm mod m a n c L Q m cy C E ns cs s X F ct t V (Z.af N) (hi.af N) D I rfl (G.af N) O S H K
section
open Go.RowKit
end
end Go.Proofs.YthglbncgemdcbaaGreat
