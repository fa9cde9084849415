import Derived.Test.YthglbncgemdcbaaGreatS28
import Derived.Test.YthglbncgemdcbaaGreatS27
namespace Go.Proofs.YthglbncgemdcbaaGreat
set_option linter.all false
set_option maxRecDepth 100000
set_option maxHeartbeats 8000000
open Go.RowKit Go.Proofs.Tryz
def zG (P M : Int) (mod : Lz) (c r k : Int) (w : World) (e : Ending) (w' : World) : Prop :=
 SW w w'/\((Fh P M mod c r k ≠ 0/\e = .returned (.tuple #[.agg #[.int .i64 0,.int .i64 0,.slice none 0 0,.int .i64 0,.slice none 0 0],.int .i64 (Fh P M mod c r k)])) \/
  (Fh P M mod c r k=0/\∃a1 c1 a2 c2,e = .returned (.tuple #[.agg #[.int .i64 P,.int .i64 M,.slice a1 mod.length c1,.int .i64 ((r.toNat+1) * c.toNat : Nat),.slice a2 (J6 P M mod c.toNat r.toNat k.toNat).length c2],.int .i64 0])/\cR w.heap.size w' a1 mod.length mod /\
  dq w.heap.size w' a2 (J6 P M mod c.toNat r.toNat k.toNat).length (J6 P M mod c.toNat r.toNat k.toNat)))
theorem Jg (P M : Int) (am : OA) (mn cm : Nat) (mod : Lz) (c r k : Int) (w : World) (hmod : Ints w am mn mod) (hmn : mn<=1000000) :
  Calls prog 25 #[.agg #[.int .i64 P,.int .i64 M,.slice am mn cm],.int .i64 c,.int .i64 r,.int .i64 k] w (zG P M mod c r k w):=by
 have HNew : Hid (∀V,SW w V->Calls prog 52 #[.agg #[.int .i64 P,.int .i64 M,.slice am mn cm]] V (E2 P M mod V)):=λV hV=>ef P M am mn cm mod V (hmod.ah hV);have HE1 : Hid (bA P M mod=false->Fh P M mod c r k=1):=MH;have HPe : Hid (∀E w',E ≠ 0->Fh P M mod c r k=E->SW w w'->zG P M mod c r k w (.returned (.tuple #[.agg #[.int .i64 0,.int .i64 0,.slice none 0 0,.int .i64 0,.slice none 0 0],.int .i64 E])) w'):=λE w' h0 h1 h2=>⟨h2,.inl ⟨by rw [h1];exact h0,by rw [h1]⟩⟩
 have HP0 : Hid (∀a1 c1 a2 c2 w',Fh P M mod c r k=0->cR w.heap.size w' a1 mod.length mod->dq w.heap.size w' a2 (J6 P M mod c.toNat r.toNat k.toNat).length (J6 P M mod c.toNat r.toNat k.toNat)->SW w w' ->
   zG P M mod c r k w (.returned (.tuple #[.agg #[.int .i64 P,.int .i64 M,.slice a1 mod.length c1,.int .i64 ((r.toNat+1) * c.toNat : Nat),.slice a2 (J6 P M mod c.toNat r.toNat k.toNat).length c2],.int .i64 0])) w'):=λa1 c1 a2 c2 w' h0 h1 h2 h3=>⟨h3,.inr ⟨h0,a1,c1,a2,c2,rfl,h1,h2⟩⟩
 generalize hPost : zG P M mod c r k w=Post at *;clear hPost;have HBt : Hid (∀n V,Calls prog 64 #[.int .i64 n] V λe w'=>e = .returned (.bool (decide (1<=n) && decide (n<=64)))/\w'=V):=xZ;have Hmod:=Z5 (Np hmod hmn);clear hmod hmn;go_enter func25,ntmps25;go_upto_region 1 with fail;obtain ⟨W,hW⟩ : ∃W : World,W=((w.alloc (.cells #[.int .i64 P,.int .i64 M,.slice am mn cm] 24)).alloc (.cells #[.int .i64 0,.int .i64 0,.slice none 0 0,.int .i64 0,.slice none 0 0] 27)):=⟨_,rfl⟩
 rw [<- hW];have hbW : SW w W:=by rw [hW];exact ((Nc _ _).alloc (Na _) _).alloc (by simp) _
 have hsW : W.heap.size=w.heap.size+2:=by rw [hW];simp
 have x0 : aN W w.heap.size [.int .i64 P,.int .i64 M,.slice am mn cm]:=by rw [hW];exact (R9 _ _ _ rfl).alloc _
 have z0 : aN W (w.heap.size+1) [.int .i64 0,.int .i64 0,.slice none 0 0,.int .i64 0,.slice none 0 0]:=by rw [hW];exact R9 _ _ _ (by simp)
 clear hW;have HX:=Z5 (Np x0 z0);have HbW:=Z5 hbW;have HsW:=Z5 hsW;have HZ : Hid (∀V,SW W V->V.cell? ⟨w.heap.size+1,0,none⟩=some (.int .i64 0)/\V.cell? ⟨w.heap.size+1,1,none⟩=some (.int .i64 0)/\V.cell? ⟨w.heap.size+1,2,none⟩=some (.slice none 0 0)/\V.cell? ⟨w.heap.size+1,3,none⟩=some (.int .i64 0)/\V.cell? ⟨w.heap.size+1,4,none⟩=some (.slice none 0 0) /\
   V.frozen? ⟨w.heap.size+1,0,none⟩=false/\V.frozen? ⟨w.heap.size+1,1,none⟩=false/\V.frozen? ⟨w.heap.size+1,2,none⟩=false/\V.frozen? ⟨w.heap.size+1,3,none⟩=false/\V.frozen? ⟨w.heap.size+1,4,none⟩=false):=λV hV=>by have z1:=z0.ah hV;exact ⟨z1.cell 0 rfl,z1.cell 1 rfl,z1.cell 2 rfl,z1.cell 3 rfl,z1.cell 4 rfl,z1.frozen 0,z1.frozen 1,z1.frozen 2,z1.frozen 3,z1.frozen 4⟩
 have HEr : Hid (∀E V,SW W V->E ≠ 0->Fh P M mod c r k=E->Post (.returned (.tuple #[.agg #[.int .i64 0,.int .i64 0,.slice none 0 0,.int .i64 0,.slice none 0 0],.int .i64 E])) (((((V.setCell ⟨w.heap.size+1,0,none⟩ (.int .i64 0)).setCell ⟨w.heap.size+1,1,none⟩ (.int .i64 0)).setCell ⟨w.heap.size+1,2,none⟩ (.slice none 0 0)).setCell ⟨w.heap.size+1,3,none⟩ (.int .i64 0)).setCell ⟨w.heap.size+1,4,none⟩ (.slice none 0 0))):=λE V hV h0 h1 =>
  HPe.out E _ h0 h1 (((((RZ hbW hV).setCell (by simp) _).setCell (by simp) _).setCell (by simp) _).setCell (by simp) _ |>.setCell (by simp) _)
 have HZ5 : Hid (∀V,SW W V->(((((V.setCell ⟨w.heap.size+1,0,none⟩ (.int .i64 0)).setCell ⟨w.heap.size+1,1,none⟩ (.int .i64 0)).setCell ⟨w.heap.size+1,2,none⟩ (.slice none 0 0)).setCell ⟨w.heap.size+1,3,none⟩ (.int .i64 0)).setCell ⟨w.heap.size+1,4,none⟩ (.slice none 0 0)).cell? ⟨w.heap.size+1,0,none⟩=some (.int .i64 0)/\(((((V.setCell ⟨w.heap.size+1,0,none⟩ (.int .i64 0)).setCell ⟨w.heap.size+1,1,none⟩ (.int .i64 0)).setCell ⟨w.heap.size+1,2,none⟩ (.slice none 0 0)).setCell ⟨w.heap.size+1,3,none⟩ (.int .i64 0)).setCell ⟨w.heap.size+1,4,none⟩ (.slice none 0 0)).cell? ⟨w.heap.size+1,1,none⟩=some (.int .i64 0)/\(((((V.setCell ⟨w.heap.size+1,0,none⟩ (.int .i64 0)).setCell ⟨w.heap.size+1,1,none⟩ (.int .i64 0)).setCell ⟨w.heap.size+1,2,none⟩ (.slice none 0 0)).setCell ⟨w.heap.size+1,3,none⟩ (.int .i64 0)).setCell ⟨w.heap.size+1,4,none⟩ (.slice none 0 0)).cell? ⟨w.heap.size+1,2,none⟩=some (.slice none 0 0)/\(((((V.setCell ⟨w.heap.size+1,0,none⟩ (.int .i64 0)).setCell ⟨w.heap.size+1,1,none⟩ (.int .i64 0)).setCell ⟨w.heap.size+1,2,none⟩ (.slice none 0 0)).setCell ⟨w.heap.size+1,3,none⟩ (.int .i64 0)).setCell ⟨w.heap.size+1,4,none⟩ (.slice none 0 0)).cell? ⟨w.heap.size+1,3,none⟩=some (.int .i64 0)/\(((((V.setCell ⟨w.heap.size+1,0,none⟩ (.int .i64 0)).setCell ⟨w.heap.size+1,1,none⟩ (.int .i64 0)).setCell ⟨w.heap.size+1,2,none⟩ (.slice none 0 0)).setCell ⟨w.heap.size+1,3,none⟩ (.int .i64 0)).setCell ⟨w.heap.size+1,4,none⟩ (.slice none 0 0)).cell? ⟨w.heap.size+1,4,none⟩=some (.slice none 0 0)):=λV hV=>by have z1:=(((((z0.ah hV).setCell 0 (.int .i64 0)).setCell 1 (.int .i64 0)).setCell 2 (.slice none 0 0)).setCell 3 (.int .i64 0)).setCell 4 (.slice none 0 0);exact ⟨z1.cell 0 rfl,z1.cell 1 rfl,z1.cell 2 rfl,z1.cell 3 rfl,z1.cell 4 rfl⟩
 have c0:=x0.cell 0 rfl;have c1:=x0.cell 1 rfl;have c2:=x0.cell 2 rfl;clear x0 z0 hbW hsW;go_wp2_with fail;refine (HNew.out W HbW.out).mono ?_;rintro e U hpost;rcases hpost with ⟨hB,rfl,hb1⟩ | ⟨hB,b,rfl,hG,hbge,hb1⟩
 ·have HF:=Z5 (HEr.out 1 U hb1 (by decide) (HE1.out hB));obtain ⟨z0,z1,z2,z3,z4,f0,f1,f2,f3,f4⟩:=HZ.out U hb1;obtain ⟨y0,y1,y2,y3,y4⟩:=HZ5.out U hb1;clear hB c0 c1 c2;go_wp2_with fail;exact bodyPost_ret (v:=.tuple #[.agg #[.int .i64 0,.int .i64 0,.slice none 0 0,.int .i64 0,.slice none 0 0],.int .i64 1]) (by simp [results,results25,go_sem,y0,y1,y2,y3,y4]) rfl HF.out
 clear HE1 HNew c0 c1 c2;have hGU : ew U b (af P M.toNat mod):=hG.gf;have HG:=Z5 hGU;have HbU:=Z5 hb1;have HB:=Z5 hB;have HE6 : Hid (∀V,SW W V->(c<1\/64<c\/r<1\/64<r\/k<1\/64<k)->Post (.returned (.tuple #[.agg #[.int .i64 0,.int .i64 0,.slice none 0 0,.int .i64 0,.slice none 0 0],.int .i64 6])) (((((V.setCell ⟨w.heap.size+1,0,none⟩ (.int .i64 0)).setCell ⟨w.heap.size+1,1,none⟩ (.int .i64 0)).setCell ⟨w.heap.size+1,2,none⟩ (.slice none 0 0)).setCell ⟨w.heap.size+1,3,none⟩ (.int .i64 0)).setCell ⟨w.heap.size+1,4,none⟩ (.slice none 0 0))):=λV hV h =>
  HEr.out 6 V hV (by decide) (Mp hB h)
 clear hG hbge hb1 hB;obtain ⟨q,hq⟩ : ∃q,(af P M.toNat mod).q=q:=⟨_,rfl⟩
 have HOr : Hid (∀V,SW U V->Calls prog 63 #[.pointer (some ⟨b,0,none⟩)] V λe w'=>e = .returned (.int .i64 q)/\V=w'):=λV hV=>by rw [<- hq];exact Dr (hGU.ah hV)
 have hq2 : 2<=q/\q<=256:=by have:=hGU.q2;have:=hGU.q256;omega
 clear hGU;go_wp2_with fail;refine (HOr.out U (Nc _ _)).mono ?_;rintro e V ⟨rfl,rfl⟩;by_cases hc : 1<=c/\c<=64;case neg =>
  have hb : (decide (1<=c) && decide (c<=64))=false:=by simp;omega
  have H1:=HBt.out c
  rw [hb] at H1
  have H1:=Z5 H1
  have HF:=Z5 (HE6.out U HbU.out (by omega))
  obtain ⟨z0,z1,z2,z3,z4,f0,f1,f2,f3,f4⟩:=HZ.out U HbU.out
  obtain ⟨y0,y1,y2,y3,y4⟩:=HZ5.out U HbU.out
  clear hb hc
  go_wp2_with fail
  refine (H1.out U).mono ?_
  rintro e V ⟨rfl,rfl⟩
  go_wp2_with fail
  exact bodyPost_ret (v:=.tuple #[.agg #[.int .i64 0,.int .i64 0,.slice none 0 0,.int .i64 0,.slice none 0 0],.int .i64 6]) (by simp [results,results25,go_sem,y0,y1,y2,y3,y4]) rfl HF.out
 have hb1 : (decide (1<=c) && decide (c<=64))=true:=by simp;omega
 have H1:=HBt.out c;rw [hb1] at H1;have H1:=Z5 H1;clear hb1;by_cases hr : 1<=r/\r<=64;case neg =>
  have hb : (decide (1<=r) && decide (r<=64))=false:=by simp;omega
  have H2:=HBt.out r
  rw [hb] at H2
  have H2:=Z5 H2
  have HF:=Z5 (HE6.out U HbU.out (by omega))
  obtain ⟨z0,z1,z2,z3,z4,f0,f1,f2,f3,f4⟩:=HZ.out U HbU.out
  obtain ⟨y0,y1,y2,y3,y4⟩:=HZ5.out U HbU.out
  clear hb hc hr
  go_wp2_with fail
  refine (H1.out U).mono ?_
  rintro e V ⟨rfl,rfl⟩
  go_wp2_with fail
  refine (H2.out V).mono ?_
  rintro e V ⟨rfl,rfl⟩
  go_wp2_with fail
  exact bodyPost_ret (v:=.tuple #[.agg #[.int .i64 0,.int .i64 0,.slice none 0 0,.int .i64 0,.slice none 0 0],.int .i64 6]) (by simp [results,results25,go_sem,y0,y1,y2,y3,y4]) rfl HF.out
 have hb2 : (decide (1<=r) && decide (r<=64))=true:=by simp;omega
 have H2:=HBt.out r;rw [hb2] at H2;have H2:=Z5 H2;clear hb2;by_cases hk : 1<=k/\k<=64;case neg =>
  have hb : (decide (1<=k) && decide (k<=64))=false:=by simp;omega
  have H3:=HBt.out k
  rw [hb] at H3
  have H3:=Z5 H3
  have HF:=Z5 (HE6.out U HbU.out (by omega))
  obtain ⟨z0,z1,z2,z3,z4,f0,f1,f2,f3,f4⟩:=HZ.out U HbU.out
  obtain ⟨y0,y1,y2,y3,y4⟩:=HZ5.out U HbU.out
  clear hb hc hr hk
  go_wp2_with fail
  refine (H1.out U).mono ?_
  rintro e V ⟨rfl,rfl⟩
  go_wp2_with fail
  refine (H2.out V).mono ?_
  rintro e V ⟨rfl,rfl⟩
  go_wp2_with fail
  refine (H3.out V).mono ?_
  rintro e V ⟨rfl,rfl⟩
  go_wp2_with fail
  exact bodyPost_ret (v:=.tuple #[.agg #[.int .i64 0,.int .i64 0,.slice none 0 0,.int .i64 0,.slice none 0 0],.int .i64 6]) (by simp [results,results25,go_sem,y0,y1,y2,y3,y4]) rfl HF.out
 have hb3 : (decide (1<=k) && decide (k<=64))=true:=by simp;omega
 have H3:=HBt.out k;rw [hb3] at H3;have H3:=Z5 H3;clear hb3 HE6 HBt;go_wp2_with fail;refine (H1.out U).mono ?_;rintro e V ⟨rfl,rfl⟩;go_wp2_with fail;refine (H2.out V).mono ?_;rintro e V ⟨rfl,rfl⟩;go_wp2_with fail;refine (H3.out V).mono ?_;rintro e U ⟨rfl,rfl⟩;clear H1 H2 H3;obtain ⟨cn,hcn⟩ : ∃n : Nat,c=n:=⟨c.toNat,by omega⟩
 obtain ⟨rn,hrn⟩ : ∃n : Nat,r=n:=⟨r.toNat,by omega⟩
 obtain ⟨kn,hkn⟩ : ∃n : Nat,k=n:=⟨k.toNat,by omega⟩
 obtain ⟨Q,hqQ⟩ : ∃Q,q=Q+1:=⟨q - 1,by omega⟩
 have hin:=LU (c:=cn) (r:=rn) (k:=kn) HB.out (hq.trans hqQ) (by omega) (by omega) (by omega);rw [<- hcn,<- hrn,<- hkn] at hin;obtain ⟨R,hR⟩ : ∃R,rn+1=R:=⟨_,rfl⟩
 rw [hR] at hin;obtain ⟨x1,hx1⟩ : ∃x,Q % R=x:=⟨_,rfl⟩
 obtain ⟨yq,hy1⟩ : ∃x,Q / R=x:=⟨_,rfl⟩
 obtain ⟨Z1,hZ1⟩ : ∃x,cn * R=x:=⟨_,rfl⟩
 obtain ⟨Z2,hZ2⟩ : ∃x,cn * rn=x:=⟨_,rfl⟩
 rw [hx1,hy1,hZ1,hZ2] at hin;have hyQ : yq<=Q:=by rw [<- hy1];exact PG _ _
 have hZ1b : Z1<=64 * 65:=by rw [<- hZ1];exact PU (by omega) (by omega)
 have hZ2b : Z2<=64 * 64:=by rw [<- hZ2];exact PU (by omega) (by omega)
 obtain ⟨Ri,hRi⟩ : ∃Ri : Int,Ri=(R : Int):=⟨_,rfl⟩
 obtain ⟨Qi,hQi⟩ : ∃Qi : Int,Qi=(Q : Int):=⟨_,rfl⟩
 obtain ⟨xi,hxi⟩ : ∃xi : Int,xi=(x1 : Int):=⟨_,rfl⟩
 obtain ⟨yi,hyi⟩ : ∃yi : Int,yi=(yq : Int):=⟨_,rfl⟩
 obtain ⟨zi,hzi⟩ : ∃zi : Int,zi=(Z1 : Int):=⟨_,rfl⟩
 obtain ⟨ti,hti⟩ : ∃ti : Int,ti=(Z2 : Int):=⟨_,rfl⟩
 have wR : IntKind.i64.wrap (r+1)=Ri:=by rw [show r+1=Ri by omega];exact Ns _ (by omega)
 have wQ : IntKind.i64.wrap ((q : Int) - 1)=Qi:=by rw [show (q : Int) - 1=Qi by omega];exact Ns _ (by omega)
 have hR0 : (Ri == 0)=false:=by rw [beq_eq_false_iff_ne];omega
 have hR0p : Ri ≠ 0:=by omega
 have tx : Qi.tmod Ri=xi:=by rw [hRi,hQi,hxi,Ow (by omega),<- hx1];simp
 have ty : Qi.tdiv Ri=yi:=by rw [hRi,hQi,hyi,PO (by omega),<- hy1];simp
 have wy : IntKind.i64.wrap yi=yi:=Ns _ (by omega);have wZ1 : IntKind.i64.wrap (c * Ri)=zi:=by rw [show c * Ri=zi by rw [hcn,hRi,hzi,<- hZ1];simp];exact Ns _ (by omega)
 have wZ2 : IntKind.i64.wrap (c * r)=ti:=by rw [show c * r=ti by rw [hcn,hrn,hti,<- hZ2];simp];exact Ns _ (by omega)
 have hin:=Z5 hin;have HDef:=Z5 (Np hR (Np hx1 (Np hy1 (Np hZ1 hZ2))));have HRi:=Z5 (Np hRi (Np hQi (Np hqQ (Np hxi (Np hyi (Np hzi hti))))));have HNum:=Z5 (Np hc (Np hr (Np hk (Np hyQ (Np hZ1b (Np hZ2b (Np hq (Np hq2 (Np hcn (Np hrn hkn))))))))));have HD1 : Hid (xi ≠ 0->x1 ≠ 0):=λh h2=>h (by omega);have HD2 : Hid (yi<c ↔ yq<cn):=by show _ ↔ _;omega
 have HD3 : Hid (64<zi ↔ 64<Z1):=by show _ ↔ _;omega
 have HD4 : Hid (ti<k ↔ Z2<kn):=by show _ ↔ _;omega
 clear hR hx1 hy1 hZ1 hZ2 hRi hQi hqQ hc hr hk hyQ hZ1b hZ2b hq hq2 hxi hyi hzi hti hcn hrn hkn;by_cases h1 : xi=0;case neg =>
  have d1 : (xi != 0)=true:=by simp;omega
  have HF:=Z5 (HEr.out 10 U HbU.out (by decide) (by rw [hin.out,Nd (.inl (HD1.out h1))]))
  obtain ⟨z0,z1,z2,z3,z4,f0,f1,f2,f3,f4⟩:=HZ.out U HbU.out
  obtain ⟨y0,y1,y2,y3,y4⟩:=HZ5.out U HbU.out
  clear h1
  go_wp2_with fail
  exact bodyPost_ret (v:=.tuple #[.agg #[.int .i64 0,.int .i64 0,.slice none 0 0,.int .i64 0,.slice none 0 0],.int .i64 10]) (by simp [results,results25,go_sem,y0,y1,y2,y3,y4]) rfl HF.out
 have d1 : (xi != 0)=false:=by simp;omega
 by_cases h2 : yi<c;case pos =>
  have d2 : decide (yi<c)=true:=NB h2
  have HF:=Z5 (HEr.out 10 U HbU.out (by decide) (by rw [hin.out,Nd (.inr (HD2.out.1 h2))]))
  obtain ⟨z0,z1,z2,z3,z4,f0,f1,f2,f3,f4⟩:=HZ.out U HbU.out
  obtain ⟨y0,y1,y2,y3,y4⟩:=HZ5.out U HbU.out
  clear h1 h2
  go_wp2_with fail
  exact bodyPost_ret (v:=.tuple #[.agg #[.int .i64 0,.int .i64 0,.slice none 0 0,.int .i64 0,.slice none 0 0],.int .i64 10]) (by simp [results,results25,go_sem,y0,y1,y2,y3,y4]) rfl HF.out
 have d2 : decide (yi<c)=false:=NA h2;have hx10 : x1=0:=by have:=HRi.out.2.2.2.1;omega
 have hin2:=hin.out;rw [Nf (by rintro (h | h);exact h hx10;exact h2 (HD2.out.2 h))] at hin2;by_cases h3 : 64<zi;case pos =>
  have d3 : decide (64<zi)=true:=NB h3
  have HF:=Z5 (HEr.out 4 U HbU.out (by decide) (by rw [hin2,Nd (HD3.out.1 h3)]))
  obtain ⟨z0,z1,z2,z3,z4,f0,f1,f2,f3,f4⟩:=HZ.out U HbU.out
  obtain ⟨y0,y1,y2,y3,y4⟩:=HZ5.out U HbU.out
  clear h1 h2 h3 hin2 hx10
  go_wp2_with fail
  exact bodyPost_ret (v:=.tuple #[.agg #[.int .i64 0,.int .i64 0,.slice none 0 0,.int .i64 0,.slice none 0 0],.int .i64 4]) (by simp [results,results25,go_sem,y0,y1,y2,y3,y4]) rfl HF.out
 have d3 : decide (64<zi)=false:=NA h3;rw [Nf λh=>h3 (HD3.out.2 h)] at hin2;by_cases h4 : ti<k;case pos =>
  have d4 : decide (ti<k)=true:=NB h4
  have HF:=Z5 (HEr.out 9 U HbU.out (by decide) (by rw [hin2,Nd (HD4.out.1 h4)]))
  obtain ⟨z0,z1,z2,z3,z4,f0,f1,f2,f3,f4⟩:=HZ.out U HbU.out
  obtain ⟨y0,y1,y2,y3,y4⟩:=HZ5.out U HbU.out
  clear h1 h2 h3 h4 hin2 hx10
  go_wp2_with fail
  exact bodyPost_ret (v:=.tuple #[.agg #[.int .i64 0,.int .i64 0,.slice none 0 0,.int .i64 0,.slice none 0 0],.int .i64 9]) (by simp [results,results25,go_sem,y0,y1,y2,y3,y4]) rfl HF.out
 have d4 : decide (ti<k)=false:=NA h4;rw [Nf λh=>h4 (HD4.out.2 h)] at hin2;have HE0:=Z5 hin2;clear hin2;have HS13:=Z5 (Np h1 (Np h2 (Np h3 (Np h4 hx10))));clear h1 h2 h3 h4 hx10;go_upto_region 13 with fail;clear tx ty wy wZ2 d1 d2 d3 d4 hR0 hR0p wQ;obtain ⟨hc,hr,hk,hyQ,hZ1b,hZ2b,hq,hq2,hcn,hrn,hkn⟩:=HNum.out;obtain ⟨hRi,hQi,hqQ,hxi,hyi,hzi,hti⟩:=HRi.out;obtain ⟨h1,h2,h3,h4,hx10⟩:=HS13.out;obtain ⟨e1,e2,e3,e4,e5⟩:=HDef.out;clear HNum HRi HS13 HDef HD1 HD2 HD3 HD4 hin;have hplan:=KZ (k:=0) (c:=cn) HB.out (hq.trans hqQ) (r:=rn) (by omega) (by rw [e1,e2];exact hx10) (by rw [e1,e3];omega);rw [e1] at hplan;have hN : R * cn=Z1:=by rw [Oe];exact e4
 rw [hN] at hplan;have HPw0 : Hid (∀V (x n : Nat),SW U V->1<=x->x<q->n<=1000000->Calls prog 65 #[.pointer (some ⟨b,0,none⟩),.int .i64 x,.int .i64 n] V λe w'=>∃k,e = .returned (.tuple #[.int .i64 (iE (af P M.toNat mod).ops x n),.int .i64 0])/\w'=V.drewN k):=λV x n hV h5 h6 h7 =>
  MX HB.out n (HG.out.ah hV) (show 0<=(x : Int)/\(x : Int)<((af P M.toNat mod).q : Nat) by rw [hq];omega) (by omega) h7
 have HtbS : Hid (J6 P M mod c.toNat r.toNat k.toNat=bZ (af P M.toNat mod).ops Z1 (kr (af P M.toNat mod).ops (CZ (af P M.toNat mod).ops (af P M.toNat mod).q rn cn) (ju rn) kn)):=by show _=_;rw [hcn,hrn,hkn,Nb,Nb,Nb,J6,L6,e1,hN]
 have HNN : Hid ((r.toNat+1) * c.toNat=Z1):=by show _=_;rw [hcn,hrn,Nb,Nb,e1,hN]
 obtain ⟨g1,g2,g3,g4,g5,g6⟩:=hplan;have HFl:=Z5 (dM HB.out);rw [<- hqQ] at g1 g2 g3;obtain ⟨ux,hux⟩ : ∃f,(λx=>FG (af P M.toNat mod).ops R x)=f:=⟨_,rfl⟩
 have hu1 : ux 1=[]:=by rw [<- hux];exact K8 R
 have HuT : Hid (∀x : Nat,1<=x->iE (af P M.toNat mod).ops (x : Int) R=1->ux (x+1)=ux x ++ [(x : Int)]):=λx h5 h6=>by rw [<- hux];exact Cj h5 h6
 have HuS : Hid (∀x : Nat,1<=x->iE (af P M.toNat mod).ops (x : Int) R ≠ 1->ux (x+1)=ux x):=λx h5 h6=>by rw [<- hux];exact BC h5 h6
 have HuL : Hid (∀x,(ux x).length<=x):=λx=>by rw [<- hux];exact An R x
 have euq : FG (af P M.toNat mod).ops R q=ux q:=by rw [<- hux]
 rw [euq] at g1 g2 g3;obtain ⟨px,hpx⟩ : ∃f,(λx=>Fg (af P M.toNat mod).ops (ux q) Z1 x)=f:=⟨_,rfl⟩
 obtain ⟨X,hX⟩ : ∃X,CZ (af P M.toNat mod).ops (af P M.toNat mod).q rn cn=X:=⟨_,rfl⟩
 rw [hX] at g3 g4 g5 HtbS;have hp1 : px 1=[]:=by rw [<- hpx];exact K0 _ _
 have HpT : Hid (∀x : Nat,1<=x->(px x).length<Z1->¬ (x : Int) ∈ px x->px (x+1)=px x ++ dt ((ux q).map ((af P M.toNat mod).mul (x : Int)))):=λx h5 h6 h7=>by rw [<- hpx] at h6 h7 ⊢;exact IA h5 h6 h7
 have HpS : Hid (∀x : Nat,1<=x->(x : Int) ∈ px x->px (x+1)=px x):=λx h5 h6=>by rw [<- hpx] at h6 ⊢;exact I8 h5 h6
 have HpE : Hid (∀x,x<=q->Z1<=(px x).length->px x=X):=λx h5 h6=>by rw [<- hpx] at h6 ⊢;rw [<- g3];exact Ir h5 h6
 have HpQ : Hid (px q=X):=by show _=_;rw [<- hpx];exact g3
 have HZN : Hid (1<=Z1/\Z1<=64):=by refine ⟨?_,by omega⟩;have:=PU (show 1<=R by omega) (show 1<=cn by omega);omega
 have HRw : Hid (eJ P M mod Z1 (kr (af P M.toNat mod).ops X (ju rn) kn)=0):=by refine kA HB.out (by omega) (by unfold kr;simp;omega) λrr hrr=>?_;obtain ⟨j,_,rfl⟩:=List.mem_map.1 hrr;refine ⟨by rw [Nq];exact g4,λy hy=>?_⟩;obtain ⟨u,hu,rfl⟩:=List.mem_map.1 hy;exact gQ HFl.out (g5 u hu).1 _
 have HU:=Z5 (Np g1 g2);have HXp:=Z5 (Np g4 g5);have HMul : Hid (∀x y,(af P M.toNat mod).El x->(af P M.toNat mod).El y->(af P M.toNat mod).El ((af P M.toNat mod).mul x y)):=λx y=>HFl.out.cl.mul x y;have HMk:=Z5 (Np HB.out hq);obtain ⟨G,hGG⟩ : ∃G,af P M.toNat mod=G:=⟨_,rfl⟩
 rw [hGG] at HPw0 HuT HuS HpT HU HXp HG HFl HMul HtbS HRw;obtain ⟨pw,hpw⟩ : ∃f : Nat->Nat->Int,(λ(x n : Nat)=>iE G.ops (x : Int) n)=f:=⟨_,rfl⟩
 have HPw : Hid (∀V (x n : Nat),SW U V->1<=x->x<q->n<=1000000->Calls prog 65 #[.pointer (some ⟨b,0,none⟩),.int .i64 x,.int .i64 n] V λe w'=>∃k,e = .returned (.tuple #[.int .i64 (pw x n),.int .i64 0])/\w'=V.drewN k):=by rw [<- hpw];exact HPw0
 have HuT : Hid (∀x : Nat,1<=x->pw x R=1->ux (x+1)=ux x ++ [(x : Int)]):=by rw [<- hpw];exact HuT
 have HuS : Hid (∀x : Nat,1<=x->pw x R ≠ 1->ux (x+1)=ux x):=by rw [<- hpw];exact HuS
 have Hpw:=Z5 hpw;have HGG:=Z5 (Np hGG (Np hq hqQ));have HNum:=Z5 (Np hc (Np hr (Np hk (Np hcn (Np hrn (Np hkn e1))))));have hRb : R<=65:=by omega
 have hR2 : 2<=R:=by omega
 subst hRi hzi;clear hux hpx hX hpw hGG hq hqQ g1 g2 g3 g4 g5 g6 HPw0 h1 h2 h3 h4 hx10 e1 e2 e3 e4 e5 hN hQi hxi hyi hti hyQ hc hr hk hcn hrn hkn hZ2b euq;go_wp2_with fail;go_loopw [13,15] (λsv iv wr=>∃(x : Nat) (a1 : OA) (c1 : Nat),1<=x/\x<=q/\iv = .int .i64 x/\sv = .slice a1 (ux x).length c1/\wr.ownsRow U.heap.size 3 1 (.slice a1 (ux x).length c1) (ux x).length ((ux x).map (Value.int .i64))/\SW U wr)
  (λ_ iv _=>q - (intOf iv).toNat)
 case atStart=>exact ⟨1,none,0,Na _,by omega,rfl,by rw [hu1];rfl,by rw [hu1];exact ⟨rfl,.inl ⟨rfl,rfl⟩⟩,Nc _ _⟩
 case round =>
  obtain ⟨x,a1,c1,hx1,hxq,rfl,rfl,hown,hbr⟩:=hrel
  by_cases hlt : x<q
  ·have hxl:=HuL.out x
   have HP1:=Z5 (HPw.out wr x R hbr hx1 hlt (by omega))
   have hbz:=below_drewN hbr
   by_cases hp : pw x R=1
   ·have hu : Hid (ux (x+1)=ux x ++ [(x : Int)]):=HuT.out x hx1 hp
    generalize ux x=out at *
    rw [hp] at HP1
    clear hp
    go_wp2_with fail
    refine HP1.out.mono ?_
    rintro e w2 ⟨kk,rfl,rfl⟩
    have hbr2:=below_drewN hbr kk
    have hown2:=bd hown (below_drewN (Nc _ _) kk)
    clear hown
    generalize wr.drewN kk=w2 at *
    have hcn:=ba w2 (.int .i64 x) 3
    have hbn:=an w2 (.cells #[.int .i64 x] 3)
    have hsz:=hbr2.size
    go_wp2_with (at_builtin;refine aO rfl _ _ 22 3 rfl (.int .i64 0) 8 underlying22 aU rfl U.heap.size a1 out.length c1 _ rfl (hown2.alloc _) ⟨w2.heap.size,0,none⟩ 1 (.int .i64 x) rfl hcn rfl (by omega) (by unfold maxLen;omega) (by simp;omega) ?_;intro a5 c5 w5 hown5 hgr5 hap5)
    go_roundw
    case rel =>
     refine ⟨x+1,a5,c5,by omega,by omega,by go_num,by rw [hu.out];simp,?_,Sa (N2 hbr2 (hbn.mono hsz)) (hown2.alloc _) hgr5 (Na _) (Nr hsz hbn.size)⟩
     rw [hu.out];simpa using hown5
    case measure=>simp [intOf] <;> omega
   ·have hu : Hid (ux (x+1)=ux x):=HuS.out x hx1 hp
    have hpb : (pw x R == 1)=false:=by rw [beq_eq_false_iff_ne];exact hp
    generalize ux x=out at *
    clear hp
    go_wp2_with fail
    refine HP1.out.mono ?_
    rintro e w2 ⟨kk,rfl,rfl⟩
    have hbr2:=below_drewN hbr kk
    have hown2:=bd hown (below_drewN (Nc _ _) kk)
    clear hown
    generalize wr.drewN kk=w2 at *
    go_wp2_with fail
    go_roundw
    case rel=>exact ⟨x+1,a1,c1,by omega,by omega,by go_num,by rw [hu.out],by rw [hu.out];exact hown2,hbr2⟩
    case measure=>simp [intOf] <;> omega
  ·obtain rfl : x=q:=by omega
   have hUl:=HU.out.1
   have hown1:=aX hown (Na _)
   rw [hUl] at hown1
   have hUi : Ints wr a1 R (ux x):=(R6 hown1).1
   have HUe:=Z5 HU.out.2
   have HUi:=Z5 hUi
   have HbW1:=Z5 hbr
   obtain ⟨UU,hUU⟩ : ∃UU,ux x=UU:=⟨_,rfl⟩
   rw [hUU] at HUe HUi HpT hUl
   have HUl:=Z5 hUl
   have hl0 : (ux x).length=R:=by rw [hUU];exact hUl
   rw [hl0]
   clear hown hown1 hUi HU HuT HuS HuL hUl hUU hu1 hl0 hbr hlt
   clear hx1 hxq
   generalize wr=W1 at *
   generalize hxx : x=q at *
   clear hxx
   go_wp2_with (at_make;refine bS rfl _ _ 90 4 rfl (.bool false) 1 underlying90 CA rfl q rfl rfl (by omega) (by unfold maxLen;omega) ?_;intro a8 W2 hown8 hbel8 hge8 hlt8)
   have hown8 : W2.ownsRow W1.heap.size 4 1 (.slice a8 q q) q ((mb q (px 1)).map Value.bool):=by rw [hp1,Gd,OF];exact hown8
   have hs1 : 0<W1.heap.size:=by have h1:=HsW.out;have h2:=HbU.out.size;have h3:=HbW1.out.size;omega
   have Hge:=Z5 (Np hge8 (Np hlt8 hs1))
   have ha8 : a8 ≠ none:=by rintro rfl;have : (0 : Nat)=ablk none:=rfl;omega
   have HCf : Hid (∀V,SW W1 V->ew V b G/\Ints V a1 R UU):=λV hV=>⟨HG.out.ah (RZ HbW1.out hV),HUi.out.ah hV⟩
   have hbel8s:=hbel8.size
   clear hge8 hlt8 hs1
   go_loopw [14,19] (λsv iv wr=>∃(x : Nat) (a4 : OA) (c4 : Nat),1<=x/\x<=q/\(px x).length<=5000/\iv = .int .i64 x/\sv = .slice a4 (px x).length c4/\wr.ownsRow W2.heap.size 3 1 (.slice a4 (px x).length c4) (px x).length ((px x).map (Value.int .i64)) /\
     wr.ownsRow W1.heap.size 4 1 (.slice a8 q q) q ((mb q (px x)).map Value.bool)/\SW W1 wr/\W2.heap.size<=wr.heap.size)
    (λ_ iv _=>q - (intOf iv).toNat)
   case atStart=>exact ⟨1,none,0,Na _,by omega,by rw [hp1];simp,rfl,by rw [hp1];rfl,by rw [hp1];exact ⟨rfl,.inl ⟨rfl,rfl⟩⟩,hown8,hbel8,Na _⟩
   case round =>
    clear hown8 hbel8
    obtain ⟨x,a4,c4,hx1,hxq,hl5,rfl,rfl,hown,hus,hbr,hsz⟩:=hrel
    by_cases hgo : x<q/\(px x).length<Z1
    ·obtain ⟨hlt,hlz⟩:=hgo
     obtain ⟨hbl,hmi⟩:=SQ hus
     have hcx:=hbl.cell x hlt
     have hplb:=hbl.pl
     rw [Du _ hlt] at hcx
     by_cases hin8 : (x : Int) ∈ px x
     ·have hd : decide ((x : Int) ∈ px x)=true:=NB hin8
      rw [hd] at hcx
      have hp : Hid (px (x+1)=px x):=HpS.out x hx1 hin8
      clear hin8 hd hmi hbl
      generalize px x=out at *
      go_wp2_with fail
      go_roundw
      case rel=>exact ⟨x+1,a4,c4,by omega,by omega,by rw [hp.out];exact hl5,by go_num,by rw [hp.out],by rw [hp.out];exact hown,by rw [hp.out];exact hus,hbr,hsz⟩
      case measure=>simp [intOf] <;> omega
     ·have hd : decide ((x : Int) ∈ px x)=false:=NA hin8
      rw [hd] at hcx
      have hp : Hid (px (x+1)=px x ++ dt (UU.map (G.mul x))):=HpT.out x hx1 hlz hin8
      have HSc : Hid (Calls prog 66 #[.pointer (some ⟨b,0,none⟩),.int .i64 x,.slice a1 R c1] wr (b8 wr (UU.map (G.mul x)))):=by obtain ⟨h5,h6⟩:=HCf.out wr hbr;exact xj (x : Int) a1 R c1 UU h5 (show 0<=(x : Int)/\(x : Int)<(G.q : Nat) by rw [<- HGG.out.1,HGG.out.2.1];omega) h6 HUe.out (by omega)
      have HCe : Hid (∀y ∈ dt (UU.map (G.mul x)),0<=y/\y<q):=λy hy=>by
       obtain ⟨u,hu,rfl⟩:=List.mem_map.1 ((eC _).mem_iff.1 hy);have h5:=HMul.out x u (show 0<=(x : Int)/\(x : Int)<(G.q : Nat) by rw [<- HGG.out.1,HGG.out.2.1];omega) (HUe.out u hu);have h6 : 0<=G.mul x u/\G.mul x u<(G.q : Nat):=h5;have h7 : G.q=q:=by rw [<- HGG.out.1];exact HGG.out.2.1
       rw [h7] at h6;exact ⟨h6.1,by omega⟩
      have hml : (UU.map (G.mul x)).length=R:=by rw [Nq];exact HUl.out
      have hmls : (dt (UU.map (G.mul x))).length=R:=by rw [(eC _).length_eq];exact hml
      obtain ⟨M0,hM0⟩ : ∃l,UU.map (G.mul x)=l:=⟨_,rfl⟩
      rw [hM0] at hp HSc HCe hml hmls
      have Hms:=Z5 hmls
      clear hin8 hd hmi hbl hM0 hmls
      generalize hpxo : px x=out at *
      clear hpxo
      unfold b8 at HSc
      rw [hml] at HSc
      go_wp2_with fail
      refine HSc.out.mono ?_
      rintro e w3 ⟨a3,c3,rfl,hown3,hb3⟩
      have hs3:=hb3.size
      have HSo:=Z5 (vI wr.heap.size a3 R c3 M0 w3 hown3 hs3 (by omega))
      clear hown3
      go_wp2_with fail
      refine HSo.out.mono ?_
      rintro e w5 ⟨rfl,hown5,_,hb5⟩
      have hs5:=hb5.size
      have hsrt:=(R6 hown5).1
      have hpls:=hsrt.pl
      have hb35 : SW wr w5:=hb3.trans hb5
      have hus5:=bd hus hb35
      have hownp5:=bd hown hb35
      have HB5 : Hid (SW W1 w5):=RZ hbr hb35
      have h3w : wr.heap.size<=ablk a3:=((eA hown5 (by omega))).1
      obtain ⟨cs,hcs⟩ : ∃cs,dt M0=cs:=⟨_,rfl⟩
      rw [hcs] at hp Hms hsrt HCe
      clear hcs hus hown hown5 hb5 hb3 hb35 HSo
      go_wp2_with fail
      go_loopw [133] (λjv ws=>∃t : Nat,t<=R/\jv = .int .i64 t/\ws.ownsRow W1.heap.size 4 1 (.slice a8 q q) q ((mb q (out ++ cs.take t)).map Value.bool)/\dp a8 w5 ws) (λjv _=>R - (intOf jv).toNat)
      case atStart=>exact ⟨0,Ni _,rfl,by simpa using hus5,Sq _ _⟩
      case round =>
       clear hus5
       obtain ⟨t,ht,rfl,hut,hon⟩:=hrel
       have hsrt5:=hon.ints hsrt (.inr (.inr (by have:=Hge.out.2.1;omega)))
       by_cases hltt : t<R
       ·have cq:=hsrt5.cell t hltt
        have hb:=HCe.out _ (aH (l:=cs) (i:=t) (by rw [Hms.out];exact hltt))
        obtain ⟨z,hz⟩ : ∃z : Nat,nth cs t=z:=⟨(nth cs t).toNat,by omega⟩
        have hzq : z<q:=by omega
        obtain ⟨hbl,hmi⟩:=SQ hut
        have hfz:=(hmi (by omega)).2 z hzq
        have hcz:=hbl.cell z hzq
        have hnx : Hid (out ++ cs.take (t+1)=(out ++ cs.take t) ++ [(z : Int)]):=by show _=_;rw [Nj (by rw [Hms.out];exact hltt),<- aj,hz,NX]
        rw [hz] at cq
        clear hz hb hbl hmi
        go_wp2_with fail
        go_roundw
        case rel =>
         refine ⟨t+1,by omega,by go_num,?_,hon.trans (St _ _ _ ha8)⟩
         have h5:=bK hut z hzq (.bool true)
         rw [<- NF,GC,<- hnx.out] at h5
         exact h5
        case measure=>simp [intOf] <;> omega
       ·obtain rfl : t=R:=by omega
        rw [No (by rw [Hms.out];exact Na _),<- hp.out] at hut
        have hbO : Below W1.heap.size w5 wr:=hon.below (λ_=>Hge.out.1) HB5.out.size
        have hbW : SW W1 wr:=HB5.out.trans hbO
        have hne4 : ablk a4 ≠ ablk a8:=by
         rcases lE hownp5 with ⟨h5,_⟩ | ⟨h5,_⟩
         ·rw [h5];have h6 : ablk none=0:=rfl;have:=Hge.out.1;have:=Hge.out.2.2;omega
         ·have:=Hge.out.2.1;omega
        have hl4 : ablk a4<w5.heap.size:=by
         rcases lE hownp5 with ⟨h5,_⟩ | ⟨_,h5⟩
         ·rw [h5];have h6 : ablk none=0:=rfl;have:=HB5.out.size;have:=Hge.out.2.2;omega
         ·exact h5
        have hown6:=gZ hownp5 (hon.block _ hl4 λh5=>hne4 h5.2)
        have hsw : W2.heap.size<=wr.heap.size:=by have:=hon.size;omega
        have hpl5:=hsrt5.pl
        have hlcs : (cs.map (Value.int .i64)).length=t:=by rw [Nq];exact Hms.out
        have hcc : ∀j,j<t->wr.cell? ⟨ablk a3,aK a3+j,none⟩=(cs.map (Value.int .i64))[j]?:=λj hj=>by rw [hsrt5.cell j hj,Pr,NQ (by rw [Hms.out];exact hj),aj (by rw [Hms.out];exact hj)];rfl
        have h1cs : ∀u ∈ cs.map (Value.int .i64),u.oneCell'=true:=λu hu=>by obtain ⟨y,_,rfl⟩:=List.mem_map.1 hu;rfl
        have Hbx:=Z5 (Np hbW hsw)
        have hlnx : (px (x+1)).length=out.length+t:=by rw [hp.out,Nl,Hms.out]
        clear hownp5 hon hbO hsrt5 hsrt
        go_wp2_with (at_builtin;refine dH rfl _ _ 22 3 rfl (.int .i64 0) 8 underlying22 aU rfl W2.heap.size a4 out.length c4 _ rfl hown6 a3 t c3 _ rfl hpl5 hlcs hcc h1cs (by omega) (by unfold maxLen;omega) hsw ?_;intro a7 c7 w7 hown7 hgr7 _)
        go_roundw
        case rel =>
         have hut7:=gZ hut (hgr7.block _ (NR Hge.out.2.1 Hbx.out.2) λh5=>(gE.own (.inr hne4) out.length c4) h5.symm)
         refine ⟨x+1,a7,c7,by omega,by omega,by omega,by go_num,by rw [hlnx],?_,hut7,Sa Hbx.out.1 hown6 hgr7 hbel8s Hbx.out.1.size,by have:=hgr7.size;omega⟩
         rw [hlnx,hp.out,NM]
         exact hown7
        case measure=>simp [intOf] <;> omega
    ·have hX0 : Hid (px x=X):=by
      by_cases h5 : x<q
      ·exact HpE.out x hxq (by omega)
      ·obtain rfl : x=q:=by omega
       exact HpQ.out
     have hXl:=HXp.out.1
     rw [hX0.out,hXl] at hown
     have hXi : Ints wr a4 Z1 X:=(R6 hown).1
     have HXi:=Z5 hXi
     have HbW2:=Z5 hbr
     have hlX : (px x).length=Z1:=by rw [hX0.out];exact hXl
     rw [hlX] at hl5 hgo ⊢
     have hstop : ¬ (x<q/\Z1<Z1):=by omega
     have HCt : Hid (∀x,x % R=rn->kW rn (x+1)=kW rn x):=λx hx=>Gi (by rw [HNum.out.2.2.2.2.2.2];exact hx)
     have HCk : Hid (∀x,x % R ≠ rn->kW rn (x+1)=kW rn x+1/\kr G.ops X (ju rn) (kW rn x+1)=kr G.ops X (ju rn) (kW rn x) ++ [X.map λy=>iE G.ops y x]):=λx hx=>by obtain ⟨h5,h6⟩:=GK (r:=rn) (x:=x) (by have:=HNum.out.2.1;have:=HNum.out.2.2.2.2.1;omega) (by rw [HNum.out.2.2.2.2.2.2];exact hx);exact ⟨h5,by rw [GB,<- h6]⟩
     have HCl : Hid (∀x,kW rn x<kn->x<2 * kn):=λx hx=>KG (by have:=HNum.out.2.1;have:=HNum.out.2.2.2.2.1;omega) hx
     have hct0 : kW rn 0=0:=FO rn
     have hLL0 : kr G.ops X (ju rn) 0=[]:=rfl
     obtain ⟨LL,hLL⟩ : ∃f,kr G.ops X (ju rn)=f:=⟨_,rfl⟩
     rw [hLL] at HCk hLL0 HtbS HRw
     obtain ⟨ct,hct⟩ : ∃f,kW rn=f:=⟨_,rfl⟩
     rw [hct] at HCt HCk HCl hct0
     obtain ⟨rw',hrw⟩ : ∃f : Nat->Lz,(λx=>X.map λy=>iE G.ops y x)=f:=⟨_,rfl⟩
     have HCk : Hid (∀x,x % R ≠ rn->ct (x+1)=ct x+1/\LL (ct x+1)=LL (ct x) ++ [rw' x]):=by rw [<- hrw];exact HCk
     have HRl : Hid (∀x,(rw' x).length=Z1):=λx=>by rw [<- hrw];simp [hXl]
     have HRn : Hid (∀x z t,t<Z1->nth X t=((z : Nat) : Int)->nth (rw' x) t=pw z x):=λx z t ht hz=>by rw [<- hrw,<- Hpw.out];show nth (X.map _) t=_;rw [aj (by rw [Nq,hXl];exact ht),NZ,<- aj,hz]
     have HXe : Hid (∀t,t<Z1->∃z : Nat,nth X t=z/\1<=z/\z<q):=λt ht=>by
      obtain ⟨h5,h6⟩:=HXp.out.2 _ (aH (l:=X) (i:=t) (by rw [hXl];exact ht));have h7 : 0<=nth X t/\nth X t<(G.q : Nat):=h5;have h8 : G.q=q:=by rw [<- HGG.out.1];exact HGG.out.2.1
      rw [h8] at h7;exact ⟨(nth X t).toNat,by omega,by omega,by omega⟩
     obtain ⟨kx,rx⟩:=Np HNum.out.2.2.2.2.2.1 HNum.out.2.2.2.2.1
     have HkE:=Z5 (Np kx (Np rx (Np HNum.out.2.1 HNum.out.2.2.1)))
     have hk64 : kn<=64:=by have:=HNum.out.2.2.1;have:=HNum.out.2.2.2.2.2.1;omega
     have hrwf:=HRl.out
     clear hLL hct hrw hXi hown hus hbr hX0 hlX hXl HpT HpS HpE HpQ hp1 HMul HFl HCf HUe HUi HUl ha8 hbel8s hin hZ1b kx rx hrwf hsz HOr
     generalize wr=V at *
     clear hgo
     by_cases h5q : x<q
     all_goals (
      go_upto_region 33 with fail
      obtain ⟨g,hg⟩ : ∃g,V.heap.size=g:=⟨_,rfl⟩
      have HGs:=Z5 hg
      clear hg
      go_cut [23] (λv wx=>v = .pointer (some ⟨V.heap.size,0,none⟩)/\qK wx V.heap.size (.int .i64 Z1) none 0 0 [] []/\SW V wx)
      case first =>
       go_wp2_with fail
       go_meet
       exact ⟨rfl,qK.start (R9 V [.int .i64 Z1,.slice none 0 0] _ rfl),an _ _⟩
      obtain ⟨rfl,hO0,hbc⟩:=hcut
      generalize wc=U3 at *
      have hs3:=HGs.out
      rw [hs3] at hO0 ⊢
      have HbU3:=Z5 hbc
      have hgU:=hO0.lt
      have hO0 : qK U3 g (.int .i64 Z1) none (ct 0) 0 [] (LL (ct 0)):=by rw [hct0,hLL0];exact hO0
      have hR0p : (R : Int) ≠ 0:=by omega
      have hR0n : R ≠ 0:=by omega
      have hR0b : ((R : Int) == 0)=false:=by rw [beq_eq_false_iff_ne];exact hR0p
      clear hbc hs3 hLL0
      go_wp2_with fail
      go_loopw [24] (λiv wr=>∃(x : Nat) (a5 : OA) (c5 : Nat) (Rr : Z4),x<=2 * kn/\ct x<=kn/\iv = .int .i64 x/\qK wr g (.int .i64 Z1) a5 (ct x) c5 Rr (LL (ct x))/\Below g U3 wr) (λiv _=>2 * kn - (intOf iv).toNat)
      case atStart=>exact ⟨0,none,0,[],Ni _,by rw [hct0];exact Ni _,rfl,hO0,Nc _ _⟩
      case round =>
       clear hO0
       obtain ⟨x,a5,c5,Rr,hx2,hxk,rfl,hO,hbr⟩:=hrel
       have hgr:=hO.lt
       have g1:=hO.c1
       obtain ⟨hk1,hr1,hr2,hk2⟩:=HkE.out
       by_cases hltk : ct x<kn
       ·have hxlt:=HCl.out x hltk
        have d1 : decide (((ct x : Nat) : Int)<k)=true:=by rw [hk1];simp;omega
        obtain ⟨xm,hxm⟩ : ∃xm : Int,xm=((x % R : Nat) : Int):=⟨_,rfl⟩
        have tm : (x : Int).tmod (R : Int)=xm:=by rw [hxm,Ow (by omega)];simp
        by_cases hm : x % R=rn
        ·have hs:=Z5 (HCt.out x hm)
         have d2 : (xm == r)=true:=by rw [hxm,hm,hr1];simp
         have hO':=Z5 hO
         generalize ct x=cx at *
         clear hm hxm hk1 hr1 hr2 hk2 hO
         go_wp2_with fail
         go_roundw
         case rel=>exact ⟨x+1,a5,c5,Rr,by omega,by rw [hs.out];omega,by go_num,by rw [hs.out];exact hO'.out,hbr⟩
         case measure=>simp [intOf] <;> omega
        ·have hs:=Z5 (HCk.out x hm)
         have d2 : (xm == r)=false:=by rw [beq_eq_false_iff_ne,hxm,hr1];omega
         have hO':=Z5 hO
         have Hrl:=Z5 (HRl.out x)
         have Hrn:=Z5 (HRn.out x)
         have HP1 : Hid (∀V' z,SW V V'->1<=z->z<q->Calls prog 65 #[.pointer (some ⟨b,0,none⟩),.int .i64 z,.int .i64 x] V' λe w'=>∃k,e = .returned (.tuple #[.int .i64 (pw z x),.int .i64 0])/\w'=V'.drewN k):=λV' z hV h5 h6 =>
          HPw.out V' z x (RZ HbW1.out (RZ HbW2.out hV)) h5 h6 (by have:=HkE.out.2.2.2;have:=HkE.out.1;omega)
         obtain ⟨rr,hrr⟩ : ∃l,rw' x=l:=⟨_,rfl⟩
         rw [hrr] at hs Hrl Hrn
         generalize hcx : ct x=cx at *
         have hcx200 : cx<=64:=by have:=HkE.out.2.2.2;have:=HkE.out.1;omega
         have hbV:=N2 HbU3.out (hbr.mono (QR HGs.out))
         have hgV:=HGs.out
         clear hm hxm hk1 hr1 hr2 hk2 hO hcx hrr
         go_wp2_with fail
         have HbR:=Z5 (Np hbr hgr)
         clear hbr
         generalize wr=V1 at *
         go_loopw [25,162] (λrv jv ws=>∃(t : Nat) (a6 : OA) (c6 : Nat),t<=Z1/\jv = .int .i64 t/\rv = .slice a6 t c6/\ws.ownsRow V1.heap.size 3 1 (.slice a6 t c6) t ((rr.take t).map (Value.int .i64))/\SW V1 ws)
          (λ_ jv _=>Z1 - (intOf jv).toNat)
         case atStart=>exact ⟨0,none,0,Ni _,rfl,rfl,⟨rfl,.inl ⟨rfl,rfl⟩⟩,Nc _ _⟩
         case round =>
          obtain ⟨t,a6,c6,ht,rfl,rfl,hown,hbt⟩:=hrel
          have hbVt:=RZ hbV hbt
          have hXt:=HXi.out.ah hbVt
          have hpl4:=hXt.pl
          by_cases hltt : t<Z1
          ·have cq:=hXt.cell t hltt
           obtain ⟨z,hz,hz1,hzq⟩:=HXe.out t hltt
           have HP2:=Z5 (HP1.out wr z hbVt hz1 hzq)
           have htk : Hid (rr.take (t+1)=rr.take t ++ [pw z x]):=by show _=_;rw [Nj (by rw [Hrl.out];exact hltt),<- aj,Hrn.out z t hltt hz]
           rw [hz] at cq
           clear hz hXt
           go_wp2_with fail
           refine HP2.out.mono ?_
           rintro e w2 ⟨kk,rfl,rfl⟩
           have hbr2:=below_drewN hbt kk
           have hown2:=bd hown (below_drewN (Nc _ _) kk)
           clear hown
           generalize wr.drewN kk=w2 at *
           obtain ⟨yv,hyv⟩ : ∃y,pw z x=y:=⟨_,rfl⟩
           rw [hyv] at htk ⊢
           clear hyv HP2
           have hcn:=ba w2 (.int .i64 yv) 3
           have hbn:=an w2 (.cells #[.int .i64 yv] 3)
           have hsz:=hbr2.size
           go_wp2_with (at_builtin;refine aO rfl _ _ 22 3 rfl (.int .i64 0) 8 underlying22 aU rfl V1.heap.size a6 t c6 _ rfl (hown2.alloc _) ⟨w2.heap.size,0,none⟩ 1 (.int .i64 yv) rfl hcn rfl (by omega) (by unfold maxLen;omega) (by simp;omega) ?_;intro a7 c7 w7 hown7 hgr7 hap7)
           go_roundw
           case rel =>
            refine ⟨t+1,a7,c7,by omega,by go_num,rfl,?_,Sa (N2 hbr2 (hbn.mono hsz)) (hown2.alloc _) hgr7 (Na _) (Nr hsz hbn.size)⟩
            rw [htk.out];simpa using hown7
           case measure=>simp [intOf] <;> omega
          ·obtain rfl : t=Z1:=by omega
           rw [No (by rw [Hrl.out];exact Na _)] at hown
           have hs6:=hO'.out.ah hbt
           have hOk:=hs6.om.ah (an wr (.cells #[.slice a6 t c6] 22))
           have hcp:=hs6.c1
           have hgs:=hs6.lt
           clear g1
           go_wp2_with (at_builtin;refine aO rfl _ _ 25 22 rfl (.slice none 0 0) 24 underlying25 df rfl (g+1) a5 cx c5 _ rfl hOk.own ⟨wr.heap.size,0,none⟩ 1 (.slice a6 t c6) rfl (ba wr _ _) rfl (by omega) (by unfold maxLen;omega) (by simp;omega) ?_;intro a7 c7 w6 hown6 hgr6 hap6;have hk6:=(hs6.AO hgr6).2.1;have hf6:=(hs6.AO hgr6).2.2)
           go_roundw
           case rel =>
            have hra : a6 ≠ none->¬ cU a5 Rr (ablk a6):=λh0 hI=>by have h1:=(aY hown h0).1;have h2:=(hO'.out.om.lt _ hI).2;omega
            obtain ⟨hP,hbP⟩:=hs6.push Hrl.out (aX hown (by have:=HbR.out.2;omega)) hra hown6 hgr6 hap6
            exact ⟨x+1,a7,c7,_,by omega,by rw [hs.out.1];omega,by go_num,by rw [hs.out.1,hs.out.2];exact hP,N2 HbR.out.1 ((hbt.mono (by have:=HbR.out.2;omega)).trans hbP)⟩
           case measure=>simp [intOf] <;> omega
       ·have hk3 : ct x=kn:=by omega
        have d1 : decide (((ct x : Nat) : Int)<k)=false:=by rw [hk1];simp;omega
        rw [hk3] at hO d1 g1
        have g0:=hO.c0
        have hMN : dq (g+1) wr a5 kn (LL kn):=SL hO.om
        have hbV:=N2 HbU3.out (hbr.mono (QR HGs.out))
        have hbE : SW W wr:=RZ (RZ (RZ HbU.out HbW1.out) HbW2.out) hbV
        have hSt:=HtbS.out
        obtain ⟨S,hS⟩ : ∃S,bZ G.ops Z1 (LL kn)=S:=⟨_,rfl⟩
        rw [hS] at hSt
        have HNw : Hid (Calls prog 68 #[.agg #[.int .i64 P,.int .i64 M,.slice am mn cm],.agg #[.int .i64 Z1,.slice a5 kn c5]] wr λe w'=>∃a1 c1 a2 c2,e = .returned (.tuple #[.agg #[.int .i64 P,.int .i64 M,.slice a1 mod.length c1,.int .i64 Z1,.slice a2 S.length c2],.int .i64 0])/\cR wr.heap.size w' a1 mod.length mod/\dq wr.heap.size w' a2 S.length S/\SW wr w'):=by have h:=uC P M am mn cm mod Z1 a5 kn c5 (LL kn) wr (Hmod.out.1.ah (RZ HbW.out hbE)) hMN.jt HRw.out HZN.out.1 HZN.out.2 Hmod.out.2;unfold wX at h;rw [HGG.out.1] at h;have e : dc G (LL kn) Z1=S:=hS;rw [e] at h;exact h
        have HPF:=HP0.out
        rw [HNN.out,hSt] at HPF
        have HPF:=Z5 HPF
        have HbE:=Z5 hbE
        have bx:=HX.out.1.ah hbE
        have c0:=bx.cell 0 rfl
        have c1':=bx.cell 1 rfl
        have c2':=bx.cell 2 rfl
        clear hS hSt bx hMN hO hbr hbV hbE hk3 hk1 hr1 hr2 hk2 HNum HkE
        go_wp2_with fail
        refine HNw.out.mono ?_
        rintro e w6 ⟨b1,d1',b2,d2',rfl,hI6,hM6,hb6⟩
        have hbF:=RZ HbE.out hb6
        have hsz:=HbE.out.size
        have hsW:=HsW.out
        obtain ⟨z0,z1,z2,z3,z4,f0,f1,f2,f3,f4⟩:=HZ.out w6 hbF
        have zz:=(((((HX.out.2.ah hbF).setCell 0 (.int .i64 P)).setCell 1 (.int .i64 M)).setCell 2 (.slice b1 mod.length d1')).setCell 3 (.int .i64 Z1)).setCell 4 (.slice b2 S.length d2')
        have y0:=zz.cell 0 rfl
        have y1:=zz.cell 1 rfl
        have y2:=zz.cell 2 rfl
        have y3:=zz.cell 3 rfl
        have y4:=zz.cell 4 rfl
        have HF:=Z5 (HPF.out b1 d1' b2 d2' (((((w6.setCell ⟨w.heap.size+1,0,none⟩ (.int .i64 P)).setCell ⟨w.heap.size+1,1,none⟩ (.int .i64 M)).setCell ⟨w.heap.size+1,2,none⟩ (.slice b1 mod.length d1')).setCell ⟨w.heap.size+1,3,none⟩ (.int .i64 Z1)).setCell ⟨w.heap.size+1,4,none⟩ (.slice b2 S.length d2')) HE0.out
         ((((((hI6.setCell (p:=⟨w.heap.size+1,0,none⟩) (by simp;omega) _).setCell (p:=⟨w.heap.size+1,1,none⟩) (by simp;omega) _).setCell (p:=⟨w.heap.size+1,2,none⟩) (by simp;omega) _).setCell (p:=⟨w.heap.size+1,3,none⟩) (by simp;omega) _).setCell (p:=⟨w.heap.size+1,4,none⟩) (by simp;omega) _).mono (by omega))
         ((((((hM6.setCell (p:=⟨w.heap.size+1,0,none⟩) (by simp;omega) _).setCell (p:=⟨w.heap.size+1,1,none⟩) (by simp;omega) _).setCell (p:=⟨w.heap.size+1,2,none⟩) (by simp;omega) _).setCell (p:=⟨w.heap.size+1,3,none⟩) (by simp;omega) _).setCell (p:=⟨w.heap.size+1,4,none⟩) (by simp;omega) _).mono (by omega))
         ((((((RZ HbW.out hbF).setCell (p:=⟨w.heap.size+1,0,none⟩) (by simp) _).setCell (p:=⟨w.heap.size+1,1,none⟩) (by simp) _).setCell (p:=⟨w.heap.size+1,2,none⟩) (by simp) _).setCell (p:=⟨w.heap.size+1,3,none⟩) (by simp) _).setCell (p:=⟨w.heap.size+1,4,none⟩) (by simp) _))
        clear hI6 hM6 hb6 hbF zz
        go_wp2_with fail
        exact bodyPost_ret (v:=.tuple #[.agg #[.int .i64 P,.int .i64 M,.slice b1 mod.length d1',.int .i64 Z1,.slice b2 S.length d2'],.int .i64 0]) (by simp [results,results25,go_sem,y0,y1,y2,y3,y4]) rfl HF.out)
end Go.Proofs.YthglbncgemdcbaaGreat
