import Derived.Test.YthglbncgemdcbaaGreatHE30
import Derived.Test.YthglbncgemdcbaaGreatHE31
namespace Go.Proofs.YthglbncgemdcbaaGreat
set_option linter.all false
set_option maxRecDepth 100000
set_option maxHeartbeats 8000000
open Go.RowKit Go.Proofs.Tryz
def tF (P M : Int) (mod : LI) (c r k : Int) (w : World) (e : Ending) (w' : World) : Prop :=
 Mv w w'/\((Ai P M mod c r k ≠ 0/\e = .returned (.tuple #[.agg #[.int .i64 0,.int .i64 0,.slice none 0 0,.int .i64 0,.slice none 0 0],.int .i64 (Ai P M mod c r k)])) \/
  (Ai P M mod c r k=0/\∃a1 c1 a2 c2,e = .returned (.tuple #[.agg #[.int .i64 P,.int .i64 M,.slice a1 mod.length c1,.int .i64 ((r.toNat+1) * c.toNat : Nat),.slice a2 (DA P M mod c.toNat r.toNat k.toNat).length c2],.int .i64 0])/\bA w.heap.size w' a1 mod.length mod /\
  bQ w.heap.size w' a2 (DA P M mod c.toNat r.toNat k.toNat).length (DA P M mod c.toNat r.toNat k.toNat)))
theorem C7 (P M : Int) (am : OA) (mn cm : Nat) (mod : LI) (c r k : Int) (w : World) (hmod : Ints w am mn mod) (hmn : mn<=1000000) :
  Calls prog 25 #[.agg #[.int .i64 P,.int .i64 M,.slice am mn cm],.int .i64 c,.int .i64 r,.int .i64 k] w (tF P M mod c r k w):=by
 have HNew : Hid (∀V,Mv w V->Calls prog 52 #[.agg #[.int .i64 P,.int .i64 M,.slice am mn cm]] V (zM P M mod V)):=λV hV=>dn P M am mn cm mod V (hmod.af hV);have HE1 : Hid (ba P M mod=false->Ai P M mod c r k=1):=Gg;have HPe : Hid (∀E w',E ≠ 0->Ai P M mod c r k=E->Mv w w'->tF P M mod c r k w (.returned (.tuple #[.agg #[.int .i64 0,.int .i64 0,.slice none 0 0,.int .i64 0,.slice none 0 0],.int .i64 E])) w'):=λE w' h0 h1 h2=>⟨h2,.inl ⟨by rw [h1];exact h0,by rw [h1]⟩⟩
 have HP0 : Hid (∀a1 c1 a2 c2 w',Ai P M mod c r k=0->bA w.heap.size w' a1 mod.length mod->bQ w.heap.size w' a2 (DA P M mod c.toNat r.toNat k.toNat).length (DA P M mod c.toNat r.toNat k.toNat)->Mv w w' ->
   tF P M mod c r k w (.returned (.tuple #[.agg #[.int .i64 P,.int .i64 M,.slice a1 mod.length c1,.int .i64 ((r.toNat+1) * c.toNat : Nat),.slice a2 (DA P M mod c.toNat r.toNat k.toNat).length c2],.int .i64 0])) w'):=λa1 c1 a2 c2 w' h0 h1 h2 h3=>⟨h3,.inr ⟨h0,a1,c1,a2,c2,rfl,h1,h2⟩⟩
 generalize hPost : tF P M mod c r k w=Post at *;clear hPost;have HBt : Hid (∀n V,Calls prog 64 #[.int .i64 n] V λe w'=>e = .returned (.bool (decide (1<=n) && decide (n<=64)))/\w'=V):=qY;have Hmod:=Z5 (Hi hmod hmn);clear hmod hmn;go_enter func25,ntmps25;go_upto_region 1 with fail;obtain ⟨W,hW⟩ : ∃W : World,W=((w.alloc (.cells #[.int .i64 P,.int .i64 M,.slice am mn cm] 24)).alloc (.cells #[.int .i64 0,.int .i64 0,.slice none 0 0,.int .i64 0,.slice none 0 0] 27)):=⟨_,rfl⟩
 rw [<- hW];have hbW : Mv w W:=by rw [hW];exact ((GS _ _).alloc (GQ _) _).alloc (by simp) _
 have hsW : W.heap.size=w.heap.size+2:=by rw [hW];simp
 have x0 : aO W w.heap.size [.int .i64 P,.int .i64 M,.slice am mn cm]:=by rw [hW];exact (LZ _ _ _ rfl).alloc _
 have z0 : aO W (w.heap.size+1) [.int .i64 0,.int .i64 0,.slice none 0 0,.int .i64 0,.slice none 0 0]:=by rw [hW];exact LZ _ _ _ (by simp)
 clear hW;have HX:=Z5 (Hi x0 z0);have HbW:=Z5 hbW;have HsW:=Z5 hsW;have HZ : Hid (∀V,Mv W V->V.cell? ⟨w.heap.size+1,0,none⟩=some (.int .i64 0)/\V.cell? ⟨w.heap.size+1,1,none⟩=some (.int .i64 0)/\V.cell? ⟨w.heap.size+1,2,none⟩=some (.slice none 0 0)/\V.cell? ⟨w.heap.size+1,3,none⟩=some (.int .i64 0)/\V.cell? ⟨w.heap.size+1,4,none⟩=some (.slice none 0 0) /\
   V.frozen? ⟨w.heap.size+1,0,none⟩=false/\V.frozen? ⟨w.heap.size+1,1,none⟩=false/\V.frozen? ⟨w.heap.size+1,2,none⟩=false/\V.frozen? ⟨w.heap.size+1,3,none⟩=false/\V.frozen? ⟨w.heap.size+1,4,none⟩=false):=λV hV=>by have z1:=z0.af hV;exact ⟨z1.cell 0 rfl,z1.cell 1 rfl,z1.cell 2 rfl,z1.cell 3 rfl,z1.cell 4 rfl,z1.frozen 0,z1.frozen 1,z1.frozen 2,z1.frozen 3,z1.frozen 4⟩
 have HEr : Hid (∀E V,Mv W V->E ≠ 0->Ai P M mod c r k=E->Post (.returned (.tuple #[.agg #[.int .i64 0,.int .i64 0,.slice none 0 0,.int .i64 0,.slice none 0 0],.int .i64 E])) (((((V.setCell ⟨w.heap.size+1,0,none⟩ (.int .i64 0)).setCell ⟨w.heap.size+1,1,none⟩ (.int .i64 0)).setCell ⟨w.heap.size+1,2,none⟩ (.slice none 0 0)).setCell ⟨w.heap.size+1,3,none⟩ (.int .i64 0)).setCell ⟨w.heap.size+1,4,none⟩ (.slice none 0 0))):=λE V hV h0 h1 =>
  HPe.out E _ h0 h1 (((((LY hbW hV).setCell (by simp) _).setCell (by simp) _).setCell (by simp) _).setCell (by simp) _ |>.setCell (by simp) _)
 have HZ5 : Hid (∀V,Mv W V->(((((V.setCell ⟨w.heap.size+1,0,none⟩ (.int .i64 0)).setCell ⟨w.heap.size+1,1,none⟩ (.int .i64 0)).setCell ⟨w.heap.size+1,2,none⟩ (.slice none 0 0)).setCell ⟨w.heap.size+1,3,none⟩ (.int .i64 0)).setCell ⟨w.heap.size+1,4,none⟩ (.slice none 0 0)).cell? ⟨w.heap.size+1,0,none⟩=some (.int .i64 0)/\(((((V.setCell ⟨w.heap.size+1,0,none⟩ (.int .i64 0)).setCell ⟨w.heap.size+1,1,none⟩ (.int .i64 0)).setCell ⟨w.heap.size+1,2,none⟩ (.slice none 0 0)).setCell ⟨w.heap.size+1,3,none⟩ (.int .i64 0)).setCell ⟨w.heap.size+1,4,none⟩ (.slice none 0 0)).cell? ⟨w.heap.size+1,1,none⟩=some (.int .i64 0)/\(((((V.setCell ⟨w.heap.size+1,0,none⟩ (.int .i64 0)).setCell ⟨w.heap.size+1,1,none⟩ (.int .i64 0)).setCell ⟨w.heap.size+1,2,none⟩ (.slice none 0 0)).setCell ⟨w.heap.size+1,3,none⟩ (.int .i64 0)).setCell ⟨w.heap.size+1,4,none⟩ (.slice none 0 0)).cell? ⟨w.heap.size+1,2,none⟩=some (.slice none 0 0)/\(((((V.setCell ⟨w.heap.size+1,0,none⟩ (.int .i64 0)).setCell ⟨w.heap.size+1,1,none⟩ (.int .i64 0)).setCell ⟨w.heap.size+1,2,none⟩ (.slice none 0 0)).setCell ⟨w.heap.size+1,3,none⟩ (.int .i64 0)).setCell ⟨w.heap.size+1,4,none⟩ (.slice none 0 0)).cell? ⟨w.heap.size+1,3,none⟩=some (.int .i64 0)/\(((((V.setCell ⟨w.heap.size+1,0,none⟩ (.int .i64 0)).setCell ⟨w.heap.size+1,1,none⟩ (.int .i64 0)).setCell ⟨w.heap.size+1,2,none⟩ (.slice none 0 0)).setCell ⟨w.heap.size+1,3,none⟩ (.int .i64 0)).setCell ⟨w.heap.size+1,4,none⟩ (.slice none 0 0)).cell? ⟨w.heap.size+1,4,none⟩=some (.slice none 0 0)):=λV hV=>by have z1:=(((((z0.af hV).setCell 0 (.int .i64 0)).setCell 1 (.int .i64 0)).setCell 2 (.slice none 0 0)).setCell 3 (.int .i64 0)).setCell 4 (.slice none 0 0);exact ⟨z1.cell 0 rfl,z1.cell 1 rfl,z1.cell 2 rfl,z1.cell 3 rfl,z1.cell 4 rfl⟩
 have c0:=x0.cell 0 rfl;have c1:=x0.cell 1 rfl;have c2:=x0.cell 2 rfl;clear x0 z0 hbW hsW;go_wp2_with fail;refine (HNew.out W HbW.out).mono ?_;rintro e U hpost;rcases hpost with ⟨hB,rfl,hb1⟩ | ⟨hB,b,rfl,hG,hbge,hb1⟩
 ·have HF:=Z5 (HEr.out 1 U hb1 (by decide) (HE1.out hB));obtain ⟨z0,z1,z2,z3,z4,f0,f1,f2,f3,f4⟩:=HZ.out U hb1;obtain ⟨y0,y1,y2,y3,y4⟩:=HZ5.out U hb1;clear hB c0 c1 c2;go_wp2_with fail;exact bodyPost_ret (v:=.tuple #[.agg #[.int .i64 0,.int .i64 0,.slice none 0 0,.int .i64 0,.slice none 0 0],.int .i64 1]) (by simp [results,results25,go_sem,y0,y1,y2,y3,y4]) rfl HF.out
 clear HE1 HNew c0 c1 c2;have hGU : dz U b (ah P M.toNat mod):=hG.gf;have HG:=Z5 hGU;have HbU:=Z5 hb1;have HB:=Z5 hB;have HE6 : Hid (∀V,Mv W V->(c<1\/64<c\/r<1\/64<r\/k<1\/64<k)->Post (.returned (.tuple #[.agg #[.int .i64 0,.int .i64 0,.slice none 0 0,.int .i64 0,.slice none 0 0],.int .i64 6])) (((((V.setCell ⟨w.heap.size+1,0,none⟩ (.int .i64 0)).setCell ⟨w.heap.size+1,1,none⟩ (.int .i64 0)).setCell ⟨w.heap.size+1,2,none⟩ (.slice none 0 0)).setCell ⟨w.heap.size+1,3,none⟩ (.int .i64 0)).setCell ⟨w.heap.size+1,4,none⟩ (.slice none 0 0))):=λV hV h =>
  HEr.out 6 V hV (by decide) (Gf hB h)
 clear hG hbge hb1 hB;obtain ⟨q,hq⟩ : ∃q,(ah P M.toNat mod).q=q:=⟨_,rfl⟩
 have HOr : Hid (∀V,Mv U V->Calls prog 63 #[.pointer (some ⟨b,0,none⟩)] V λe w'=>e = .returned (.int .i64 q)/\V=w'):=λV hV=>by rw [<- hq];exact zg (hGU.af hV)
 have hq2 : 2<=q/\q<=256:=by have:=hGU.q2;have:=hGU.q256;omega
 clear hGU;go_wp2_with fail;refine (HOr.out U (GS _ _)).mono ?_;rintro e V ⟨rfl,rfl⟩;by_cases hc : 1<=c/\c<=64;case neg =>
  have hb : (decide (1<=c) && decide (c<=64))=false:=by simp;omega
  have H1:=HBt.out c
  rw [hb] at H1
  have H1:=Z5 H1
  have HF:=Z5 (HE6.out U HbU.out (by omega))
  obtain ⟨z0,z1,z2,z3,z4,f0,f1,f2,f3,f4⟩:=HZ.out U HbU.out
  obtain ⟨y0,y1,y2,y3,y4⟩:=HZ5.out U HbU.out
  clear hb hc
  go_wp2_with fail
  refine (H1.out U).mono ?_
  rintro e V ⟨rfl,rfl⟩
  go_wp2_with fail
  exact bodyPost_ret (v:=.tuple #[.agg #[.int .i64 0,.int .i64 0,.slice none 0 0,.int .i64 0,.slice none 0 0],.int .i64 6]) (by simp [results,results25,go_sem,y0,y1,y2,y3,y4]) rfl HF.out
 have hb1 : (decide (1<=c) && decide (c<=64))=true:=by simp;omega
 have H1:=HBt.out c;rw [hb1] at H1;have H1:=Z5 H1;clear hb1;by_cases hr : 1<=r/\r<=64;case neg =>
  have hb : (decide (1<=r) && decide (r<=64))=false:=by simp;omega
  have H2:=HBt.out r
  rw [hb] at H2
  have H2:=Z5 H2
  have HF:=Z5 (HE6.out U HbU.out (by omega))
  obtain ⟨z0,z1,z2,z3,z4,f0,f1,f2,f3,f4⟩:=HZ.out U HbU.out
  obtain ⟨y0,y1,y2,y3,y4⟩:=HZ5.out U HbU.out
  clear hb hc hr
  go_wp2_with fail
  refine (H1.out U).mono ?_
  rintro e V ⟨rfl,rfl⟩
  go_wp2_with fail
  refine (H2.out V).mono ?_
  rintro e V ⟨rfl,rfl⟩
  go_wp2_with fail
  exact bodyPost_ret (v:=.tuple #[.agg #[.int .i64 0,.int .i64 0,.slice none 0 0,.int .i64 0,.slice none 0 0],.int .i64 6]) (by simp [results,results25,go_sem,y0,y1,y2,y3,y4]) rfl HF.out
 have hb2 : (decide (1<=r) && decide (r<=64))=true:=by simp;omega
 have H2:=HBt.out r;rw [hb2] at H2;have H2:=Z5 H2;clear hb2;by_cases hk : 1<=k/\k<=64;case neg =>
  have hb : (decide (1<=k) && decide (k<=64))=false:=by simp;omega
  have H3:=HBt.out k
  rw [hb] at H3
  have H3:=Z5 H3
  have HF:=Z5 (HE6.out U HbU.out (by omega))
  obtain ⟨z0,z1,z2,z3,z4,f0,f1,f2,f3,f4⟩:=HZ.out U HbU.out
  obtain ⟨y0,y1,y2,y3,y4⟩:=HZ5.out U HbU.out
  clear hb hc hr hk
  go_wp2_with fail
  refine (H1.out U).mono ?_
  rintro e V ⟨rfl,rfl⟩
  go_wp2_with fail
  refine (H2.out V).mono ?_
  rintro e V ⟨rfl,rfl⟩
  go_wp2_with fail
  refine (H3.out V).mono ?_
  rintro e V ⟨rfl,rfl⟩
  go_wp2_with fail
  exact bodyPost_ret (v:=.tuple #[.agg #[.int .i64 0,.int .i64 0,.slice none 0 0,.int .i64 0,.slice none 0 0],.int .i64 6]) (by simp [results,results25,go_sem,y0,y1,y2,y3,y4]) rfl HF.out
 have hb3 : (decide (1<=k) && decide (k<=64))=true:=by simp;omega
 have H3:=HBt.out k;rw [hb3] at H3;have H3:=Z5 H3;clear hb3 HE6 HBt;go_wp2_with fail;refine (H1.out U).mono ?_;rintro e V ⟨rfl,rfl⟩;go_wp2_with fail;refine (H2.out V).mono ?_;rintro e V ⟨rfl,rfl⟩;go_wp2_with fail;refine (H3.out V).mono ?_;rintro e U ⟨rfl,rfl⟩;clear H1 H2 H3;obtain ⟨cn,hcn⟩ : ∃n : Nat,c=n:=⟨c.toNat,by omega⟩
 obtain ⟨rn,hrn⟩ : ∃n : Nat,r=n:=⟨r.toNat,by omega⟩
 obtain ⟨kn,hkn⟩ : ∃n : Nat,k=n:=⟨k.toNat,by omega⟩
 obtain ⟨Q,hqQ⟩ : ∃Q,q=Q+1:=⟨q - 1,by omega⟩
 have hin:=Fm (c:=cn) (r:=rn) (k:=kn) HB.out (hq.trans hqQ) (by omega) (by omega) (by omega);rw [<- hcn,<- hrn,<- hkn] at hin;obtain ⟨R,hR⟩ : ∃R,rn+1=R:=⟨_,rfl⟩
 rw [hR] at hin;obtain ⟨x1,hx1⟩ : ∃x,Q % R=x:=⟨_,rfl⟩
 obtain ⟨yq,hy1⟩ : ∃x,Q / R=x:=⟨_,rfl⟩
 obtain ⟨Z1,hZ1⟩ : ∃x,cn * R=x:=⟨_,rfl⟩
 obtain ⟨Z2,hZ2⟩ : ∃x,cn * rn=x:=⟨_,rfl⟩
 rw [hx1,hy1,hZ1,hZ2] at hin;have hyQ : yq<=Q:=by rw [<- hy1];exact Kk _ _
 have hZ1b : Z1<=64 * 65:=by rw [<- hZ1];exact JR (by omega) (by omega)
 have hZ2b : Z2<=64 * 64:=by rw [<- hZ2];exact JR (by omega) (by omega)
 obtain ⟨Ri,hRi⟩ : ∃Ri : Int,Ri=(R : Int):=⟨_,rfl⟩
 obtain ⟨Qi,hQi⟩ : ∃Qi : Int,Qi=(Q : Int):=⟨_,rfl⟩
 obtain ⟨xi,hxi⟩ : ∃xi : Int,xi=(x1 : Int):=⟨_,rfl⟩
 obtain ⟨yi,hyi⟩ : ∃yi : Int,yi=(yq : Int):=⟨_,rfl⟩
 obtain ⟨zi,hzi⟩ : ∃zi : Int,zi=(Z1 : Int):=⟨_,rfl⟩
 obtain ⟨ti,hti⟩ : ∃ti : Int,ti=(Z2 : Int):=⟨_,rfl⟩
 have wR : IntKind.i64.wrap (r+1)=Ri:=by rw [show r+1=Ri by omega];exact Ha _ (by omega)
 have wQ : IntKind.i64.wrap ((q : Int) - 1)=Qi:=by rw [show (q : Int) - 1=Qi by omega];exact Ha _ (by omega)
 have hR0 : (Ri == 0)=false:=by rw [beq_eq_false_iff_ne];omega
 have hR0p : Ri ≠ 0:=by omega
 have tx : Qi.tmod Ri=xi:=by rw [hRi,hQi,hxi,IV (by omega),<- hx1];simp
 have ty : Qi.tdiv Ri=yi:=by rw [hRi,hQi,hyi,Ku (by omega),<- hy1];simp
 have wy : IntKind.i64.wrap yi=yi:=Ha _ (by omega);have wZ1 : IntKind.i64.wrap (c * Ri)=zi:=by rw [show c * Ri=zi by rw [hcn,hRi,hzi,<- hZ1];simp];exact Ha _ (by omega)
 have wZ2 : IntKind.i64.wrap (c * r)=ti:=by rw [show c * r=ti by rw [hcn,hrn,hti,<- hZ2];simp];exact Ha _ (by omega)
 have hin:=Z5 hin;have HDef:=Z5 (Hi hR (Hi hx1 (Hi hy1 (Hi hZ1 hZ2))));have HRi:=Z5 (Hi hRi (Hi hQi (Hi hqQ (Hi hxi (Hi hyi (Hi hzi hti))))));have HNum:=Z5 (Hi hc (Hi hr (Hi hk (Hi hyQ (Hi hZ1b (Hi hZ2b (Hi hq (Hi hq2 (Hi hcn (Hi hrn hkn))))))))));have HD1 : Hid (xi ≠ 0->x1 ≠ 0):=λh h2=>h (by omega);have HD2 : Hid (yi<c ↔ yq<cn):=by show _ ↔ _;omega
 have HD3 : Hid (64<zi ↔ 64<Z1):=by show _ ↔ _;omega
 have HD4 : Hid (ti<k ↔ Z2<kn):=by show _ ↔ _;omega
 clear hR hx1 hy1 hZ1 hZ2 hRi hQi hqQ hc hr hk hyQ hZ1b hZ2b hq hq2 hxi hyi hzi hti hcn hrn hkn;by_cases h1 : xi=0;case neg =>
  have d1 : (xi != 0)=true:=by simp;omega
  have HF:=Z5 (HEr.out 10 U HbU.out (by decide) (by rw [hin.out,GV (.inl (HD1.out h1))]))
  obtain ⟨z0,z1,z2,z3,z4,f0,f1,f2,f3,f4⟩:=HZ.out U HbU.out
  obtain ⟨y0,y1,y2,y3,y4⟩:=HZ5.out U HbU.out
  clear h1
  go_wp2_with fail
  exact bodyPost_ret (v:=.tuple #[.agg #[.int .i64 0,.int .i64 0,.slice none 0 0,.int .i64 0,.slice none 0 0],.int .i64 10]) (by simp [results,results25,go_sem,y0,y1,y2,y3,y4]) rfl HF.out
 have d1 : (xi != 0)=false:=by simp;omega
 by_cases h2 : yi<c;case pos =>
  have d2 : decide (yi<c)=true:=Ig h2
  have HF:=Z5 (HEr.out 10 U HbU.out (by decide) (by rw [hin.out,GV (.inr (HD2.out.1 h2))]))
  obtain ⟨z0,z1,z2,z3,z4,f0,f1,f2,f3,f4⟩:=HZ.out U HbU.out
  obtain ⟨y0,y1,y2,y3,y4⟩:=HZ5.out U HbU.out
  clear h1 h2
  go_wp2_with fail
  exact bodyPost_ret (v:=.tuple #[.agg #[.int .i64 0,.int .i64 0,.slice none 0 0,.int .i64 0,.slice none 0 0],.int .i64 10]) (by simp [results,results25,go_sem,y0,y1,y2,y3,y4]) rfl HF.out
 have d2 : decide (yi<c)=false:=Ic h2;have hx10 : x1=0:=by have:=HRi.out.2.2.2.1;omega
 have hin2:=hin.out;rw [GU (by rintro (h | h);exact h hx10;exact h2 (HD2.out.2 h))] at hin2;by_cases h3 : 64<zi;case pos =>
  have d3 : decide (64<zi)=true:=Ig h3
  have HF:=Z5 (HEr.out 4 U HbU.out (by decide) (by rw [hin2,GV (HD3.out.1 h3)]))
  obtain ⟨z0,z1,z2,z3,z4,f0,f1,f2,f3,f4⟩:=HZ.out U HbU.out
  obtain ⟨y0,y1,y2,y3,y4⟩:=HZ5.out U HbU.out
  clear h1 h2 h3 hin2 hx10
  go_wp2_with fail
  exact bodyPost_ret (v:=.tuple #[.agg #[.int .i64 0,.int .i64 0,.slice none 0 0,.int .i64 0,.slice none 0 0],.int .i64 4]) (by simp [results,results25,go_sem,y0,y1,y2,y3,y4]) rfl HF.out
 have d3 : decide (64<zi)=false:=Ic h3;rw [GU λh=>h3 (HD3.out.2 h)] at hin2;by_cases h4 : ti<k;case pos =>
  have d4 : decide (ti<k)=true:=Ig h4
  have HF:=Z5 (HEr.out 9 U HbU.out (by decide) (by rw [hin2,GV (HD4.out.1 h4)]))
  obtain ⟨z0,z1,z2,z3,z4,f0,f1,f2,f3,f4⟩:=HZ.out U HbU.out
  obtain ⟨y0,y1,y2,y3,y4⟩:=HZ5.out U HbU.out
  clear h1 h2 h3 h4 hin2 hx10
  go_wp2_with fail
  exact bodyPost_ret (v:=.tuple #[.agg #[.int .i64 0,.int .i64 0,.slice none 0 0,.int .i64 0,.slice none 0 0],.int .i64 9]) (by simp [results,results25,go_sem,y0,y1,y2,y3,y4]) rfl HF.out
 have d4 : decide (ti<k)=false:=Ic h4;rw [GU λh=>h4 (HD4.out.2 h)] at hin2;have HE0:=Z5 hin2;clear hin2;have HS13:=Z5 (Hi h1 (Hi h2 (Hi h3 (Hi h4 hx10))));clear h1 h2 h3 h4 hx10;go_upto_region 13 with fail;clear tx ty wy wZ2 d1 d2 d3 d4 hR0 hR0p wQ;obtain ⟨hc,hr,hk,hyQ,hZ1b,hZ2b,hq,hq2,hcn,hrn,hkn⟩:=HNum.out;obtain ⟨hRi,hQi,hqQ,hxi,hyi,hzi,hti⟩:=HRi.out;obtain ⟨h1,h2,h3,h4,hx10⟩:=HS13.out;obtain ⟨e1,e2,e3,e4,e5⟩:=HDef.out;clear HNum HRi HS13 HDef HD1 HD2 HD3 HD4 hin;have hplan:=Ej (k:=0) (c:=cn) HB.out (hq.trans hqQ) (r:=rn) (by omega) (by rw [e1,e2];exact hx10) (by rw [e1,e3];omega);rw [e1] at hplan;have hN : R * cn=Z1:=by rw [IU];exact e4
 rw [hN] at hplan;have HPw0 : Hid (∀V (x n : Nat),Mv U V->1<=x->x<q->n<=1000000->Calls prog 65 #[.pointer (some ⟨b,0,none⟩),.int .i64 x,.int .i64 n] V λe w'=>∃k,e = .returned (.tuple #[.int .i64 (eG (ah P M.toNat mod).ops x n),.int .i64 0])/\w'=V.drewN k):=λV x n hV h5 h6 h7 =>
  GF HB.out n (HG.out.af hV) (show 0<=(x : Int)/\(x : Int)<((ah P M.toNat mod).q : Nat) by rw [hq];omega) (by omega) h7
 have HtbS : Hid (DA P M mod c.toNat r.toNat k.toNat=bz (ah P M.toNat mod).ops Z1 (gz (ah P M.toNat mod).ops (xh (ah P M.toNat mod).ops (ah P M.toNat mod).q rn cn) (fF rn) kn)):=by show _=_;rw [hcn,hrn,hkn,GW,GW,GW,DA,Fy,e1,hN]
 have HNN : Hid ((r.toNat+1) * c.toNat=Z1):=by show _=_;rw [hcn,hrn,GW,GW,e1,hN]
 obtain ⟨g1,g2,g3,g4,g5,g6⟩:=hplan;have HFl:=Z5 (dM HB.out);rw [<- hqQ] at g1 g2 g3;obtain ⟨ux,hux⟩ : ∃f,(λx=>zG (ah P M.toNat mod).ops R x)=f:=⟨_,rfl⟩
 have hu1 : ux 1=[]:=by rw [<- hux];exact Eb R
 have HuT : Hid (∀x : Nat,1<=x->eG (ah P M.toNat mod).ops (x : Int) R=1->ux (x+1)=ux x ++ [(x : Int)]):=λx h5 h6=>by rw [<- hux];exact vx h5 h6
 have HuS : Hid (∀x : Nat,1<=x->eG (ah P M.toNat mod).ops (x : Int) R ≠ 1->ux (x+1)=ux x):=λx h5 h6=>by rw [<- hux];exact wK h5 h6
 have HuL : Hid (∀x,(ux x).length<=x):=λx=>by rw [<- hux];exact ug R x
 have euq : zG (ah P M.toNat mod).ops R q=ux q:=by rw [<- hux]
 rw [euq] at g1 g2 g3;obtain ⟨px,hpx⟩ : ∃f,(λx=>zR (ah P M.toNat mod).ops (ux q) Z1 x)=f:=⟨_,rfl⟩
 obtain ⟨X,hX⟩ : ∃X,xh (ah P M.toNat mod).ops (ah P M.toNat mod).q rn cn=X:=⟨_,rfl⟩
 rw [hX] at g3 g4 g5 HtbS;have hp1 : px 1=[]:=by rw [<- hpx];exact EF _ _
 have HpT : Hid (∀x : Nat,1<=x->(px x).length<Z1->¬ (x : Int) ∈ px x->px (x+1)=px x ++ cJ ((ux q).map ((ah P M.toNat mod).mul (x : Int)))):=λx h5 h6 h7=>by rw [<- hpx] at h6 h7 ⊢;exact Cj h5 h6 h7
 have HpS : Hid (∀x : Nat,1<=x->(x : Int) ∈ px x->px (x+1)=px x):=λx h5 h6=>by rw [<- hpx] at h6 ⊢;exact CE h5 h6
 have HpE : Hid (∀x,x<=q->Z1<=(px x).length->px x=X):=λx h5 h6=>by rw [<- hpx] at h6 ⊢;rw [<- g3];exact CR h5 h6
 have HpQ : Hid (px q=X):=by show _=_;rw [<- hpx];exact g3
 have HZN : Hid (1<=Z1/\Z1<=64):=by refine ⟨?_,by omega⟩;have:=JR (show 1<=R by omega) (show 1<=cn by omega);omega
 have HRw : Hid (dk P M mod Z1 (gz (ah P M.toNat mod).ops X (fF rn) kn)=0):=by refine j8 HB.out (by omega) (by unfold gz;simp;omega) λrr hrr=>?_;obtain ⟨j,_,rfl⟩:=List.mem_map.1 hrr;refine ⟨by rw [H8];exact g4,λy hy=>?_⟩;obtain ⟨u,hu,rfl⟩:=List.mem_map.1 hy;exact ed HFl.out (g5 u hu).1 _
 have HU:=Z5 (Hi g1 g2);have HXp:=Z5 (Hi g4 g5);have HMul : Hid (∀x y,(ah P M.toNat mod).El x->(ah P M.toNat mod).El y->(ah P M.toNat mod).El ((ah P M.toNat mod).mul x y)):=λx y=>HFl.out.cl.mul x y;have HMk:=Z5 (Hi HB.out hq);obtain ⟨G,hGG⟩ : ∃G,ah P M.toNat mod=G:=⟨_,rfl⟩
 rw [hGG] at HPw0 HuT HuS HpT HU HXp HG HFl HMul HtbS HRw;obtain ⟨pw,hpw⟩ : ∃f : Nat->Nat->Int,(λ(x n : Nat)=>eG G.ops (x : Int) n)=f:=⟨_,rfl⟩
 have HPw : Hid (∀V (x n : Nat),Mv U V->1<=x->x<q->n<=1000000->Calls prog 65 #[.pointer (some ⟨b,0,none⟩),.int .i64 x,.int .i64 n] V λe w'=>∃k,e = .returned (.tuple #[.int .i64 (pw x n),.int .i64 0])/\w'=V.drewN k):=by rw [<- hpw];exact HPw0
 have HuT : Hid (∀x : Nat,1<=x->pw x R=1->ux (x+1)=ux x ++ [(x : Int)]):=by rw [<- hpw];exact HuT
 have HuS : Hid (∀x : Nat,1<=x->pw x R ≠ 1->ux (x+1)=ux x):=by rw [<- hpw];exact HuS
 have Hpw:=Z5 hpw;have HGG:=Z5 (Hi hGG (Hi hq hqQ));have HNum:=Z5 (Hi hc (Hi hr (Hi hk (Hi hcn (Hi hrn (Hi hkn e1))))));have hRb : R<=65:=by omega
 have hR2 : 2<=R:=by omega
 subst hRi hzi;clear hux hpx hX hpw hGG hq hqQ g1 g2 g3 g4 g5 g6 HPw0 h1 h2 h3 h4 hx10 e1 e2 e3 e4 e5 hN hQi hxi hyi hti hyQ hc hr hk hcn hrn hkn hZ2b euq;go_wp2_with fail;go_loopw [13,15] (λsv iv wr=>∃(x : Nat) (a1 : OA) (c1 : Nat),1<=x/\x<=q/\iv = .int .i64 x/\sv = .slice a1 (ux x).length c1/\wr.ownsRow U.heap.size 3 1 (.slice a1 (ux x).length c1) (ux x).length ((ux x).map (Value.int .i64))/\Mv U wr)
  (λ_ iv _=>q - (intOf iv).toNat)
 case atStart=>exact ⟨1,none,0,GQ _,by omega,rfl,by rw [hu1];rfl,by rw [hu1];exact ⟨rfl,.inl ⟨rfl,rfl⟩⟩,GS _ _⟩
 case round =>
  obtain ⟨x,a1,c1,hx1,hxq,rfl,rfl,hown,hbr⟩:=hrel
  by_cases hlt : x<q
  ·have hxl:=HuL.out x
   have HP1:=Z5 (HPw.out wr x R hbr hx1 hlt (by omega))
   have hbz:=below_drewN hbr
   by_cases hp : pw x R=1
   ·have hu : Hid (ux (x+1)=ux x ++ [(x : Int)]):=HuT.out x hx1 hp
    generalize ux x=out at *
    rw [hp] at HP1
    clear hp
    go_wp2_with fail
    refine HP1.out.mono ?_
    rintro e w2 ⟨kk,rfl,rfl⟩
    have hbr2:=below_drewN hbr kk
    have hown2:=bj hown (below_drewN (GS _ _) kk)
    clear hown
    generalize wr.drewN kk=w2 at *
    have hcn:=bm w2 (.int .i64 x) 3
    have hbn:=an w2 (.cells #[.int .i64 x] 3)
    have hsz:=hbr2.size
    go_wp2_with (at_builtin;refine aU rfl _ _ 22 3 rfl (.int .i64 0) 8 underlying22 bg rfl U.heap.size a1 out.length c1 _ rfl (hown2.alloc _) ⟨w2.heap.size,0,none⟩ 1 (.int .i64 x) rfl hcn rfl (by omega) (by unfold maxLen;omega) (by simp;omega) ?_;intro a5 c5 w5 hown5 hgr5 hap5)
    go_roundw
    case rel =>
     refine ⟨x+1,a5,c5,by omega,by omega,by go_num,by rw [hu.out];simp,?_,L3 (IT hbr2 (hbn.mono hsz)) (hown2.alloc _) hgr5 (GQ _) (H7 hsz hbn.size)⟩
     rw [hu.out];simpa using hown5
    case measure=>simp [intOf] <;> omega
   ·have hu : Hid (ux (x+1)=ux x):=HuS.out x hx1 hp
    have hpb : (pw x R == 1)=false:=by rw [beq_eq_false_iff_ne];exact hp
    generalize ux x=out at *
    clear hp
    go_wp2_with fail
    refine HP1.out.mono ?_
    rintro e w2 ⟨kk,rfl,rfl⟩
    have hbr2:=below_drewN hbr kk
    have hown2:=bj hown (below_drewN (GS _ _) kk)
    clear hown
    generalize wr.drewN kk=w2 at *
    go_wp2_with fail
    go_roundw
    case rel=>exact ⟨x+1,a1,c1,by omega,by omega,by go_num,by rw [hu.out],by rw [hu.out];exact hown2,hbr2⟩
    case measure=>simp [intOf] <;> omega
  ·obtain rfl : x=q:=by omega
   have hUl:=HU.out.1
   have hown1:=bd hown (GQ _)
   rw [hUl] at hown1
   have hUi : Ints wr a1 R (ux x):=(L0 hown1).1
   have HUe:=Z5 HU.out.2
   have HUi:=Z5 hUi
   have HbW1:=Z5 hbr
   obtain ⟨UU,hUU⟩ : ∃UU,ux x=UU:=⟨_,rfl⟩
   rw [hUU] at HUe HUi HpT hUl
   have HUl:=Z5 hUl
   have hl0 : (ux x).length=R:=by rw [hUU];exact hUl
   rw [hl0]
   clear hown hown1 hUi HU HuT HuS HuL hUl hUU hu1 hl0 hbr hlt
   clear hx1 hxq
   generalize wr=W1 at *
   generalize hxx : x=q at *
   clear hxx
   go_wp2_with (at_make;refine bP rfl _ _ 90 4 rfl (.bool false) 1 underlying90 wD rfl q rfl rfl (by omega) (by unfold maxLen;omega) ?_;intro a8 W2 hown8 hbel8 hge8 hlt8)
   have hown8 : W2.ownsRow W1.heap.size 4 1 (.slice a8 q q) q ((iG q (px 1)).map Value.bool):=by rw [hp1,AO,Jn];exact hown8
   have hs1 : 0<W1.heap.size:=by have h1:=HsW.out;have h2:=HbU.out.size;have h3:=HbW1.out.size;omega
   have Hge:=Z5 (Hi hge8 (Hi hlt8 hs1))
   have ha8 : a8 ≠ none:=by rintro rfl;have : (0 : Nat)=ablk none:=rfl;omega
   have HCf : Hid (∀V,Mv W1 V->dz V b G/\Ints V a1 R UU):=λV hV=>⟨HG.out.af (LY HbW1.out hV),HUi.out.af hV⟩
   have hbel8s:=hbel8.size
   clear hge8 hlt8 hs1
   go_loopw [14,19] (λsv iv wr=>∃(x : Nat) (a4 : OA) (c4 : Nat),1<=x/\x<=q/\(px x).length<=5000/\iv = .int .i64 x/\sv = .slice a4 (px x).length c4/\wr.ownsRow W2.heap.size 3 1 (.slice a4 (px x).length c4) (px x).length ((px x).map (Value.int .i64)) /\
     wr.ownsRow W1.heap.size 4 1 (.slice a8 q q) q ((iG q (px x)).map Value.bool)/\Mv W1 wr/\W2.heap.size<=wr.heap.size)
    (λ_ iv _=>q - (intOf iv).toNat)
   case atStart=>exact ⟨1,none,0,GQ _,by omega,by rw [hp1];simp,rfl,by rw [hp1];rfl,by rw [hp1];exact ⟨rfl,.inl ⟨rfl,rfl⟩⟩,hown8,hbel8,GQ _⟩
   case round =>
    clear hown8 hbel8
    obtain ⟨x,a4,c4,hx1,hxq,hl5,rfl,rfl,hown,hus,hbr,hsz⟩:=hrel
    by_cases hgo : x<q/\(px x).length<Z1
    ·obtain ⟨hlt,hlz⟩:=hgo
     obtain ⟨hbl,hmi⟩:=Mu hus
     have hcx:=hbl.cell x hlt
     have hplb:=hbl.pl
     rw [yy _ hlt] at hcx
     by_cases hin8 : (x : Int) ∈ px x
     ·have hd : decide ((x : Int) ∈ px x)=true:=Ig hin8
      rw [hd] at hcx
      have hp : Hid (px (x+1)=px x):=HpS.out x hx1 hin8
      clear hin8 hd hmi hbl
      generalize px x=out at *
      go_wp2_with fail
      go_roundw
      case rel=>exact ⟨x+1,a4,c4,by omega,by omega,by rw [hp.out];exact hl5,by go_num,by rw [hp.out],by rw [hp.out];exact hown,by rw [hp.out];exact hus,hbr,hsz⟩
      case measure=>simp [intOf] <;> omega
     ·have hd : decide ((x : Int) ∈ px x)=false:=Ic hin8
      rw [hd] at hcx
      have hp : Hid (px (x+1)=px x ++ cJ (UU.map (G.mul x))):=HpT.out x hx1 hlz hin8
      have HSc : Hid (Calls prog 66 #[.pointer (some ⟨b,0,none⟩),.int .i64 x,.slice a1 R c1] wr (bS wr (UU.map (G.mul x)))):=by obtain ⟨h5,h6⟩:=HCf.out wr hbr;exact tA (x : Int) a1 R c1 UU h5 (show 0<=(x : Int)/\(x : Int)<(G.q : Nat) by rw [<- HGG.out.1,HGG.out.2.1];omega) h6 HUe.out (by omega)
      have HCe : Hid (∀y ∈ cJ (UU.map (G.mul x)),0<=y/\y<q):=λy hy=>by
       obtain ⟨u,hu,rfl⟩:=List.mem_map.1 ((dc _).mem_iff.1 hy);have h5:=HMul.out x u (show 0<=(x : Int)/\(x : Int)<(G.q : Nat) by rw [<- HGG.out.1,HGG.out.2.1];omega) (HUe.out u hu);have h6 : 0<=G.mul x u/\G.mul x u<(G.q : Nat):=h5;have h7 : G.q=q:=by rw [<- HGG.out.1];exact HGG.out.2.1
       rw [h7] at h6;exact ⟨h6.1,by omega⟩
      have hml : (UU.map (G.mul x)).length=R:=by rw [H8];exact HUl.out
      have hmls : (cJ (UU.map (G.mul x))).length=R:=by rw [(dc _).length_eq];exact hml
      obtain ⟨M0,hM0⟩ : ∃l,UU.map (G.mul x)=l:=⟨_,rfl⟩
      rw [hM0] at hp HSc HCe hml hmls
      have Hms:=Z5 hmls
      clear hin8 hd hmi hbl hM0 hmls
      generalize hpxo : px x=out at *
      clear hpxo
      unfold bS at HSc
      rw [hml] at HSc
      go_wp2_with fail
      refine HSc.out.mono ?_
      rintro e w3 ⟨a3,c3,rfl,hown3,hb3⟩
      have hs3:=hb3.size
      have HSo:=Z5 (qh wr.heap.size a3 R c3 M0 w3 hown3 hs3 (by omega))
      clear hown3
      go_wp2_with fail
      refine HSo.out.mono ?_
      rintro e w5 ⟨rfl,hown5,_,hb5⟩
      have hs5:=hb5.size
      have hsrt:=(L0 hown5).1
      have hpls:=hsrt.pl
      have hb35 : Mv wr w5:=hb3.trans hb5
      have hus5:=bj hus hb35
      have hownp5:=bj hown hb35
      have HB5 : Hid (Mv W1 w5):=LY hbr hb35
      have h3w : wr.heap.size<=ablk a3:=((dP hown5 (by omega))).1
      obtain ⟨cs,hcs⟩ : ∃cs,cJ M0=cs:=⟨_,rfl⟩
      rw [hcs] at hp Hms hsrt HCe
      clear hcs hus hown hown5 hb5 hb3 hb35 HSo
      go_wp2_with fail
      go_loopw [133] (λjv ws=>∃t : Nat,t<=R/\jv = .int .i64 t/\ws.ownsRow W1.heap.size 4 1 (.slice a8 q q) q ((iG q (out ++ cs.take t)).map Value.bool)/\bU a8 w5 ws) (λjv _=>R - (intOf jv).toNat)
      case atStart=>exact ⟨0,G0 _,rfl,by simpa using hus5,Mb _ _⟩
      case round =>
       clear hus5
       obtain ⟨t,ht,rfl,hut,hon⟩:=hrel
       have hsrt5:=hon.ints hsrt (.inr (.inr (by have:=Hge.out.2.1;omega)))
       by_cases hltt : t<R
       ·have cq:=hsrt5.cell t hltt
        have hb:=HCe.out _ (aH (l:=cs) (i:=t) (by rw [Hms.out];exact hltt))
        obtain ⟨z,hz⟩ : ∃z : Nat,nth cs t=z:=⟨(nth cs t).toNat,by omega⟩
        have hzq : z<q:=by omega
        obtain ⟨hbl,hmi⟩:=Mu hut
        have hfz:=(hmi (by omega)).2 z hzq
        have hcz:=hbl.cell z hzq
        have hnx : Hid (out ++ cs.take (t+1)=(out ++ cs.take t) ++ [(z : Int)]):=by show _=_;rw [Hj (by rw [Hms.out];exact hltt),<- aj,hz,IZ]
        rw [hz] at cq
        clear hz hb hbl hmi
        go_wp2_with fail
        go_roundw
        case rel =>
         refine ⟨t+1,by omega,by go_num,?_,hon.trans (Md _ _ _ ha8)⟩
         have h5:=bt hut z hzq (.bool true)
         rw [<- Im,A5,<- hnx.out] at h5
         exact h5
        case measure=>simp [intOf] <;> omega
       ·obtain rfl : t=R:=by omega
        rw [H6 (by rw [Hms.out];exact GQ _),<- hp.out] at hut
        have hbO : Below W1.heap.size w5 wr:=hon.below (λ_=>Hge.out.1) HB5.out.size
        have hbW : Mv W1 wr:=HB5.out.trans hbO
        have hne4 : ablk a4 ≠ ablk a8:=by
         rcases jZ hownp5 with ⟨h5,_⟩ | ⟨h5,_⟩
         ·rw [h5];have h6 : ablk none=0:=rfl;have:=Hge.out.1;have:=Hge.out.2.2;omega
         ·have:=Hge.out.2.1;omega
        have hl4 : ablk a4<w5.heap.size:=by
         rcases jZ hownp5 with ⟨h5,_⟩ | ⟨_,h5⟩
         ·rw [h5];have h6 : ablk none=0:=rfl;have:=HB5.out.size;have:=Hge.out.2.2;omega
         ·exact h5
        have hown6:=eB hownp5 (hon.block _ hl4 λh5=>hne4 h5.2)
        have hsw : W2.heap.size<=wr.heap.size:=by have:=hon.size;omega
        have hpl5:=hsrt5.pl
        have hlcs : (cs.map (Value.int .i64)).length=t:=by rw [H8];exact Hms.out
        have hcc : ∀j,j<t->wr.cell? ⟨ablk a3,aL a3+j,none⟩=(cs.map (Value.int .i64))[j]?:=λj hj=>by rw [hsrt5.cell j hj,Js,Iu (by rw [Hms.out];exact hj),aj (by rw [Hms.out];exact hj)];rfl
        have h1cs : ∀u ∈ cs.map (Value.int .i64),u.oneCell'=true:=λu hu=>by obtain ⟨y,_,rfl⟩:=List.mem_map.1 hu;rfl
        have Hbx:=Z5 (Hi hbW hsw)
        have hlnx : (px (x+1)).length=out.length+t:=by rw [hp.out,H5,Hms.out]
        clear hownp5 hon hbO hsrt5 hsrt
        go_wp2_with (at_builtin;refine gk rfl _ _ 22 3 rfl (.int .i64 0) 8 underlying22 bg rfl W2.heap.size a4 out.length c4 _ rfl hown6 a3 t c3 _ rfl hpl5 hlcs hcc h1cs (by omega) (by unfold maxLen;omega) hsw ?_;intro a7 c7 w7 hown7 hgr7 _)
        go_roundw
        case rel =>
         have hut7:=eB hut (hgr7.block _ (It Hge.out.2.1 Hbx.out.2) λh5=>(eA.own (.inr hne4) out.length c4) h5.symm)
         refine ⟨x+1,a7,c7,by omega,by omega,by omega,by go_num,by rw [hlnx],?_,hut7,L3 Hbx.out.1 hown6 hgr7 hbel8s Hbx.out.1.size,by have:=hgr7.size;omega⟩
         rw [hlnx,hp.out,II]
         exact hown7
        case measure=>simp [intOf] <;> omega
    ·have hX0 : Hid (px x=X):=by
      by_cases h5 : x<q
      ·exact HpE.out x hxq (by omega)
      ·obtain rfl : x=q:=by omega
       exact HpQ.out
     have hXl:=HXp.out.1
     rw [hX0.out,hXl] at hown
     have hXi : Ints wr a4 Z1 X:=(L0 hown).1
     have HXi:=Z5 hXi
     have HbW2:=Z5 hbr
     have hlX : (px x).length=Z1:=by rw [hX0.out];exact hXl
     rw [hlX] at hl5 hgo ⊢
     have hstop : ¬ (x<q/\Z1<Z1):=by omega
     have HCt : Hid (∀x,x % R=rn->gO rn (x+1)=gO rn x):=λx hx=>AS (by rw [HNum.out.2.2.2.2.2.2];exact hx)
     have HCk : Hid (∀x,x % R ≠ rn->gO rn (x+1)=gO rn x+1/\gz G.ops X (fF rn) (gO rn x+1)=gz G.ops X (fF rn) (gO rn x) ++ [X.map λy=>eG G.ops y x]):=λx hx=>by obtain ⟨h5,h6⟩:=Bx (r:=rn) (x:=x) (by have:=HNum.out.2.1;have:=HNum.out.2.2.2.2.1;omega) (by rw [HNum.out.2.2.2.2.2.2];exact hx);exact ⟨h5,by rw [AW,<- h6]⟩
     have HCl : Hid (∀x,gO rn x<kn->x<2 * kn):=λx hx=>Em (by have:=HNum.out.2.1;have:=HNum.out.2.2.2.2.1;omega) hx
     have hct0 : gO rn 0=0:=BU rn
     have hLL0 : gz G.ops X (fF rn) 0=[]:=rfl
     obtain ⟨LL,hLL⟩ : ∃f,gz G.ops X (fF rn)=f:=⟨_,rfl⟩
     rw [hLL] at HCk hLL0 HtbS HRw
     obtain ⟨ct,hct⟩ : ∃f,gO rn=f:=⟨_,rfl⟩
     rw [hct] at HCt HCk HCl hct0
     obtain ⟨rw',hrw⟩ : ∃f : Nat->LI,(λx=>X.map λy=>eG G.ops y x)=f:=⟨_,rfl⟩
     have HCk : Hid (∀x,x % R ≠ rn->ct (x+1)=ct x+1/\LL (ct x+1)=LL (ct x) ++ [rw' x]):=by rw [<- hrw];exact HCk
     have HRl : Hid (∀x,(rw' x).length=Z1):=λx=>by rw [<- hrw];simp [hXl]
     have HRn : Hid (∀x z t,t<Z1->nth X t=((z : Nat) : Int)->nth (rw' x) t=pw z x):=λx z t ht hz=>by rw [<- hrw,<- Hpw.out];show nth (X.map _) t=_;rw [aj (by rw [H8,hXl];exact ht),IF,<- aj,hz]
     have HXe : Hid (∀t,t<Z1->∃z : Nat,nth X t=z/\1<=z/\z<q):=λt ht=>by
      obtain ⟨h5,h6⟩:=HXp.out.2 _ (aH (l:=X) (i:=t) (by rw [hXl];exact ht));have h7 : 0<=nth X t/\nth X t<(G.q : Nat):=h5;have h8 : G.q=q:=by rw [<- HGG.out.1];exact HGG.out.2.1
      rw [h8] at h7;exact ⟨(nth X t).toNat,by omega,by omega,by omega⟩
     obtain ⟨kx,rx⟩:=Hi HNum.out.2.2.2.2.2.1 HNum.out.2.2.2.2.1
     have HkE:=Z5 (Hi kx (Hi rx (Hi HNum.out.2.1 HNum.out.2.2.1)))
     have hk64 : kn<=64:=by have:=HNum.out.2.2.1;have:=HNum.out.2.2.2.2.2.1;omega
     have hrwf:=HRl.out
     clear hLL hct hrw hXi hown hus hbr hX0 hlX hXl HpT HpS HpE HpQ hp1 HMul HFl HCf HUe HUi HUl ha8 hbel8s hin hZ1b kx rx hrwf hsz HOr
     generalize wr=V at *
     clear hgo
     by_cases h5q : x<q
     all_goals (
      go_upto_region 33 with fail
      obtain ⟨g,hg⟩ : ∃g,V.heap.size=g:=⟨_,rfl⟩
      have HGs:=Z5 hg
      clear hg
      go_cut [23] (λv wx=>v = .pointer (some ⟨V.heap.size,0,none⟩)/\kZ wx V.heap.size (.int .i64 Z1) none 0 0 [] []/\Mv V wx)
      case first =>
       go_wp2_with fail
       go_meet
       exact ⟨rfl,kZ.start (LZ V [.int .i64 Z1,.slice none 0 0] _ rfl),an _ _⟩
      obtain ⟨rfl,hO0,hbc⟩:=hcut
      generalize wc=U3 at *
      have hs3:=HGs.out
      rw [hs3] at hO0 ⊢
      have HbU3:=Z5 hbc
      have hgU:=hO0.lt
      have hO0 : kZ U3 g (.int .i64 Z1) none (ct 0) 0 [] (LL (ct 0)):=by rw [hct0,hLL0];exact hO0
      have hR0p : (R : Int) ≠ 0:=by omega
      have hR0n : R ≠ 0:=by omega
      have hR0b : ((R : Int) == 0)=false:=by rw [beq_eq_false_iff_ne];exact hR0p
      clear hbc hs3 hLL0
      go_wp2_with fail
      go_loopw [24] (λiv wr=>∃(x : Nat) (a5 : OA) (c5 : Nat) (Rr : LA),x<=2 * kn/\ct x<=kn/\iv = .int .i64 x/\kZ wr g (.int .i64 Z1) a5 (ct x) c5 Rr (LL (ct x))/\Below g U3 wr) (λiv _=>2 * kn - (intOf iv).toNat)
      case atStart=>exact ⟨0,none,0,[],G0 _,by rw [hct0];exact G0 _,rfl,hO0,GS _ _⟩
      case round =>
       clear hO0
       obtain ⟨x,a5,c5,Rr,hx2,hxk,rfl,hO,hbr⟩:=hrel
       have hgr:=hO.lt
       have g1:=hO.c1
       obtain ⟨hk1,hr1,hr2,hk2⟩:=HkE.out
       by_cases hltk : ct x<kn
       ·have hxlt:=HCl.out x hltk
        have d1 : decide (((ct x : Nat) : Int)<k)=true:=by rw [hk1];simp;omega
        obtain ⟨xm,hxm⟩ : ∃xm : Int,xm=((x % R : Nat) : Int):=⟨_,rfl⟩
        have tm : (x : Int).tmod (R : Int)=xm:=by rw [hxm,IV (by omega)];simp
        by_cases hm : x % R=rn
        ·have hs:=Z5 (HCt.out x hm)
         have d2 : (xm == r)=true:=by rw [hxm,hm,hr1];simp
         have hO':=Z5 hO
         generalize ct x=cx at *
         clear hm hxm hk1 hr1 hr2 hk2 hO
         go_wp2_with fail
         go_roundw
         case rel=>exact ⟨x+1,a5,c5,Rr,by omega,by rw [hs.out];omega,by go_num,by rw [hs.out];exact hO'.out,hbr⟩
         case measure=>simp [intOf] <;> omega
        ·have hs:=Z5 (HCk.out x hm)
         have d2 : (xm == r)=false:=by rw [beq_eq_false_iff_ne,hxm,hr1];omega
         have hO':=Z5 hO
         have Hrl:=Z5 (HRl.out x)
         have Hrn:=Z5 (HRn.out x)
         have HP1 : Hid (∀V' z,Mv V V'->1<=z->z<q->Calls prog 65 #[.pointer (some ⟨b,0,none⟩),.int .i64 z,.int .i64 x] V' λe w'=>∃k,e = .returned (.tuple #[.int .i64 (pw z x),.int .i64 0])/\w'=V'.drewN k):=λV' z hV h5 h6 =>
          HPw.out V' z x (LY HbW1.out (LY HbW2.out hV)) h5 h6 (by have:=HkE.out.2.2.2;have:=HkE.out.1;omega)
         obtain ⟨rr,hrr⟩ : ∃l,rw' x=l:=⟨_,rfl⟩
         rw [hrr] at hs Hrl Hrn
         generalize hcx : ct x=cx at *
         have hcx200 : cx<=64:=by have:=HkE.out.2.2.2;have:=HkE.out.1;omega
         have hbV:=IT HbU3.out (hbr.mono (KL HGs.out))
         have hgV:=HGs.out
         clear hm hxm hk1 hr1 hr2 hk2 hO hcx hrr
         go_wp2_with fail
         have HbR:=Z5 (Hi hbr hgr)
         clear hbr
         generalize wr=V1 at *
         go_loopw [25,162] (λrv jv ws=>∃(t : Nat) (a6 : OA) (c6 : Nat),t<=Z1/\jv = .int .i64 t/\rv = .slice a6 t c6/\ws.ownsRow V1.heap.size 3 1 (.slice a6 t c6) t ((rr.take t).map (Value.int .i64))/\Mv V1 ws)
          (λ_ jv _=>Z1 - (intOf jv).toNat)
         case atStart=>exact ⟨0,none,0,G0 _,rfl,rfl,⟨rfl,.inl ⟨rfl,rfl⟩⟩,GS _ _⟩
         case round =>
          obtain ⟨t,a6,c6,ht,rfl,rfl,hown,hbt⟩:=hrel
          have hbVt:=LY hbV hbt
          have hXt:=HXi.out.af hbVt
          have hpl4:=hXt.pl
          by_cases hltt : t<Z1
          ·have cq:=hXt.cell t hltt
           obtain ⟨z,hz,hz1,hzq⟩:=HXe.out t hltt
           have HP2:=Z5 (HP1.out wr z hbVt hz1 hzq)
           have htk : Hid (rr.take (t+1)=rr.take t ++ [pw z x]):=by show _=_;rw [Hj (by rw [Hrl.out];exact hltt),<- aj,Hrn.out z t hltt hz]
           rw [hz] at cq
           clear hz hXt
           go_wp2_with fail
           refine HP2.out.mono ?_
           rintro e w2 ⟨kk,rfl,rfl⟩
           have hbr2:=below_drewN hbt kk
           have hown2:=bj hown (below_drewN (GS _ _) kk)
           clear hown
           generalize wr.drewN kk=w2 at *
           obtain ⟨yv,hyv⟩ : ∃y,pw z x=y:=⟨_,rfl⟩
           rw [hyv] at htk ⊢
           clear hyv HP2
           have hcn:=bm w2 (.int .i64 yv) 3
           have hbn:=an w2 (.cells #[.int .i64 yv] 3)
           have hsz:=hbr2.size
           go_wp2_with (at_builtin;refine aU rfl _ _ 22 3 rfl (.int .i64 0) 8 underlying22 bg rfl V1.heap.size a6 t c6 _ rfl (hown2.alloc _) ⟨w2.heap.size,0,none⟩ 1 (.int .i64 yv) rfl hcn rfl (by omega) (by unfold maxLen;omega) (by simp;omega) ?_;intro a7 c7 w7 hown7 hgr7 hap7)
           go_roundw
           case rel =>
            refine ⟨t+1,a7,c7,by omega,by go_num,rfl,?_,L3 (IT hbr2 (hbn.mono hsz)) (hown2.alloc _) hgr7 (GQ _) (H7 hsz hbn.size)⟩
            rw [htk.out];simpa using hown7
           case measure=>simp [intOf] <;> omega
          ·obtain rfl : t=Z1:=by omega
           rw [H6 (by rw [Hrl.out];exact GQ _)] at hown
           have hs6:=hO'.out.af hbt
           have hOk:=hs6.om.af (an wr (.cells #[.slice a6 t c6] 22))
           have hcp:=hs6.c1
           have hgs:=hs6.lt
           clear g1
           go_wp2_with (at_builtin;refine aU rfl _ _ 25 22 rfl (.slice none 0 0) 24 underlying25 ew rfl (g+1) a5 cx c5 _ rfl hOk.own ⟨wr.heap.size,0,none⟩ 1 (.slice a6 t c6) rfl (bm wr _ _) rfl (by omega) (by unfold maxLen;omega) (by simp;omega) ?_;intro a7 c7 w6 hown6 hgr6 hap6;have hk6:=(hs6.tT hgr6).2.1;have hf6:=(hs6.tT hgr6).2.2)
           go_roundw
           case rel =>
            have hra : a6 ≠ none->¬ bI a5 Rr (ablk a6):=λh0 hI=>by have h1:=(aS hown h0).1;have h2:=(hO'.out.om.lt _ hI).2;omega
            obtain ⟨hP,hbP⟩:=hs6.push Hrl.out (bd hown (by have:=HbR.out.2;omega)) hra hown6 hgr6 hap6
            exact ⟨x+1,a7,c7,_,by omega,by rw [hs.out.1];omega,by go_num,by rw [hs.out.1,hs.out.2];exact hP,IT HbR.out.1 ((hbt.mono (by have:=HbR.out.2;omega)).trans hbP)⟩
           case measure=>simp [intOf] <;> omega
       ·have hk3 : ct x=kn:=by omega
        have d1 : decide (((ct x : Nat) : Int)<k)=false:=by rw [hk1];simp;omega
        rw [hk3] at hO d1 g1
        have g0:=hO.c0
        have hMN : bQ (g+1) wr a5 kn (LL kn):=Mp hO.om
        have hbV:=IT HbU3.out (hbr.mono (KL HGs.out))
        have hbE : Mv W wr:=LY (LY (LY HbU.out HbW1.out) HbW2.out) hbV
        have hSt:=HtbS.out
        obtain ⟨S,hS⟩ : ∃S,bz G.ops Z1 (LL kn)=S:=⟨_,rfl⟩
        rw [hS] at hSt
        have HNw : Hid (Calls prog 68 #[.agg #[.int .i64 P,.int .i64 M,.slice am mn cm],.agg #[.int .i64 Z1,.slice a5 kn c5]] wr λe w'=>∃a1 c1 a2 c2,e = .returned (.tuple #[.agg #[.int .i64 P,.int .i64 M,.slice a1 mod.length c1,.int .i64 Z1,.slice a2 S.length c2],.int .i64 0])/\bA wr.heap.size w' a1 mod.length mod/\bQ wr.heap.size w' a2 S.length S/\Mv wr w'):=by have h:=nP P M am mn cm mod Z1 a5 kn c5 (LL kn) wr (Hmod.out.1.af (LY HbW.out hbE)) hMN.jX HRw.out HZN.out.1 HZN.out.2 Hmod.out.2;unfold qD at h;rw [HGG.out.1] at h;have e : bL G (LL kn) Z1=S:=hS;rw [e] at h;exact h
        have HPF:=HP0.out
        rw [HNN.out,hSt] at HPF
        have HPF:=Z5 HPF
        have HbE:=Z5 hbE
        have bx:=HX.out.1.af hbE
        have c0:=bx.cell 0 rfl
        have c1':=bx.cell 1 rfl
        have c2':=bx.cell 2 rfl
        clear hS hSt bx hMN hO hbr hbV hbE hk3 hk1 hr1 hr2 hk2 HNum HkE
        go_wp2_with fail
        refine HNw.out.mono ?_
        rintro e w6 ⟨b1,d1',b2,d2',rfl,hI6,hM6,hb6⟩
        have hbF:=LY HbE.out hb6
        have hsz:=HbE.out.size
        have hsW:=HsW.out
        obtain ⟨z0,z1,z2,z3,z4,f0,f1,f2,f3,f4⟩:=HZ.out w6 hbF
        have zz:=(((((HX.out.2.af hbF).setCell 0 (.int .i64 P)).setCell 1 (.int .i64 M)).setCell 2 (.slice b1 mod.length d1')).setCell 3 (.int .i64 Z1)).setCell 4 (.slice b2 S.length d2')
        have y0:=zz.cell 0 rfl
        have y1:=zz.cell 1 rfl
        have y2:=zz.cell 2 rfl
        have y3:=zz.cell 3 rfl
        have y4:=zz.cell 4 rfl
        have HF:=Z5 (HPF.out b1 d1' b2 d2' (((((w6.setCell ⟨w.heap.size+1,0,none⟩ (.int .i64 P)).setCell ⟨w.heap.size+1,1,none⟩ (.int .i64 M)).setCell ⟨w.heap.size+1,2,none⟩ (.slice b1 mod.length d1')).setCell ⟨w.heap.size+1,3,none⟩ (.int .i64 Z1)).setCell ⟨w.heap.size+1,4,none⟩ (.slice b2 S.length d2')) HE0.out
         ((((((hI6.setCell (p:=⟨w.heap.size+1,0,none⟩) (by simp;omega) _).setCell (p:=⟨w.heap.size+1,1,none⟩) (by simp;omega) _).setCell (p:=⟨w.heap.size+1,2,none⟩) (by simp;omega) _).setCell (p:=⟨w.heap.size+1,3,none⟩) (by simp;omega) _).setCell (p:=⟨w.heap.size+1,4,none⟩) (by simp;omega) _).mono (by omega))
         ((((((hM6.setCell (p:=⟨w.heap.size+1,0,none⟩) (by simp;omega) _).setCell (p:=⟨w.heap.size+1,1,none⟩) (by simp;omega) _).setCell (p:=⟨w.heap.size+1,2,none⟩) (by simp;omega) _).setCell (p:=⟨w.heap.size+1,3,none⟩) (by simp;omega) _).setCell (p:=⟨w.heap.size+1,4,none⟩) (by simp;omega) _).mono (by omega))
         ((((((LY HbW.out hbF).setCell (p:=⟨w.heap.size+1,0,none⟩) (by simp) _).setCell (p:=⟨w.heap.size+1,1,none⟩) (by simp) _).setCell (p:=⟨w.heap.size+1,2,none⟩) (by simp) _).setCell (p:=⟨w.heap.size+1,3,none⟩) (by simp) _).setCell (p:=⟨w.heap.size+1,4,none⟩) (by simp) _))
        clear hI6 hM6 hb6 hbF zz
        go_wp2_with fail
        exact bodyPost_ret (v:=.tuple #[.agg #[.int .i64 P,.int .i64 M,.slice b1 mod.length d1',.int .i64 Z1,.slice b2 S.length d2'],.int .i64 0]) (by simp [results,results25,go_sem,y0,y1,y2,y3,y4]) rfl HF.out)
theorem wM (P M : Int) (am : OA) (mn cm : Nat) (mod : LI) (N : Int) (a : OA) (n c : Nat) (L : Ll) (w : World) (hmod : Ints w am mn mod) (hi : bC w a n L) (hE : aG P M mod N L ≠ 0) :
  Calls prog 80 #[.agg #[.int .i64 P,.int .i64 M,.slice am mn cm,.int .i64 N,.slice a n c]] w λe w'=>e = .returned (.tuple #[.agg #[.int .i64 0,.int .i64 0,.slice none 0 0,.int .i64 0,.slice none 0 0],.int .i64 (aG P M mod N L)])/\Mv w w':=by
 have HC : Hid (∀V,Mv w V->Calls prog 88 #[.agg #[.int .i64 P,.int .i64 M,.slice am mn cm,.int .i64 N,.slice a n c]] V λe w'=>e = .returned (.int .i64 (aG P M mod N L))/\Mv V w'):=λV hV=>b8 P M am mn cm mod N a n c L V (hmod.af hV) (hi.af hV);generalize aG P M mod N L=ce at *;have d0 : (ce != 0)=true:=by simpa using hE
 clear hmod hi hE;go_enter func80,ntmps80;go_wp2_with fail;obtain ⟨W,hW⟩ : ∃W : World,W=(w.alloc (.cells #[.int .i64 P,.int .i64 M,.slice am mn cm,.int .i64 N,.slice a n c] 27)).alloc (.cells #[.int .i64 0,.int .i64 0,.slice none 0 0,.int .i64 0,.slice none 0 0] 27):=⟨_,rfl⟩
 rw [<- hW];have hbW : Mv w W:=by rw [hW];exact du _ _ _
 have z0 : aO W (w.heap.size+1) [.int .i64 0,.int .i64 0,.slice none 0 0,.int .i64 0,.slice none 0 0]:=by rw [hW];exact LZ _ _ _ (by simp)
 have HZ:=Z5 z0;clear hW z0;refine (HC.out W hbW).mono ?_;rintro e w1 ⟨rfl,hb1⟩;have zz:=HZ.out.af hb1;have z0:=zz.cell 0 rfl;have z1:=zz.cell 1 rfl;have z2:=zz.cell 2 rfl;have z3:=zz.cell 3 rfl;have z4:=zz.cell 4 rfl;have f0:=zz.frozen 0;have f1:=zz.frozen 1;have f2:=zz.frozen 2;have f3:=zz.frozen 3;have f4:=zz.frozen 4;have hF:=LY hbW hb1;have HF:=Z5 (((((hF.setCell (p:=⟨w.heap.size+1,0,none⟩) (by simp) (.int .i64 0)).setCell (p:=⟨w.heap.size+1,1,none⟩) (by simp) (.int .i64 0)).setCell (p:=⟨w.heap.size+1,2,none⟩) (by simp) (.slice none 0 0)).setCell (p:=⟨w.heap.size+1,3,none⟩) (by simp) (.int .i64 0)).setCell (p:=⟨w.heap.size+1,4,none⟩) (by simp) (.slice none 0 0));clear zz hF;go_wp2_with fail;exact bodyPost_ret (v:=.tuple #[.agg #[.int .i64 0,.int .i64 0,.slice none 0 0,.int .i64 0,.slice none 0 0],.int .i64 ce]) (by simp [results,results80,go_sem,z0,z1,z2,z3,z4]) rfl ⟨rfl,HF.out⟩
def BV (P M : Int) (mod : LI) (m : Nat) (L : Ll) (k : Nat) (x : LI) (T : Ll) : Bool :=
 decide (kb P M mod m (aZ (ah P M.toNat mod) L m) x=0) && rK P M mod m (aZ (ah P M.toNat mod) L m) x && decide (nth x k=1) && decide (pf P M mod m (fb P M mod m L k) x ((oB x : Int) - 1) T=0)
def lkTo (P M : Int) (mod : LI) (m : Nat) (L WW : Ll) (TT : List Ll) : Nat->Bool
 | 0=>true
 | k+1=>lkTo P M mod m L WW TT k && BV P M mod m L k (ai WW k) (tC TT k)
theorem zY {P M : Int} {mod : LI} {m : Nat} {L WW : Ll} {TT : List Ll} {k : Nat} (h : BV P M mod m L k (ai WW k) (tC TT k)=false) : ∀d,lkTo P M mod m L WW TT (k+1+d)=false
 | 0=>by rw [Lw,lkTo,h,LR]
 | d+1=>by rw [show k+1+(d+1)=(k+1+d)+1 by omega,lkTo,zY h d,LW]
def zH (P M : Int) (mod : LI) (N : Int) (L WW : Ll) (TT : List Ll) : Int :=
 if aG P M mod N L=0 then (if (WW.length : Int)=N/\(TT.length : Int)=N/\lkTo P M mod N.toNat L WW TT N.toNat=true then 0 else 13) else aG P M mod N L
def yd (WW : Ll) (k : Nat) : LI:=(WW.take k).map λx=>(oB x : Int) - 1
def pS (er : Int) (V : LI) (n : Nat) (w : World) (e : Ending) (w' : World) : Prop :=
 Mv w w'/\((er ≠ 0/\e = .returned (.tuple #[.slice none 0 0,.int .i64 er]))\/(er=0/\∃a c,e = .returned (.tuple #[.slice a n c,.int .i64 0])/\Ints w' a n V))
theorem vd (P M : Int) (am : OA) (mn cm : Nat) (mod : LI) (N : Int) (a : OA) (n c : Nat) (L : Ll) (aw : OA) (nw cw : Nat) (WW : Ll) (at' : OA) (nt ct : Nat) (TT : List Ll) (w : World)
  (hmod : Ints w am mn mod) (hi : bC w a n L) (hw : bC w aw nw WW) (ht : jl w at' nt TT) :
  Calls prog 31 #[.agg #[.int .i64 P,.int .i64 M,.slice am mn cm,.int .i64 N,.slice a n c],.agg #[.slice aw nw cw,.slice at' nt ct]] w (pS (zH P M mod N L WW TT) (yd WW N.toNat) N.toNat w):=by
 have HErr : Hid (∀V er,zH P M mod N L WW TT=er->er ≠ 0->Mv w V->pS (zH P M mod N L WW TT) (yd WW N.toNat) N.toNat w (.returned (.tuple #[.slice none 0 0,.int .i64 er])) V):=λV er h1 h2 h3=>⟨h3,.inl ⟨by rw [h1];exact h2,by rw [h1]⟩⟩
 have hmw:=hw.max;have hmt:=ht.max;have hplw:=hw.pl;have hplt:=ht.pl;unfold maxLen at hmw hmt;by_cases hE : aG P M mod N L=0;rotate_left
 ·have HD : Hid (∀V,Mv w V->Calls prog 80 #[.agg #[.int .i64 P,.int .i64 M,.slice am mn cm,.int .i64 N,.slice a n c]] V λe w'=>e = .returned (.tuple #[.agg #[.int .i64 0,.int .i64 0,.slice none 0 0,.int .i64 0,.slice none 0 0],.int .i64 (aG P M mod N L)])/\Mv V w'):=λV hV =>
   wM P M am mn cm mod N a n c L V (hmod.af hV) (hi.af hV) hE
  have HR : Hid (zH P M mod N L WW TT=aG P M mod N L):=by show _=_;rw [zH,GU hE]
  generalize pS (zH P M mod N L WW TT) (yd WW N.toNat) N.toNat w=Post at *;generalize aG P M mod N L=ce at *;have d0 : (ce != 0)=true:=by simpa using hE
  have H0:=Z5 hE;clear hmod hi hw ht hE;go_enter func31,ntmps31;go_upto_region 1 with fail;obtain ⟨W,hW⟩ : ∃W : World,W=(w.alloc (.cells #[.int .i64 P,.int .i64 M,.slice am mn cm,.int .i64 N,.slice a n c] 27)).alloc (.cells #[.slice aw nw cw,.slice at' nt ct] 48):=⟨_,rfl⟩
  rw [<- hW];have hbW : Mv w W:=by rw [hW];exact du _ _ _
  have x0 : aO W w.heap.size [.int .i64 P,.int .i64 M,.slice am mn cm,.int .i64 N,.slice a n c]:=by rw [hW];exact (LZ _ _ _ rfl).alloc _
  have c0:=x0.cell 0 rfl;have c1:=x0.cell 1 rfl;have c2:=x0.cell 2 rfl;have c3:=x0.cell 3 rfl;have c4:=x0.cell 4 rfl;have HbW:=Z5 hbW;clear hW x0 hbW;go_wp2_with fail;refine (HD.out W HbW.out).mono ?_;rintro e w1 ⟨rfl,hb1⟩;have hF:=LY (LY HbW.out hb1) (an w1 (.cells #[.int .i64 0,.int .i64 0,.slice none 0 0,.int .i64 0,.slice none 0 0] 27));clear c0 c1 c2 c3 c4;go_wp2_with fail;exact HErr.out _ _ HR.out H0.out hF
 obtain ⟨m,rfl,hm1,hm64,_⟩:=bf hE;have hml : mod.length<=8:=kQ (aQ hE).1;have hmn : mn<=8:=by rw [<- hmod.len];exact hml
 have HD : Hid (∀V,Mv w V->Calls prog 80 #[.agg #[.int .i64 P,.int .i64 M,.slice am mn cm,.int .i64 m,.slice a n c]] V (i5 P M mod m L V)):=λV hV=>qe P M am mn cm mod m a n c L V (hmod.af hV) (hi.af hV) hE (by omega);have HHas : Hid (∀V a1 c1 a2 c2 ra rn rc x,Ints V a1 mod.length mod->bC V a2 (aZ (ah P M.toNat mod) L m).length (aZ (ah P M.toNat mod) L m)->Ints V ra rn x->Calls prog 81 #[.agg #[.int .i64 P,.int .i64 M,.slice a1 mod.length c1,.int .i64 m,.slice a2 (aZ (ah P M.toNat mod) L m).length c2],.slice ra rn rc] V
   λe w'=>e = .returned (.tuple #[.bool (rK P M mod m (aZ (ah P M.toNat mod) L m) x),.int .i64 (kb P M mod m (aZ (ah P M.toNat mod) L m) x)])/\Mv V w'):=λV a1 c1 a2 c2 ra rn rc x h1 h2 h3 =>
  tD P M a1 _ c1 mod m a2 _ c2 _ ra rn rc x V h1 h2 h3
 have HWl : Hid (∀x,kb P M mod m (aZ (ah P M.toNat mod) L m) x=0->x.length=m):=λx h=>by have h1:=(sS h).2.1;simpa using h1
 have HZe : Hid (∀ V (k : Nat), k < m → Mv w V → Calls prog 74 #[.agg #[.int .i64 P, .int .i64 M, .slice am mn cm, .int .i64 m, .slice a n c], .int .i64 k] V fun e w' =>
       ∃a1 c1 a2 c2,e = .returned (.tuple #[.agg #[.int .i64 P,.int .i64 M,.slice a1 mod.length c1,.int .i64 m,.slice a2 (fb P M mod m L k).length c2],.int .i64 0])/\Ints w' a1 mod.length mod/\bC w' a2 (fb P M mod m L k).length (fb P M mod m L k)/\Mv V w'):=λV k hk hV =>
  qb P M am mn cm mod m a n c L k V (hmod.af hV) (hi.af hV) hE hk
 have HCk : Hid (∀ V a1 c1 a2 c2 (k : Nat) ra rc x W ab nb cb T, Ints V a1 mod.length mod → bC V a2 (fb P M mod m L k).length (fb P M mod m L k) → Ints V ra m x → bC V ab nb T → Calls prog 82 #[.agg #[.int .i64 P, .int .i64 M, .slice a1 mod.length c1, .int .i64 m, .slice a2 (fb P M mod m L k).length c2], .slice ra m rc, .int .i64 W, .agg #[.slice ab nb cb]] V
       λe w'=>e = .returned (.int .i64 (pf P M mod m (fb P M mod m L k) x W T))/\Mv V w'):=λV a1 c1 a2 c2 k ra rc x W ab nb cb T h1 h2 h3 h4 =>
  nu P M a1 _ c1 mod m a2 _ c2 _ ra m rc x W ab nb cb T V h1 h2 h3 h4
 have HEl : Hid (zH P M mod m L WW TT=if (nw : Int)=m/\(nt : Int)=m/\lkTo P M mod m L WW TT m=true then 0 else 13):=by show _=_;rw [zH,GV hE,hw.len,ht.len,GW]
 have HTn : Hid (∀k,k<m->BV P M mod m L k (ai WW k) (tC TT k)=false->zH P M mod m L WW TT=13):=λk hk h=>by rw [HEl.out,GU];rintro ⟨_,_,h3⟩;have h4:=zY (TT:=TT) h (m - (k+1));rw [show k+1+(m - (k+1))=m by omega,h3] at h4;cases h4
 have HTs : Hid (∀k,lkTo P M mod m L WW TT k=true->BV P M mod m L k (ai WW k) (tC TT k)=true->lkTo P M mod m L WW TT (k+1)=true):=λk h1 h2=>by rw [lkTo,h1,h2];rfl
 have HOk : Hid (∀k x T,BV P M mod m L k x T=(decide (kb P M mod m (aZ (ah P M.toNat mod) L m) x=0) && rK P M mod m (aZ (ah P M.toNat mod) L m) x && decide (nth x k=1) && decide (pf P M mod m (fb P M mod m L k) x ((oB x : Int) - 1) T=0))):=λk x T=>rfl;have HVk : Hid (∀k,k<nw->yd WW (k+1)=yd WW k ++ [(oB (ai WW k) : Int) - 1]):=λk hk=>by
  have hkA : k<WW.length:=by rw [hw.len];exact hk
  unfold yd;rw [Hj hkA,II,aD hkA];rfl
 have HV0 : Hid (yd WW 0=[]/\lkTo P M mod m L WW TT 0=true):=⟨rfl,rfl⟩
 have HVl : Hid (∀k,k<=nw->(yd WW k).length=k):=λk hk=>by unfold yd;rw [H8,Ir,hw.len];omega
 rw [GW] at HErr ⊢;have HFin : Hid (∀a1 c1 V,zH P M mod m L WW TT=0->Ints V a1 m (yd WW m)->Mv w V->pS (zH P M mod m L WW TT) (yd WW m) m w (.returned (.tuple #[.slice a1 m c1,.int .i64 0])) V):=λa1 c1 V h0 h1 h2=>⟨h2,.inr ⟨h0,a1,c1,rfl,h1⟩⟩
 unfold i5 at HD;generalize hPo : pS (zH P M mod m L WW TT) (yd WW m) m w=Post at *;generalize zH P M mod m L WW TT=le at *;generalize lkTo P M mod m L WW TT=LT at *;generalize BV P M mod m L=ok at *;generalize aZ (ah P M.toNat mod) L m=D at *;generalize hVc : fb P M mod m L=vc at *;generalize yd WW=LV at *;obtain ⟨nm,hnm⟩ : ∃nm,mod.length=nm:=⟨_,rfl⟩
 obtain ⟨nd,hnd⟩ : ∃nd,D.length=nd:=⟨_,rfl⟩
 rw [hnm] at HD HHas HZe HCk;rw [hnd] at HD HHas;have HI:=Z5 (Hi hw ht);clear hmod hi hw ht hE hm1 hml hmn hPo hVc hnm hnd;go_enter func31,ntmps31;go_upto_region 1 with fail;obtain ⟨W,hW⟩ : ∃W : World,W=(w.alloc (.cells #[.int .i64 P,.int .i64 M,.slice am mn cm,.int .i64 m,.slice a n c] 27)).alloc (.cells #[.slice aw nw cw,.slice at' nt ct] 48):=⟨_,rfl⟩
 rw [<- hW];have hbW : Mv w W:=by rw [hW];exact du _ _ _
 have x0 : aO W w.heap.size [.int .i64 P,.int .i64 M,.slice am mn cm,.int .i64 m,.slice a n c]:=by rw [hW];exact (LZ _ _ _ rfl).alloc _
 have y0 : aO W (w.heap.size+1) [.slice aw nw cw,.slice at' nt ct]:=by rw [hW];exact LZ _ _ _ (by simp)
 clear hW;have HX : Hid (∀V,Mv W V->V.cell? ⟨w.heap.size,0,none⟩=some (.int .i64 P)/\V.cell? ⟨w.heap.size,1,none⟩=some (.int .i64 M)/\V.cell? ⟨w.heap.size,2,none⟩=some (.slice am mn cm)/\V.cell? ⟨w.heap.size,3,none⟩=some (.int .i64 m)/\V.cell? ⟨w.heap.size,4,none⟩=some (.slice a n c)/\V.cell? ⟨w.heap.size+1,0,none⟩=some (.slice aw nw cw)/\V.cell? ⟨w.heap.size+1,1,none⟩=some (.slice at' nt ct)):=λV hV=>by have x1:=x0.af hV;have y1:=y0.af hV;exact ⟨x1.cell 0 rfl,x1.cell 1 rfl,x1.cell 2 rfl,x1.cell 3 rfl,x1.cell 4 rfl,y1.cell 0 rfl,y1.cell 1 rfl⟩
 have HbW:=Z5 hbW;clear x0 y0 hbW;obtain ⟨c0,c1,c2,c3,c4,d0,d1⟩:=HX.out W (GS _ _);go_wp2_with fail;refine (HD.out W HbW.out).mono ?_;rintro e w1 ⟨a1,k1,a2,k2,rfl,hI1,hM1,hb1⟩;have hn1:=an w1 (.cells #[.int .i64 P,.int .i64 M,.slice a1 nm k1,.int .i64 m,.slice a2 nd k2] 27);have y1 : aO (w1.alloc (.cells #[.int .i64 P,.int .i64 M,.slice a1 nm k1,.int .i64 m,.slice a2 nd k2] 27)) w1.heap.size [.int .i64 P,.int .i64 M,.slice a1 nm k1,.int .i64 m,.slice a2 nd k2]:=LZ _ _ _ rfl;have hI1':=hI1.ints.af hn1;have hM1':=hM1.jX.af hn1;clear c0 c1 c2 c3 c4 d0 d1 hI1 hM1;go_upto_region 2 with fail;obtain ⟨U,hU⟩ : ∃U,w1.alloc (.cells #[.int .i64 P,.int .i64 M,.slice a1 nm k1,.int .i64 m,.slice a2 nd k2] 27)=U:=⟨_,rfl⟩
 rw [hU] at hn1 y1 hI1' hM1' ⊢;obtain ⟨g1,hg1⟩ : ∃g,w1.heap.size=g:=⟨_,rfl⟩
 rw [hg1] at y1 ⊢;have hbU:=LY hb1 hn1;have hF1:=LY HbW.out hbU;have HDc : Hid (∀V,Mv U V->V.cell? ⟨g1,0,none⟩=some (.int .i64 P)/\V.cell? ⟨g1,1,none⟩=some (.int .i64 M)/\V.cell? ⟨g1,2,none⟩=some (.slice a1 nm k1)/\V.cell? ⟨g1,3,none⟩=some (.int .i64 m)/\V.cell? ⟨g1,4,none⟩=some (.slice a2 nd k2)):=λV hV=>by have y:=y1.af hV;exact ⟨y.cell 0 rfl,y.cell 1 rfl,y.cell 2 rfl,y.cell 3 rfl,y.cell 4 rfl⟩
 have HH:=Z5 (λV ra rn rc x (hV : Mv U V) h=>HHas.out V a1 k1 a2 k2 ra rn rc x (hI1'.af hV) (hM1'.af hV) h);clear hU hg1 y1 hI1' hM1' HHas HD hn1 hb1;obtain ⟨c0,c1,c2,c3,c4,d0,d1⟩:=HX.out U hbU;by_cases h1 : (nw : Int)=m;rotate_left
 ·have e1 : ((nw : Int) != m)=true:=by simpa using h1
  have HF:=Z5 (HErr.out U 13 (by rw [HEl.out,GU (λh=>h1 h.1)]) (by decide) hF1);clear h1;go_wp2_with fail;exact HF.out
 obtain rfl : nw=m:=by omega
 by_cases h2 : (nt : Int)=nw;rotate_left
 ·have e1 : ((nw : Int) != nw)=false:=by simp
  have e2 : ((nt : Int) != nw)=true:=by simpa using h2
  have HF:=Z5 (HErr.out U 13 (by rw [HEl.out,GU (λh=>h2 h.2.1)]) (by decide) hF1);clear h1 h2;go_wp2_with fail;exact HF.out
 obtain rfl : nt=nw:=by omega
 have e1 : ((nt : Int) != nt)=false:=by simp
 have HF1:=Z5 (Hi hF1 hbU);clear h1 h2;go_wp2_with fail;clear c0 c1 c2 c3 c4 d0 d1 e1;go_loopw [8,39] (λsv iv wr=>∃(k : Nat) (a8 : OA) (c8 : Nat),k<=nt/\iv = .int .i64 k/\sv = .slice a8 k c8/\Hid (wr.ownsRow U.heap.size 3 1 (.slice a8 k c8) k ((LV k).map (Value.int .i64)))/\Mv U wr/\Hid (LT k=true)) (λ_ iv _=>nt - (intOf iv).toNat);case atStart=>exact ⟨0,none,0,G0 _,rfl,rfl,by show World.ownsRow _ _ _ _ _ _ _;rw [HV0.out.1];exact cF,GS _ _,HV0.out.2⟩
 case round =>
  obtain ⟨k,a8,c8,hk,rfl,rfl,Hown,hbr,Hlt⟩:=hrel
  by_cases hlt : k<nt
  ·have hbwr:=LY HF1.out.1 hbr
   obtain ⟨ra,rn,rc,hcell,hrw⟩:=(HI.out.1.af hbwr).cell k hlt
   have HRw:=Z5 hrw
   have HTk:=Z5 (HTn.out k hlt)
   have HSk:=Z5 (HTs.out k Hlt.out)
   have HVk1:=Z5 (HVk.out k hlt)
   have HTr:=Z5 ((HI.out.2.af hbwr).cell k hlt)
   have hok:=HOk.out k (ai WW k) (tC TT k)
   have HLk:=Z5 (HWl.out (ai WW k))
   have HHk:=Z5 (HH.out wr ra rn rc _ hbr hrw)
   have hpr:=hrw.pl
   obtain ⟨x,hx⟩ : ∃x,ai WW k=x:=⟨_,rfl⟩
   rw [hx] at HRw HTk HSk HVk1 hok HLk HHk
   obtain ⟨T,hT⟩ : ∃T,tC TT k=T:=⟨_,rfl⟩
   rw [hT] at HTk HSk hok HTr
   have HOkk:=Z5 hok
   obtain ⟨wE,hwE⟩ : ∃e,kb P M mod nt D x=e:=⟨_,rfl⟩
   obtain ⟨hV,hhV⟩ : ∃e,rK P M mod nt D x=e:=⟨_,rfl⟩
   rw [hwE,hhV] at HHk HOkk
   rw [hwE] at HLk
   obtain ⟨q0,q1,q2,q3,q4⟩:=HDc.out wr hbr
   have Hbr:=Z5 hbr
   clear hx hT hwE hhV hok hrw hbr hbwr
   go_wp2_with fail
   refine HHk.out.mono ?_
   rintro e w3 ⟨rfl,hb3⟩
   have hbr3:=LY Hbr.out hb3
   have hF3:=LY HF1.out.1 hbr3
   clear q0 q1 q2 q3 q4
   by_cases h0 : wE=0
   rotate_left
   ·have e0 : (wE != 0)=true:=by simpa using h0
    have HF:=Z5 (HErr.out w3 13 (HTk.out (by rw [HOkk.out,Ic h0];rfl)) (by decide) hF3)
    clear h0
    go_wp2_with fail
    exact HF.out
   subst h0
   have hxl:=HLk.out rfl
   have hrn : rn=nt:=by rw [<- HRw.out.len];exact hxl
   subst hrn
   cases hV
   ·have HF:=Z5 (HErr.out w3 13 (HTk.out (by rw [HOkk.out];simp)) (by decide) hF3)
    clear hxl
    go_wp2_with fail
    exact HF.out
   have hrw3:=HRw.out.af hb3
   have ck:=hrw3.cell k hlt
   have Hxl:=Z5 hxl
   have HRw3:=Z5 hrw3
   obtain ⟨y,hy⟩ : ∃y,nth x k=y:=⟨_,rfl⟩
   rw [hy] at ck HOkk
   have hk1 : (k : Int)<rn:=by omega
   clear hy hxl hrw3
   by_cases hy1 : y=1
   rotate_left
   ·have e0 : (y != 1)=true:=by simpa using hy1
    have HF:=Z5 (HErr.out w3 13 (HTk.out (by rw [HOkk.out,Ic hy1];simp)) (by decide) hF3)
    clear hy1
    go_wp2_with fail
    exact HF.out
   subst hy1
   have HZk:=Z5 (HZe.out w3 k hlt hF3)
   obtain ⟨vk,hvk⟩ : ∃vk,vc k=vk:=⟨_,rfl⟩
   obtain ⟨qv,hqv⟩ : ∃q,vk.length=q:=⟨_,rfl⟩
   have hck2:=λV a1 c1 a2 c2=>HCk.out V a1 c1 a2 c2 k ra rc x
   rw [hvk,hqv] at HZk hck2
   rw [hvk] at HOkk
   have HCk2:=Z5 hck2
   obtain ⟨c0,c1,c2,c3,c4,_,d1⟩:=HX.out w3 (LY HF1.out.2 hbr3)
   clear hvk hqv hck2
   go_wp2_with fail
   refine HZk.out.mono ?_
   rintro e w4 ⟨a3,k3,a4,k4,rfl,hI3,hM3,hb4⟩
   have hn4:=an w4 (.cells #[.int .i64 P,.int .i64 M,.slice a3 nm k3,.int .i64 rn,.slice a4 qv k4] 27)
   have y4 : aO (w4.alloc (.cells #[.int .i64 P,.int .i64 M,.slice a3 nm k3,.int .i64 rn,.slice a4 qv k4] 27)) w4.heap.size [.int .i64 P,.int .i64 M,.slice a3 nm k3,.int .i64 rn,.slice a4 qv k4]:=LZ _ _ _ rfl
   have hI3':=hI3.af hn4
   have hM3':=hM3.af hn4
   clear c0 c1 c2 c3 c4 d1 hI3 hM3 ck
   go_upto_region 14 with fail
   obtain ⟨V3,hV3⟩ : ∃V3,w4.alloc (.cells #[.int .i64 P,.int .i64 M,.slice a3 nm k3,.int .i64 rn,.slice a4 qv k4] 27)=V3:=⟨_,rfl⟩
   rw [hV3] at hn4 y4 hI3' hM3' ⊢
   have hb34:=LY hb4 hn4
   have hrV3:=HRw3.out.af hb34
   have hbr4:=LY hbr3 hb34
   obtain ⟨g3,hg3⟩ : ∃g,w4.heap.size=g:=⟨_,rfl⟩
   rw [hg3] at y4 ⊢
   obtain ⟨ab,nb,cb,hcT,hmT,_⟩:=HTr.out
   have hcT3:=ak (LY hb3 hb34) hcT
   have hmT3:=hmT.af (LY hb3 hb34)
   have hxm : oB x<=rn:=by have h:=Cd (x:=x);rw [Hxl.out] at h;exact h
   obtain ⟨wt,hwt⟩ : ∃wt,oB x=wt:=⟨_,rfl⟩
   rw [hwt] at hxm HOkk HVk1
   have w1' : IntKind.i64.wrap ((wt : Int) - 1)=(wt : Int) - 1:=Ha _ (by omega)
   have HW3 : Hid (∀V,Mv V3 V->Calls prog 76 #[.slice ra rn rc] V λe w'=>e = .returned (.int .i64 (wt : Nat))/\Mv V w'):=λV hV=>by rw [<- hwt];exact lY ra rn rc _ V (hrV3.af hV) (by omega)
   have HC3:=Z5 (λV (hV : Mv V3 V)=>HCk2.out V a3 k3 a4 k4 ((wt : Int) - 1) ab nb cb T (hI3'.af hV) (hM3'.af hV) (hrV3.af hV) (hmT3.af hV))
   obtain ⟨ce,hce⟩ : ∃ce,pf P M mod rn vk x ((wt : Int) - 1) T=ce:=⟨_,rfl⟩
   rw [hce] at HC3 HOkk
   have HS5 : Hid (∀V,Mv V3 V->V.cell? ⟨g3,0,none⟩=some (.int .i64 P)/\V.cell? ⟨g3,1,none⟩=some (.int .i64 M)/\V.cell? ⟨g3,2,none⟩=some (.slice a3 nm k3)/\V.cell? ⟨g3,3,none⟩=some (.int .i64 rn)/\V.cell? ⟨g3,4,none⟩=some (.slice a4 qv k4)/\V.cell? ⟨w.heap.size+1,1,none⟩=some (.slice at' rn ct)/\V.cell? ⟨ablk at',aL at'+k,none⟩=some (.slice ab nb cb)/\Mv V3 V):=λV hV=>by have y:=y4.af hV;obtain ⟨_,_,_,_,_,_,d1⟩:=HX.out V (LY (LY HF1.out.2 hbr4) hV);exact ⟨y.cell 0 rfl,y.cell 1 rfl,y.cell 2 rfl,y.cell 3 rfl,y.cell 4 rfl,d1,ak hV hcT3,hV⟩
   have HV3:=Z5 (Hi hb34 hbr4)
   have hsz4:=hbr4.size
   clear hV3 hg3 hI3' hM3' hrV3 hn4 hb4 y4 hcT hmT hcT3 hmT3 hwt hce hb34 hbr4
   obtain ⟨c0,c1,c2,c3,c4,d1,d2,_⟩:=HS5.out V3 (GS _ _)
   have e0 : ((0 : Int) != 0)=false:=rfl
   go_cut [84] (λv wx=>v = .bool (ce != 0)/\Mv V3 wx)
   case first =>
    go_region_held3 (λV=>V.cell? ⟨g3,0,none⟩=some (.int .i64 P)/\V.cell? ⟨g3,1,none⟩=some (.int .i64 M)/\V.cell? ⟨g3,2,none⟩=some (.slice a3 nm k3)/\V.cell? ⟨g3,3,none⟩=some (.int .i64 rn)/\V.cell? ⟨g3,4,none⟩=some (.slice a4 qv k4)/\V.cell? ⟨w.heap.size+1,1,none⟩=some (.slice at' rn ct)/\V.cell? ⟨ablk at',aL at'+k,none⟩=some (.slice ab nb cb)/\Mv V3 V)
     ((refine HS5.out _ ?_;first | exact (GS _ _).drew | assumption | (go_split_ands;first | assumption | exact LY (by assumption) (by assumption))))
     (first
      | (go_at_call 76;((with_reducible refine (HW3.out _ (by go_split_ands;assumption)).mono ?_);rintro e w5 ⟨rfl,hb5⟩;have hB5 : Mv V3 w5:=(by go_split_ands;exact LY (by assumption) hb5)))
      | (go_at_call 82;((with_reducible refine (HC3.out _ (by go_split_ands;assumption)).mono ?_);rintro e w6 ⟨rfl,hb6⟩;have hB6 : Mv V3 w6:=(by go_split_ands;exact LY (by assumption) hb6))))
    all_goals (
     go_wp2_with fail
     go_meet
     exact ⟨rfl,by go_split_ands;assumption⟩)
   obtain ⟨rfl,hbV⟩:=hcut
   generalize wc=V5 at *
   have hbr5:=LY HV3.out.2 hbV
   have hF5:=LY HF1.out.1 hbr5
   clear c0 c1 c2 c3 c4 d1 d2
   by_cases hc0 : ce=0
   rotate_left
   ·have e2 : (ce != 0)=true:=by simpa using hc0
    have HF:=Z5 (HErr.out V5 13 (HTk.out (by rw [HOkk.out,Ic hc0];simp)) (by decide) hF5)
    clear hc0
    go_wp2_with fail
    exact HF.out
   subst hc0
   have e2 : ((0 : Int) != 0)=false:=rfl
   have HLT1:=Z5 (HSk.out (by rw [HOkk.out];rfl))
   have HW5:=Z5 (HW3.out V5 hbV)
   go_wp2_with fail
   refine HW5.out.mono ?_
   rintro e w7 ⟨rfl,hb7⟩
   have hbr7:=LY hbr5 hb7
   have hcn:=bm w7 (.int .i64 ((wt : Int) - 1)) 3
   have hown7:=bj Hown.out (LY (LY (LY hb3 HV3.out.1) (LY hbV hb7)) (an w7 (.cells #[.int .i64 ((wt : Int) - 1)] 3)))
   have hs7:=hbr7.size
   go_wp2_with (at_builtin;refine aU rfl _ _ 22 3 rfl (.int .i64 0) 8 underlying22 bg rfl U.heap.size a8 k c8 _ rfl hown7 ⟨w7.heap.size,0,none⟩ 1 (.int .i64 ((wt : Int) - 1)) rfl hcn rfl (by omega) (by unfold maxLen;omega) (by simp;omega) ?_;intro a9 c9 w9 hown9 hgr9 hap9)
   go_roundw
   case rel=>exact ⟨k+1,a9,c9,by omega,by go_num,rfl,by show World.ownsRow _ _ _ _ _ _ _;rw [HVk1.out,II];exact hown9,L3 (LY hbr7 (an w7 (.cells #[.int .i64 ((wt : Int) - 1)] 3))) hown7 hgr9 (GQ _) (by simp;omega),HLT1.out⟩
   case measure=>simp [intOf] <;> omega
  ·obtain rfl : k=nt:=by omega
   have HF:=Z5 (HFin.out a8 c8 wr (by rw [HEl.out,GV (by first | exact ⟨rfl,rfl,Hlt.out⟩ | exact ⟨trivial,trivial,Hlt.out⟩)]) (L0 Hown.out).1 (LY HF1.out.1 hbr))
   go_wp2_with fail
   exact HF.out
def dotL (O : aM) (A C : LI) : Nat->Int
 | 0=>0
 | k+1=>O.add (dotL O A C k) (O.mul (nth A k) (nth C k))
theorem C5 {P M : Int} {mod : LI} (hB : ba P M mod=true) (am : OA) (mn cm : Nat) (a : OA) (n c : Nat) (A : LI) (b : OA) (d : Nat) (C : LI) (w : World) (hmod : Ints w am mn mod) (hA : Ints w a n A) (hC : Ints w b n C)
  (hAe : ∀k,k<n->(ah P M.toNat mod).El (nth A k)) (hCe : ∀k,k<n->(ah P M.toNat mod).El (nth C k)) :
  Calls prog 58 #[.agg #[.int .i64 P,.int .i64 M,.slice am mn cm],.slice a n c,.slice b n d] w λe w'=>e = .returned (.int .i64 (dotL (ah P M.toNat mod).ops A C n))/\Mv w w':=by
 have F:=dM hB;have hel : ∀k,k<=n->(ah P M.toNat mod).El (dotL (ah P M.toNat mod).ops A C k):=λk=>by
  induction k with
  | zero=>exact λ_=>F.zero
  | succ k ih=>exact λhk=>F.cl.add _ _ (ih (by omega)) (F.cl.mul _ _ (hAe k (by omega)) (hCe k (by omega)))
 have HM : Hid (∀V k,k<n->Mv w V->Calls prog 114 #[.agg #[.int .i64 P,.int .i64 M,.slice am mn cm],.int .i64 (nth A k),.int .i64 (nth C k)] V λe w'=>e = .returned (.int .i64 ((ah P M.toNat mod).ops.mul (nth A k) (nth C k)))/\Mv V w'):=λV k hk hV =>
  xB hB _ _ V (hmod.af hV) (hAe k hk) (hCe k hk)
 have HAd : Hid (∀V k,k<n->Calls prog 113 #[.agg #[.int .i64 P,.int .i64 M,.slice am mn cm],.int .i64 (dotL (ah P M.toNat mod).ops A C k),.int .i64 ((ah P M.toNat mod).ops.mul (nth A k) (nth C k))] V λe w'=>e = .returned (.int .i64 (dotL (ah P M.toNat mod).ops A C (k+1)))/\Mv V w'):=λV k hk =>
  yU hB _ _ V (hel k (by omega)) (F.cl.mul _ _ (hAe k hk) (hCe k hk))
 have HZ0 : Hid (dotL (ah P M.toNat mod).ops A C 0=0):=rfl;have hpA:=hA.pl;have hpC:=hC.pl;have hmx:=hA.max;unfold maxLen at hmx;generalize dotL (ah P M.toNat mod).ops A C=Z at *;generalize (ah P M.toNat mod).ops.mul=mu at *;have HI:=Z5 (Hi hA hC);clear hel hmod hA hC F hAe hCe hB;go_enter func58,ntmps58;go_upto_region 1 with fail;obtain ⟨W,hW⟩ : ∃W : World,W=w.alloc (.cells #[.int .i64 P,.int .i64 M,.slice am mn cm] 24):=⟨_,rfl⟩
 rw [<- hW];have hbW : Mv w W:=by rw [hW];exact an _ _
 have x0 : aO W w.heap.size [.int .i64 P,.int .i64 M,.slice am mn cm]:=by rw [hW];exact LZ _ _ _ rfl
 have HbW:=Z5 hbW;have HX:=Z5 x0;clear hW x0 hbW;go_wp2_with fail;go_loopw [7,8] (λov iv wr=>∃k : Nat,k<=n/\iv = .int .i64 k/\ov = .int .i64 (Z k)/\Mv W wr) (λ_ iv _=>n - (intOf iv).toNat);case atStart=>exact ⟨0,G0 _,rfl,by rw [HZ0.out],GS _ _⟩
 case round =>
  obtain ⟨k,hk,rfl,rfl,hbr⟩:=hrel
  generalize wr=U at *
  by_cases hlt : k<n
  ·have hbwU:=LY HbW.out hbr
   have HS : Hid (∀V,Mv U V->V.cell? ⟨w.heap.size,0,none⟩=some (.int .i64 P)/\V.cell? ⟨w.heap.size,1,none⟩=some (.int .i64 M)/\V.cell? ⟨w.heap.size,2,none⟩=some (.slice am mn cm)/\V.cell? ⟨ablk a,aL a+k,none⟩=some (.int .i64 (nth A k))/\V.cell? ⟨ablk b,aL b+k,none⟩=some (.int .i64 (nth C k))/\Mv U V):=λV hV=>by have y:=HX.out.af (LY hbr hV);exact ⟨y.cell 0 rfl,y.cell 1 rfl,y.cell 2 rfl,(HI.out.1.af (LY hbwU hV)).cell k hlt,(HI.out.2.af (LY hbwU hV)).cell k hlt,hV⟩
   have HMk:=Z5 (λV (hV : Mv U V)=>HM.out V k hlt (LY hbwU hV))
   have HAk:=Z5 (λV=>HAd.out V k hlt)
   obtain ⟨z,hz⟩ : ∃z,Z k=z:=⟨_,rfl⟩
   obtain ⟨x,hx⟩ : ∃x,nth A k=x:=⟨_,rfl⟩
   obtain ⟨y,hy⟩ : ∃y,nth C k=y:=⟨_,rfl⟩
   rw [hz,hx,hy] at HAk
   rw [hx,hy] at HMk HS
   rw [hz]
   obtain ⟨p,hp⟩ : ∃p,mu x y=p:=⟨_,rfl⟩
   rw [hp] at HAk HMk
   obtain ⟨c0,c1,c2,c3,c4,_⟩:=HS.out U (GS _ _)
   have hk1 : (k : Int)<n:=by omega
   have Hbr:=Z5 hbr
   clear hz hx hy hp hbr hbwU
   go_wp2_with fail
   go_region_held3 (λV=>V.cell? ⟨w.heap.size,0,none⟩=some (.int .i64 P)/\V.cell? ⟨w.heap.size,1,none⟩=some (.int .i64 M)/\V.cell? ⟨w.heap.size,2,none⟩=some (.slice am mn cm)/\V.cell? ⟨ablk a,aL a+k,none⟩=some (.int .i64 x)/\V.cell? ⟨ablk b,aL b+k,none⟩=some (.int .i64 y)/\Mv U V)
    ((refine HS.out _ ?_;first | exact (GS _ _).drew | assumption | (go_split_ands;first | assumption | exact LY (by assumption) (by assumption))))
    (first
     | (go_at_call 114;((with_reducible refine (HMk.out _ (by first | exact (GS _ _).drew | (go_split_ands;assumption))).mono ?_);rintro e w4 ⟨rfl,hb4⟩;have hB4 : Mv U w4:=(by first | exact LY (GS _ _).drew hb4 | (go_split_ands;exact LY (by assumption) hb4))))
     | (go_at_call 113;((with_reducible refine (HAk.out _).mono ?_);rintro e w5 ⟨rfl,hb5⟩;have hB5 : Mv U w5:=(by first | exact LY hB4 hb5 | exact LY hB4.drew hb5))))
   all_goals (
    go_wp2_with fail
    go_roundw
    case rel=>exact ⟨k+1,by omega,by go_num,rfl,LY Hbr.out (by first | exact hB5 | (go_split_ands;assumption))⟩
    case measure=>simp [intOf] <;> omega)
  ·obtain rfl : k=n:=by omega
   have hF:=LY HbW.out hbr
   go_wp2_with fail
   go_ret
   exact ⟨rfl,hF⟩
structure k8 (B : Nat) (V : World) (a1 : OA) (c1 : Nat) (l1 : LI) (a2 : OA) (c2 : Nat) (l2 : LI) : Prop where
 o1 : V.ownsRow B 3 1 (.slice a1 l1.length c1) l1.length (l1.map (Value.int .i64))
 o2 : V.ownsRow B 3 1 (.slice a2 l2.length c2) l2.length (l2.map (Value.int .i64))
 st : a1=none\/a2=none\/ablk a1 ≠ ablk a2
section
variable {B : Nat} {V V' w5 : World} {a1 a2 a5 : OA} {c1 c2 c5 : Nat} {l1 l2 : LI} {o : Obj} {x : Int}
theorem k8.af (h : k8 B V a1 c1 l1 a2 c2 l2) (hb : Mv V V') : k8 B V' a1 c1 l1 a2 c2 l2:=⟨bj h.o1 hb,bj h.o2 hb,h.st⟩
theorem k8.symm (h : k8 B V a1 c1 l1 a2 c2 l2) : k8 B V a2 c2 l2 a1 c1 l1:=⟨h.o2,h.o1,by rcases h.st with e | e | e;exact .inr (.inl e);exact .inl e;exact .inr (.inr λe2=>e e2.symm)⟩
theorem k8.start (B : Nat) (V : World) : k8 B V none 0 [] none 0 []:=⟨cF,cF,.inl rfl⟩
theorem k8.push (h : k8 B V a1 c1 l1 a2 c2 l2) (hown : w5.ownsRow B 3 1 (.slice a5 (l1.length+1) c5) (l1.length+1) (l1.map (Value.int .i64) ++ [.int .i64 x])) (hg : V.grownBy w5 (Value.slice a1 l1.length c1).ownBlock) (hap : ∀b,b<V.heap.size->eA a1 b->eA a5 b) :
  k8 B w5 a5 c5 (l1 ++ [x]) a2 c2 l2:=by
 have hne : a2 ≠ none->eA a1 (ablk a2):=λh2=>by
  rcases h.st with e | e | e
  ·exact .inl e
  ·exact absurd e h2
  ·exact .inr e
 refine ⟨by simpa using hown,uK h.o2 λh2=>hg.block _ (aS h.o2 h2).2 λe=>(hne h2).own _ _ e.symm,?_⟩;by_cases h2 : a2=none
 ·exact .inr (.inl h2)
 ·rcases hap _ (aS h.o2 h2).2 (hne h2) with e | e
  ·exact .inl e
  ·exact .inr (.inr e)
end
end Go.Proofs.YthglbncgemdcbaaGreat
