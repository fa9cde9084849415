import Derived.Test.YthglbncgemdcbaaGreatCE21
namespace Go.Proofs.YthglbncgemdcbaaGreat
set_option linter.all false
set_option maxRecDepth 100000
set_option maxHeartbeats 8000000
open Go.RowKit Go.Proofs.Tryz
def wV (P M:Int) (mod:LI) (c r k:Int) (w:World) (e:Ending) (w':World):Prop :=
 PY w w'/\((CN P M mod c r k ≠ 0/\e = .returned (.tuple #[.agg #[cG 0,cG 0,ds,cG 0,ds],cG (CN P M mod c r k)])) \/
  (CN P M mod c r k=0/\∃a1 c1 a2 c2,e = .returned (.tuple #[.agg #[cG P,cG M,.slice a1 mod.length c1,cG ((r.toNat+1) * c.toNat:Nat),.slice a2 (GG P M mod c.toNat r.toNat k.toNat).length c2],cG 0])/\bL w.heap.size w' a1 mod.length mod /\
  cF w.heap.size w' a2 (GG P M mod c.toNat r.toNat k.toNat).length (GG P M mod c.toNat r.toNat k.toNat)))
theorem GB (P M:Int) (am:OA) (mn cm:Nat) (mod:LI) (c r k:Int) (w:World) (hmod:Ints w am mn mod) (hmn:mn<=1000000) :
  Calls prog 25 #[.agg #[cG P,cG M,.slice am mn cm],cG c,cG r,cG k] w (wV P M mod c r k w):=by
 have HNew:Hid (∀V,PY w V->Calls prog 52 #[.agg #[cG P,cG M,.slice am mn cm]] V (BH P M mod V)):=λV hV=>dH P M am mn cm mod V (hmod.af hV);have HE1:Hid (bs P M mod=false->CN P M mod c r k=1):=Ki;have HPe:Hid (∀E w',E ≠ 0->CN P M mod c r k=E->PY w w'->wV P M mod c r k w (.returned (.tuple #[.agg #[cG 0,cG 0,ds,cG 0,ds],cG E])) w'):=λE w' h0 h1 h2=>⟨h2,.inl ⟨by rw [h1];exact h0,by rw [h1]⟩⟩
 have HP0:Hid (∀a1 c1 a2 c2 w',CN P M mod c r k=0->bL w.heap.size w' a1 mod.length mod->cF w.heap.size w' a2 (GG P M mod c.toNat r.toNat k.toNat).length (GG P M mod c.toNat r.toNat k.toNat)->PY w w' ->
   wV P M mod c r k w (.returned (.tuple #[.agg #[cG P,cG M,.slice a1 mod.length c1,cG ((r.toNat+1) * c.toNat:Nat),.slice a2 (GG P M mod c.toNat r.toNat k.toNat).length c2],cG 0])) w'):=λa1 c1 a2 c2 w' h0 h1 h2 h3=>⟨h3,.inr ⟨h0,a1,c1,a2,c2,rfl,h1,h2⟩⟩
 generalize hPost:wV P M mod c r k w=Post at *;clear hPost;have HBt:Hid (∀n V,Calls prog 64 #[cG n] V λe w'=>e = .returned (.bool (decide (1<=n) && decide (n<=64)))/\w'=V):=tX;have Hmod:=Z5 (K3 hmod hmn);clear hmod hmn;go_enter func25,ntmps25;go_upto_region 1 with fail;obtain ⟨W,hW⟩:∃W:World,W=((w.alloc (.cells #[cG P,cG M,.slice am mn cm] 24)).alloc (.cells #[cG 0,cG 0,ds,cG 0,ds] 27)):=⟨_,rfl⟩
 rw [<- hW];have hbW:PY w W:=by rw [hW];exact ((KU _ _).alloc (KT _) _).alloc (by simp) _
 have hsW:W.heap.size=w.heap.size+2:=by rw [hW];simp
 have x0:aQ W w.heap.size [cG P,cG M,.slice am mn cm]:=by rw [hW];exact (Po _ _ _ rfl).alloc _
 have z0:aQ W (w.heap.size+1) [cG 0,cG 0,ds,cG 0,ds]:=by rw [hW];exact Po _ _ _ (by simp)
 clear hW;have HX:=Z5 (K3 x0 z0);have HbW:=Z5 hbW;have HsW:=Z5 hsW;have HZ:Hid (∀V,PY W V->V.cell? ⟨w.heap.size+1,0,none⟩=some (cG 0)/\V.cell? ⟨w.heap.size+1,1,none⟩=some (cG 0)/\V.cell? ⟨w.heap.size+1,2,none⟩=some ds/\V.cell? ⟨w.heap.size+1,3,none⟩=some (cG 0)/\V.cell? ⟨w.heap.size+1,4,none⟩=some ds /\
   V.frozen? ⟨w.heap.size+1,0,none⟩=false/\V.frozen? ⟨w.heap.size+1,1,none⟩=false/\V.frozen? ⟨w.heap.size+1,2,none⟩=false/\V.frozen? ⟨w.heap.size+1,3,none⟩=false/\V.frozen? ⟨w.heap.size+1,4,none⟩=false):=λV hV=>by have z1:=z0.af hV;exact ⟨z1.cell 0 rfl,z1.cell 1 rfl,z1.cell 2 rfl,z1.cell 3 rfl,z1.cell 4 rfl,z1.frozen 0,z1.frozen 1,z1.frozen 2,z1.frozen 3,z1.frozen 4⟩
 have HEr:Hid (∀E V,PY W V->E ≠ 0->CN P M mod c r k=E->Post (.returned (.tuple #[.agg #[cG 0,cG 0,ds,cG 0,ds],cG E])) (((((V.setCell ⟨w.heap.size+1,0,none⟩ (cG 0)).setCell ⟨w.heap.size+1,1,none⟩ (cG 0)).setCell ⟨w.heap.size+1,2,none⟩ ds).setCell ⟨w.heap.size+1,3,none⟩ (cG 0)).setCell ⟨w.heap.size+1,4,none⟩ ds)):=λE V hV h0 h1 =>
  HPe E _ h0 h1 (((((Pm hbW hV).setCell (by simp) _).setCell (by simp) _).setCell (by simp) _).setCell (by simp) _ |>.setCell (by simp) _)
 have HZ5:Hid (∀V,PY W V->(((((V.setCell ⟨w.heap.size+1,0,none⟩ (cG 0)).setCell ⟨w.heap.size+1,1,none⟩ (cG 0)).setCell ⟨w.heap.size+1,2,none⟩ ds).setCell ⟨w.heap.size+1,3,none⟩ (cG 0)).setCell ⟨w.heap.size+1,4,none⟩ ds).cell? ⟨w.heap.size+1,0,none⟩=some (cG 0)/\(((((V.setCell ⟨w.heap.size+1,0,none⟩ (cG 0)).setCell ⟨w.heap.size+1,1,none⟩ (cG 0)).setCell ⟨w.heap.size+1,2,none⟩ ds).setCell ⟨w.heap.size+1,3,none⟩ (cG 0)).setCell ⟨w.heap.size+1,4,none⟩ ds).cell? ⟨w.heap.size+1,1,none⟩=some (cG 0)/\(((((V.setCell ⟨w.heap.size+1,0,none⟩ (cG 0)).setCell ⟨w.heap.size+1,1,none⟩ (cG 0)).setCell ⟨w.heap.size+1,2,none⟩ ds).setCell ⟨w.heap.size+1,3,none⟩ (cG 0)).setCell ⟨w.heap.size+1,4,none⟩ ds).cell? ⟨w.heap.size+1,2,none⟩=some ds/\(((((V.setCell ⟨w.heap.size+1,0,none⟩ (cG 0)).setCell ⟨w.heap.size+1,1,none⟩ (cG 0)).setCell ⟨w.heap.size+1,2,none⟩ ds).setCell ⟨w.heap.size+1,3,none⟩ (cG 0)).setCell ⟨w.heap.size+1,4,none⟩ ds).cell? ⟨w.heap.size+1,3,none⟩=some (cG 0)/\(((((V.setCell ⟨w.heap.size+1,0,none⟩ (cG 0)).setCell ⟨w.heap.size+1,1,none⟩ (cG 0)).setCell ⟨w.heap.size+1,2,none⟩ ds).setCell ⟨w.heap.size+1,3,none⟩ (cG 0)).setCell ⟨w.heap.size+1,4,none⟩ ds).cell? ⟨w.heap.size+1,4,none⟩=some ds):=λV hV=>by have z1:=(((((z0.af hV).setCell 0 (cG 0)).setCell 1 (cG 0)).setCell 2 ds).setCell 3 (cG 0)).setCell 4 ds;exact ⟨z1.cell 0 rfl,z1.cell 1 rfl,z1.cell 2 rfl,z1.cell 3 rfl,z1.cell 4 rfl⟩
 have c0:=x0.cell 0 rfl;have c1:=x0.cell 1 rfl;have c2:=x0.cell 2 rfl;clear x0 z0 hbW hsW;go_wp2_with fail;refine (HNew W HbW.out).mono ?_;rintro e U hpost;rcases hpost with ⟨hB,rfl,hb1⟩ | ⟨hB,b,rfl,hG,hbge,hb1⟩
 ·have HF:=Z5 (HEr.out 1 U hb1 (by decide) (HE1 hB));obtain ⟨z0,z1,z2,z3,z4,f0,f1,f2,f3,f4⟩:=HZ U hb1;obtain ⟨y0,y1,y2,y3,y4⟩:=HZ5 U hb1;clear hB c0 c1 c2;go_wp2_with fail;exact bodyPost_ret (v:=.tuple #[.agg #[cG 0,cG 0,ds,cG 0,ds],cG 1]) (by simp [results,results25,go_sem,y0,y1,y2,y3,y4]) rfl HF.out
 clear HE1 HNew c0 c1 c2;have hGU:dU U b (ah P M.toNat mod):=hG.gf;have HG:=Z5 hGU;have N:=Z5 hb1;have HB:=Z5 hB;have HE6:Hid (∀V,PY W V->(c<1\/64<c\/r<1\/64<r\/k<1\/64<k)->Post (.returned (.tuple #[.agg #[cG 0,cG 0,ds,cG 0,ds],cG 6])) (((((V.setCell ⟨w.heap.size+1,0,none⟩ (cG 0)).setCell ⟨w.heap.size+1,1,none⟩ (cG 0)).setCell ⟨w.heap.size+1,2,none⟩ ds).setCell ⟨w.heap.size+1,3,none⟩ (cG 0)).setCell ⟨w.heap.size+1,4,none⟩ ds)):=λV hV h =>
  HEr.out 6 V hV (by decide) (Kn hB h)
 clear hG hbge hb1 hB;obtain ⟨q,hq⟩:∃q,(ah P M.toNat mod).q=q:=⟨_,rfl⟩
 have HOr:Hid (∀V,PY U V->Calls prog 63 #[.pointer (some ⟨b,0,none⟩)] V λe w'=>e = .returned (cG q)/\V=w'):=λV hV=>by rw [<- hq];exact Bk (hGU.af hV)
 have hq2:2<=q/\q<=256:=by have:=hGU.q2;have:=hGU.q256;omega
 clear hGU;go_wp2_with fail;refine (HOr U (KU _ _)).mono ?_;rintro e V ⟨rfl,rfl⟩;by_cases hc:1<=c/\c<=64;case neg =>
  have hb:(decide (1<=c) && decide (c<=64))=false:=by simp;omega
  have H1:=HBt c
  rw [hb] at H1
  have H1:=Z5 H1
  have HF:=Z5 (HE6 U N.out (by omega))
  obtain ⟨z0,z1,z2,z3,z4,f0,f1,f2,f3,f4⟩:=HZ U N.out
  obtain ⟨y0,y1,y2,y3,y4⟩:=HZ5 U N.out
  clear hb hc
  go_wp2_with fail
  refine (H1 U).mono ?_
  rintro e V ⟨rfl,rfl⟩
  go_wp2_with fail
  exact bodyPost_ret (v:=.tuple #[.agg #[cG 0,cG 0,ds,cG 0,ds],cG 6]) (by simp [results,results25,go_sem,y0,y1,y2,y3,y4]) rfl HF.out
 have hb1:(decide (1<=c) && decide (c<=64))=true:=by simp;omega
 have H1:=HBt c;rw [hb1] at H1;have H1:=Z5 H1;clear hb1;by_cases hr:1<=r/\r<=64;case neg =>
  have hb:(decide (1<=r) && decide (r<=64))=false:=by simp;omega
  have H2:=HBt r
  rw [hb] at H2
  have H2:=Z5 H2
  have HF:=Z5 (HE6 U N.out (by omega))
  obtain ⟨z0,z1,z2,z3,z4,f0,f1,f2,f3,f4⟩:=HZ U N.out
  obtain ⟨y0,y1,y2,y3,y4⟩:=HZ5 U N.out
  clear hb hc hr
  go_wp2_with fail
  refine (H1 U).mono ?_
  rintro e V ⟨rfl,rfl⟩
  go_wp2_with fail
  refine (H2 V).mono ?_
  rintro e V ⟨rfl,rfl⟩
  go_wp2_with fail
  exact bodyPost_ret (v:=.tuple #[.agg #[cG 0,cG 0,ds,cG 0,ds],cG 6]) (by simp [results,results25,go_sem,y0,y1,y2,y3,y4]) rfl HF.out
 have hb2:(decide (1<=r) && decide (r<=64))=true:=by simp;omega
 have H2:=HBt r;rw [hb2] at H2;have H2:=Z5 H2;clear hb2;by_cases hk:1<=k/\k<=64;case neg =>
  have hb:(decide (1<=k) && decide (k<=64))=false:=by simp;omega
  have H3:=HBt k
  rw [hb] at H3
  have H3:=Z5 H3
  have HF:=Z5 (HE6 U N.out (by omega))
  obtain ⟨z0,z1,z2,z3,z4,f0,f1,f2,f3,f4⟩:=HZ U N.out
  obtain ⟨y0,y1,y2,y3,y4⟩:=HZ5 U N.out
  clear hb hc hr hk
  go_wp2_with fail
  refine (H1 U).mono ?_
  rintro e V ⟨rfl,rfl⟩
  go_wp2_with fail
  refine (H2 V).mono ?_
  rintro e V ⟨rfl,rfl⟩
  go_wp2_with fail
  refine (H3 V).mono ?_
  rintro e V ⟨rfl,rfl⟩
  go_wp2_with fail
  exact bodyPost_ret (v:=.tuple #[.agg #[cG 0,cG 0,ds,cG 0,ds],cG 6]) (by simp [results,results25,go_sem,y0,y1,y2,y3,y4]) rfl HF.out
 have hb3:(decide (1<=k) && decide (k<=64))=true:=by simp;omega
 have H3:=HBt k;rw [hb3] at H3;have H3:=Z5 H3;clear hb3 HE6 HBt;go_wp2_with fail;refine (H1 U).mono ?_;rintro e V ⟨rfl,rfl⟩;go_wp2_with fail;refine (H2 V).mono ?_;rintro e V ⟨rfl,rfl⟩;go_wp2_with fail;refine (H3 V).mono ?_;rintro e U ⟨rfl,rfl⟩;clear H1 H2 H3;obtain ⟨cn,A⟩:∃n:Nat,c=n:=⟨c.toNat,by omega⟩
 obtain ⟨rn,hrn⟩:∃n:Nat,r=n:=⟨r.toNat,by omega⟩
 obtain ⟨kn,hkn⟩:∃n:Nat,k=n:=⟨k.toNat,by omega⟩
 obtain ⟨Q,hqQ⟩:∃Q,q=Q+1:=⟨q - 1,by omega⟩
 have hin:=JE (c:=cn) (r:=rn) (k:=kn) HB.out (hq.trans hqQ) (by omega) (by omega) (by omega);rw [<- A,<- hrn,<- hkn] at hin;obtain ⟨R,hR⟩:∃R,rn+1=R:=⟨_,rfl⟩
 rw [hR] at hin;obtain ⟨x1,hx1⟩:∃x,Q % R=x:=⟨_,rfl⟩
 obtain ⟨yq,hy1⟩:∃x,Q / R=x:=⟨_,rfl⟩
 obtain ⟨H,hZ1⟩:∃x,cn * R=x:=⟨_,rfl⟩
 obtain ⟨Z2,hZ2⟩:∃x,cn * rn=x:=⟨_,rfl⟩
 rw [hx1,hy1,hZ1,hZ2] at hin;have hyQ:yq<=Q:=by rw [<- hy1];exact NP _ _
 have hZ1b:H<=64 * 65:=by rw [<- hZ1];exact Ng (by omega) (by omega)
 have hZ2b:Z2<=64 * 64:=by rw [<- hZ2];exact Ng (by omega) (by omega)
 obtain ⟨Ri,hRi⟩:∃Ri:Int,Ri=(R:Int):=⟨_,rfl⟩
 obtain ⟨Qi,hQi⟩:∃Qi:Int,Qi=(Q:Int):=⟨_,rfl⟩
 obtain ⟨xi,hxi⟩:∃xi:Int,xi=(x1:Int):=⟨_,rfl⟩
 obtain ⟨yi,hyi⟩:∃yi:Int,yi=(yq:Int):=⟨_,rfl⟩
 obtain ⟨zi,hzi⟩:∃zi:Int,zi=(H:Int):=⟨_,rfl⟩
 obtain ⟨ti,hti⟩:∃ti:Int,ti=(Z2:Int):=⟨_,rfl⟩
 have wR:IntKind.i64.wrap (r+1)=Ri:=by rw [show r+1=Ri by omega];exact La _ (by omega)
 have wQ:IntKind.i64.wrap ((q:Int) - 1)=Qi:=by rw [show (q:Int) - 1=Qi by omega];exact La _ (by omega)
 have hR0:(Ri == 0)=false:=by rw [beq_eq_false_iff_ne];omega
 have hR0p:Ri ≠ 0:=by omega
 have tx:Qi.tmod Ri=xi:=by rw [hRi,hQi,hxi,Mf (by omega),<- hx1];simp
 have ty:Qi.tdiv Ri=yi:=by rw [hRi,hQi,hyi,NY (by omega),<- hy1];simp
 have wy:IntKind.i64.wrap yi=yi:=La _ (by omega);have wZ1:IntKind.i64.wrap (c * Ri)=zi:=by rw [show c * Ri=zi by rw [A,hRi,hzi,<- hZ1];simp];exact La _ (by omega)
 have wZ2:IntKind.i64.wrap (c * r)=ti:=by rw [show c * r=ti by rw [A,hrn,hti,<- hZ2];simp];exact La _ (by omega)
 have hin:=Z5 hin;have HDef:=Z5 (K3 hR (K3 hx1 (K3 hy1 (K3 hZ1 hZ2))));have HRi:=Z5 (K3 hRi (K3 hQi (K3 hqQ (K3 hxi (K3 hyi (K3 hzi hti))))));have Y:=Z5 (K3 hc (K3 hr (K3 hk (K3 hyQ (K3 hZ1b (K3 hZ2b (K3 hq (K3 hq2 (K3 A (K3 hrn hkn))))))))));have HD1:Hid (xi ≠ 0->x1 ≠ 0):=λh h2=>h (by omega);have HD2:Hid (yi<c ↔ yq<cn):=by show _ ↔ _;omega
 have HD3:Hid (64<zi ↔ 64<H):=by show _ ↔ _;omega
 have HD4:Hid (ti<k ↔ Z2<kn):=by show _ ↔ _;omega
 clear hR hx1 hy1 hZ1 hZ2 hRi hQi hqQ hc hr hk hyQ hZ1b hZ2b hq hq2 hxi hyi hzi hti A hrn hkn;by_cases h1:xi=0;case neg =>
  have d1:(xi != 0)=true:=by simp;omega
  have HF:=Z5 (HEr.out 10 U N.out (by decide) (by rw [hin.out,KX (.inl (HD1 h1))]))
  obtain ⟨z0,z1,z2,z3,z4,f0,f1,f2,f3,f4⟩:=HZ U N.out
  obtain ⟨y0,y1,y2,y3,y4⟩:=HZ5 U N.out
  clear h1
  go_wp2_with fail
  exact bodyPost_ret (v:=.tuple #[.agg #[cG 0,cG 0,ds,cG 0,ds],cG 10]) (by simp [results,results25,go_sem,y0,y1,y2,y3,y4]) rfl HF.out
 have d1:(xi != 0)=false:=by simp;omega
 by_cases h2:yi<c;case pos =>
  have d2:decide (yi<c)=true:=Lj h2
  have HF:=Z5 (HEr.out 10 U N.out (by decide) (by rw [hin.out,KX (.inr (HD2.1 h2))]))
  obtain ⟨z0,z1,z2,z3,z4,f0,f1,f2,f3,f4⟩:=HZ U N.out
  obtain ⟨y0,y1,y2,y3,y4⟩:=HZ5 U N.out
  clear h1 h2
  go_wp2_with fail
  exact bodyPost_ret (v:=.tuple #[.agg #[cG 0,cG 0,ds,cG 0,ds],cG 10]) (by simp [results,results25,go_sem,y0,y1,y2,y3,y4]) rfl HF.out
 have d2:decide (yi<c)=false:=Lp h2;have hx10:x1=0:=by have:=HRi.2.2.2.1;omega
 have B:=hin.out;rw [KY (by rintro (h | h);exact h hx10;exact h2 (HD2.2 h))] at B;by_cases h3:64<zi;case pos =>
  have d3:decide (64<zi)=true:=Lj h3
  have HF:=Z5 (HEr.out 4 U N.out (by decide) (by rw [B,KX (HD3.1 h3)]))
  obtain ⟨z0,z1,z2,z3,z4,f0,f1,f2,f3,f4⟩:=HZ U N.out
  obtain ⟨y0,y1,y2,y3,y4⟩:=HZ5 U N.out
  clear h1 h2 h3 B hx10
  go_wp2_with fail
  exact bodyPost_ret (v:=.tuple #[.agg #[cG 0,cG 0,ds,cG 0,ds],cG 4]) (by simp [results,results25,go_sem,y0,y1,y2,y3,y4]) rfl HF.out
 have d3:decide (64<zi)=false:=Lp h3;rw [KY λh=>h3 (HD3.2 h)] at B;by_cases h4:ti<k;case pos =>
  have d4:decide (ti<k)=true:=Lj h4
  have HF:=Z5 (HEr.out 9 U N.out (by decide) (by rw [B,KX (HD4.1 h4)]))
  obtain ⟨z0,z1,z2,z3,z4,f0,f1,f2,f3,f4⟩:=HZ U N.out
  obtain ⟨y0,y1,y2,y3,y4⟩:=HZ5 U N.out
  clear h1 h2 h3 h4 B hx10
  go_wp2_with fail
  exact bodyPost_ret (v:=.tuple #[.agg #[cG 0,cG 0,ds,cG 0,ds],cG 9]) (by simp [results,results25,go_sem,y0,y1,y2,y3,y4]) rfl HF.out
 have d4:decide (ti<k)=false:=Lp h4;rw [KY λh=>h4 (HD4.2 h)] at B;have HE0:=Z5 B;clear B;have HS13:=Z5 (K3 h1 (K3 h2 (K3 h3 (K3 h4 hx10))));clear h1 h2 h3 h4 hx10;go_upto_region 13 with fail;clear tx ty wy wZ2 d1 d2 d3 d4 hR0 hR0p wQ;obtain ⟨hc,hr,hk,hyQ,hZ1b,hZ2b,hq,hq2,A,hrn,hkn⟩:=Y.out;obtain ⟨hRi,hQi,hqQ,hxi,hyi,hzi,hti⟩:=HRi.out;obtain ⟨h1,h2,h3,h4,hx10⟩:=HS13.out;obtain ⟨e1,e2,e3,e4,e5⟩:=HDef.out;clear Y HRi HS13 HDef HD1 HD2 HD3 HD4 hin;have hplan:=H8 (k:=0) (c:=cn) HB.out (hq.trans hqQ) (r:=rn) (by omega) (by rw [e1,e2];exact hx10) (by rw [e1,e3];omega);rw [e1] at hplan;have hN:R * cn=H:=by rw [Me];exact e4
 rw [hN] at hplan;have HPw0:Hid (∀V (x n:Nat),PY U V->1<=x->x<q->n<=1000000->Calls prog 65 #[.pointer (some ⟨b,0,none⟩),cG x,cG n] V λe w'=>∃k,e = .returned (.tuple #[cG (fB (ah P M.toNat mod).ops x n),cG 0])/\w'=V.drewN k):=λV x n hV F h6 h7 =>
  KA HB.out n (HG.af hV) (show 0<=(x:Int)/\(x:Int)<((ah P M.toNat mod).q:Nat) by rw [hq];omega) (by omega) h7
 have HtbS:Hid (GG P M mod c.toNat r.toNat k.toNat=bI (ah P M.toNat mod).ops H (iy (ah P M.toNat mod).ops (zT (ah P M.toNat mod).ops (ah P M.toNat mod).q rn cn) (gq rn) kn)):=by show _=_;rw [A,hrn,hkn,KV,KV,KV,GG,Jr,e1,hN]
 have HNN:Hid ((r.toNat+1) * c.toNat=H):=by show _=_;rw [A,hrn,KV,KV,e1,hN]
 obtain ⟨g1,g2,g3,g4,g5,g6⟩:=hplan;have HFl:=Z5 (dO HB.out);rw [<- hqQ] at g1 g2 g3;obtain ⟨ux,hux⟩:∃f,(λx=>Cn (ah P M.toNat mod).ops R x)=f:=⟨_,rfl⟩
 have hu1:ux 1=[]:=by rw [<- hux];exact IK R
 have HuT:Hid (∀x:Nat,1<=x->fB (ah P M.toNat mod).ops (x:Int) R=1->ux (x+1)=ux x ++ [(x:Int)]):=λx F h6=>by rw [<- hux];exact zj F h6
 have HuS:Hid (∀x:Nat,1<=x->fB (ah P M.toNat mod).ops (x:Int) R ≠ 1->ux (x+1)=ux x):=λx F h6=>by rw [<- hux];exact zK F h6
 have HuL:Hid (∀x,(ux x).length<=x):=λx=>by rw [<- hux];exact vh R x
 have euq:Cn (ah P M.toNat mod).ops R q=ux q:=by rw [<- hux]
 rw [euq] at g1 g2 g3;obtain ⟨D,hpx⟩:∃f,(λx=>Ck (ah P M.toNat mod).ops (ux q) H x)=f:=⟨_,rfl⟩
 obtain ⟨X,hX⟩:∃X,zT (ah P M.toNat mod).ops (ah P M.toNat mod).q rn cn=X:=⟨_,rfl⟩
 rw [hX] at g3 g4 g5 HtbS;have hp1:D 1=[]:=by rw [<- hpx];exact GV _ _
 have HpT:Hid (∀x:Nat,1<=x->(D x).length<H->¬ (x:Int) ∈ D x->D (x+1)=D x ++ cO ((ux q).map ((ah P M.toNat mod).mul (x:Int)))):=λx F h6 h7=>by rw [<- hpx] at h6 h7 ⊢;exact Ft F h6 h7
 have HpS:Hid (∀x:Nat,1<=x->(x:Int) ∈ D x->D (x+1)=D x):=λx F h6=>by rw [<- hpx] at h6 ⊢;exact FQ F h6
 have HpE:Hid (∀x,x<=q->H<=(D x).length->D x=X):=λx F h6=>by rw [<- hpx] at h6 ⊢;rw [<- g3];exact Gu F h6
 have HpQ:Hid (D q=X):=by show _=_;rw [<- hpx];exact g3
 have HZN:Hid (1<=H/\H<=64):=by refine ⟨?_,by omega⟩;have:=Ng (show 1<=R by omega) (show 1<=cn by omega);omega
 have HRw:Hid (dE P M mod H (iy (ah P M.toNat mod).ops X (gq rn) kn)=0):=by refine ki HB.out (by omega) (by unfold iy;simp;omega) λrr hrr=>?_;obtain ⟨j,_,rfl⟩:=List.mem_map.1 hrr;refine ⟨by rw [Lc];exact g4,λy hy=>?_⟩;obtain ⟨u,hu,rfl⟩:=List.mem_map.1 hy;exact eU HFl.out (g5 u hu).1 _
 have HU:=Z5 (K3 g1 g2);have HXp:=Z5 (K3 g4 g5);have HMul:Hid (∀x y,(ah P M.toNat mod).El x->(ah P M.toNat mod).El y->(ah P M.toNat mod).El ((ah P M.toNat mod).mul x y)):=λx y=>HFl.cl.mul x y;have HMk:=Z5 (K3 HB.out hq);obtain ⟨G,hGG⟩:∃G,ah P M.toNat mod=G:=⟨_,rfl⟩
 rw [hGG] at HPw0 HuT HuS HpT HU HXp HG HFl HMul HtbS HRw;obtain ⟨pw,hpw⟩:∃f:Nat->Nat->Int,(λ(x n:Nat)=>fB G.ops (x:Int) n)=f:=⟨_,rfl⟩
 have HPw:Hid (∀V (x n:Nat),PY U V->1<=x->x<q->n<=1000000->Calls prog 65 #[.pointer (some ⟨b,0,none⟩),cG x,cG n] V λe w'=>∃k,e = .returned (.tuple #[cG (pw x n),cG 0])/\w'=V.drewN k):=by rw [<- hpw];exact HPw0
 have HuT:Hid (∀x:Nat,1<=x->pw x R=1->ux (x+1)=ux x ++ [(x:Int)]):=by rw [<- hpw];exact HuT
 have HuS:Hid (∀x:Nat,1<=x->pw x R ≠ 1->ux (x+1)=ux x):=by rw [<- hpw];exact HuS
 have Hpw:=Z5 hpw;have HGG:=Z5 (K3 hGG (K3 hq hqQ));have Y:=Z5 (K3 hc (K3 hr (K3 hk (K3 A (K3 hrn (K3 hkn e1))))));have hRb:R<=65:=by omega
 have hR2:2<=R:=by omega
 subst hRi hzi;clear hux hpx hX hpw hGG hq hqQ g1 g2 g3 g4 g5 g6 HPw0 h1 h2 h3 h4 hx10 e1 e2 e3 e4 e5 hN hQi hxi hyi hti hyQ hc hr hk A hrn hkn hZ2b euq;go_wp2_with fail;go_loopw [13,15] (λsv iv wr=>∃(x:Nat) (a1:OA) (c1:Nat),1<=x/\x<=q/\iv = cG x/\sv = .slice a1 (ux x).length c1/\wr.ownsRow U.heap.size 3 1 (.slice a1 (ux x).length c1) (ux x).length ((ux x).map (Value.int .i64))/\PY U wr)
  (λ_ iv _=>q - (intOf iv).toNat)
 case atStart=>exact ⟨1,none,0,KT _,by omega,rfl,by rw [hu1];rfl,by rw [hu1];exact ⟨rfl,.inl ⟨rfl,rfl⟩⟩,KU _ _⟩
 case round =>
  obtain ⟨x,a1,c1,hx1,hxq,rfl,rfl,Z,K⟩:=hrel
  by_cases hlt:x<q
  ·have hxl:=HuL x
   have HP1:=Z5 (HPw wr x R K hx1 hlt (by omega))
   have hbz:=below_drewN K
   by_cases hp:pw x R=1
   ·have hu:Hid (ux (x+1)=ux x ++ [(x:Int)]):=HuT x hx1 hp
    generalize ux x=out at *
    rw [hp] at HP1
    clear hp
    go_wp2_with fail
    refine HP1.mono ?_
    rintro e w2 ⟨kk,rfl,rfl⟩
    have hbr2:=below_drewN K kk
    have C:=bf Z (below_drewN (KU _ _) kk)
    clear Z
    generalize wr.drewN kk=w2 at *
    have A:=bm w2 (cG x) 3
    have hbn:=an w2 (.cells #[cG x] 3)
    have hsz:=hbr2.size
    go_wp2_with (at_builtin;refine aS rfl _ _ 22 3 rfl (cG 0) 8 underlying22 bh rfl U.heap.size a1 out.length c1 _ rfl (C.alloc _) ⟨w2.heap.size,0,none⟩ 1 (cG x) rfl A rfl (by omega) (by unfold maxLen;omega) (by simp;omega) ?_;intro a5 c5 w5 hown5 hgr5 hap5)
    go_roundw
    case rel =>
     refine ⟨x+1,a5,c5,by omega,by omega,by go_num,by rw [hu.out];simp,?_,Pp (L5 hbr2 (hbn.mono hsz)) (C.alloc _) hgr5 (KT _) (K9 hsz hbn.size)⟩
     rw [hu.out];simpa using hown5
    case measure=>simp [intOf] <;> omega
   ·have hu:Hid (ux (x+1)=ux x):=HuS x hx1 hp
    have hpb:(pw x R == 1)=false:=by rw [beq_eq_false_iff_ne];exact hp
    generalize ux x=out at *
    clear hp
    go_wp2_with fail
    refine HP1.mono ?_
    rintro e w2 ⟨kk,rfl,rfl⟩
    have hbr2:=below_drewN K kk
    have C:=bf Z (below_drewN (KU _ _) kk)
    clear Z
    generalize wr.drewN kk=w2 at *
    go_wp2_with fail
    go_roundw
    case rel=>exact ⟨x+1,a1,c1,by omega,by omega,by go_num,by rw [hu.out],by rw [hu.out];exact C,hbr2⟩
    case measure=>simp [intOf] <;> omega
  ·obtain rfl:x=q:=by omega
   have hUl:=HU.1
   have hown1:=aY Z (KT _)
   rw [hUl] at hown1
   have hUi:Ints wr a1 R (ux x):=(Pn hown1).1
   have HUe:=Z5 HU.2
   have HUi:=Z5 hUi
   have HbW1:=Z5 K
   obtain ⟨UU,hUU⟩:∃UU,ux x=UU:=⟨_,rfl⟩
   rw [hUU] at HUe HUi HpT hUl
   have HUl:=Z5 hUl
   have hl0:(ux x).length=R:=by rw [hUU];exact hUl
   rw [hl0]
   clear Z hown1 hUi HU HuT HuS HuL hUl hUU hu1 hl0 K hlt
   clear hx1 hxq
   generalize wr=W1 at *
   generalize hxx:x=q at *
   clear hxx
   go_wp2_with (at_make;refine bV rfl _ _ 90 4 rfl (.bool false) 1 underlying90 zD rfl q rfl rfl (by omega) (by unfold maxLen;omega) ?_;intro a8 W2 hown8 hbel8 hge8 hlt8)
   have hown8:W2.ownsRow W1.heap.size 4 1 (.slice a8 q q) q ((jC q (D 1)).map Value.bool):=by rw [hp1,Ed,Mv];exact hown8
   have hs1:0<W1.heap.size:=by have h1:=HsW.out;have h2:=N.size;have h3:=HbW1.size;omega
   have Hge:=Z5 (K3 hge8 (K3 hlt8 hs1))
   have ha8:a8 ≠ none:=by rintro rfl;have:(0:Nat)=ablk none:=rfl;omega
   have HCf:Hid (∀V,PY W1 V->dU V b G/\Ints V a1 R UU):=λV hV=>⟨HG.af (Pm HbW1.out hV),HUi.af hV⟩
   have hbel8s:=hbel8.size
   clear hge8 hlt8 hs1
   go_loopw [14,19] (λsv iv wr=>∃(x:Nat) (a4:OA) (c4:Nat),1<=x/\x<=q/\(D x).length<=5000/\iv = cG x/\sv = .slice a4 (D x).length c4/\wr.ownsRow W2.heap.size 3 1 (.slice a4 (D x).length c4) (D x).length ((D x).map (Value.int .i64)) /\
     wr.ownsRow W1.heap.size 4 1 (.slice a8 q q) q ((jC q (D x)).map Value.bool)/\PY W1 wr/\W2.heap.size<=wr.heap.size)
    (λ_ iv _=>q - (intOf iv).toNat)
   case atStart=>exact ⟨1,none,0,KT _,by omega,by rw [hp1];simp,rfl,by rw [hp1];rfl,by rw [hp1];exact ⟨rfl,.inl ⟨rfl,rfl⟩⟩,hown8,hbel8,KT _⟩
   case round =>
    clear hown8 hbel8
    obtain ⟨x,a4,c4,hx1,hxq,hl5,rfl,rfl,Z,hus,K,hsz⟩:=hrel
    by_cases hgo:x<q/\(D x).length<H
    ·obtain ⟨hlt,hlz⟩:=hgo
     obtain ⟨hbl,hmi⟩:=PX hus
     have hcx:=hbl.cell x hlt
     have hplb:=hbl.pl
     rw [AU _ hlt] at hcx
     by_cases hin8:(x:Int) ∈ D x
     ·have hd:decide ((x:Int) ∈ D x)=true:=Lj hin8
      rw [hd] at hcx
      have hp:Hid (D (x+1)=D x):=HpS x hx1 hin8
      clear hin8 hd hmi hbl
      generalize D x=out at *
      go_wp2_with fail
      go_roundw
      case rel=>exact ⟨x+1,a4,c4,by omega,by omega,by rw [hp.out];exact hl5,by go_num,by rw [hp.out],by rw [hp.out];exact Z,by rw [hp.out];exact hus,K,hsz⟩
      case measure=>simp [intOf] <;> omega
     ·have hd:decide ((x:Int) ∈ D x)=false:=Lp hin8
      rw [hd] at hcx
      have hp:Hid (D (x+1)=D x ++ cO (UU.map (G.mul x))):=HpT x hx1 hlz hin8
      have HSc:Hid (Calls prog 66 #[.pointer (some ⟨b,0,none⟩),cG x,.slice a1 R c1] wr (cQ wr (UU.map (G.mul x)))):=by obtain ⟨F,h6⟩:=HCf wr K;exact xb (x:Int) a1 R c1 UU F (show 0<=(x:Int)/\(x:Int)<(G.q:Nat) by rw [<- HGG.1,HGG.2.1];omega) h6 HUe.out (by omega)
      have HCe:Hid (∀y ∈ cO (UU.map (G.mul x)),0<=y/\y<q):=λy hy=>by
       obtain ⟨u,hu,rfl⟩:=List.mem_map.1 ((dC _).mem_iff.1 hy);have F:=HMul x u (show 0<=(x:Int)/\(x:Int)<(G.q:Nat) by rw [<- HGG.1,HGG.2.1];omega) (HUe u hu);have h6:0<=G.mul x u/\G.mul x u<(G.q:Nat):=F;have h7:G.q=q:=by rw [<- HGG.1];exact HGG.2.1
       rw [h7] at h6;exact ⟨h6.1,by omega⟩
      have hml:(UU.map (G.mul x)).length=R:=by rw [Lc];exact HUl
      have hmls:(cO (UU.map (G.mul x))).length=R:=by rw [(dC _).length_eq];exact hml
      obtain ⟨M0,hM0⟩:∃l,UU.map (G.mul x)=l:=⟨_,rfl⟩
      rw [hM0] at hp HSc HCe hml hmls
      have Hms:=Z5 hmls
      clear hin8 hd hmi hbl hM0 hmls
      generalize hpxo:D x=out at *
      clear hpxo
      unfold cQ at HSc
      rw [hml] at HSc
      go_wp2_with fail
      refine HSc.mono ?_
      rintro e w3 ⟨a3,c3,rfl,hown3,hb3⟩
      have hs3:=hb3.size
      have HSo:=Z5 (sN wr.heap.size a3 R c3 M0 w3 hown3 hs3 (by omega))
      clear hown3
      go_wp2_with fail
      refine HSo.mono ?_
      rintro e w5 ⟨rfl,hown5,_,hb5⟩
      have hs5:=hb5.size
      have hsrt:=(Pn hown5).1
      have hpls:=hsrt.pl
      have hb35:PY wr w5:=hb3.trans hb5
      have hus5:=bf hus hb35
      have hownp5:=bf Z hb35
      have HB5:Hid (PY W1 w5):=Pm K hb35
      have h3w:wr.heap.size<=ablk a3:=((dR hown5 (by omega))).1
      obtain ⟨cs,hcs⟩:∃cs,cO M0=cs:=⟨_,rfl⟩
      rw [hcs] at hp Hms hsrt HCe
      clear hcs hus Z hown5 hb5 hb3 hb35 HSo
      go_wp2_with fail
      go_loopw [133] (λjv ws=>∃t:Nat,t<=R/\jv = cG t/\ws.ownsRow W1.heap.size 4 1 (.slice a8 q q) q ((jC q (out ++ cs.take t)).map Value.bool)/\db a8 w5 ws) (λjv _=>R - (intOf jv).toNat)
      case atStart=>exact ⟨0,K0 _,rfl,by simpa using hus5,PD _ _⟩
      case round =>
       clear hus5
       obtain ⟨t,ht,rfl,hut,hon⟩:=hrel
       have hsrt5:=hon.ints hsrt (.inr (.inr (by have:=Hge.2.1;omega)))
       by_cases hltt:t<R
       ·have cq:=hsrt5.cell t hltt
        have hb:=HCe _ (aG (l:=cs) (i:=t) (by rw [Hms.out];exact hltt))
        obtain ⟨z,hz⟩:∃z:Nat,nth cs t=z:=⟨(nth cs t).toNat,by omega⟩
        have hzq:z<q:=by omega
        obtain ⟨hbl,hmi⟩:=PX hut
        have hfz:=(hmi (by omega)).2 z hzq
        have hcz:=hbl.cell z hzq
        have hnx:Hid (out ++ cs.take (t+1)=(out ++ cs.take t) ++ [(z:Int)]):=by show _=_;rw [K4 (by rw [Hms.out];exact hltt),<- aj,hz,LW]
        rw [hz] at cq
        clear hz hb hbl hmi
        go_wp2_with fail
        go_roundw
        case rel =>
         refine ⟨t+1,by omega,by go_num,?_,hon.trans (PF _ _ _ ha8)⟩
         have F:=bA hut z hzq (.bool true)
         rw [<- Lq,Dy,<- hnx.out] at F
         exact F
        case measure=>simp [intOf] <;> omega
       ·obtain rfl:t=R:=by omega
        rw [K5 (by rw [Hms.out];exact KT _),<- hp.out] at hut
        have hbO:Below W1.heap.size w5 wr:=hon.below (λ_=>Hge.1) HB5.size
        have hbW:PY W1 wr:=HB5.trans hbO
        have hne4:ablk a4 ≠ ablk a8:=by
         rcases lT hownp5 with ⟨F,_⟩ | ⟨F,_⟩
         ·rw [F];have h6:ablk none=0:=rfl;have:=Hge.1;have:=Hge.2.2;omega
         ·have:=Hge.2.1;omega
        have hl4:ablk a4<w5.heap.size:=by
         rcases lT hownp5 with ⟨F,_⟩ | ⟨_,F⟩
         ·rw [F];have h6:ablk none=0:=rfl;have:=HB5.size;have:=Hge.2.2;omega
         ·exact F
        have hown6:=fg hownp5 (hon.block _ hl4 λF=>hne4 F.2)
        have hsw:W2.heap.size<=wr.heap.size:=by have:=hon.size;omega
        have hpl5:=hsrt5.pl
        have hlcs:(cs.map (Value.int .i64)).length=t:=by rw [Lc];exact Hms
        have hcc:∀j,j<t->wr.cell? ⟨ablk a3,aJ a3+j,none⟩=(cs.map (Value.int .i64))[j]?:=λj hj=>by rw [hsrt5.cell j hj,MS,LC (by rw [Hms.out];exact hj),aj (by rw [Hms.out];exact hj)];rfl
        have h1cs:∀u ∈ cs.map (Value.int .i64),u.oneCell'=true:=λu hu=>by obtain ⟨y,_,rfl⟩:=List.mem_map.1 hu;rfl
        have Hbx:=Z5 (K3 hbW hsw)
        have hlnx:(D (x+1)).length=out.length+t:=by rw [hp.out,K6,Hms.out]
        clear hownp5 hon hbO hsrt5 hsrt
        go_wp2_with (at_builtin;refine en rfl _ _ 22 3 rfl (cG 0) 8 underlying22 bh rfl W2.heap.size a4 out.length c4 _ rfl hown6 a3 t c3 _ rfl hpl5 hlcs hcc h1cs (by omega) (by unfold maxLen;omega) hsw ?_;intro a7 c7 w7 hown7 hgr7 _)
        go_roundw
        case rel =>
         have hut7:=fg hut (hgr7.block _ (Lx Hge.2.1 Hbx.2) λF=>(eY.own (.inr hne4) out.length c4) F.symm)
         refine ⟨x+1,a7,c7,by omega,by omega,by omega,by go_num,by rw [hlnx],?_,hut7,Pp Hbx.1 hown6 hgr7 hbel8s Hbx.1.size,by have:=hgr7.size;omega⟩
         rw [hlnx,hp.out,LJ]
         exact hown7
        case measure=>simp [intOf] <;> omega
    ·have hX0:Hid (D x=X):=by
      by_cases F:x<q
      ·exact HpE x hxq (by omega)
      ·obtain rfl:x=q:=by omega
       exact HpQ
     have hXl:=HXp.1
     rw [hX0.out,hXl] at Z
     have hXi:Ints wr a4 H X:=(Pn Z).1
     have HXi:=Z5 hXi
     have HbW2:=Z5 K
     have hlX:(D x).length=H:=by rw [hX0.out];exact hXl
     rw [hlX] at hl5 hgo ⊢
     have hstop:¬ (x<q/\H<H):=by omega
     have HCt:Hid (∀x,x % R=rn->iY rn (x+1)=iY rn x):=λx hx=>Da (by rw [Y.2.2.2.2.2.2];exact hx)
     have HCk:Hid (∀x,x % R ≠ rn->iY rn (x+1)=iY rn x+1/\iy G.ops X (gq rn) (iY rn x+1)=iy G.ops X (gq rn) (iY rn x) ++ [X.map λy=>fB G.ops y x]):=λx hx=>by obtain ⟨F,h6⟩:=Et (r:=rn) (x:=x) (by have:=Y.2.1;have:=Y.2.2.2.2.1;omega) (by rw [Y.2.2.2.2.2.2];exact hx);exact ⟨F,by rw [Es,<- h6]⟩
     have HCl:Hid (∀x,iY rn x<kn->x<2 * kn):=λx hx=>I1 (by have:=Y.2.1;have:=Y.2.2.2.2.1;omega) hx
     have hct0:iY rn 0=0:=DT rn
     have hLL0:iy G.ops X (gq rn) 0=[]:=rfl
     obtain ⟨LL,hLL⟩:∃f,iy G.ops X (gq rn)=f:=⟨_,rfl⟩
     rw [hLL] at HCk hLL0 HtbS HRw
     obtain ⟨ct,hct⟩:∃f,iY rn=f:=⟨_,rfl⟩
     rw [hct] at HCt HCk HCl hct0
     obtain ⟨rw',hrw⟩:∃f:Nat->LI,(λx=>X.map λy=>fB G.ops y x)=f:=⟨_,rfl⟩
     have HCk:Hid (∀x,x % R ≠ rn->ct (x+1)=ct x+1/\LL (ct x+1)=LL (ct x) ++ [rw' x]):=by rw [<- hrw];exact HCk
     have HRl:Hid (∀x,(rw' x).length=H):=λx=>by rw [<- hrw];simp [hXl]
     have HRn:Hid (∀x z t,t<H->nth X t=((z:Nat):Int)->nth (rw' x) t=pw z x):=λx z t ht hz=>by rw [<- hrw,<- Hpw.out];show nth (X.map _) t=_;rw [aj (by rw [Lc,hXl];exact ht),LU,<- aj,hz]
     have HXe:Hid (∀t,t<H->∃z:Nat,nth X t=z/\1<=z/\z<q):=λt ht=>by
      obtain ⟨F,h6⟩:=HXp.2 _ (aG (l:=X) (i:=t) (by rw [hXl];exact ht));have h7:0<=nth X t/\nth X t<(G.q:Nat):=F;have h8:G.q=q:=by rw [<- HGG.1];exact HGG.2.1
      rw [h8] at h7;exact ⟨(nth X t).toNat,by omega,by omega,by omega⟩
     obtain ⟨kx,rx⟩:=K3 Y.2.2.2.2.2.1 Y.2.2.2.2.1
     have HkE:=Z5 (K3 kx (K3 rx (K3 Y.2.1 Y.2.2.1)))
     have hk64:kn<=64:=by have:=Y.2.2.1;have:=Y.2.2.2.2.2.1;omega
     have hrwf:=HRl.out
     clear hLL hct hrw hXi Z hus K hX0 hlX hXl HpT HpS HpE HpQ hp1 HMul HFl HCf HUe HUi HUl ha8 hbel8s hin hZ1b kx rx hrwf hsz HOr
     generalize wr=V at *
     clear hgo
     by_cases h5q:x<q
     all_goals (
      go_upto_region 33 with fail
      obtain ⟨g,hg⟩:∃g,V.heap.size=g:=⟨_,rfl⟩
      have HGs:=Z5 hg
      clear hg
      go_cut [23] (λv wx=>v = .pointer (some ⟨V.heap.size,0,none⟩)/\mC wx V.heap.size (cG H) none 0 0 [] []/\PY V wx)
      case first =>
       go_wp2_with fail
       go_meet
       exact ⟨rfl,mC.start (Po V [cG H,ds] _ rfl),an _ _⟩
      obtain ⟨rfl,hO0,hbc⟩:=hcut
      generalize wc=U3 at *
      have hs3:=HGs.out
      rw [hs3] at hO0 ⊢
      have HbU3:=Z5 hbc
      have hgU:=hO0.lt
      have hO0:mC U3 g (cG H) none (ct 0) 0 [] (LL (ct 0)):=by rw [hct0,hLL0];exact hO0
      have hR0p:(R:Int) ≠ 0:=by omega
      have hR0n:R ≠ 0:=by omega
      have hR0b:((R:Int) == 0)=false:=by rw [beq_eq_false_iff_ne];exact hR0p
      clear hbc hs3 hLL0
      go_wp2_with fail
      go_loopw [24] (λiv wr=>∃(x:Nat) (a5:OA) (c5:Nat) (Rr:LA),x<=2 * kn/\ct x<=kn/\iv = cG x/\mC wr g (cG H) a5 (ct x) c5 Rr (LL (ct x))/\Below g U3 wr) (λiv _=>2 * kn - (intOf iv).toNat)
      case atStart=>exact ⟨0,none,0,[],K0 _,by rw [hct0];exact K0 _,rfl,hO0,KU _ _⟩
      case round =>
       clear hO0
       obtain ⟨x,a5,c5,Rr,hx2,hxk,rfl,hO,K⟩:=hrel
       have hgr:=hO.lt
       have g1:=hO.c1
       obtain ⟨hk1,hr1,hr2,hk2⟩:=HkE.out
       by_cases hltk:ct x<kn
       ·have hxlt:=HCl x hltk
        have d1:decide (((ct x:Nat):Int)<k)=true:=by rw [hk1];simp;omega
        obtain ⟨xm,hxm⟩:∃xm:Int,xm=((x % R:Nat):Int):=⟨_,rfl⟩
        have tm:(x:Int).tmod (R:Int)=xm:=by rw [hxm,Mf (by omega)];simp
        by_cases hm:x % R=rn
        ·have hs:=Z5 (HCt x hm)
         have d2:(xm == r)=true:=by rw [hxm,hm,hr1];simp
         have hO':=Z5 hO
         generalize ct x=cx at *
         clear hm hxm hk1 hr1 hr2 hk2 hO
         go_wp2_with fail
         go_roundw
         case rel=>exact ⟨x+1,a5,c5,Rr,by omega,by rw [hs.out];omega,by go_num,by rw [hs.out];exact hO'.out,K⟩
         case measure=>simp [intOf] <;> omega
        ·have hs:=Z5 (HCk x hm)
         have d2:(xm == r)=false:=by rw [beq_eq_false_iff_ne,hxm,hr1];omega
         have hO':=Z5 hO
         have Hrl:=Z5 (HRl x)
         have Hrn:=Z5 (HRn x)
         have HP1:Hid (∀V' z,PY V V'->1<=z->z<q->Calls prog 65 #[.pointer (some ⟨b,0,none⟩),cG z,cG x] V' λe w'=>∃k,e = .returned (.tuple #[cG (pw z x),cG 0])/\w'=V'.drewN k):=λV' z hV F h6 =>
          HPw V' z x (Pm HbW1.out (Pm HbW2.out hV)) F h6 (by have:=HkE.2.2.2;have:=HkE.1;omega)
         obtain ⟨rr,hrr⟩:∃l,rw' x=l:=⟨_,rfl⟩
         rw [hrr] at hs Hrl Hrn
         generalize hcx:ct x=cx at *
         have hcx200:cx<=64:=by have:=HkE.2.2.2;have:=HkE.1;omega
         have hbV:=L5 HbU3.out (K.mono (Oc HGs.out))
         have hgV:=HGs.out
         clear hm hxm hk1 hr1 hr2 hk2 hO hcx hrr
         go_wp2_with fail
         have HbR:=Z5 (K3 K hgr)
         clear K
         generalize wr=V1 at *
         go_loopw [25,162] (λrv jv ws=>∃(t:Nat) (a6:OA) (c6:Nat),t<=H/\jv = cG t/\rv = .slice a6 t c6/\ws.ownsRow V1.heap.size 3 1 (.slice a6 t c6) t ((rr.take t).map (Value.int .i64))/\PY V1 ws)
          (λ_ jv _=>H - (intOf jv).toNat)
         case atStart=>exact ⟨0,none,0,K0 _,rfl,rfl,⟨rfl,.inl ⟨rfl,rfl⟩⟩,KU _ _⟩
         case round =>
          obtain ⟨t,a6,c6,ht,rfl,rfl,Z,hbt⟩:=hrel
          have hbVt:=Pm hbV hbt
          have hXt:=HXi.af hbVt
          have hpl4:=hXt.pl
          by_cases hltt:t<H
          ·have cq:=hXt.cell t hltt
           obtain ⟨z,hz,hz1,hzq⟩:=HXe t hltt
           have HP2:=Z5 (HP1 wr z hbVt hz1 hzq)
           have htk:Hid (rr.take (t+1)=rr.take t ++ [pw z x]):=by show _=_;rw [K4 (by rw [Hrl.out];exact hltt),<- aj,Hrn z t hltt hz]
           rw [hz] at cq
           clear hz hXt
           go_wp2_with fail
           refine HP2.mono ?_
           rintro e w2 ⟨kk,rfl,rfl⟩
           have hbr2:=below_drewN hbt kk
           have C:=bf Z (below_drewN (KU _ _) kk)
           clear Z
           generalize wr.drewN kk=w2 at *
           obtain ⟨yv,hyv⟩:∃y,pw z x=y:=⟨_,rfl⟩
           rw [hyv] at htk ⊢
           clear hyv HP2
           have A:=bm w2 (cG yv) 3
           have hbn:=an w2 (.cells #[cG yv] 3)
           have hsz:=hbr2.size
           go_wp2_with (at_builtin;refine aS rfl _ _ 22 3 rfl (cG 0) 8 underlying22 bh rfl V1.heap.size a6 t c6 _ rfl (C.alloc _) ⟨w2.heap.size,0,none⟩ 1 (cG yv) rfl A rfl (by omega) (by unfold maxLen;omega) (by simp;omega) ?_;intro a7 c7 w7 hown7 hgr7 hap7)
           go_roundw
           case rel =>
            refine ⟨t+1,a7,c7,by omega,by go_num,rfl,?_,Pp (L5 hbr2 (hbn.mono hsz)) (C.alloc _) hgr7 (KT _) (K9 hsz hbn.size)⟩
            rw [htk.out];simpa using hown7
           case measure=>simp [intOf] <;> omega
          ·obtain rfl:t=H:=by omega
           rw [K5 (by rw [Hrl.out];exact KT _)] at Z
           have hs6:=hO'.af hbt
           have hOk:=hs6.om.af (an wr (.cells #[.slice a6 t c6] 22))
           have hcp:=hs6.c1
           have hgs:=hs6.lt
           clear g1
           go_wp2_with (at_builtin;refine aS rfl _ _ 25 22 rfl ds 24 underlying25 dw rfl (g+1) a5 cx c5 _ rfl hOk.own ⟨wr.heap.size,0,none⟩ 1 (.slice a6 t c6) rfl (bm wr _ _) rfl (by omega) (by unfold maxLen;omega) (by simp;omega) ?_;intro a7 c7 w6 hown6 hgr6 hap6;have hk6:=(hs6.vd hgr6).2.1;have hf6:=(hs6.vd hgr6).2.2)
           go_roundw
           case rel =>
            have hra:a6 ≠ none->¬ bQ a5 Rr (ablk a6):=λh0 hI=>by have h1:=(aT Z h0).1;have h2:=(hO'.om.lt _ hI).2;omega
            obtain ⟨hP,hbP⟩:=hs6.push Hrl.out (aY Z (by have:=HbR.2;omega)) hra hown6 hgr6 hap6
            exact ⟨x+1,a7,c7,_,by omega,by rw [hs.1];omega,by go_num,by rw [hs.1,hs.2];exact hP,L5 HbR.1 ((hbt.mono (by have:=HbR.2;omega)).trans hbP)⟩
           case measure=>simp [intOf] <;> omega
       ·have hk3:ct x=kn:=by omega
        have d1:decide (((ct x:Nat):Int)<k)=false:=by rw [hk1];simp;omega
        rw [hk3] at hO d1 g1
        have g0:=hO.c0
        have hMN:cF (g+1) wr a5 kn (LL kn):=PT hO.om
        have hbV:=L5 HbU3.out (K.mono (Oc HGs.out))
        have hbE:PY W wr:=Pm (Pm (Pm N.out HbW1.out) HbW2.out) hbV
        have hSt:=HtbS.out
        obtain ⟨S,hS⟩:∃S,bI G.ops H (LL kn)=S:=⟨_,rfl⟩
        rw [hS] at hSt
        have HNw:Hid (Calls prog 68 #[.agg #[cG P,cG M,.slice am mn cm],.agg #[cG H,.slice a5 kn c5]] wr λe w'=>∃a1 c1 a2 c2,e = .returned (.tuple #[.agg #[cG P,cG M,.slice a1 mod.length c1,cG H,.slice a2 S.length c2],cG 0])/\bL wr.heap.size w' a1 mod.length mod/\cF wr.heap.size w' a2 S.length S/\PY wr w'):=by have h:=pU P M am mn cm mod H a5 kn c5 (LL kn) wr (Hmod.1.af (Pm HbW.out hbE)) hMN.iZ HRw.out HZN.1 HZN.2 Hmod.2;unfold si at h;rw [HGG.1] at h;have e:bZ G (LL kn) H=S:=hS;rw [e] at h;exact h
        have HPF:=HP0.out
        rw [HNN.out,hSt] at HPF
        have HPF:=Z5 HPF
        have HbE:=Z5 hbE
        have bx:=HX.1.af hbE
        have c0:=bx.cell 0 rfl
        have c1':=bx.cell 1 rfl
        have c2':=bx.cell 2 rfl
        clear hS hSt bx hMN hO K hbV hbE hk3 hk1 hr1 hr2 hk2 Y HkE
        go_wp2_with fail
        refine HNw.mono ?_
        rintro e w6 ⟨b1,d1',b2,d2',rfl,hI6,hM6,hb6⟩
        have hbF:=Pm HbE.out hb6
        have hsz:=HbE.size
        have hsW:=HsW.out
        obtain ⟨z0,z1,z2,z3,z4,f0,f1,f2,f3,f4⟩:=HZ w6 hbF
        have zz:=(((((HX.2.af hbF).setCell 0 (cG P)).setCell 1 (cG M)).setCell 2 (.slice b1 mod.length d1')).setCell 3 (cG H)).setCell 4 (.slice b2 S.length d2')
        have y0:=zz.cell 0 rfl
        have y1:=zz.cell 1 rfl
        have y2:=zz.cell 2 rfl
        have y3:=zz.cell 3 rfl
        have y4:=zz.cell 4 rfl
        have HF:=Z5 (HPF b1 d1' b2 d2' (((((w6.setCell ⟨w.heap.size+1,0,none⟩ (cG P)).setCell ⟨w.heap.size+1,1,none⟩ (cG M)).setCell ⟨w.heap.size+1,2,none⟩ (.slice b1 mod.length d1')).setCell ⟨w.heap.size+1,3,none⟩ (cG H)).setCell ⟨w.heap.size+1,4,none⟩ (.slice b2 S.length d2')) HE0.out
         ((((((hI6.setCell (p:=⟨w.heap.size+1,0,none⟩) (by simp;omega) _).setCell (p:=⟨w.heap.size+1,1,none⟩) (by simp;omega) _).setCell (p:=⟨w.heap.size+1,2,none⟩) (by simp;omega) _).setCell (p:=⟨w.heap.size+1,3,none⟩) (by simp;omega) _).setCell (p:=⟨w.heap.size+1,4,none⟩) (by simp;omega) _).mono (by omega))
         ((((((hM6.setCell (p:=⟨w.heap.size+1,0,none⟩) (by simp;omega) _).setCell (p:=⟨w.heap.size+1,1,none⟩) (by simp;omega) _).setCell (p:=⟨w.heap.size+1,2,none⟩) (by simp;omega) _).setCell (p:=⟨w.heap.size+1,3,none⟩) (by simp;omega) _).setCell (p:=⟨w.heap.size+1,4,none⟩) (by simp;omega) _).mono (by omega))
         ((((((Pm HbW.out hbF).setCell (p:=⟨w.heap.size+1,0,none⟩) (by simp) _).setCell (p:=⟨w.heap.size+1,1,none⟩) (by simp) _).setCell (p:=⟨w.heap.size+1,2,none⟩) (by simp) _).setCell (p:=⟨w.heap.size+1,3,none⟩) (by simp) _).setCell (p:=⟨w.heap.size+1,4,none⟩) (by simp) _))
        clear hI6 hM6 hb6 hbF zz
        go_wp2_with fail
        exact bodyPost_ret (v:=.tuple #[.agg #[cG P,cG M,.slice b1 mod.length d1',cG H,.slice b2 S.length d2'],cG 0]) (by simp [results,results25,go_sem,y0,y1,y2,y3,y4]) rfl HF.out)
def tU (l:LI):Bool:=l.all λy=>y == 0
theorem FY {l:LI}:tU l=true ↔ ∀y ∈ l,y=0:=by
 unfold tU;rw [LR];constructor
 ·intro h y Z;simpa using h y Z
 ·intro h y Z;simpa using h y Z
theorem GW (l:LI):l.any (λy=>y != 0) = !(tU l):=by
 unfold tU;induction l with
 | nil=>rfl
 | cons x l Z =>
  rw [List.any_cons,OM,Z,Bool.not_and];rfl
theorem Dk (x:Int) (w:World):Calls prog 265 #[cG x] w λe w'=>e = .returned (.bool (x != 0))/\w=w':=by go_enter func265,ntmps265;go_wp2;go_ret;exact ⟨rfl,rfl⟩
theorem yB (p:Int->Bool) (a:OA) (n c:Nat) (l:LI) (w:World) (hi:Ints w a n l) (F:∀k,k<n->Calls prog 265 #[cG (nth l k)] w λe w'=>e = .returned (.bool (p (nth l k)))/\w=w') :
  Calls prog 111 #[.slice a n c,.func (.func 265) #[] #[]] w λe w'=>∃z:Int,e = .returned (cG z)/\(0<=z ↔ l.any p=true)/\w=w':=by
 have B:=hi.pl;have U:=hi.max;have D:=Z5 F;have H:=Z5 hi.len;unfold maxLen at U;clear F;go_enter func111,ntmps111;go_wp2_with fail;go_loop [8] (λK=>∃k:Nat,k<=n/\K = cG k/\Hid (∀j,j<k->p (nth l j)=false)) (λK=>n - (intOf K).toNat);case atStart=>exact ⟨0,K0 _,rfl,λj S=>by omega⟩
 case round =>
  obtain ⟨k,r,rfl,Z⟩:=hrel
  by_cases X:k<n
  ·have A:=hi.cell k X
   have Y:=D k X
   obtain ⟨z,V⟩:∃z,p (nth l k)=z:=⟨_,rfl⟩
   rw [V] at Y
   have G:=Z5 Y
   cases z
   ·have C:Hid (∀j,j<k+1->p (nth l j)=false):=λj S=>by
     by_cases e:j=k
     ·subst e;exact V
     ·exact Z j (by omega)
    clear V Y Z
    go_wp2_with fail
    refine G.mono ?_
    rintro e w' ⟨rfl,rfl⟩
    go_wp2_with fail
    go_round
    case rel=>exact ⟨k+1,by omega,by go_num,C⟩
    case measure=>simp [intOf] <;> omega
   ·have N:Hid (l.any p=true):=by show _=_;rw [Nk];exact ⟨nth l k,aG (by rw [H.out];exact X),V⟩
    clear V Y Z
    go_wp2_with fail
    refine G.mono ?_
    rintro e w' ⟨rfl,rfl⟩
    go_wp2_with fail
    go_ret
    exact ⟨k,rfl,⟨λ_=>by first | exact N.out | exact List.any_eq_true.1 N.out,λ_=>M3 _⟩,rfl⟩
  ·obtain rfl:k=n:=by omega
   have N:Hid (l.any p=false):=by show _=_;rw [Ny];intro x E;obtain ⟨j,S,rfl⟩:=List.mem_iff_getElem.1 E;have:=Z j (by rw [<- H.out];exact S);rw [aj S] at this;rw [this];decide
   go_wp2_with fail
   go_ret
   exact ⟨-1,rfl,⟨λh=>absurd h (by omega),λh=>by have h2:l.any p=true:=(by first | exact h | exact List.any_eq_true.2 h);rw [N.out] at h2;exact absurd h2 (by decide)⟩,rfl⟩
theorem sC (p:Int->Bool) (a:OA) (n c:Nat) (l:LI) (w:World) (hi:Ints w a n l) (V:∀k,k<n->Calls prog 265 #[cG (nth l k)] w λe w'=>e = .returned (.bool (p (nth l k)))/\w=w') :
  Calls prog 53 #[.slice a n c,.func (.func 265) #[] #[]] w λe w'=>e = .returned (.bool (l.any p))/\w=w':=by
 have U:=Z5 (yB p a n c l w hi V);clear V;go_enter func53,ntmps53;go_wp2_with fail;refine U.mono ?_;rintro e w' ⟨z,rfl,Z,rfl⟩;by_cases h0:0<=z
 ·have Y:Hid (l.any p=true):=Z.1 h0;have X:decide (0<=z)=true:=by simpa using h0
  clear Z h0;go_wp2_with fail;go_ret;exact ⟨aX Y.symm,rfl⟩
 ·have Y:Hid (l.any p=false):=by
   show _=_;cases h:l.any p
   ·rfl
   ·exact absurd (Z.2 h) h0
  have X:decide (0<=z)=false:=by simpa using h0
  clear Z h0;go_wp2_with fail;go_ret;exact ⟨aX Y.symm,rfl⟩
theorem D6 (a:OA) (n c:Nat) (l:LI) (w:World) (hi:Ints w a n l) :
  Calls prog 243 #[.slice a n c] w λe w'=>e = .returned (.bool (tU l))/\w=w':=by
 have Z:=sC (λy=>y != 0) a n c l w hi λk V=>Dk (nth l k) w;rw [GW] at Z;obtain ⟨z,Y⟩:∃z,tU l=z:=⟨_,rfl⟩
 rw [Y] at Z ⊢;have X:=Z5 Z;clear Z Y;go_enter func243,ntmps243;go_wp2_with fail;refine X.mono ?_;rintro e w' ⟨rfl,rfl⟩;cases z
 ·go_wp2_with fail;go_ret;exact ⟨rfl,rfl⟩
 ·go_wp2_with fail;go_ret;exact ⟨rfl,rfl⟩
theorem eM {w:World} {b:Nat} {G:cZ} (m:Nat) (a:OA) (n c:Nat) (R:Ll) (ap:OA) (cp:Nat) (S:LI) (K:OA) (E:Nat) (x:LI)
  (h:dU w b G) (hi:bw w a n R) (C:Ints w ap n S) (D:Ints w K m x) (V:BS.Ok G.El m ⟨R,S⟩) (X:Vc G.El m x) (B:n<=1000000) (hm:m<=1000000) :
  Calls prog 192 #[.agg #[.pointer (some ⟨b,0,none⟩),cG m,.slice a n c,.slice ap n cp],.slice K m E] w
   λe w'=>e = .returned (.bool (tU (redTo G.ops R S x n)))/\PY w w':=by
 obtain ⟨z,H⟩:∃z,tU (redTo G.ops R S x n)=z:=⟨_,rfl⟩
 rw [H];have j:=Z5 H;clear H;go_enter func192,ntmps192;go_wp2_with fail;obtain ⟨W,F⟩:∃W:World,W=w.alloc (.cells #[.pointer (some ⟨b,0,none⟩),cG m,.slice a n c,.slice ap n cp] 210):=⟨_,rfl⟩
 rw [<- F];have Z:PY w W:=by rw [F];exact an _ _
 clear F;refine (AZ m a n c R ap cp S K E x (h.af Z) (hi.af Z) (C.af Z) (D.af Z) V X B hm).mono ?_;rintro e A ⟨a1,c1,v2,rfl,U,N⟩;have Y:=D6 a1 m c1 _ A U;rw [j.out] at Y;have r:=Z5 Y;have hF:=Pm Z N;clear U V X Y;go_wp2_with fail;refine r.mono ?_;rintro e w2 ⟨rfl,rfl⟩;go_wp2_with fail;go_ret;exact ⟨rfl,hF⟩
def hasB (P M:Int) (mod:LI) (m:Nat) (L:Ll) (x:LI):Bool:=tU (redTo (ah P M.toNat mod).ops L (bq (ah P M.toNat mod) L m) x L.length)
theorem tw (P M:Int) (am:OA) (mn cm:Nat) (mod:LI) (m:Nat) (a:OA) (n c:Nat) (L:Ll) (ax:OA) (cx:Nat) (x:LI) (w:World) (hmod:Ints w am mn mod) (hi:bw w a n L) (hx:Ints w ax m x)
  (j:aI P M mod m L=0) (r:Vc (ah P M.toNat mod).El m x) :
  Calls prog 135 #[.agg #[cG P,cG M,.slice am mn cm],.agg #[cG m,.slice a n c],.slice ax m cx] w λe w'=>e = .returned (.tuple #[.bool (hasB P M mod m L x),cG 0])/\PY w w':=by
 obtain ⟨z,hz⟩:∃z,hasB P M mod m L x=z:=⟨_,rfl⟩
 rw [hz];unfold hasB at hz;have U:=hi.len;obtain ⟨m',em,hm1,hm64,F,hR⟩:=aZ j;obtain rfl:m=m':=by omega
 have hn:n<=256:=by rw [<- U];exact (di j).choose_spec.2.2.2.1
 obtain ⟨h5,h6⟩:=eJ (aL j).2.2.2;rw [KV] at h6;have N:bI (ah P M.toNat mod).ops m L=L:=h6;have Z:=(bU F hR).1;have hlen:=cI F hR;rw [N] at Z hlen;have hOk:BS.Ok (ah P M.toNat mod).El m ⟨L,bq (ah P M.toNat mod) L m⟩:=(nK hR Z hlen).ok;have hpl:(bq (ah P M.toNat mod) L m).length=n:=by rw [<- U];exact hlen.symm
 rw [U] at hz;have H0:=Z5 hz;have A:=Z5 hOk;have Hsp:=Z5 (aL j).2.2.2;have H:=Z5 r;clear hz hOk h5 h6 N Z hlen em F hR j U r;go_enter func135,ntmps135;go_wp2_with fail;obtain ⟨W,hW⟩:∃W:World,W=(w.alloc (.cells #[cG P,cG M,.slice am mn cm] 24)).alloc (.cells #[cG m,.slice a n c] 94):=⟨_,rfl⟩
 rw [<- hW];have B:PY w W:=by rw [hW];exact bY _ _ _
 clear hW;refine (jW P M am mn cm mod m a n c L W (hmod.af B) (hi.af B)).mono ?_;rintro e w1 ⟨hb1,⟨he,_⟩ | ⟨_,m',b,hm',ap,cp,rfl,hG,hbl,hP⟩⟩
 ·exact absurd Hsp.out he
 obtain rfl:m=m':=by omega
 have Y:=Pm B hb1;have S:=hP.ints;rw [hpl] at S ⊢;obtain ⟨Pv,X⟩:∃Pv,bq (ah P M.toNat mod) L m=Pv:=⟨_,rfl⟩
 obtain ⟨G,C⟩:∃G,ah P M.toNat mod=G:=⟨_,rfl⟩
 rw [C] at X hG H0 A H;rw [X] at H0 A;have hp2:Ints w1 ap n Pv:=by rw [C,X] at S;exact S
 have E:=an w1 (.cells #[.pointer (some ⟨b,0,none⟩),cG m,.slice a n c,.slice ap n cp] 210);have K:=Pm Y E;have HWd:=Z5 (vA m a n c ap n cp ax cx x (hG.gf.af E) (hx.af K) H.out);have HHs:Hid (∀V,PY w1 V->Calls prog 192 #[.agg #[.pointer (some ⟨b,0,none⟩),cG m,.slice a n c,.slice ap n cp],.slice ax m cx] V λe w'=>e = .returned (.bool z)/\PY V w'):=λV hV=>by rw [<- H0.out];exact eM m a n c L ap cp Pv ax cx x (hG.gf.af hV) (hi.af (Pm Y hV)) (hp2.af hV) (hx.af (Pm Y hV)) A.out H.out (by omega) (by omega)
 have k0:=Po w1 [.pointer (some ⟨b,0,none⟩),cG m,.slice a n c,.slice ap n cp] 210 rfl;have HX:=Z5 k0;clear hpl X C hG hbl hP S hp2 hm' k0;go_wp2_with fail;refine HWd.mono ?_;rintro e w3 ⟨rfl,D⟩;have x3:=HX.af D;have k0:=x3.cell 0 rfl;have k1:=x3.cell 1 rfl;have k2:=x3.cell 2 rfl;have k3:=x3.cell 3 rfl;have Hh:=Z5 (HHs w3 (Pm E D));have hbw3:=Pm K D;clear HWd HHs x3;go_wp2_with fail;refine Hh.mono ?_;rintro e w4 ⟨rfl,hb4⟩;have hF:=Pm hbw3 hb4;go_wp2_with fail;go_ret2;exact ⟨rfl,hF⟩
theorem tA (P M:Int) (am:OA) (S cm:Nat) (mod:LI) (N:Int) (a:OA) (n c:Nat) (L:Ll) (F:OA) (nx B:Nat) (x:LI) (w:World) (X:Ints w am S mod) (hi:bw w a n L) (A:Ints w F nx x) :
  Calls prog 134 #[.agg #[cG P,cG M,.slice am S cm,cG N,.slice a n c],.slice F nx B] w λe w'=>e = .returned (cG (iH P M mod N L x))/\PY w w':=by
 go_enter func134,ntmps134;go_wp2_with fail;obtain ⟨W,H⟩:∃W:World,W=w.alloc (.cells #[cG P,cG M,.slice am S cm,cG N,.slice a n c] 27):=⟨_,rfl⟩
 rw [<- H];have V:PY w W:=by rw [H];exact an _ _
 have D:aQ W w.heap.size [cG P,cG M,.slice am S cm,cG N,.slice a n c]:=by rw [H];exact Po _ _ _ rfl
 clear H;refine (dn P M am S cm mod N a n c L W (X.af V) (hi.af V)).mono ?_;rintro e r ⟨rfl,K⟩;have Z:=Pm V K;have U:=D.af K;have c0:=U.cell 0 rfl;have c1:=U.cell 1 rfl;have c2:=U.cell 2 rfl;have c3:=U.cell 3 rfl;by_cases Y:aI P M mod N L=0;rotate_left
 ·have j:(aI P M mod N L != 0)=true:=by simpa using Y
  have E:Hid (iH P M mod N L x=aI P M mod N L):=KY Y;clear Y D U;generalize aI P M mod N L=er at *;go_wp2_with fail;go_ret;exact ⟨aN E.symm,Z⟩
 obtain ⟨m,rfl,_⟩:=di Y;have C:((ah P M.toNat mod).q:Int)=aK P M:=by obtain ⟨m1,e1,_,h1,_⟩:=eQ (aL Y).1;rw [show M.toNat=m1 by omega];exact h1
 have E:Hid (iH P M mod m L x=lk (ah P M.toNat mod).q x m):=by show _=_;rw [iH,KX Y,C,KV]
 have z:=Z5 (tE P M am S cm mod F nx B x m r (X.af Z) (A.af Z) (aL Y).1);rw [Y];clear Y D U C;go_wp2_with fail;refine z.mono ?_;rintro e w2 ⟨rfl,G⟩;have hF:=Pm Z G;go_wp2_with fail;go_ret;exact ⟨aN E.symm,hF⟩
theorem uc {P M:Int} {mod:LI} {N:Int} {L:Ll} {x:LI} (h:iH P M mod N L x=0):aI P M mod N L=0/\Vc (ah P M.toNat mod).El N.toNat x:=by
 unfold iH at h;by_cases Z:aI P M mod N L=0
 ·rw [KX Z] at h;have V:((ah P M.toNat mod).q:Int)=aK P M:=by obtain ⟨m1,e1,_,h1,_⟩:=eQ (aL Z).1;rw [show M.toNat=m1 by omega];exact h1
  refine ⟨Z,?_⟩;unfold lk at h;by_cases Y:x.length=N.toNat
  ·rw [KX Y] at h;refine ⟨Y,λy X=>?_⟩;unfold iO at h;by_cases he:ez (aK P M) x=true
   ·unfold ez at he;have h1:=List.all_eq_true.1 he y X;unfold iQ at h1;simp at h1;exact ⟨h1.1,by have:=h1.2;omega⟩
   ·rw [KY he] at h;exact absurd h (by decide)
  ·rw [KY Y] at h;exact absurd h (by decide)
 ·rw [KY Z] at h;exact absurd h Z
def qt (P M:Int) (mod:LI) (N:Int) (L:Ll) (x:LI):Bool:=if iH P M mod N L x=0 then hasB P M mod N.toNat L x else false
theorem vn (P M:Int) (am:OA) (Z cm:Nat) (mod:LI) (N:Int) (a:OA) (n c:Nat) (L:Ll) (C:OA) (nx A:Nat) (x:LI) (w:World) (X:Ints w am Z mod) (hi:bw w a n L) (hx:Ints w C nx x) :
  Calls prog 81 #[.agg #[cG P,cG M,.slice am Z cm,cG N,.slice a n c],.slice C nx A] w λe w'=>e = .returned (.tuple #[.bool (qt P M mod N L x),cG (iH P M mod N L x)])/\PY w w':=by
 have S:Hid (iH P M mod N L x=0->∀V,PY w V->Calls prog 135 #[.agg #[cG P,cG M,.slice am Z cm],.agg #[cG N,.slice a n c],.slice C nx A] V λe w'=>e = .returned (.tuple #[.bool (qt P M mod N L x),cG 0])/\PY V w'):=λh V U=>by
  obtain ⟨F,G⟩:=uc h;rw [qt,KX h];obtain ⟨m,rfl,_⟩:=di F;rw [KV] at G ⊢;have e1:nx=m:=by rw [<- hx.len];exact G.1
  subst e1;exact tw P M am Z cm mod nx a n c L C A x V (X.af U) (hi.af U) (hx.af U) F G
 have D:Hid (∀V,PY w V->Calls prog 134 #[.agg #[cG P,cG M,.slice am Z cm,cG N,.slice a n c],.slice C nx A] V λe w'=>e = .returned (cG (iH P M mod N L x))/\PY V w'):=λV U =>
  tA P M am Z cm mod N a n c L C nx A x V (X.af U) (hi.af U) (hx.af U)
 have HN:Hid (iH P M mod N L x ≠ 0->qt P M mod N L x=false):=λh=>by rw [qt,KY h]
 clear X hi hx;obtain ⟨er,j⟩:∃er,iH P M mod N L x=er:=⟨_,rfl⟩
 obtain ⟨z,hz⟩:∃z,qt P M mod N L x=z:=⟨_,rfl⟩
 rw [j] at D HN S ⊢;rw [hz] at HN S ⊢;clear j hz;go_enter func81,ntmps81;go_wp2_with fail;obtain ⟨W,hW⟩:∃W:World,W=w.alloc (.cells #[cG P,cG M,.slice am Z cm,cG N,.slice a n c] 27):=⟨_,rfl⟩
 rw [<- hW];have E:PY w W:=by rw [hW];exact an _ _
 have x0:aQ W w.heap.size [cG P,cG M,.slice am Z cm,cG N,.slice a n c]:=by rw [hW];exact Po _ _ _ rfl
 have HX:=Z5 x0;have HbW:=Z5 E;clear hW x0;refine (D W E).mono ?_;rintro e w1 ⟨rfl,H⟩;have Y:=Pm HbW.out H;by_cases F:er=0;rotate_left
 ·have hE2:(er != 0)=true:=by simpa using F
  have HN2:=Z5 (HN F);clear F;go_wp2_with fail;go_ret2;exact ⟨by rw [HN2.out];rfl,Y⟩
 subst F;have r:=Z5 (S rfl);have hS:∀V,PY w1 V->V.cell? ⟨w.heap.size,0,none⟩=some (cG P)/\V.cell? ⟨w.heap.size,1,none⟩=some (cG M)/\V.cell? ⟨w.heap.size,2,none⟩=some (.slice am Z cm)/\V.cell? ⟨w.heap.size,3,none⟩=some (cG N)/\V.cell? ⟨w.heap.size,4,none⟩=some (.slice a n c)/\PY w1 V:=λV U=>by have B:=HX.af (Pm H U);exact ⟨B.cell 0 rfl,B.cell 1 rfl,B.cell 2 rfl,B.cell 3 rfl,B.cell 4 rfl,U⟩
 have HS:=Z5 hS;have K:=Z5 Y;clear hS D E H Y S HN;go_wp2_with fail;go_region_held3 (λV=>V.cell? ⟨w.heap.size,0,none⟩=some (cG P)/\V.cell? ⟨w.heap.size,1,none⟩=some (cG M)/\V.cell? ⟨w.heap.size,2,none⟩=some (.slice am Z cm)/\V.cell? ⟨w.heap.size,3,none⟩=some (cG N)/\V.cell? ⟨w.heap.size,4,none⟩=some (.slice a n c)/\PY w1 V)
  ((refine HS _ ?_;first | exact (KU _ _).drew | (go_split_ands;exact Pm (by assumption) (by assumption))))
  (first
   | (go_at_call 91;((with_reducible refine (nJ P M am Z cm N a n c _).mono ?_);rintro e w6 ⟨rfl,hb6⟩))
   | (go_at_call 135;((with_reducible refine (r.out _ (Pm K.out (by go_split_ands;assumption))).mono ?_);rintro e w8 ⟨rfl,hb8⟩)))
 all_goals (
  go_wp2_with fail
  go_ret2
  exact ⟨rfl,Pm K.out (by go_split_ands;assumption)⟩)
theorem tk {P M:Int} {mod:LI} {m:Nat} {L:Ll} (X:aI P M mod m L=0):bZ (ah P M.toNat mod) (aU (ah P M.toNat mod) L m) m=aU (ah P M.toNat mod) L m:=by
 obtain ⟨U,e,V,Y,F,Z⟩:=aZ X;obtain rfl:m=U:=by omega
 exact py F (fY F (bS F Z) (bU F Z).1 (cI F Z))
theorem mO (P M:Int) (am:OA) (X cm:Nat) (mod:LI) (m:Nat) (a:OA) (n c:Nat) (L:Ll) (w:World) (Z:Ints w am X mod) (hi:bw w a n L) (S:aI P M mod m L=0) :
  Calls prog 99 #[.agg #[cG P,cG M,.slice am X cm,cG m,.slice a n c]] w (iW (ah P M.toNat mod) L m w):=by
 have E:Hid (∀V,PY w V->Calls prog 157 #[.agg #[cG P,cG M,.slice am X cm],.slice a n c,cG m] V (iW (ah P M.toNat mod) L m V)):=λV G=>by
  obtain ⟨A,e,z,H,F,hR⟩:=aZ S;obtain rfl:m=A:=by omega
  have hn:=hi.len;have hl:=j6 S;exact po P M am X cm mod m a n c L V (Z.af G) (hi.af G) (aL S).1 hR (by omega) (by omega)
 clear Z hi S;unfold iW at E ⊢;generalize aU (ah P M.toNat mod) L m=D at *;go_enter func99,ntmps99;go_upto_region 1 with fail;obtain ⟨W,N⟩:∃W:World,W=w.alloc (.cells #[cG P,cG M,.slice am X cm,cG m,.slice a n c] 27):=⟨_,rfl⟩
 rw [<- N];have Y:PY w W:=by rw [N];exact an _ _
 have U:aQ W w.heap.size [cG P,cG M,.slice am X cm,cG m,.slice a n c]:=by rw [N];exact Po _ _ _ rfl
 have c0:=U.cell 0 rfl;have c1:=U.cell 1 rfl;have c2:=U.cell 2 rfl;have r:=U.cell 3 rfl;have c4:=U.cell 4 rfl;clear N U;go_wp2_with fail;refine (E W Y).mono ?_;rintro e w1 ⟨a1,j,R,rfl,C,K⟩;have B:=Y.size;have hF:=Pm Y K;have HO:=Z5 (aO.mono C B);clear C c0 c1 c2 r c4;go_wp2_with fail;go_ret;exact ⟨a1,j,R,rfl,HO,hF⟩
def jA (P M:Int) (mod:LI) (N:Int) (L:Ll) (w:World) (e:Ending) (w':World):Prop :=
 PY w w'/\((aI P M mod N L ≠ 0/\e = .returned (.tuple #[.agg #[cG 0,cG 0,ds,cG 0,ds],cG (aI P M mod N L)])) \/
  (aI P M mod N L=0/\∃a1 c1 a2 c2,e = .returned (.tuple #[.agg #[cG P,cG M,.slice a1 mod.length c1,cG N,.slice a2 (aU (ah P M.toNat mod) L N.toNat).length c2],cG 0])/\Ints w' a1 mod.length mod /\
   bw w' a2 (aU (ah P M.toNat mod) L N.toNat).length (aU (ah P M.toNat mod) L N.toNat)))
theorem B6 {P M:Int} {mod:LI} {m:Nat} {L:Ll} (Z:aI P M mod m L=0):(aU (ah P M.toNat mod) L m).length<=m:=j6 (gS Z).1
theorem qd (P M:Int) (am:OA) (K cm:Nat) (mod:LI) (N:Int) (a:OA) (n c:Nat) (L:Ll) (w:World) (X:Ints w am K mod) (hi:bw w a n L) :
  Calls prog 45 #[.agg #[cG P,cG M,.slice am K cm,cG N,.slice a n c]] w (jA P M mod N L w):=by
 have HK:Hid (∀V,PY w V->Calls prog 35 #[.agg #[cG P,cG M,.slice am K cm,cG N,.slice a n c]] V λe w'=>e = .returned (cG (aI P M mod N L))/\PY V w'):=λV H=>sZ P M am K cm mod N a n c L V (X.af H) (hi.af H);have HPa:Hid (aI P M mod N L=0->∀V,PY w V->Calls prog 99 #[.agg #[cG P,cG M,.slice am K cm,cG N,.slice a n c]] V λe w'=>∃a1 j,e = .returned (.slice a1 (aU (ah P M.toNat mod) L N.toNat).length j)/\bw w' a1 (aU (ah P M.toNat mod) L N.toNat).length (aU (ah P M.toNat mod) L N.toNat)/\PY V w'):=λG V H=>by obtain ⟨m,rfl,_⟩:=aZ G;rw [KV];refine (mO P M am K cm mod m a n c L V (X.af H) (hi.af H) G).mono ?_;rintro e w' ⟨a1,j,R,rfl,hO,hb⟩;exact ⟨a1,j,rfl,hO.iZ,hb⟩
 have HMk:Hid (aI P M mod N L=0->∀V a1 j,PY w V->bw V a1 (aU (ah P M.toNat mod) L N.toNat).length (aU (ah P M.toNat mod) L N.toNat)->Calls prog 72 #[.agg #[cG P,cG M,.slice am K cm],.slice a1 (aU (ah P M.toNat mod) L N.toNat).length j,cG N] V λe w' =>
   ∃a2 c2 a3 C,e = .returned (.agg #[cG P,cG M,.slice a2 mod.length c2,cG N,.slice a3 (aU (ah P M.toNat mod) L N.toNat).length C])/\bL V.heap.size w' a2 mod.length mod/\cF V.heap.size w' a3 (aU (ah P M.toNat mod) L N.toNat).length (aU (ah P M.toNat mod) L N.toNat)/\PY V w'):=λG V a1 j H hM=>by
  obtain ⟨m,rfl,hm1,hm64,F,hR⟩:=aZ G;rw [KV] at hM ⊢;have hmn:K<=8:=by have:=jH (aL G).1;rw [<- X.len];exact this
  have hRd:bt (ah P M.toNat mod).El m (aU (ah P M.toNat mod) L m):=by
   obtain ⟨N',e,_,_,_,hR'⟩:=aZ (gS G).1;obtain rfl:m=N':=by omega
   exact hR'
  have h:=pV P M am K cm mod m a1 (aU (ah P M.toNat mod) L m).length j (aU (ah P M.toNat mod) L m) V (X.af H) hM (aL G).1 hRd (by omega) (by have h6:=B6 G;omega) (by omega);unfold oE at h;rw [tk G] at h;exact h
 have E:Hid (∀a2 c2 a3 C w',aI P M mod N L=0->PY w w'->Ints w' a2 mod.length mod->bw w' a3 (aU (ah P M.toNat mod) L N.toNat).length (aU (ah P M.toNat mod) L N.toNat) ->
   jA P M mod N L w (.returned (.tuple #[.agg #[cG P,cG M,.slice a2 mod.length c2,cG N,.slice a3 (aU (ah P M.toNat mod) L N.toNat).length C],cG 0])) w'):=λa2 c2 a3 C w' G hb h1 h2=>⟨hb,.inr ⟨G,a2,c2,a3,C,rfl,h1,h2⟩⟩
 have HNo:Hid (∀w',aI P M mod N L ≠ 0->PY w w'->jA P M mod N L w (.returned (.tuple #[.agg #[cG 0,cG 0,ds,cG 0,ds],cG (aI P M mod N L)])) w'):=λw' h hb=>⟨hb,.inl ⟨h,rfl⟩⟩
 generalize jA P M mod N L w=Post at *;generalize aI P M mod N L=ce at *;obtain ⟨q,hq⟩:∃q,(aU (ah P M.toNat mod) L N.toNat).length=q:=⟨_,rfl⟩
 rw [hq] at HPa HMk E;clear hq;generalize aU (ah P M.toNat mod) L N.toNat=D at *;have hHm:=Z5 X;clear X hi hHm;go_enter func45,ntmps45;go_wp2_with fail;obtain ⟨W,hW⟩:∃W:World,W=(w.alloc (.cells #[cG P,cG M,.slice am K cm,cG N,.slice a n c] 27)).alloc (.cells #[cG 0,cG 0,ds,cG 0,ds] 27):=⟨_,rfl⟩
 rw [<- hW];have A:PY w W:=by rw [hW];exact bY _ _ _
 have hsW:W.heap.size=w.heap.size+2:=by rw [hW];simp
 have x0:aQ W w.heap.size [cG P,cG M,.slice am K cm,cG N,.slice a n c]:=by rw [hW];exact (Po _ _ _ rfl).alloc _
 have z0:aQ W (w.heap.size+1) [cG 0,cG 0,ds,cG 0,ds]:=by rw [hW];exact Po _ _ _ (by simp)
 clear hW;have hS:∀V,PY W V->V.cell? ⟨w.heap.size,0,none⟩=some (cG P)/\V.cell? ⟨w.heap.size,1,none⟩=some (cG M)/\V.cell? ⟨w.heap.size,2,none⟩=some (.slice am K cm)/\V.cell? ⟨w.heap.size,3,none⟩=some (cG N)/\V.cell? ⟨w.heap.size,4,none⟩=some (.slice a n c) /\
   aQ V (w.heap.size+1) [cG 0,cG 0,ds,cG 0,ds]:=λV H=>by have x1:=x0.af H;exact ⟨x1.cell 0 rfl,x1.cell 1 rfl,x1.cell 2 rfl,x1.cell 3 rfl,x1.cell 4 rfl,z0.af H⟩
 have HS:=Z5 hS;have HbW:=Z5 A;have HsW:=Z5 hsW;refine (HK W A).mono ?_;rintro e B ⟨rfl,U⟩;have S:=Pm A U;have hs1:w.heap.size+2<=B.heap.size:=by rw [<- hsW];exact U.size
 have Hs1:=Z5 hs1;clear hS x0 z0 A hsW hs1;have HS5:Hid (∀(V:World) (v0 v1 v2 v3 v4:Value),PY w V->PY w (((((V.setCell ⟨w.heap.size+1,0,none⟩ v0).setCell ⟨w.heap.size+1,1,none⟩ v1).setCell ⟨w.heap.size+1,2,none⟩ v2).setCell ⟨w.heap.size+1,3,none⟩ v3).setCell ⟨w.heap.size+1,4,none⟩ v4)):=λV v0 v1 v2 v3 v4 h =>
  (((((h.setCell (p:=⟨w.heap.size+1,0,none⟩) (by simp) _).setCell (p:=⟨w.heap.size+1,1,none⟩) (by simp) _).setCell (p:=⟨w.heap.size+1,2,none⟩) (by simp) _).setCell (p:=⟨w.heap.size+1,3,none⟩) (by simp) _).setCell (p:=⟨w.heap.size+1,4,none⟩) (by simp) _)
 by_cases h0:ce=0;rotate_left
 ·have d0:(ce != 0)=true:=by simpa using h0
  obtain ⟨_,_,_,_,_,Z⟩:=HS B U;have z0:=Z.cell 0 rfl;have z1:=Z.cell 1 rfl;have z2:=Z.cell 2 rfl;have z3:=Z.cell 3 rfl;have z4:=Z.cell 4 rfl;have f0:=Z.frozen 0;have f1:=Z.frozen 1;have f2:=Z.frozen 2;have f3:=Z.frozen 3;have f4:=Z.frozen 4;have HF:=Z5 (HNo _ h0 (HS5 B (cG 0) (cG 0) ds (cG 0) ds S));clear h0 Z;go_wp2_with fail;exact bodyPost_ret (v:=.tuple #[.agg #[cG 0,cG 0,ds,cG 0,ds],cG ce]) (by simp [results,results45,go_sem,z0,z1,z2,z3,z4]) rfl HF.out
 have d0:(ce != 0)=false:=by simp [h0]
 have HPa1:=Z5 (HPa h0);have HMk1:=Z5 (HMk h0);have HSet:Hid (∀(V:World) (a2:OA) (c2:Nat) (a3:OA) (C:Nat),PY B V->bL B.heap.size V a2 mod.length mod->cF B.heap.size V a3 q D->Post (.returned (.tuple #[.agg #[cG P,cG M,.slice a2 mod.length c2,cG N,.slice a3 q C],cG 0])) (((((V.setCell ⟨w.heap.size+1,0,none⟩ (cG P)).setCell ⟨w.heap.size+1,1,none⟩ (cG M)).setCell ⟨w.heap.size+1,2,none⟩ (.slice a2 mod.length c2)).setCell ⟨w.heap.size+1,3,none⟩ (cG N)).setCell ⟨w.heap.size+1,4,none⟩ (.slice a3 q C))):=λV a2 c2 a3 C H hN hM=>by
  have h1:=Hs1.out;refine E a2 c2 a3 C _ h0 (HS5 V _ _ _ _ _ (Pm S H)) ?_ ?_
  ·exact (((((hN.setCell (p:=⟨w.heap.size+1,0,none⟩) (by simp;omega) _).setCell (p:=⟨w.heap.size+1,1,none⟩) (by simp;omega) _).setCell (p:=⟨w.heap.size+1,2,none⟩) (by simp;omega) _).setCell (p:=⟨w.heap.size+1,3,none⟩) (by simp;omega) _).setCell (p:=⟨w.heap.size+1,4,none⟩) (by simp;omega) _).ints
  ·exact (((((hM.setCell (p:=⟨w.heap.size+1,0,none⟩) (by simp;omega) _).setCell (p:=⟨w.heap.size+1,1,none⟩) (by simp;omega) _).setCell (p:=⟨w.heap.size+1,2,none⟩) (by simp;omega) _).setCell (p:=⟨w.heap.size+1,3,none⟩) (by simp;omega) _).setCell (p:=⟨w.heap.size+1,4,none⟩) (by simp;omega) _).iZ
 obtain ⟨c0,c1,c2,C,c4,_⟩:=HS B U;clear h0 HPa HMk E HNo HK;go_upto_region 4 with fail;go_region_law ((first
  | (go_simp;go_at_call 99;((with_reducible refine (HPa1.out _ (by first | exact S.drew | exact S)).mono ?_);rintro e w3 ⟨a3,k3,rfl,hM3,hb3⟩;have Y:PY B w3:=(by first | exact Pm (KU _ _).drew hb3 | exact hb3);obtain ⟨g0,g1,g2,g3,g4,_⟩:=HS.out w3 (Pm U Y)))
  | (go_simp;go_at_call 72;((with_reducible refine (HMk1.out _ a3 k3 (by first | exact Pm S Y | exact (Pm S Y).drew) (by first | exact hM3 | exact hM3.af (KU _ _).drew)).mono ?_);rintro e w5 ⟨a5,k5,a6,k6,rfl,r,hN6,hb5⟩;have z:PY B w5:=(by first | exact Pm Y hb5 | exact Pm Y.drew hb5);have HFi:=Z5 (HSet.out w5 a5 k5 a6 k6 z (by first | exact r.mono Y.size | exact r.mono Y.drew.size) (by first | exact hN6.mono Y.size | exact hN6.mono Y.drew.size));obtain ⟨_,_,_,_,_,Z⟩:=HS.out w5 (Pm U z);have z0:=Z.cell 0 rfl;have z1:=Z.cell 1 rfl;have z2:=Z.cell 2 rfl;have z3:=Z.cell 3 rfl;have z4:=Z.cell 4 rfl;have f0:=Z.frozen 0;have f1:=Z.frozen 1;have f2:=Z.frozen 2;have f3:=Z.frozen 3;have f4:=Z.frozen 4;clear Z r hN6))))
 all_goals (
  go_wp2_with fail
  exact bodyPost_ret (v:=.tuple #[.agg #[cG P,cG M,.slice a5 mod.length k5,cG N,.slice a6 q k6],cG 0]) (by simp [results,results45,go_sem,z0,z1,z2,z3,z4]) rfl HFi.out)
theorem Dq {P M:Int} {am:OA} {K cm:Nat} {mod:LI} {m:Nat} {L:Ll} (V:aI P M mod m L=0) (H:OA) (C:Nat) (x:LI) (a:OA) (n c:Nat) (w:World)
  (N:Ints w am K mod) (B:Ints w H n x) (hi:bw w a n L) (Z:∀k,k<L.length->(ah P M.toNat mod).El (nth x k)) :
  Calls prog 213 #[.agg #[cG P,cG M,.slice am K cm],.slice H n C,.slice a n c,cG m] w λe w' =>
   ∃a1 c1,e = .returned (.slice a1 m c1)/\Ints w' a1 m (cmbTo (ah P M.toNat mod).ops m x L L.length)/\PY w w':=by
 obtain ⟨_,_,D,_⟩:=aL V;have hn:n<=256:=by rw [<- hi.len];exact (di V).choose_spec.2.2.2.1
 have E:=hi.len;obtain ⟨m',em,_,_,_,S⟩:=aZ V;obtain rfl:m=m':=by omega
 obtain ⟨k,r,F,hq,hF,z,_⟩:=eQ (aL V).1;subst r;obtain ⟨A,e2,G,Y⟩:=dQ (P:=P) (M:=(k:Int)) (mod:=mod) (by rw [cB];exact (aL V).1);obtain rfl:k=A:=by omega
 rw [KV] at Z S ⊢;rw [<- F] at Z S;have U:=pE hF z S Z;refine (nE P k am K cm mod H C x a n c L m w ⟨G,Y w am K N⟩ B hi (λj hj=>Z j (by omega)) S
  (λj hj=>by rw [<- U j (by omega)];exact (iM hF S Z j (by omega)).1) (by omega) (by omega)).mono ?_
 rintro e w' ⟨a1,c1,rfl,X,hb⟩;refine ⟨a1,c1,rfl,?_,hb⟩;rw [U _ (KT _),E];exact (Pn X).1
theorem DX (L:Ll) (t:LI):(List.range t.length).map (ba (L.map (bR t)))=t.map λq=>ba L q.toNat:=by refine Mi (by simp) λi h1 h2=>?_;rw [Lc,Ma] at h1;rw [LU,ML,LU];unfold ba;rw [O4];refine MF λr _=>?_;show nth (bR t r) i=_;rw [pA t r h1,aj h1]
theorem xz (P M:Int) (am:OA) (mn cm:Nat) (mod:LI) (m:Nat) (a:OA) (n c:Nat) (L:Ll) (ay:OA) (cy:Nat) (y:LI) (D:OA) (G ct:Nat) (t:LI) (w:World)
  (hmod:Ints w am mn mod) (hi:bw w a n L) (hE:aI P M mod m L=0) (hy:Ints w ay m y) (ht:Ints w D G t) (hyv:Vc (ah P M.toNat mod).El m y) (hT:tu m t) (hrk:kC (ah P M.toNat mod).ops L t=t.length) (hnt:G<=64) :
  Calls prog 237 #[.agg #[cG P,cG M,.slice am mn cm,cG m,.slice a n c],.slice ay m cy,.slice D G ct] w λe w' =>
   ∃a1 c1,e = .returned (.slice a1 m c1)/\Ints w' a1 m (rC (ah P M.toNat mod).ops m L y t)/\PY w w':=by
 obtain ⟨m',em,hm1,hm64,F,hR⟩:=aZ hE;obtain rfl:m=m':=by omega
 have hn64:n<=64:=by rw [<- hi.len];have h:=(D8 hE).len;rw [Ma] at h;omega
 have hil:=hi.len;have htl:=ht.len;obtain ⟨hAr,hbe⟩:=Ct F hR hyv hT;obtain ⟨_,_,hxe,hpl⟩:=B9 F hR hyv hT hrk;have hyl:=hy.len;obtain ⟨S,rfl,hel,_,_,_,_⟩:=eQ (aL hE).1;obtain ⟨M2,e2,hrf,_⟩:=dQ (by rw [cB];exact (aL hE).1);obtain rfl:S=M2:=by omega
 rw [KV] at *;have HNg:Hid (∀(V:World) (x:Int),(ah P S mod).El x->Calls prog 107 #[.agg #[cG P,cG S,.slice am mn cm],cG x] V λe w'=>e = .returned (cG ((ah P S mod).ops.neg x))/\PY V w'):=λV x hx =>
  rj P S am mn cm x V hrf (hrf.iQ (by rw [hel];exact hx))
 have HYe:Hid (∀j,j<m->(ah P S mod).El (nth y j)):=λj hj=>hyv.at hj;have HKp:Hid (∀V,PY w V->Calls prog 262 #[.slice a n c,.slice D G ct] V λe w'=>∃a1 c1,e = .returned (.slice a1 n c1)/\bw w' a1 n (L.map (bR t))/\PY V w'):=λV K=>by refine (uB m a n c L D G ct t V (hi.af K) (ht.af K) (λr hr=>(hR r hr).1) hT (by omega) (by omega)).mono ?_;rintro e w' ⟨a1,c1,R,rfl,hO,hb⟩;exact ⟨a1,c1,rfl,hO.iZ,hb⟩
 obtain ⟨A,hA⟩:∃A,(t.map λq=>ba L q.toNat)=A:=⟨_,rfl⟩
 obtain ⟨B,hB⟩:∃B,(t.map λq=>(ah P S mod).ops.neg (nth y q.toNat))=B:=⟨_,rfl⟩
 have HTu:Hid (∀V a1 c1,bw V a1 n (L.map (bR t))->Calls prog 263 #[.slice a1 n c1,cG G] V λe w'=>∃a2 c2 R,e = .returned (.slice a2 G c2)/\aO w' V.heap.size a2 G c2 R A/\PY V w'):=λV a1 c1 K=>by
  have h:=Dz a1 n c1 (L.map (bR t)) G G V K (λi hi'=>by rw [ox _ _ (by omega)];simp [bR,htl]) (KT _) (by omega) (by omega);have e:(List.range G).map (ba (L.map (bR t)))=A:=by rw [<- htl,DX,hA]
  rw [e] at h;exact h
 unfold rC;have hX:zm (ah P S mod).ops L y t=wh (ah P S mod).ops A B n:=by unfold zm;rw [hA,hB,hil]
 rw [hX] at hxe ⊢;rw [hA] at hAr hpl;rw [hB] at hbe hpl;rw [hil] at hAr hpl;have HSo:Hid (∀V aA cA ab cb,PY w V->bw V aA G A->Ints V ab G B->Calls prog 264 #[.agg #[cG P,cG S,.slice am mn cm],.agg #[cG n,.slice aA G cA],.slice ab G cb] V λe w' =>
   ∃a1 c1,e = .returned (.tuple #[.slice a1 n c1,cG 0])/\Ints w' a1 n (wh (ah P S mod).ops A B n)/\PY V w'):=λV aA cA ab cb K h1 h2=>by have h:=As P S am mn cm mod n aA G cA A ab cb B V (hmod.af K) h1 h2 (aL hE).1 (by rw [KV];exact hAr) (by rw [KV];exact hbe) (by rw [KV,hpl,htl]) hn64 hnt;rw [KV] at h;exact h
 obtain ⟨Xs,hXs⟩:∃Xs,wh (ah P S mod).ops A B n=Xs:=⟨_,rfl⟩
 rw [hXs] at hxe HSo ⊢;have hcv:=(iM F hR hxe L.length (KT _)).1;have HCb:Hid (∀V ax cx,PY w V->Ints V ax n Xs->Calls prog 213 #[.agg #[cG P,cG S,.slice am mn cm],.slice ax n cx,.slice a n c,cG m] V λe w' =>
   ∃a1 c1,e = .returned (.slice a1 m c1)/\Ints w' a1 m (cmbTo (ah P S mod).ops m Xs L L.length)/\PY V w'):=λV ax cx K h1=>by have h:=Dq (cm:=cm) hE ax cx Xs a n c V (hmod.af K) h1 (hi.af K) (by rw [KV];exact hxe);rw [KV] at h;exact h
 obtain ⟨Cm,hCm⟩:∃Cm,cmbTo (ah P S mod).ops m Xs L L.length=Cm:=⟨_,rfl⟩
 rw [hCm] at hcv HCb ⊢;have HAd:Hid (∀V au cu,PY w V->Ints V au m Cm->Calls prog 227 #[.agg #[cG P,cG S,.slice am mn cm],.slice ay m cy,cG 1,.slice au m cu] V λe w' =>
   ∃a1 c1,e = .returned (.slice a1 m c1)/\Ints w' a1 m (bX (ah P S mod).ops y 1 Cm)/\PY V w'):=λV au cu K h1=>by have h:=DH (cm:=cm) hE ay cy y 1 au cu Cm V (hmod.af K) (hy.af K) h1 (by rw [KV];exact hyv) (by rw [KV];exact F.one) (by rw [KV];exact hcv);rw [KV] at h;exact h
 obtain ⟨Z,hZ⟩:∃Z,bX (ah P S mod).ops y 1 Cm=Z:=⟨_,rfl⟩
 rw [hZ] at HAd ⊢;have HTk:Hid (∀i,i<G->∃p:Nat,nth t i=p/\p<m/\B.take (i+1)=B.take i ++ [(ah P S mod).ops.neg (nth y p)]):=λi hi'=>by have h:=hT i (by omega);refine ⟨(nth t i).toNat,by omega,by omega,?_⟩;rw [K4 (by rw [<- hB,Lc];omega)];congr 1;rw [aj (show i<t.length by omega)];simp [<- hB]
 have HBl:Hid (B.length=G):=by show _=_;rw [<- hB,Lc];exact htl
 generalize (ah P S mod).ops=O at *;generalize (ah P S mod).El=El at *;clear hE em F hR hAr hbe hxe hpl hcv hCm hZ hXs hX hA hB hel e2 hrf hmod hi hyv hT hrk;go_enter func237,ntmps237;go_wp2_with fail;obtain ⟨W,hW⟩:∃W:World,W=w.alloc (.cells #[cG P,cG S,.slice am mn cm,cG m,.slice a n c] 27):=⟨_,rfl⟩
 rw [<- hW];have hbW:PY w W:=by rw [hW];exact an _ _
 have x0:aQ W w.heap.size [cG P,cG S,.slice am mn cm,cG m,.slice a n c]:=by rw [hW];exact Po _ _ _ rfl
 have HS:Hid (∀V,PY W V->V.cell? ⟨w.heap.size,0,none⟩=some (cG P)/\V.cell? ⟨w.heap.size,1,none⟩=some (cG S)/\V.cell? ⟨w.heap.size,2,none⟩=some (.slice am mn cm)/\V.cell? ⟨w.heap.size,3,none⟩=some (cG m)/\V.cell? ⟨w.heap.size,4,none⟩=some (.slice a n c)):=λV K=>by have r0:=x0.af K;exact ⟨r0.cell 0 rfl,r0.cell 1 rfl,r0.cell 2 rfl,r0.cell 3 rfl,r0.cell 4 rfl⟩
 have HbW:=Z5 hbW;have htW:=ht.af hbW;have hyW:=hy.af hbW;have hplt:=ht.pl;have hply:=hy.pl;clear hW x0 hbW ht hy;go_loopw [7,8] (λbv iv wr=>∃(i:Nat) (ar:OA) (cr:Nat),i<=G/\iv = cG i/\bv = .slice ar i cr/\wr.ownsRow W.heap.size 3 1 (.slice ar i cr) i ((B.take i).map (Value.int .i64))/\PY W wr) (λ_ iv _=>G - (intOf iv).toNat);case atStart=>exact ⟨0,none,0,K0 _,rfl,rfl,by simpa using cU,KU _ _⟩
 case round =>
  obtain ⟨i,ar,cr,hint,rfl,rfl,hown,hbr⟩:=hrel
  generalize wr=U at *
  by_cases hlt:i<G
  ·obtain ⟨p,hp,hpm,hst⟩:=HTk i hlt
   have ct':=(htW.af hbr).cell i hlt
   rw [hp] at ct'
   have cy':=(hyW.af hbr).cell p hpm
   have Hng:=Z5 (λV=>HNg V _ (HYe p hpm))
   obtain ⟨x,hx⟩:∃x,nth y p=x:=⟨_,rfl⟩
   rw [hx] at cy' hst Hng
   obtain ⟨z,hz⟩:∃z,O.neg x=z:=⟨_,rfl⟩
   rw [hz] at hst Hng
   have Hst:=Z5 hst
   have ct0:=htW.cell i hlt
   have cy0:=hyW.cell p hpm
   rw [hp] at ct0
   rw [hx] at cy0
   have HS3:Hid (∀V,PY W V->V.cell? ⟨w.heap.size,0,none⟩=some (cG P)/\V.cell? ⟨w.heap.size,1,none⟩=some (cG S)/\V.cell? ⟨w.heap.size,2,none⟩=some (.slice am mn cm)/\V.cell? ⟨ablk D,aJ D+i,none⟩=some (cG p)/\V.cell? ⟨ablk ay,aJ ay+p,none⟩=some (cG x)):=λV K=>by obtain ⟨q0,q1,q2,_⟩:=HS V K;exact ⟨q0,q1,q2,aB K ct0,aB K cy0⟩
   have Hown:=Z5 (K3 hown hbr)
   have hsz:=hbr.size
   have hi1:(i:Int)<G:=by omega
   have hp1:(p:Int)<m:=by omega
   have hp0:(0:Int)<=p:=by omega
   clear hst hown hx hz hp ct' cy' ct0 cy0
   go_wp2_with fail
   go_region_held3 (λV=>V.cell? ⟨w.heap.size,0,none⟩=some (cG P)/\V.cell? ⟨w.heap.size,1,none⟩=some (cG S)/\V.cell? ⟨w.heap.size,2,none⟩=some (.slice am mn cm)/\V.cell? ⟨ablk D,aJ D+i,none⟩=some (cG p)/\V.cell? ⟨ablk ay,aJ ay+p,none⟩=some (cG x))
    ((refine HS3 _ ?_;first | exact C | exact Pm Hown.2 hb4w | exact Pm Hown.2 (KU _ _).drew | exact hB4 | exact hB4.drew))
    (first
     | (go_at_call 107;((with_reducible refine (Hng.out _).mono ?_);rintro e w4 ⟨rfl,hb4⟩;have hb4w:PY U w4:=Pm (KU _ _).drew hb4;have hO4:=bf Hown.out.1 (Pq hb4w (.cells #[cG z] 3));have hB4:=Pm Hown.out.2 (Pq hb4w (.cells #[cG z] 3))))
     | (refine eh (by rfl) (.tmp 18) (.tmp 29) 22 3 (by rfl) (cG 0) 8 underlying22 bh (by rfl) W.heap.size ar i cr ((B.take i).map (Value.int .i64)) (by rfl) (by exact hO4) _ 1 1 [cG z] (by rfl) (λ_=>rfl) rfl (by intro j hj;obtain rfl:j=0:=(by omega);exact dB _ _ _ rfl) (by intro y hy;simp at hy;subst hy;rfl) (by omega) (by unfold maxLen;omega) (by exact hB4.size) ?_;intro a5 c5 w5 hown5 hgr5 hap5;have C:PY W w5:=(by first | exact Pp hB4 hO4 hgr5 (KT _) hB4.size | exact Pp hB4.drew (by exact hO4) hgr5 (KT _) hB4.drew.size)))
   all_goals (
    go_wp2_with fail
    go_roundw
    case rel=>exact ⟨i+1,a5,c5,by omega,by go_num,rfl,by rw [Hst.out,LJ];exact hown5,C⟩
    case measure=>simp [intOf] <;> omega)
  ·obtain rfl:i=G:=by omega
   have hB1:B.take i=B:=K5 (by rw [HBl.out];exact KT _)
   rw [hB1] at hown
   have hIB:=Z5 (Pn hown).1
   have hbwU:=Pm HbW.out hbr
   have HKp2:Hid (∀V,PY U V->Calls prog 262 #[.slice a n c,.slice D i ct] V λe w'=>∃a1 c1,e = .returned (.slice a1 n c1)/\bw w' a1 n (L.map (bR t))/\PY V w'):=λV K=>HKp V (Pm hbwU K)
   have HS4:Hid (∀V,PY U V->V.cell? ⟨w.heap.size,0,none⟩=some (cG P)/\V.cell? ⟨w.heap.size,1,none⟩=some (cG S)/\V.cell? ⟨w.heap.size,2,none⟩=some (.slice am mn cm)/\V.cell? ⟨w.heap.size,3,none⟩=some (cG m)/\V.cell? ⟨w.heap.size,4,none⟩=some (.slice a n c)):=λV K=>HS V (Pm hbr K)
   have HbU:=Z5 (K3 hbr hbwU)
   obtain ⟨c0,c1,c2,c3,c4⟩:=HS4 U (KU _ _)
   clear hB1 hown hbr hbwU HKp
   go_upto_region 6 with fail
   go_cut [9] (λv wx=>∃g,v = .pointer (some ⟨g,0,none⟩)/\U.heap.size<=g/\(∃a2 c2,aQ wx g [cG n,.slice a2 i c2]/\bw wx a2 i A)/\PY U wx)
   case first =>
    obtain ⟨Zo,hZo⟩:∃Zo:Obj,Zo = .cells #[cG 0,ds] 94:=⟨_,rfl⟩
    have hA1:PY U (U.alloc Zo):=an _ _
    have hZ1:aQ (U.alloc Zo) U.heap.size [cG 0,ds]:=by rw [hZo];exact Po _ _ _ rfl
    have hA2:∀V,PY U V->aQ (V.alloc Zo) V.heap.size [cG 0,ds]:=λV _=>by rw [hZo];exact Po _ _ _ rfl
    have HA:=Z5 (K3 hA1 (K3 hZ1 hA2))
    obtain ⟨z0,z1,z2,z3,z4⟩:=HS4 (U.alloc Zo) hA1
    rw [hZo] at z0 z1 z2 z3 z4 HA
    clear hA1 hZ1 hA2 hZo
    go_region_law ((first
     | (go_simp;go_at_call 262;((with_reducible refine (HKp2.out _ (by first | exact (KU _ _).drew | exact HA.out.1 | exact HA.out.1.drew)).mono ?_);rintro e w3 ⟨a3,k3,rfl,hM3,hb3⟩;have N:PY U w3:=(by first | exact Pm (KU _ _).drew hb3 | exact Pm HA.out.1 hb3 | exact Pm HA.out.1.drew hb3);obtain ⟨d0,d1,d2,d3,d4⟩:=HS4.out w3 N;obtain ⟨y0,y1,y2,y3,y4⟩:=HS4.out _ (Pq N (.cells #[cG 0,ds] 94));(first | (have H:=HA.out.2.1.af hb3;have p0:=H.cell 0 rfl;have p1:=H.cell 1 rfl;have pf0:=H.frozen 0;have pf1:=H.frozen 1) | (have H:=(HA.out.2.1.af (KU _ _).drew).af hb3;have p0:=H.cell 0 rfl;have p1:=H.cell 1 rfl;have pf0:=H.frozen 0;have pf1:=H.frozen 1) | skip)))
     | (go_simp;go_at_call 263;((with_reducible refine (HTu.out _ a3 k3 (by first | exact hM3 | exact hM3.af (an _ _))).mono ?_);rintro e w5 ⟨a5,k5,R5,rfl,E,C⟩;have Y:PY U w5:=(by first | exact Pm N C | exact Pm (Pq N _) C | exact Pm (Pq N _).drew C);obtain ⟨e0,e1,e2,e3,e4⟩:=HS4.out w5 Y;obtain ⟨g0,g1,g2,g3,g4⟩:=HS4.out _ (Pq Y (.cells #[cG 0,ds] 94));have hZ6:=HA.out.2.2 w5 Y;have r0:=hZ6.cell 0 rfl;have r1:=hZ6.cell 1 rfl;have rf0:=hZ6.frozen 0;have rf1:=hZ6.frozen 1;(first | (have X:=H.af C;have q0:=X.cell 0 rfl;have q1:=X.cell 1 rfl;have qf0:=X.frozen 0;have qf1:=X.frozen 1) | (have X:=(HA.out.2.2 w3 N).af C;have q0:=X.cell 0 rfl;have q1:=X.cell 1 rfl;have qf0:=X.frozen 0;have qf1:=X.frozen 1) | (have X:=((HA.out.2.2 w3 N).af (KU _ _).drew).af C;have q0:=X.cell 0 rfl;have q1:=X.cell 1 rfl;have qf0:=X.frozen 0;have qf1:=X.frozen 1) | skip)))))
    all_goals (
     go_wp2_with fail
     go_meet
     first
     | exact ⟨w5.heap.size,rfl,Y.size,⟨a5,k5,Po _ _ _ rfl,E.iZ.af (an _ _)⟩,Pq Y _⟩
     | exact ⟨U.heap.size,rfl,KT _,⟨a5,k5,(X.setCell 0 _).setCell 1 _,(aO.bp (E.bp λx hx=>Lf _ _ _ _ λe=>(by have h1:=(E.lt x hx).1;have h2:=hb3.size;have h3:=H.1;have e':x=U.heap.size:=e;omega)) λx hx=>Lf _ _ _ _ λe=>(by have h1:=(E.lt x hx).1;have h2:=hb3.size;have h3:=H.1;have e':x=U.heap.size:=e;omega)).iZ⟩,(Y.setCell (KT _) _).setCell (KT _) _⟩
     | exact ⟨w3.heap.size,rfl,N.size,⟨a5,k5,(X.setCell 0 _).setCell 1 _,(aO.bp (E.bp λx hx=>Lf _ _ _ _ λe=>(by have h1:=(E.lt x hx).1;simp at h1;have e':x=w3.heap.size:=e;omega)) λx hx=>Lf _ _ _ _ λe=>(by have h1:=(E.lt x hx).1;simp at h1;have e':x=w3.heap.size:=e;omega)).iZ⟩,(Y.setCell N.size _).setCell N.size _⟩
     | exact ⟨w5.heap.size,rfl,Y.size,⟨a5,k5,(hZ6.setCell 0 _).setCell 1 _,(aO.bp ((E.af (an _ _)).bp λx hx=>Lf _ _ _ _ λe=>(by have h1:=(E.lt x hx).2;have e':x=w5.heap.size:=e;omega)) λx hx=>Lf _ _ _ _ λe=>(by have h1:=(E.lt x hx).2;have e':x=w5.heap.size:=e;omega)).iZ⟩,((Pq Y _).setCell Y.size _).setCell Y.size _⟩)
   obtain ⟨g,rfl,hg,⟨a2,k2,hbx,hMA⟩,hbU6⟩:=hcut
   generalize wc=V6 at *
   clear c0 c1 c2 c3 c4
   obtain ⟨c0,c1,c2,c3,c4⟩:=HS4 V6 hbU6
   have m0:=hbx.cell 0 rfl
   have m1:=hbx.cell 1 rfl
   have hbw6:=Pm HbU.2 hbU6
   have HSo2:=Z5 (HSo V6 a2 k2 ar cr hbw6 hMA (hIB.af hbU6))
   clear HSo HTu HKp2 hbx hMA
   go_wp2_with fail
   refine HSo2.mono ?_
   rintro e w7 ⟨a7,k7,rfl,hI7,hb7⟩
   have hbw7:=Pm hbw6 hb7
   have hbU7:=Pm hbU6 hb7
   have HCb2:Hid (∀V,PY w7 V->Calls prog 213 #[.agg #[cG P,cG S,.slice am mn cm],.slice a7 n k7,.slice a n c,cG m] V λe w' =>
     ∃a1 c1,e = .returned (.slice a1 m c1)/\Ints w' a1 m Cm/\PY V w'):=λV K=>HCb V a7 k7 (Pm hbw7 K) (hI7.af K)
   have HAd2:Hid (∀V au cu,PY w7 V->Ints V au m Cm->Calls prog 227 #[.agg #[cG P,cG S,.slice am mn cm],.slice ay m cy,cG 1,.slice au m cu] V λe w' =>
     ∃a1 c1,e = .returned (.slice a1 m c1)/\Ints w' a1 m Z/\PY V w'):=λV au cu K h1=>HAd V au cu (Pm hbw7 K) h1
   have HS7:Hid (∀V,PY w7 V->V.cell? ⟨w.heap.size,0,none⟩=some (cG P)/\V.cell? ⟨w.heap.size,1,none⟩=some (cG S)/\V.cell? ⟨w.heap.size,2,none⟩=some (.slice am mn cm)/\V.cell? ⟨w.heap.size,3,none⟩=some (cG m)/\V.cell? ⟨w.heap.size,4,none⟩=some (.slice a n c)/\PY w7 V):=λV K=>by obtain ⟨q0,q1,q2,q3,q4⟩:=HS4 V (Pm hbU7 K);exact ⟨q0,q1,q2,q3,q4,K⟩
   have Hbw7:=Z5 hbw7
   clear c0 c1 c2 c3 c4 m0 m1 HCb HAd hI7 hb7 HSo2
   go_upto_region 8 with fail
   go_region_held3 (λV=>V.cell? ⟨w.heap.size,0,none⟩=some (cG P)/\V.cell? ⟨w.heap.size,1,none⟩=some (cG S)/\V.cell? ⟨w.heap.size,2,none⟩=some (.slice am mn cm)/\V.cell? ⟨w.heap.size,3,none⟩=some (cG m)/\V.cell? ⟨w.heap.size,4,none⟩=some (.slice a n c)/\PY w7 V)
    ((refine HS7 _ ?_;first | exact hb9w | exact hb8w | exact (KU _ _).drew | assumption | (go_split_ands;assumption)))
    (first
     | (go_at_call 213;((with_reducible refine (HCb2.out _ (by go_split_ands;assumption)).mono ?_);rintro e w8 ⟨a8,k8,rfl,hI8,hb8⟩;have hb8w:PY w7 w8:=(by go_split_ands;exact Pm (by assumption) hb8)))
     | (go_at_call 227;((with_reducible refine (HAd2.out _ a8 k8 (by go_split_ands;assumption) hI8).mono ?_);rintro e w9 ⟨a9,k9,rfl,hI9,hb9⟩;have hb9w:PY w7 w9:=(by go_split_ands;exact Pm (by assumption) hb9))))
   all_goals (
    have HF:=Z5 hI9
    clear hI9
    go_wp2_with fail
    go_ret
    exact ⟨a9,k9,rfl,HF,Pm Hbw7.out hb9w⟩)
theorem GA {P M:Int} {mod:LI} (V:bs P M mod=true) (am:OA) (Z cm:Nat) (w:World) :
  Calls prog 24 #[.agg #[cG P,cG M,.slice am Z cm]] w λe w'=>e = .returned (cG ((ah P M.toNat mod).q:Nat))/\PY w w':=by obtain ⟨k,X,U,Y,hF,S,_⟩:=eQ V;subst X;have h:=jh P k am Z cm w;rw [KV];rw [Y];exact h
theorem DA {P M:Int} {am:OA} {K cm:Nat} {mod:LI} {m:Nat} {L:Ll} (V:aI P M mod m L=0) (H:OA) (C:Nat) (x:LI) (a:OA) (n c:Nat) (w:World)
  (N:Ints w am K mod) (B:Ints w H n x) (hi:bw w a n L) (Z:∀k,k<L.length->(ah P M.toNat mod).El (nth x k)) :
  Calls prog 213 #[.agg #[cG P,cG M,.slice am K cm],.slice H n C,.slice a n c,cG m] w λe w' =>
   ∃a1 c1,e = .returned (.slice a1 m c1)/\w'.ownsRow w.heap.size 3 1 (.slice a1 m c1) m ((cmbTo (ah P M.toNat mod).ops m x L L.length).map (Value.int .i64))/\PY w w':=by
 obtain ⟨_,_,D,_⟩:=aL V;have hn:n<=256:=by rw [<- hi.len];exact (di V).choose_spec.2.2.2.1
 have E:=hi.len;obtain ⟨m',em,_,_,_,S⟩:=aZ V;obtain rfl:m=m':=by omega
 obtain ⟨k,r,F,hq,hF,z,_⟩:=eQ (aL V).1;subst r;obtain ⟨A,e2,G,Y⟩:=dQ (P:=P) (M:=(k:Int)) (mod:=mod) (by rw [cB];exact (aL V).1);obtain rfl:k=A:=by omega
 rw [KV] at Z S ⊢;rw [<- F] at Z S;have U:=pE hF z S Z;refine (nE P k am K cm mod H C x a n c L m w ⟨G,Y w am K N⟩ B hi (λj hj=>Z j (by omega)) S
  (λj hj=>by rw [<- U j (by omega)];exact (iM hF S Z j (by omega)).1) (by omega) (by omega)).mono ?_
 rintro e w' ⟨a1,c1,rfl,X,hb⟩;refine ⟨a1,c1,rfl,?_,hb⟩;rw [U _ (KT _),E];exact X
def vo (q n t i:Nat):LI:=List.replicate (n - t) 0 ++ digN q t i
theorem F9 (q n t i:Nat) (h:t<n):(vo q n t i).set (n - 1 - t) ((i / q ^ t % q:Nat):Int)=vo q n (t+1) i:=by
 unfold vo;have e:n - t=(n - 1 - t)+1:=by omega
 have Z:n - (t+1)=n - 1 - t:=by omega
 rw [Z,e,digN,List.replicate_succ',LW,NB _ _ (by simp),Ov,NT];rfl
theorem Dt (P M:Int) (am:OA) (E cm:Nat) (mod:LI) (m:Nat) (a:OA) (n c:Nat) (L:Ll) (i:Nat) (w:World) (F:Ints w am E mod) (hi:bw w a n L) (hE:aI P M mod m L=0) (hi6:i<=65536) :
  Calls prog 160 #[.agg #[cG P,cG M,.slice am E cm,cG m,.slice a n c],cG i] w λe w' =>
   ∃a1 c1,e = .returned (.slice a1 m c1)/\w'.ownsRow w.heap.size 3 1 (.slice a1 m c1) m ((cmbTo (ah P M.toNat mod).ops m (digN (ah P M.toNat mod).q L.length i) L L.length).map (Value.int .i64))/\PY w w':=by
 have hq:=wi hE;have hn:n<=256:=by rw [<- hi.len];exact (di hE).choose_spec.2.2.2.1
 have HO:Hid (∀V,Calls prog 24 #[.agg #[cG P,cG M,.slice am E cm]] V λe w'=>e = .returned (cG ((ah P M.toNat mod).q:Nat))/\PY V w'):=λV=>GA (aL hE).1 am E cm V;have hil:=hi.len;subst hil;have HC:Hid (∀V ax cx,PY w V->Ints V ax L.length (digN (ah P M.toNat mod).q L.length i)->Calls prog 213 #[.agg #[cG P,cG M,.slice am E cm],.slice ax L.length cx,.slice a L.length c,cG m] V λe w' =>
   ∃a1 c1,e = .returned (.slice a1 m c1)/\w'.ownsRow V.heap.size 3 1 (.slice a1 m c1) m ((cmbTo (ah P M.toNat mod).ops m (digN (ah P M.toNat mod).q L.length i) L L.length).map (Value.int .i64))/\PY V w'):=λV ax cx hV hx =>
  DA hE ax cx (digN (ah P M.toNat mod).q L.length i) a L.length c V (F.af hV) hx (hi.af hV) (λk hk =>
   wj (q:=(ah P M.toNat mod).q) (n:=i) (by omega) L.length _ (aG (l:=digN (ah P M.toNat mod).q L.length i) (i:=k) (by rw [ta];exact hk)))
 obtain ⟨X,hX⟩:∃X,cmbTo (ah P M.toNat mod).ops m (digN (ah P M.toNat mod).q L.length i) L L.length=X:=⟨_,rfl⟩
 rw [hX] at HC ⊢;obtain ⟨_,hq2,hq256⟩:=hq;generalize (ah P M.toNat mod).q=q at *;have hpl:=hi.pl;clear hX F hE hi;generalize L.length=n at *;go_enter func160,ntmps160;go_upto_region 1 with fail;obtain ⟨W,hW⟩:∃W:World,W=w.alloc (.cells #[cG P,cG M,.slice am E cm,cG m,.slice a n c] 27):=⟨_,rfl⟩
 rw [<- hW];have hbW:PY w W:=by rw [hW];exact an _ _
 have x0:aQ W w.heap.size [cG P,cG M,.slice am E cm,cG m,.slice a n c]:=by rw [hW];exact Po _ _ _ rfl
 have HX:=Z5 x0;have HbW:=Z5 hbW;have c0:=x0.cell 0 rfl;have c1:=x0.cell 1 rfl;have c2:=x0.cell 2 rfl;clear hW x0 hbW;go_wp2_with fail;refine (HO W).mono ?_;rintro e w1 ⟨rfl,D⟩;clear c0 c1 c2;have hF1:=Pm HbW.out D;have y1:=HX.af D;have c4:=y1.cell 4 rfl;clear y1;go_wp2_with (at_make;refine bV rfl _ _ 22 3 rfl (cG 0) 8 underlying22 bh rfl n rfl rfl (by omega) (by unfold maxLen;omega) ?_;intro a5 w5 Z H hge hlt5);clear c4;have S:w5.ownsRow w1.heap.size 3 1 (.slice a5 n n) n ((vo q n 0 i).map (Value.int .i64)):=by rw [show vo q n 0 i=List.replicate n 0 by simp [vo,digN],Mv];exact Z
 clear Z hge hlt5;go_loopw [7,1] (λiv nv wr=>∃t:Nat,t<=n/\iv = cG ((n:Int) - 1 - t)/\nv = cG ((i / q ^ t:Nat):Int)/\wr.ownsRow w1.heap.size 3 1 (.slice a5 n n) n ((vo q n t i).map (Value.int .i64))/\PY w1 wr) (λiv _ _=>(intOf iv+1).toNat);case atStart=>exact ⟨0,K0 _,by go_num,by simp,S,H⟩
 case round =>
  clear S H
  obtain ⟨t,ht,rfl,rfl,Z,C⟩:=hrel
  by_cases hlt:t<n
  ·have K:=F9 q n t i hlt
   have U:=Z5 K
   obtain ⟨x,hx⟩:∃x,i / q ^ t=x:=⟨_,rfl⟩
   have hx6:x<=65536:=by rw [<- hx];exact K9 (NP _ _) hi6
   have Hn:Hid (i / q ^ (t+1)=x / q):=by show _=_;rw [<- hx,MT,Nat.div_div_eq_div_mul]
   rw [hx] at U ⊢
   have hqq:(q:Int) ≠ 0:=by omega
   have hqb:((q:Int) == 0)=false:=by simpa using hqq
   have r1:((x:Nat):Int).tmod (q:Nat)=((x % q:Nat):Int):=by rw [Mf (by omega)];simp
   have r2:((x:Nat):Int).tdiv (q:Nat)=((x / q:Nat):Int):=by rw [NY (by omega)];simp
   have hxq:x / q<=x:=NP _ _
   have hxm:x % q<=x:=Nat.mod_le _ _
   obtain ⟨y,hy⟩:∃y,x / q=y:=⟨_,rfl⟩
   obtain ⟨z,hz⟩:∃z,x % q=z:=⟨_,rfl⟩
   rw [hy] at r2 hxq Hn
   rw [hz] at r1 hxm U
   have r3:IntKind.i64.wrap (y:Int)=y:=La _ (by omega)
   obtain ⟨j,hj⟩:∃j:Nat,n - 1 - t=j:=⟨_,rfl⟩
   have B:j<n:=by omega
   have hj2:(n:Int) - 1 - t=j:=by omega
   have hj3:(n:Int) - 1 - (t+1:Nat)=(j:Int) - 1:=by omega
   rw [hj] at U
   rw [hj2]
   have Hj3:=Z5 hj3
   obtain ⟨hints,Y⟩:=Pn Z
   have hpl5:=hints.pl
   have cz:=hints.cell j B
   have fz:=(Y (by omega)).2 j B
   have hB:=(Y (by omega)).1
   have d0:decide ((0:Int)<=(j:Int))=true:=by simp
   clear hx K hy hz hj hj2 hj3 hxq hints Y
   go_wp2_with fail
   go_roundw
   case rel =>
    have h:=bA Z j B (cG (z:Int))
    rw [<- Lq,U.out] at h
    exact ⟨t+1,by omega,by rw [Hj3.out] <;> go_num,by rw [Hn.out],h,C.setCell hB _⟩
   case measure=>simp [intOf] <;> omega
  ·obtain rfl:t=n:=by omega
   have d0:decide ((0:Int)<=(t:Int) - 1 - t)=false:=by simp;omega
   have G:vo q t t i=digN q t i:=by simp [vo]
   rw [G] at Z
   have A:=Pm hF1 C
   have HCm:=Z5 (HC wr a5 t A (Pn Z).1)
   have r:=HX.af (Pm D C)
   have c0:=r.cell 0 rfl
   have c1:=r.cell 1 rfl
   have c2:=r.cell 2 rfl
   have c3:=r.cell 3 rfl
   have c4:=r.cell 4 rfl
   clear G Z r
   go_wp2_with fail
   refine HCm.mono ?_
   rintro e w6 ⟨a6,c6,rfl,N,hb6⟩
   have HF:=Z5 (aY N A.size)
   have hF3:=Pm A hb6
   clear c0 c1 c2 c3 c4 N
   go_wp2_with fail
   go_ret
   exact ⟨a6,c6,rfl,HF,hF3⟩
def pC (Z:Int) (S:Ll) (w:World) (e:Ending) (w':World):Prop :=
 PY w w'/\((Z ≠ 0/\e = .returned (.tuple #[ds,cG Z]))\/(Z=0/\∃a k c,e = .returned (.tuple #[.slice a k c,cG 0])/\bw w' a k S))
theorem wD (P M:Int) (am:OA) (G cm:Nat) (mod:LI) (m:Nat) (a:OA) (n c:Nat) (L:Ll) (w:World) (N:Ints w am G mod) (hi:bw w a n L) (E:aI P M mod m L=0) :
  Calls prog 104 #[.agg #[cG P,cG M,.slice am G cm,cG m,.slice a n c]] w (pC (jP (ah P M.toNat mod).q L.length) (wlkS (ah P M.toNat mod).ops (ah P M.toNat mod).q L (List.replicate m 0)) w):=by
 have HSz:Hid (∀V,PY w V->Calls prog 46 #[.agg #[cG P,cG M,.slice am G cm,cG m,.slice a n c]] V λe w' =>
   e = .returned (.tuple #[cG (oq (ah P M.toNat mod).q L.length),cG (jP (ah P M.toNat mod).q L.length)])/\PY V w'):=λV hV=>by have h:=qb P M am G cm mod m a n c L V (N.af hV) (hi.af hV);unfold J8 J7 at h;rw [KX E,KX E] at h;exact h
 have hq:=(wi E).2;have hln:=jy (ah P M.toNat mod).ops (ah P M.toNat mod).q L (List.replicate m 0);have HAt:Hid (∀V i,PY w V->i<(ah P M.toNat mod).q ^ L.length->i<=65536->Calls prog 160 #[.agg #[cG P,cG M,.slice am G cm,cG m,.slice a n c],cG (i:Nat)] V λe w' =>
   ∃a1 c1,e = .returned (.slice a1 m c1)/\w'.ownsRow V.heap.size 3 1 (.slice a1 m c1) m ((ai (wlkS (ah P M.toNat mod).ops (ah P M.toNat mod).q L (List.replicate m 0)) i).map (Value.int .i64))/\PY V w'):=λV i hV hi1 hi2=>by rw [Cl (by omega) hi1];exact Dt P M am G cm mod m a n c L i V (N.af hV) (hi.af hV) E hi2
 have HRl:Hid (∀i,i<(ah P M.toNat mod).q ^ L.length->(ai (wlkS (ah P M.toNat mod).ops (ah P M.toNat mod).q L (List.replicate m 0)) i).length=m):=λi hi1=>by
  rw [Cl (by omega) hi1];obtain ⟨m',em,hm1,hm64,F,hR⟩:=aZ E;obtain rfl:m=m':=by omega
  exact (iM F hR (λk hk=>wj (q:=(ah P M.toNat mod).q) (n:=i) (by omega) L.length _ (aG (l:=digN (ah P M.toNat mod).q L.length i) (i:=k) (by rw [ta];exact hk))) L.length (KT _)).1.1
 have hcase:(jP (ah P M.toNat mod).q L.length=0/\oq (ah P M.toNat mod).q L.length=(((ah P M.toNat mod).q ^ L.length:Nat):Int)/\(ah P M.toNat mod).q ^ L.length<=65536)\/jP (ah P M.toNat mod).q L.length ≠ 0:=by
  by_cases h:((ah P M.toNat mod).q:Int) ^ L.length<=65536
  ·refine .inl ⟨(ob h).2,?_,?_⟩
   ·rw [(ob h).1];simp
   ·have e:((ah P M.toNat mod).q:Int) ^ L.length=(((ah P M.toNat mod).q ^ L.length:Nat):Int):=by simp
    rw [e] at h;omega
  ·refine .inr ?_;rw [(re h).2];decide
 have hm64:=(aL E).2.2.1;generalize jP (ah P M.toNat mod).q L.length=er at *;generalize oq (ah P M.toNat mod).q L.length=v at *;generalize wlkS (ah P M.toNat mod).ops (ah P M.toNat mod).q L (List.replicate m 0)=S at *;generalize (ah P M.toNat mod).q ^ L.length=NN at *;clear N hi E hq;go_enter func104,ntmps104;go_upto_region 1 with fail;obtain ⟨W,hW⟩:∃W:World,W=w.alloc (.cells #[cG P,cG M,.slice am G cm,cG m,.slice a n c] 27):=⟨_,rfl⟩
 rw [<- hW];have hbW:PY w W:=by rw [hW];exact an _ _
 have x0:aQ W w.heap.size [cG P,cG M,.slice am G cm,cG m,.slice a n c]:=by rw [hW];exact Po _ _ _ rfl
 have HX:=Z5 x0;have HbW:=Z5 hbW;have c0:=x0.cell 0 rfl;have c1:=x0.cell 1 rfl;have c2:=x0.cell 2 rfl;have c3:=x0.cell 3 rfl;have c4:=x0.cell 4 rfl;clear hW x0 hbW;go_wp2_with fail;refine (HSz W HbW.out).mono ?_;rintro e D ⟨rfl,hb1⟩;have r:=Pm HbW.out hb1;clear c0 c1 c2 c3 c4;rcases hcase with ⟨h0,hv,h6⟩ | h0;rotate_left
 ·have d0:(er != 0)=true:=by simpa using h0
  have H0:=Z5 h0;clear h0;go_wp2_with fail;go_ret2;exact ⟨r,.inl ⟨H0,rfl⟩⟩
 subst h0;subst hv;have Hln:=Z5 hln;clear hln;go_wp2_with fail;go_loopw [6,7] (λsv iv wr=>∃(k:Nat) (a1:OA) (c1:Nat),k<=NN/\iv = cG k/\sv = .slice a1 k c1/\(∃R,aO wr D.heap.size a1 k c1 R (S.take k))/\PY D wr) (λ_ iv _=>NN - (intOf iv).toNat);case atStart=>exact ⟨0,none,0,K0 _,rfl,rfl,⟨[],by simpa using PE D D.heap.size⟩,KU _ _⟩
 case round =>
  obtain ⟨k,a1,c1,hk,rfl,rfl,⟨R,hO⟩,X⟩:=hrel
  by_cases j:k<NN
  ·have hF2:=Pm r X
   have HA:=Z5 (HAt wr k hF2 j (by omega))
   have A:k<S.length:=by rw [Hln.out];exact j
   have Htk:Hid (S.take (k+1)=S.take k ++ [ai S k]):=by show _=_;rw [K4 A,aE A]
   have HL:=Z5 (HRl k j)
   obtain ⟨x,hx⟩:∃x,ai S k=x:=⟨_,rfl⟩
   rw [hx] at HA Htk HL
   have y1:=HX.af (Pm hb1 X)
   have c0:=y1.cell 0 rfl
   have c1':=y1.cell 1 rfl
   have c2:=y1.cell 2 rfl
   have c3:=y1.cell 3 rfl
   have c4:=y1.cell 4 rfl
   have hsz:=X.size
   clear hx A y1
   go_wp2_with fail
   refine HA.mono ?_
   rintro e w3 ⟨a3,U,rfl,Y,K⟩
   clear c0 c1' c2 c3 c4
   have hbn:=an w3 (.cells #[.slice a3 m U] 22)
   have hO3:=hO.af K
   have z:=hO.af (Pm K hbn)
   have hs4:D.heap.size<=(w3.alloc (.cells #[.slice a3 m U] 22)).heap.size:=by have h1:=K.size;simp;omega
   have Z:=Z5 Y
   clear Y
   go_wp2_with (at_builtin;refine aS rfl _ _ 25 22 rfl ds 24 underlying25 dw rfl D.heap.size a1 k c1 _ rfl z.own ⟨w3.heap.size,0,none⟩ 1 (.slice a3 m U) rfl (bm w3 _ _) rfl (by omega) (by unfold maxLen;omega) hs4 ?_;intro a5 c5 w5 B H hap5)
   go_roundw
   case rel =>
    have C:(w3.alloc (.cells #[.slice a3 m U] 22)).ownsRow D.heap.size 3 1 (.slice a3 m U) m (x.map (Value.int .i64)):=aY (bf Z.out (an _ _)) hsz
    have hra:a3 ≠ none->¬ bQ a1 R (ablk a3):=λh0 hI=>by have h1:=(aT Z.out h0).1;have h2:=(hO.lt _ hI).2;omega
    have hP:=Py z (by rw [HL.out];exact C) hra (by rw [HL.out];exact B) H hap5
    exact ⟨k+1,a5,c5,by omega,by go_num,rfl,⟨_,by rw [Htk.out];exact hP⟩,Pp (Pm X (Pm K hbn)) z.own H (KT _) hs4⟩
   case measure=>simp [intOf] <;> omega
  ·obtain rfl:k=NN:=by omega
   rw [K5 (by rw [Hln.out];exact KT _)] at hO
   have hF:=Pm r X
   have HO:=Z5 hO.iZ
   clear hO
   go_wp2_with fail
   go_ret2
   exact ⟨hF,.inr ⟨rfl,a1,k,c1,rfl,HO⟩⟩
def AB (P M:Int) (mod:LI) (N:Int) (L:Ll):Int:=if aI P M mod N L=0 then vm P M mod N.toNat L else aI P M mod N L
theorem xk (P M:Int) (am:OA) (F cm:Nat) (mod:LI) (N:Int) (a:OA) (n c:Nat) (L:Ll) (w:World) (Z:Ints w am F mod) (hi:bw w a n L) :
  Calls prog 49 #[.agg #[cG P,cG M,.slice am F cm,cG N,.slice a n c]] w (pC (AB P M mod N L) (oD P M mod N.toNat L) w):=by
 have HD:Hid (∀V,PY w V->Calls prog 45 #[.agg #[cG P,cG M,.slice am F cm,cG N,.slice a n c]] V (jA P M mod N L V)):=λV hV=>qd P M am F cm mod N a n c L V (Z.af hV) (hi.af hV);have H:Hid (aI P M mod N L=0->∀V a1 c1 a2 c2,Ints V a1 mod.length mod->bw V a2 (aU (ah P M.toNat mod) L N.toNat).length (aU (ah P M.toNat mod) L N.toNat)->Calls prog 104 #[.agg #[cG P,cG M,.slice a1 mod.length c1,cG N,.slice a2 (aU (ah P M.toNat mod) L N.toNat).length c2]] V (pC (AB P M mod N L) (oD P M mod N.toNat L) V)):=λhE V a1 c1 a2 c2 h1 h2=>by rw [AB,KX hE];obtain ⟨m,rfl,_⟩:=aZ hE;rw [KV] at h2 ⊢;exact wD P M a1 _ c1 mod m a2 _ c2 _ V h1 h2 (gS hE).1
 have HE:Hid (aI P M mod N L ≠ 0->AB P M mod N L=aI P M mod N L):=λh=>by rw [AB,KY h]
 unfold jA at HD;unfold pC at H ⊢;generalize AB P M mod N L=er at *;generalize aI P M mod N L=ce at *;generalize oD P M mod N.toNat L=S at *;generalize aU (ah P M.toNat mod) L N.toNat=D at *;obtain ⟨nm,hnm⟩:∃nm,mod.length=nm:=⟨_,rfl⟩
 obtain ⟨nd,z⟩:∃nd,D.length=nd:=⟨_,rfl⟩
 rw [hnm,z] at HD H;clear Z hi hnm z;go_enter func49,ntmps49;go_upto_region 1 with fail;obtain ⟨W,hW⟩:∃W:World,W=w.alloc (.cells #[cG P,cG M,.slice am F cm,cG N,.slice a n c] 27):=⟨_,rfl⟩
 rw [<- hW];have hbW:PY w W:=by rw [hW];exact an _ _
 have G:aQ W w.heap.size [cG P,cG M,.slice am F cm,cG N,.slice a n c]:=by rw [hW];exact Po _ _ _ rfl
 have c0:=G.cell 0 rfl;have c1:=G.cell 1 rfl;have c2:=G.cell 2 rfl;have C:=G.cell 3 rfl;have c4:=G.cell 4 rfl;have Y:=Z5 hbW;clear hW G hbW;go_wp2_with fail;refine (HD W Y.out).mono ?_;rintro e w1 ⟨r,⟨h1,rfl⟩ | ⟨h1,a1,k1,a2,k2,rfl,j,A⟩⟩
 ·have hF1:=Pm Y.out (Pm r (an w1 (.cells #[cG 0,cG 0,ds,cG 0,ds] 27)));have d0:(ce != 0)=true:=by simpa using h1
  have HR:=Z5 (HE h1);have H1:=Z5 h1;clear c0 c1 c2 C c4 h1;go_wp2_with fail;go_ret2;exact ⟨hF1,.inl ⟨by rw [HR.out];exact H1.out,by rw [HR.out] <;> rfl⟩⟩
 have HW1:=Z5 (H h1);have d0:(ce != 0)=false:=by simp [h1]
 obtain ⟨U,hU⟩:∃U:World,U=w1.alloc (.cells #[cG P,cG M,.slice a1 nm k1,cG N,.slice a2 nd k2] 27):=⟨_,rfl⟩
 have X:PY w1 U:=by rw [hU];exact an _ _
 have E:aQ U w1.heap.size [cG P,cG M,.slice a1 nm k1,cG N,.slice a2 nd k2]:=by rw [hU];exact Po _ _ _ rfl
 have hF:=Pm Y.out (Pm r X);have HC:=Z5 (HW1 U a1 k1 a2 k2 (j.af X) (A.af X));clear c0 c1 c2 C c4 j A h1;have c0:=E.cell 0 rfl;have c1:=E.cell 1 rfl;have c2:=E.cell 2 rfl;have C:=E.cell 3 rfl;have c4:=E.cell 4 rfl;rw [hU] at c0 c1 c2 C c4;have HU:=Z5 hU;clear hU E;go_wp2_with fail;rw [<- HU.out];refine HC.mono ?_;rintro e w2 ⟨B,⟨h1,rfl⟩ | ⟨h1,a3,k3,c3',rfl,hM⟩⟩
 ·have K:=Pm hF B;clear c0 c1 c2 C c4;go_wp2_with fail;go_ret2;exact ⟨K,.inl ⟨h1,rfl⟩⟩
 ·have K:=Pm hF B;have HM:=Z5 hM;clear c0 c1 c2 C c4 hM;go_wp2_with fail;go_ret2;exact ⟨K,.inr ⟨h1,a3,k3,c3',rfl,HM⟩⟩
def wu (m:Nat) (Z:LI) (i:Nat):Ll:=(Z.take i).map (bM m)
theorem Ei (m:Nat) {Z:LI} {i:Nat} (h:i<Z.length):wu m Z (i+1)=wu m Z i ++ [bM m (nth Z i)]:=by unfold wu;rw [K4 h,LJ,aj h];rfl
def Bm (G:cZ) (m:Nat) (L:Ll) (S:LI):Ll:=aU G (aU G L m ++ (frTo false S m).map (bM m)) m
theorem IB (G:cZ) (m:Nat) (L:Ll) (S:LI):Bm G m L S=Cy G.ops m L (frTo false S m):=rfl
def wX (G:cZ) (L:Ll) (m:Nat) (S:LI) (w:World) (e:Ending) (w':World):Prop :=
 ∃a c R,e = .returned (.slice a (Bm G m L S).length c)/\aO w' w.heap.size a (Bm G m L S).length c R (Bm G m L S)/\PY w w'
theorem zI (P M:Int) (am:OA) (mn cm:Nat) (mod:LI) (m:Nat) (a:OA) (n c:Nat) (L:Ll) (as':OA) (ns cs:Nat) (S:LI) (w:World) (A:Ints w am mn mod) (hi:bw w a n L) (hs:Ints w as' ns S)
  (hB:bs P M mod=true) (hR:bt (ah P M.toNat mod).El m L) (hm:m<=1000) (hn:n<=1000000) :
  Calls prog 131 #[.agg #[cG P,cG M,.slice am mn cm],.slice a n c,cG m,.slice as' ns cs] w (wX (ah P M.toNat mod) L m S w):=by
 have F:=dO hB;have C:Hid (∀V,PY w V->Calls prog 157 #[.agg #[cG P,cG M,.slice am mn cm],.slice a n c,cG m] V (iW (ah P M.toNat mod) L m V)):=λV hV =>
  po P M am mn cm mod m a n c L V (A.af hV) (hi.af hV) hB hR hm hn
 have HN2:Hid (∀V a1 n1 c1 L1,PY w V->bw V a1 n1 L1->bt (ah P M.toNat mod).El m L1->n1<=1000000->Calls prog 157 #[.agg #[cG P,cG M,.slice am mn cm],.slice a1 n1 c1,cG m] V (iW (ah P M.toNat mod) L1 m V)):=λV a1 n1 c1 L1 hV h1 h2 h3 =>
  po P M am mn cm mod m a1 n1 c1 L1 V (A.af hV) h1 hB h2 hm h3
 have HO:Hid (∀V,PY w V->Calls prog 132 #[.slice as' ns cs,cG m] V λe w'=>∃a1 c1,e = .returned (.slice a1 (frTo false S m).length c1) /\
   w'.ownsRow V.heap.size 3 1 (.slice a1 (frTo false S m).length c1) (frTo false S m).length ((frTo false S m).map (Value.int .i64))/\PY V w'):=λV hV=>gX as' ns cs S m V (hs.af hV) hm
 have HZm:Hid (∀j,j<(frTo false S m).length->0<=nth (frTo false S m) j/\nth (frTo false S m) j<m):=λj hj=>by obtain ⟨i,h1,h2,_⟩:=(ef m).1 (aG hj);omega
 have hZl:(frTo false S m).length<=m:=jn _ _ _;have hdr:bt (ah P M.toNat mod).El m (aU (ah P M.toNat mod) L m):=mj F hR;have hdn:(aU (ah P M.toNat mod) L m).length<=m:=by
  have h1:=(bU F (fY F (bS F hR) (bU F hR).1 (cI F hR)))
  have h2:=fR (ah P M.toNat mod).ops m (bZ (ah P M.toNat mod) L m) (bq (ah P M.toNat mod) L m) m;have h3:=wz (bq (ah P M.toNat mod) L m) m;have h4:=(ei (ah P M.toNat mod).ops (dk (ah P M.toNat mod).ops m (bZ (ah P M.toNat mod) L m) (bq (ah P M.toNat mod) L m) m) m).2;have h5:(aU (ah P M.toNat mod) L m).length=(aD (ah P M.toNat mod).ops (dk (ah P M.toNat mod).ops m (bZ (ah P M.toNat mod) L m) (bq (ah P M.toNat mod) L m) m) m).2.length:=dM _ _ _;omega
 have HU:Hid (bt (ah P M.toNat mod).El m (aU (ah P M.toNat mod) L m ++ (frTo false S m).map (bM m))):=λr hr=>by
  rcases List.mem_append.1 hr with h | h
  ·exact hdr r h
  ·obtain ⟨z,_,rfl⟩:=List.mem_map.1 h;exact lA F m z
 unfold iW at C;have HW:Hid (Bm (ah P M.toNat mod) m L S=aU (ah P M.toNat mod) (aU (ah P M.toNat mod) L m ++ (frTo false S m).map (bM m)) m):=rfl;unfold wX;obtain ⟨W,hW⟩:∃W,Bm (ah P M.toNat mod) m L S=W:=⟨_,rfl⟩
 rw [hW] at HW ⊢;obtain ⟨D,hD⟩:∃D,aU (ah P M.toNat mod) L m=D:=⟨_,rfl⟩
 rw [hD] at C HU hdn HW;obtain ⟨Z,hZ⟩:∃Z,frTo false S m=Z:=⟨_,rfl⟩
 rw [hZ] at HO HZm hZl HU HW;obtain ⟨z,hz⟩:∃z,Z.length=z:=⟨_,rfl⟩
 obtain ⟨d,hd⟩:∃d,D.length=d:=⟨_,rfl⟩
 rw [hz] at HO HZm hZl;rw [hd] at C hdn;have Hz:=Z5 hz;have Hd:=Z5 hd;clear F hdr hW hD hZ hz hd A hi hs hB hR;go_enter func131,ntmps131;go_wp2_with fail;obtain ⟨X,hX⟩:∃X:World,X=w.alloc (.cells #[cG P,cG M,.slice am mn cm] 24):=⟨_,rfl⟩
 rw [<- hX];have hbX:PY w X:=by rw [hX];exact an _ _
 have x0:aQ X w.heap.size [cG P,cG M,.slice am mn cm]:=by rw [hX];exact Po _ _ _ rfl
 have HX:=Z5 x0;clear hX x0;refine (C X hbX).mono ?_;rintro e U ⟨a2,c2,R2,rfl,hO2,hbU⟩;have hbwU:=Pm hbX hbU;have HOU:=Z5 (HO U hbwU);clear HO C;go_wp2_with fail;refine HOU.mono ?_;rintro e U2 ⟨a3,c3,rfl,K,hb3⟩;have hO3:=(hO2.af hb3)
 obtain ⟨hi3,_⟩:=Pn K;have hpl3:=hi3.pl;have hbX2:=Pm hbU hb3;have hlo3:a3 ≠ none->U.heap.size<=ablk a3/\ablk a3<U2.heap.size:=λh=>aT K h;have hlo2:a2 ≠ none->ablk a2<U.heap.size:=λh=>(aT hO2.own h).2;have hsU:U.heap.size<=U2.heap.size:=hb3.size;have hN3:bL U.heap.size U2 a3 z Z:=⟨hi3,λh=>(hlo3 (by intro h0;have:=hpl3 h;rw [h0] at this;cases this)).1⟩
 have hsX:=hbX.size;have hszX:X.heap.size<=U.heap.size:=hbU.size;have hxlt:w.heap.size<X.heap.size:=HX.1;clear hO2 K hi3 HOU;go_wp2_with fail;go_loopw [9,11] (λov iv wr=>∃(i:Nat) (a1:OA) (c1:Nat),i<=z/\iv = cG i/\ov = .slice a1 (d+i) c1/\(∃R,aO wr X.heap.size a1 (d+i) c1 R (D ++ wu m Z i))/\PY X wr/\aC U2 wr (λb=>b<U.heap.size) (λb=>b<U.heap.size)/\Hid (a1 ≠ none->ablk a1<U.heap.size\/U2.heap.size<=ablk a1)) (λ_ iv _=>z - (intOf iv).toNat);case atStart=>exact ⟨0,a2,c2,K0 _,rfl,rfl,⟨R2,by simpa [wu] using hO3⟩,hbX2,Pz _ _,λh=>.inl (hlo2 h)⟩
 case round =>
  clear hO3
  obtain ⟨i,a1,c1,hi',rfl,rfl,⟨R1,hO⟩,E,hMv,Ha1⟩:=hrel
  by_cases hlt:i<z
  ·have hIr:Ints wr a3 z Z:=hN3.ints.dc hMv (λhm hc=>by have:=hN3.lo hm;omega)
   have ci:=hIr.cell i hlt
   have hb:=HZm i hlt
   obtain ⟨v,hv⟩:∃v:Nat,nth Z i=v:=⟨(nth Z i).toNat,by omega⟩
   have hvm:v<m:=by omega
   have Hun:Hid (wu m Z (i+1)=wu m Z i ++ [bM m v]):=by show _=_;rw [<- hv];exact Ei m (by rw [Hz.out];exact hlt)
   have Hux:Hid ((List.replicate m (0:Int)).set v 1=bM m v):=by show _=_;rw [bM,KV]
   rw [hv] at ci
   clear hv hb
   generalize wr=Y at *
   go_upto_region 8 with (at_make;refine bV rfl _ _ 22 3 rfl (cG 0) 8 underlying22 bh rfl m rfl rfl (by omega) (by unfold maxLen;omega) ?_;intro a5 w5 N H hge5 hlt5;obtain ⟨hi5,hm5⟩:=Pn (l:=List.replicate m 0) (by simpa using N);have hc5:=hi5.cell v hvm;have hf5:=(hm5 (by omega)).2 v hvm;have hpl5:=hi5.pl;have ci5:=aB H ci)
   have hx0:=bA N v hvm (cG 1)
   rw [<- Mv (f:=Value.int .i64) (a:=0),<- Lq,Hux.out] at hx0
   have hbx0:=H.setCell (p:=⟨ablk a5,aJ a5+v,none⟩) (hm5 (by omega)).1 (cG 1)
   clear N H hge5 hlt5 hi5 hm5 hc5 hf5 ci5 ci
   obtain ⟨V,hV⟩:∃V,w5.setCell ⟨ablk a5,aJ a5+v,none⟩ (cG 1)=V:=⟨_,rfl⟩
   rw [hV] at hx0 hbx0 ⊢
   clear hV
   have B:PY Y (V.alloc (.cells #[.slice a5 m m] 22)):=Pm hbx0 (an _ _)
   have hO6:=hO.af B
   have hs6:X.heap.size<=(V.alloc (.cells #[.slice a5 m m] 22)).heap.size:=K9 E.size B.size
   have hcn:=bm V (.slice a5 m m) 22
   have Hx0:=Z5 hx0
   clear hx0
   go_wp2_with (at_builtin;refine aS rfl _ _ 25 22 rfl ds 24 underlying25 dw rfl X.heap.size a1 (d+i) c1 _ rfl hO6.own ⟨V.heap.size,0,none⟩ 1 (.slice a5 m m) rfl hcn rfl (by omega) (by unfold maxLen;omega) hs6 ?_;intro a7 c7 w7 hown7 G hap7)
   go_roundw
   case rel =>
    have hul:(bM m (v:Int)).length=m:=by simp [bM]
    have hr:(V.alloc (.cells #[.slice a5 m m] 22)).ownsRow X.heap.size 3 1 (.slice a5 (bM m (v:Int)).length m) (bM m (v:Int)).length ((bM m (v:Int)).map (Value.int .i64)):=by rw [hul];exact aY (bf Hx0.out (an _ _)) E.size
    have hra:a5 ≠ none->¬ bQ a1 R1 (ablk a5):=λh0 hI=>by have h1:=(aT Hx0.out h0).1;have h2:=(hO.lt _ hI).2;omega
    have hP:=Py hO6 hr hra (by rw [hul];exact hown7) G hap7
    have hb7:PY X w7:=Pp (Pm E B) hO6.own G (KT _) hs6
    have hM7:aC U2 w7 (λb=>b<U.heap.size) (λb=>b<U.heap.size):=(hMv.trans (Pr B _)).JZ G Ha1.out
    refine ⟨i+1,a7,c7,by omega,by go_num,by rw [Nat.add_assoc],⟨_,by rw [Hun.out,<- LW];exact hP⟩,hb7,hM7,λh0=>?_⟩
    rcases LP (ablk a7) U.heap.size with h1 | h1
    ·exact .inl h1
    ·rcases LP (ablk a7) U2.heap.size with h2 | h2
     ·have h3:eY a1 (ablk a7):=by
       by_cases ha:a1=none
       ·exact .inl ha
       ·refine .inr λe=>?_;rcases Ha1.out ha with h4 | h4 <;> omega
      have h5:=hMv.size
      have h6:=B.size
      rcases hap7 _ (by omega) h3 with h4 | h4
      ·exact absurd h4 h0
      ·exact absurd rfl h4
     ·exact .inr h2
   case measure=>simp [intOf] <;> omega
  ·obtain rfl:i=z:=by omega
   have hall:wu m Z i=Z.map (bM m):=by unfold wu;rw [K5 (by rw [Hz.out];exact KT _)]
   rw [hall] at hO
   have hbF:=Pm hbX E
   have hN:=HN2 wr a1 (d+i) c1 _ hbF hO.iZ HU.out (by omega)
   unfold iW at hN
   rw [<- HW.out] at hN
   obtain ⟨q,hq⟩:∃q,W.length=q:=⟨_,rfl⟩
   rw [hq] at hN
   have Hq:=Z5 hq
   have HN:=Z5 hN
   have x1:=HX.af E
   have y0:=x1.cell 0 rfl
   have y1:=x1.cell 1 rfl
   have y2:=x1.cell 2 rfl
   clear hN hall hO x1 hq
   go_wp2_with fail
   refine HN.mono ?_
   rintro e w8 ⟨a8,c8,R8,rfl,hO8,hb8⟩
   have HF:Hid (aO w8 w.heap.size a8 q c8 R8 W/\PY w w8):=⟨hO8.mono hbF.size,Pm hbF hb8⟩
   clear hO8 HN
   go_wp2_with fail
   go_ret
   rw [Hq.out]
   exact ⟨a8,c8,R8,rfl,HF.1,HF.2⟩
section
variable {O:aP} {El:Int->Prop} {m:Nat} {R:Ll} {Q:LI}
theorem EV {l:LI}:tU l=true ↔ ∀k,k<l.length->nth l k=0:=by
 rw [FY];constructor
 ·intro h k Z;exact h _ (aG Z)
 ·intro h y Y;obtain ⟨k,Z,rfl⟩:=List.mem_iff_getElem.1 Y;have h1:=h k Z;rwa [aj Z] at h1
theorem yE (F:bK O El) (S:bt El m R) (Z:BS.Ok El m ⟨R,Q⟩) {v:LI} (U:Vc El m v):∀k,k<=R.length->RS O El m R (λx=>nth (redTo O R Q v k) x)->RS O El m R (λx=>nth v x)
 | 0,_,h=>h
 | k+1,N,h=>by have hu:Vc El m (redTo O R Q v k):=PK F Z U k (show k<=R.length by omega);have X:(nth Q k).toNat<m:=Z.pl (show k<R.length by omega);have V:Vc El m (ai R k):=Z.row (show k<R.length by omega);refine yE F S Z U k (by omega) ((RS.add F S h (.row F (i:=k) (by omega)) (hu.at X)).congr λx Y=>?_);have h1:=hu.at Y;have h2:=F.cl.mul _ _ (hu.at X) (V.at Y);rw [redTo,fG F hu V X Y,F.mul_comm _ _ (V.at Y) (hu.at X),F.add_assoc _ _ _ h1 (F.cl.neg _ h2) h2,F.lL h2,F.add_zero _ h1]
end
section
variable {P M:Int} {mod:LI} {m:Nat} {L:Ll}
theorem Df (S:aI P M mod m L=0):lh L (bq (ah P M.toNat mod) L m) m/\ow L (bq (ah P M.toNat mod) L m)/\L.length=(bq (ah P M.toNat mod) L m).length:=by
 obtain ⟨G,e,H,K,F,U⟩:=aZ S;obtain rfl:m=G:=by omega
 have N:=(eJ (aL S).2.2.2).2;rw [KV] at N;have Y:bI (ah P M.toNat mod).ops m L=L:=N;obtain ⟨Z,X⟩:=bU F U;have V:=cI F U;rw [Y] at Z V X;exact ⟨Z,X,V⟩
theorem Gq (V:aI P M mod m L=0) {x:LI} (Z:Vc (ah P M.toNat mod).El m x):hasB P M mod m L x=true ↔ RS (ah P M.toNat mod).ops (ah P M.toNat mod).El m L (λi=>nth x i):=by
 obtain ⟨K,e,N,U,F,Y⟩:=aZ V;obtain rfl:m=K:=by omega
 obtain ⟨S,H,hlen⟩:=Df V;have hI:=nK Y S hlen;have X:Vc (ah P M.toNat mod).El m (redTo (ah P M.toNat mod).ops L (bq (ah P M.toNat mod) L m) x L.length):=PK F hI.ok Z L.length (KT _);unfold hasB;rw [EV,X.1];constructor
 ·intro h;exact yE F Y hI.ok Z L.length (KT _) (RS.Gb F h)
 ·intro h;exact EU F Y S hlen Z h
end
section
open Go.RowKit
end
end Go.Proofs.YthglbncgemdcbaaGreat
