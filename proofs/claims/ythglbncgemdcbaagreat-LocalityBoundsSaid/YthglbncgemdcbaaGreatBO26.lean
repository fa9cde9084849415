import Derived.Test.YthglbncgemdcbaaGreatBO24
import Derived.OwnWalk
import Derived.Test.YthglbncgemdcbaaGreatBO25
namespace Go.Proofs.YthglbncgemdcbaaGreat
set_option linter.all false
set_option maxRecDepth 100000
set_option maxHeartbeats 16000000
open Go.RowKit Go.Proofs.Tryz
theorem tg (w:ej) (x y z:Int) (e:TypeId) {g:Nat} (Z:g=w.heap.size):Ints (w.alloc (.cells #[cG x,cG y,cG z] e)) (some ⟨g,0,none⟩) 3 [x,y,z]:=by
 subst Z;have h:=RV w [cG x,cG y,cG z] e rfl;refine ⟨rfl,λ_=>rfl,by unfold maxLen;omega,λi hi=>?_⟩;match i,hi with
 | 0,_=>exact h.cell 0 rfl
 | 1,_=>exact h.cell 1 rfl
 | 2,_=>exact h.cell 2 rfl
theorem Ix {w0 w:ej} {b g:Nat} {G:bX} {P M:Int} {am:OA} {mn cm:Nat} {N:Int} {a:OA} {n c:Nat} {ag:OA} {S cg:Nat} {ab:OA} {cb:Nat} {B:Lz} {k:Nat} (W:Nat)
  (h:dg w0 b G) (hb:SJ w0 w) {F:Nat->Prop} (hs:xY F w g b P M am mn cm N a n c ag S cg ab cb B k) (hk:k<=65536) (hn:n<=64) (hW:1<=W) (hWn:W<=n) (hg1:1<=S) (hg64:S<=64) :
  Calls prog 154 #[ea g 0,cG W] w λe w'=>SJ w w'/\∃z:Int,e = ec #[cG z,cG (if mY G.q n S k W=true then 0 else 8)]:=by
 have hG:=h.ai hb;have hq2:=hG.q2;have hq256:=hG.q256;obtain ⟨L,Y⟩:∃L:Int,(if mY G.q n S k W=true then (0:Int) else 8)=L:=⟨_,rfl⟩
 rw [Y];obtain ⟨V,rfl⟩:∃V,W=V+1:=⟨W - 1,by omega⟩
 obtain ⟨I,A⟩:∃I,G.q=I+1:=⟨G.q - 1,by omega⟩
 have hmB:mY G.q n S k (V+1)=(decide (dW n (V+1)<=65536) && decide (I ^ V<=65536) && decide (S * (dW n (V+1) * I ^ V)<=65536 - k)):=by unfold mY sN;rw [A,On,On]
 rw [hmB] at Y;have hC1:1<=dW n (V+1):=o0 _ _ hWn;have hP1:1<=I ^ V:=RJ (by omega);have Z:=Z5 (λX:ej=>CZ n (V+1) X hn hWn);have O:=Z5 (λX:ej=>IX I V X (by omega) (by omega) (by omega));have hcp:((I:Int) ^ V)=((I ^ V:Nat):Int):=by simp
 have H:=Z5 (λX (h2:SJ w X)=>qg (hG.ai h2));rw [A] at H;have HS:Hid (∀X,SJ w X->X.cell? ⟨g,0,none⟩=some (ea b 0)/\X.cell? ⟨g,5,none⟩=some (.slice a n c)/\X.cell? ⟨g,6,none⟩=some (.slice ag S cg)/\X.cell? ⟨g,8,none⟩=some (cG k)):=λX h2=>by have x:=hs.box.ai h2;exact ⟨x.cell 0 rfl,x.cell 5 rfl,x.cell 6 rfl,x.cell 8 rfl⟩
 obtain ⟨C,hC⟩:∃C,dW n (V+1)=C:=⟨_,rfl⟩
 obtain ⟨K,hPw⟩:∃K,I ^ V=K:=⟨_,rfl⟩
 unfold Fk FP at Z;unfold nD jU at O;rw [hcp,hPw] at O;rw [hC] at Z Y hC1;rw [hPw] at Y hP1;have hVW:((V+1:Nat):Int)=(V:Int)+1:=by omega
 rw [hVW] at Z;rw [hVW];obtain ⟨c0,c5,c6,c8⟩:=HS w (M5 _ _);have kq:wrap64 (I:Int)=I:=Ma (by omega) (by omega);have kV:wrap64 (V:Int)=V:=Ma (by omega) (by omega);clear hmB hcp hC hPw hG h hb hs A;go_enter func154,ntmps154;by_cases r:C<=65536;rotate_left
 ·have he:L=8:=by rw [<- Y,Nu r];rfl
  subst he;rw [M8 (by omega),M8 (by omega)] at Z;have E:=Z5 (Z w);clear Y Z r;go_wp2_with fail;refine E.mono ?_;rintro e w1 ⟨rfl,U⟩;go_wp2_with fail;go_ret2;exact ⟨U,_,rfl⟩
 rw [M7 (by omega),M7 (by omega)] at Z;have E:=Z5 (Z w);clear Z;go_wp2_with fail;refine E.mono ?_;rintro e w1 ⟨rfl,U⟩;obtain ⟨c0,c5,c6,c8⟩:=HS w1 U;have j:=Z5 (H w1 U);have D:=Z5 (O w1);clear E H O;go_wp2_with fail;refine j.mono ?_;rintro e w' ⟨rfl,rfl⟩;by_cases hPb:K<=65536;rotate_left
 ·have he:L=8:=by rw [<- Y,Nu hPb,Q9,RR];rfl
  subst he;rw [M8 (by omega),M8 (by omega)] at D;clear Y hPb j;go_wp2_with fail;refine D.mono ?_;rintro e w' ⟨rfl,rfl⟩;go_wp2_with fail;go_ret2;exact ⟨U,_,rfl⟩
 rw [M7 (by omega),M7 (by omega)] at D;have hpr:dr [(S:Int),(C:Int),(K:Int)] 3=((S * (C * K):Nat):Int):=by simp only [dr,nth];simp [Oh]
 have HPr:Hid (∀X,SJ w X->∀a3 c3,Ints X a3 3 [(S:Int),(C:Int),(K:Int)]->Calls prog 208 #[cG (65536 - (k:Int)),.slice a3 3 c3] X λe w'=>(∃z:Int,e = ec #[cG z,cG L])/\X=w'):=λX _ a3 c3 h3=>by
  refine (A2 (65536 - (k:Int)) a3 3 c3 [(S:Int),(C:Int),(K:Int)] X (by omega) h3 λx hx=>?_).mono ?_
  ·simp at hx;rcases hx with rfl | rfl | rfl<;>omega
  ·rintro e w' ⟨rfl,rfl⟩;refine ⟨⟨EU (65536 - (k:Int)) [(S:Int),(C:Int),(K:Int)],?_⟩,rfl⟩;have e1:B1 (65536 - (k:Int)) [(S:Int),(C:Int),(K:Int)]=L:=by
    unfold B1;show (if dr [(S:Int),(C:Int),(K:Int)] 3<=65536 - (k:Int) then (0:Int) else 8)=L;rw [hpr,<- Y,Nv r,Nv hPb,Bool.and_self,Ps];by_cases hz:S * (C * K)<=65536 - k
    ·rw [M7 (by omega),Nv hz];rfl
    ·rw [M8 (by omega),Nu hz];rfl
   rw [e1]
 have He8:Hid (L ≠ 0->L=8):=λh=>by
  rw [<- Y] at h ⊢;split at h
  ·exact absurd rfl h
  ·rename_i h1;rw [M8 h1]
 clear Y hpr j;go_wp2_with fail;refine D.mono ?_;rintro e w' ⟨rfl,rfl⟩;obtain ⟨c0,c5,c6,c8⟩:=HS w1 U;have kk:IntKind.i64.wrap (65536 - (k:Int))=65536 - (k:Int):=Nn _ (by omega);obtain ⟨d0,d5,d6,d8⟩:=HS _ (RU U (aD w1 (.cells #[cG (S:Int),cG (C:Int),cG (K:Int)] 3)));go_upto_region 7 with fail;go_cut [6,7] (λzv ev wx=>(∃z:Int,zv = cG z)/\ev = cG L/\SJ w wx);case first =>
  go_region_law ((first
   | (go_simp;go_at_call 208;((with_reducible refine (HPr.out _ (RU U (by first|exact (aD _ _).drew|exact aD _ _|exact ((M5 _ _).drew).alloc (M4 _) _|exact (aD _ _).drew|exact (M5 _ _).drew|assumption)) _ _ (by first|exact (tg _ _ _ _ _ rfl).ai (M5 _ _).drew|exact tg _ _ _ _ _ rfl|assumption)).mono ?_);rintro e w3 ⟨⟨z3,rfl⟩,rfl⟩))))
  all_goals (
   go_wp2_with fail
   go_meet
   exact ⟨⟨_,rfl⟩,rfl,RU U (by first|exact (aD _ _).drew|exact aD _ _|exact (aD _ _).drew.drew)⟩)
 obtain ⟨⟨z,rfl⟩,rfl,hbc⟩:=hcut;generalize wc=V3 at *;by_cases he0:L=0
 ·subst he0;go_wp2_with fail;go_ret2;exact ⟨hbc,_,rfl⟩
 ·have he1:(L != 0)=true:=by simpa using he0
  have he8:L=8:=He8 he0;subst he8;go_wp2_with fail;go_ret2;exact ⟨hbc,_,rfl⟩
def wz (P M:Int) (mod:Lz) (c r k:Int) (w:ej) (e:Ending) (w':ej):Prop :=
 SJ w w'/\((DP P M mod c r k ≠ 0/\e = ec #[.agg #[cG 0,cG 0,ds,cG 0,ds],cG (DP P M mod c r k)]) \/
  (DP P M mod c r k=0/\∃a1 c1 a2 c2,e = ec #[.agg #[cG P,cG M,.slice a1 mod.length c1,cG ((r.toNat+1) * c.toNat:Nat),.slice a2 (Jv P M mod c.toNat r.toNat k.toNat).length c2],cG 0]/\bH w.heap.size w' a1 mod.length mod /\
  bJ w.heap.size w' a2 (Jv P M mod c.toNat r.toNat k.toNat).length (Jv P M mod c.toNat r.toNat k.toNat)))
theorem H7 (P M:Int) (am:OA) (mn cm:Nat) (mod:Lz) (c r k:Int) (w:ej) (hmod:Ints w am mn mod) (hmn:mn<=1000000) :
  Calls prog 25 #[.agg #[cG P,cG M,.slice am mn cm],cG c,cG r,cG k] w (wz P M mod c r k w):=by
 have HNew:Hid (∀V,SJ w V->Calls prog 52 #[.agg #[cG P,cG M,.slice am mn cm]] V (DB P M mod V)):=λV hV=>dh P M am mn cm mod V (hmod.ai hV);have HE1:Hid (bw P M mod=false->DP P M mod c r k=1):=Mu;have HPe:Hid (∀E w',E ≠ 0->DP P M mod c r k=E->SJ w w'->wz P M mod c r k w (ec #[.agg #[cG 0,cG 0,ds,cG 0,ds],cG E]) w'):=λE w' h0 h1 h2=>⟨h2,.inl ⟨by rw [h1];exact h0,by rw [h1]⟩⟩
 have HP0:Hid (∀a1 c1 a2 c2 w',DP P M mod c r k=0->bH w.heap.size w' a1 mod.length mod->bJ w.heap.size w' a2 (Jv P M mod c.toNat r.toNat k.toNat).length (Jv P M mod c.toNat r.toNat k.toNat)->SJ w w' ->
   wz P M mod c r k w (ec #[.agg #[cG P,cG M,.slice a1 mod.length c1,cG ((r.toNat+1) * c.toNat:Nat),.slice a2 (Jv P M mod c.toNat r.toNat k.toNat).length c2],cG 0]) w'):=λa1 c1 a2 c2 w' h0 h1 h2 h3=>⟨h3,.inr ⟨h0,a1,c1,a2,c2,rfl,h1,h2⟩⟩
 generalize hPost:wz P M mod c r k w=Post at *;clear hPost;have HBt:Hid (∀n V,Calls prog 64 #[cG n] V λe w'=>e = .returned (.bool (decide (1<=n) && decide (n<=64)))/\w'=V):=um;have Hmod:=Z5 (Ng hmod hmn);clear hmod hmn;go_enter func25,ntmps25;go_upto_region 1 with fail;obtain ⟨W,hW⟩:∃W:ej,W=((w.alloc (.cells #[cG P,cG M,.slice am mn cm] 24)).alloc (.cells #[cG 0,cG 0,ds,cG 0,ds] 27)):=⟨_,rfl⟩
 rw [<- hW];have hbW:SJ w W:=by rw [hW];exact ((M5 _ _).alloc (M4 _) _).alloc (by simp) _
 have hsW:W.heap.size=w.heap.size+2:=by rw [hW];simp
 have x0:aQ W w.heap.size [cG P,cG M,.slice am mn cm]:=by rw [hW];exact (RV _ _ _ rfl).alloc _
 have z0:aQ W (w.heap.size+1) [cG 0,cG 0,ds,cG 0,ds]:=by rw [hW];exact RV _ _ _ (by simp)
 clear hW;have HX:=Z5 (Ng x0 z0);have HbW:=Z5 hbW;have HsW:=Z5 hsW;have HZ:Hid (∀V,SJ W V->V.cell? ⟨w.heap.size+1,0,none⟩=some (cG 0)/\V.cell? ⟨w.heap.size+1,1,none⟩=some (cG 0)/\V.cell? ⟨w.heap.size+1,2,none⟩=some ds/\V.cell? ⟨w.heap.size+1,3,none⟩=some (cG 0)/\V.cell? ⟨w.heap.size+1,4,none⟩=some ds /\
   V.frozen? ⟨w.heap.size+1,0,none⟩=false/\V.frozen? ⟨w.heap.size+1,1,none⟩=false/\V.frozen? ⟨w.heap.size+1,2,none⟩=false/\V.frozen? ⟨w.heap.size+1,3,none⟩=false/\V.frozen? ⟨w.heap.size+1,4,none⟩=false):=λV hV=>by have z1:=z0.ai hV;exact ⟨z1.cell 0 rfl,z1.cell 1 rfl,z1.cell 2 rfl,z1.cell 3 rfl,z1.cell 4 rfl,z1.frozen 0,z1.frozen 1,z1.frozen 2,z1.frozen 3,z1.frozen 4⟩
 have HEr:Hid (∀E V,SJ W V->E ≠ 0->DP P M mod c r k=E->Post (ec #[.agg #[cG 0,cG 0,ds,cG 0,ds],cG E]) (((((V.setCell ⟨w.heap.size+1,0,none⟩ (cG 0)).setCell ⟨w.heap.size+1,1,none⟩ (cG 0)).setCell ⟨w.heap.size+1,2,none⟩ ds).setCell ⟨w.heap.size+1,3,none⟩ (cG 0)).setCell ⟨w.heap.size+1,4,none⟩ ds)):=λE V hV h0 h1 =>
  HPe E _ h0 h1 (((((RU hbW hV).setCell (by simp) _).setCell (by simp) _).setCell (by simp) _).setCell (by simp) _ |>.setCell (by simp) _)
 have HZ5:Hid (∀V,SJ W V->(((((V.setCell ⟨w.heap.size+1,0,none⟩ (cG 0)).setCell ⟨w.heap.size+1,1,none⟩ (cG 0)).setCell ⟨w.heap.size+1,2,none⟩ ds).setCell ⟨w.heap.size+1,3,none⟩ (cG 0)).setCell ⟨w.heap.size+1,4,none⟩ ds).cell? ⟨w.heap.size+1,0,none⟩=some (cG 0)/\(((((V.setCell ⟨w.heap.size+1,0,none⟩ (cG 0)).setCell ⟨w.heap.size+1,1,none⟩ (cG 0)).setCell ⟨w.heap.size+1,2,none⟩ ds).setCell ⟨w.heap.size+1,3,none⟩ (cG 0)).setCell ⟨w.heap.size+1,4,none⟩ ds).cell? ⟨w.heap.size+1,1,none⟩=some (cG 0)/\(((((V.setCell ⟨w.heap.size+1,0,none⟩ (cG 0)).setCell ⟨w.heap.size+1,1,none⟩ (cG 0)).setCell ⟨w.heap.size+1,2,none⟩ ds).setCell ⟨w.heap.size+1,3,none⟩ (cG 0)).setCell ⟨w.heap.size+1,4,none⟩ ds).cell? ⟨w.heap.size+1,2,none⟩=some ds/\(((((V.setCell ⟨w.heap.size+1,0,none⟩ (cG 0)).setCell ⟨w.heap.size+1,1,none⟩ (cG 0)).setCell ⟨w.heap.size+1,2,none⟩ ds).setCell ⟨w.heap.size+1,3,none⟩ (cG 0)).setCell ⟨w.heap.size+1,4,none⟩ ds).cell? ⟨w.heap.size+1,3,none⟩=some (cG 0)/\(((((V.setCell ⟨w.heap.size+1,0,none⟩ (cG 0)).setCell ⟨w.heap.size+1,1,none⟩ (cG 0)).setCell ⟨w.heap.size+1,2,none⟩ ds).setCell ⟨w.heap.size+1,3,none⟩ (cG 0)).setCell ⟨w.heap.size+1,4,none⟩ ds).cell? ⟨w.heap.size+1,4,none⟩=some ds):=λV hV=>by have z1:=(((((z0.ai hV).setCell 0 (cG 0)).setCell 1 (cG 0)).setCell 2 ds).setCell 3 (cG 0)).setCell 4 ds;exact ⟨z1.cell 0 rfl,z1.cell 1 rfl,z1.cell 2 rfl,z1.cell 3 rfl,z1.cell 4 rfl⟩
 have c0:=x0.cell 0 rfl;have c1:=x0.cell 1 rfl;have c2:=x0.cell 2 rfl;clear x0 z0 hbW hsW;go_wp2_with fail;refine (HNew W HbW.out).mono ?_;rintro e U hpost;rcases hpost with ⟨hB,rfl,hb1⟩ | ⟨hB,b,rfl,hG,hbge,hb1⟩
 ·have HF:=Z5 (HEr.out 1 U hb1 (by decide) (HE1 hB));obtain ⟨z0,z1,z2,z3,z4,f0,f1,f2,f3,f4⟩:=HZ U hb1;obtain ⟨y0,y1,y2,y3,y4⟩:=HZ5 U hb1;clear hB c0 c1 c2;go_wp2_with fail;exact bodyPost_ret (v:=.tuple #[.agg #[cG 0,cG 0,ds,cG 0,ds],cG 1]) (by simp [results,results25,go_sem,y0,y1,y2,y3,y4]) rfl HF.out
 clear HE1 HNew c0 c1 c2;have hGU:dg U b (ah P M.toNat mod):=hG.gf;have HG:=Z5 hGU;have O:=Z5 hb1;have HB:=Z5 hB;have HE6:Hid (∀V,SJ W V->(c<1\/64<c\/r<1\/64<r\/k<1\/64<k)->Post (ec #[.agg #[cG 0,cG 0,ds,cG 0,ds],cG 6]) (((((V.setCell ⟨w.heap.size+1,0,none⟩ (cG 0)).setCell ⟨w.heap.size+1,1,none⟩ (cG 0)).setCell ⟨w.heap.size+1,2,none⟩ ds).setCell ⟨w.heap.size+1,3,none⟩ (cG 0)).setCell ⟨w.heap.size+1,4,none⟩ ds)):=λV hV h =>
  HEr.out 6 V hV (by decide) (Mn hB h)
 clear hG hbge hb1 hB;obtain ⟨q,hq⟩:∃q,(ah P M.toNat mod).q=q:=⟨_,rfl⟩
 have HOr:Hid (∀V,SJ U V->Calls prog 63 #[ea b 0] V λe w'=>e = .returned (cG q)/\V=w'):=λV hV=>by rw [<- hq];exact qg (hGU.ai hV)
 have hq2:2<=q/\q<=256:=by have:=hGU.q2;have:=hGU.q256;omega
 clear hGU;go_wp2_with fail;refine (HOr U (M5 _ _)).mono ?_;rintro e V ⟨rfl,rfl⟩;by_cases hc:1<=c/\c<=64;case neg =>
  have hb:(decide (1<=c) && decide (c<=64))=false:=by simp;omega
  have H1:=HBt c
  rw [hb] at H1
  have H1:=Z5 H1
  have HF:=Z5 (HE6 U O.out (by omega))
  obtain ⟨z0,z1,z2,z3,z4,f0,f1,f2,f3,f4⟩:=HZ U O.out
  obtain ⟨y0,y1,y2,y3,y4⟩:=HZ5 U O.out
  clear hb hc
  go_wp2_with fail
  refine (H1 U).mono ?_
  rintro e V ⟨rfl,rfl⟩
  go_wp2_with fail
  exact bodyPost_ret (v:=.tuple #[.agg #[cG 0,cG 0,ds,cG 0,ds],cG 6]) (by simp [results,results25,go_sem,y0,y1,y2,y3,y4]) rfl HF.out
 have hb1:(decide (1<=c) && decide (c<=64))=true:=by simp;omega
 have H1:=HBt c;rw [hb1] at H1;have H1:=Z5 H1;clear hb1;by_cases hr:1<=r/\r<=64;case neg =>
  have hb:(decide (1<=r) && decide (r<=64))=false:=by simp;omega
  have H2:=HBt r
  rw [hb] at H2
  have H2:=Z5 H2
  have HF:=Z5 (HE6 U O.out (by omega))
  obtain ⟨z0,z1,z2,z3,z4,f0,f1,f2,f3,f4⟩:=HZ U O.out
  obtain ⟨y0,y1,y2,y3,y4⟩:=HZ5 U O.out
  clear hb hc hr
  go_wp2_with fail
  refine (H1 U).mono ?_
  rintro e V ⟨rfl,rfl⟩
  go_wp2_with fail
  refine (H2 V).mono ?_
  rintro e V ⟨rfl,rfl⟩
  go_wp2_with fail
  exact bodyPost_ret (v:=.tuple #[.agg #[cG 0,cG 0,ds,cG 0,ds],cG 6]) (by simp [results,results25,go_sem,y0,y1,y2,y3,y4]) rfl HF.out
 have hb2:(decide (1<=r) && decide (r<=64))=true:=by simp;omega
 have H2:=HBt r;rw [hb2] at H2;have H2:=Z5 H2;clear hb2;by_cases hk:1<=k/\k<=64;case neg =>
  have hb:(decide (1<=k) && decide (k<=64))=false:=by simp;omega
  have H3:=HBt k
  rw [hb] at H3
  have H3:=Z5 H3
  have HF:=Z5 (HE6 U O.out (by omega))
  obtain ⟨z0,z1,z2,z3,z4,f0,f1,f2,f3,f4⟩:=HZ U O.out
  obtain ⟨y0,y1,y2,y3,y4⟩:=HZ5 U O.out
  clear hb hc hr hk
  go_wp2_with fail
  refine (H1 U).mono ?_
  rintro e V ⟨rfl,rfl⟩
  go_wp2_with fail
  refine (H2 V).mono ?_
  rintro e V ⟨rfl,rfl⟩
  go_wp2_with fail
  refine (H3 V).mono ?_
  rintro e V ⟨rfl,rfl⟩
  go_wp2_with fail
  exact bodyPost_ret (v:=.tuple #[.agg #[cG 0,cG 0,ds,cG 0,ds],cG 6]) (by simp [results,results25,go_sem,y0,y1,y2,y3,y4]) rfl HF.out
 have hb3:(decide (1<=k) && decide (k<=64))=true:=by simp;omega
 have H3:=HBt k;rw [hb3] at H3;have H3:=Z5 H3;clear hb3 HE6 HBt;go_wp2_with fail;refine (H1 U).mono ?_;rintro e V ⟨rfl,rfl⟩;go_wp2_with fail;refine (H2 V).mono ?_;rintro e V ⟨rfl,rfl⟩;go_wp2_with fail;refine (H3 V).mono ?_;rintro e U ⟨rfl,rfl⟩;clear H1 H2 H3;obtain ⟨cn,F⟩:∃n:Nat,c=n:=⟨c.toNat,by omega⟩
 obtain ⟨D,hrn⟩:∃n:Nat,r=n:=⟨r.toNat,by omega⟩
 obtain ⟨kn,hkn⟩:∃n:Nat,k=n:=⟨k.toNat,by omega⟩
 obtain ⟨Q,hqQ⟩:∃Q,q=Q+1:=⟨q - 1,by omega⟩
 have hin:=LC (c:=cn) (r:=D) (k:=kn) HB.out (hq.trans hqQ) (by omega) (by omega) (by omega);rw [<- F,<- hrn,<- hkn] at hin;obtain ⟨R,hR⟩:∃R,D+1=R:=⟨_,rfl⟩
 rw [hR] at hin;obtain ⟨x1,hx1⟩:∃x,Q % R=x:=⟨_,rfl⟩
 obtain ⟨yq,hy1⟩:∃x,Q / R=x:=⟨_,rfl⟩
 obtain ⟨L,hZ1⟩:∃x,cn * R=x:=⟨_,rfl⟩
 obtain ⟨Z2,hZ2⟩:∃x,cn * D=x:=⟨_,rfl⟩
 rw [hx1,hy1,hZ1,hZ2] at hin;have hyQ:yq<=Q:=by rw [<- hy1];exact Qg _ _
 have hZ1b:L<=64 * 65:=by rw [<- hZ1];exact O0 (by omega) (by omega)
 have hZ2b:Z2<=64 * 64:=by rw [<- hZ2];exact O0 (by omega) (by omega)
 obtain ⟨Ri,hRi⟩:∃Ri:Int,Ri=(R:Int):=⟨_,rfl⟩
 obtain ⟨Qi,hQi⟩:∃Qi:Int,Qi=(Q:Int):=⟨_,rfl⟩
 obtain ⟨xi,hxi⟩:∃xi:Int,xi=(x1:Int):=⟨_,rfl⟩
 obtain ⟨yi,hyi⟩:∃yi:Int,yi=(yq:Int):=⟨_,rfl⟩
 obtain ⟨zi,hzi⟩:∃zi:Int,zi=(L:Int):=⟨_,rfl⟩
 obtain ⟨ti,hti⟩:∃ti:Int,ti=(Z2:Int):=⟨_,rfl⟩
 have wR:IntKind.i64.wrap (r+1)=Ri:=by rw [show r+1=Ri by omega];exact Nn _ (by omega)
 have wQ:IntKind.i64.wrap ((q:Int) - 1)=Qi:=by rw [show (q:Int) - 1=Qi by omega];exact Nn _ (by omega)
 have hR0:(Ri == 0)=false:=by rw [beq_eq_false_iff_ne];omega
 have hR0p:Ri ≠ 0:=by omega
 have tx:Qi.tmod Ri=xi:=by rw [hRi,hQi,hxi,Oo (by omega),<- hx1];simp
 have ty:Qi.tdiv Ri=yi:=by rw [hRi,hQi,hyi,OF (by omega),<- hy1];simp
 have wy:IntKind.i64.wrap yi=yi:=Nn _ (by omega);have wZ1:IntKind.i64.wrap (c * Ri)=zi:=by rw [show c * Ri=zi by rw [F,hRi,hzi,<- hZ1];simp];exact Nn _ (by omega)
 have wZ2:IntKind.i64.wrap (c * r)=ti:=by rw [show c * r=ti by rw [F,hrn,hti,<- hZ2];simp];exact Nn _ (by omega)
 have hin:=Z5 hin;have HDef:=Z5 (Ng hR (Ng hx1 (Ng hy1 (Ng hZ1 hZ2))));have HRi:=Z5 (Ng hRi (Ng hQi (Ng hqQ (Ng hxi (Ng hyi (Ng hzi hti))))));have Y:=Z5 (Ng hc (Ng hr (Ng hk (Ng hyQ (Ng hZ1b (Ng hZ2b (Ng hq (Ng hq2 (Ng F (Ng hrn hkn))))))))));have HD1:Hid (xi ≠ 0->x1 ≠ 0):=λh h2=>h (by omega);have HD2:Hid (yi<c ↔ yq<cn):=by show _ ↔ _;omega
 have HD3:Hid (64<zi ↔ 64<L):=by show _ ↔ _;omega
 have HD4:Hid (ti<k ↔ Z2<kn):=by show _ ↔ _;omega
 clear hR hx1 hy1 hZ1 hZ2 hRi hQi hqQ hc hr hk hyQ hZ1b hZ2b hq hq2 hxi hyi hzi hti F hrn hkn;by_cases h1:xi=0;case neg =>
  have d1:(xi != 0)=true:=by simp;omega
  have HF:=Z5 (HEr.out 10 U O.out (by decide) (by rw [hin.out,M7 (.inl (HD1 h1))]))
  obtain ⟨z0,z1,z2,z3,z4,f0,f1,f2,f3,f4⟩:=HZ U O.out
  obtain ⟨y0,y1,y2,y3,y4⟩:=HZ5 U O.out
  clear h1
  go_wp2_with fail
  exact bodyPost_ret (v:=.tuple #[.agg #[cG 0,cG 0,ds,cG 0,ds],cG 10]) (by simp [results,results25,go_sem,y0,y1,y2,y3,y4]) rfl HF.out
 have d1:(xi != 0)=false:=by simp;omega
 by_cases h2:yi<c;case pos =>
  have d2:decide (yi<c)=true:=Nv h2
  have HF:=Z5 (HEr.out 10 U O.out (by decide) (by rw [hin.out,M7 (.inr (HD2.1 h2))]))
  obtain ⟨z0,z1,z2,z3,z4,f0,f1,f2,f3,f4⟩:=HZ U O.out
  obtain ⟨y0,y1,y2,y3,y4⟩:=HZ5 U O.out
  clear h1 h2
  go_wp2_with fail
  exact bodyPost_ret (v:=.tuple #[.agg #[cG 0,cG 0,ds,cG 0,ds],cG 10]) (by simp [results,results25,go_sem,y0,y1,y2,y3,y4]) rfl HF.out
 have d2:decide (yi<c)=false:=Nu h2;have hx10:x1=0:=by have:=HRi.2.2.2.1;omega
 have H:=hin.out;rw [M8 (by rintro (h | h);exact h hx10;exact h2 (HD2.2 h))] at H;by_cases h3:64<zi;case pos =>
  have d3:decide (64<zi)=true:=Nv h3
  have HF:=Z5 (HEr.out 4 U O.out (by decide) (by rw [H,M7 (HD3.1 h3)]))
  obtain ⟨z0,z1,z2,z3,z4,f0,f1,f2,f3,f4⟩:=HZ U O.out
  obtain ⟨y0,y1,y2,y3,y4⟩:=HZ5 U O.out
  clear h1 h2 h3 H hx10
  go_wp2_with fail
  exact bodyPost_ret (v:=.tuple #[.agg #[cG 0,cG 0,ds,cG 0,ds],cG 4]) (by simp [results,results25,go_sem,y0,y1,y2,y3,y4]) rfl HF.out
 have d3:decide (64<zi)=false:=Nu h3;rw [M8 λh=>h3 (HD3.2 h)] at H;by_cases h4:ti<k;case pos =>
  have d4:decide (ti<k)=true:=Nv h4
  have HF:=Z5 (HEr.out 9 U O.out (by decide) (by rw [H,M7 (HD4.1 h4)]))
  obtain ⟨z0,z1,z2,z3,z4,f0,f1,f2,f3,f4⟩:=HZ U O.out
  obtain ⟨y0,y1,y2,y3,y4⟩:=HZ5 U O.out
  clear h1 h2 h3 h4 H hx10
  go_wp2_with fail
  exact bodyPost_ret (v:=.tuple #[.agg #[cG 0,cG 0,ds,cG 0,ds],cG 9]) (by simp [results,results25,go_sem,y0,y1,y2,y3,y4]) rfl HF.out
 have d4:decide (ti<k)=false:=Nu h4;rw [M8 λh=>h4 (HD4.2 h)] at H;have HE0:=Z5 H;clear H;have HS13:=Z5 (Ng h1 (Ng h2 (Ng h3 (Ng h4 hx10))));clear h1 h2 h3 h4 hx10;go_upto_region 13 with fail;clear tx ty wy wZ2 d1 d2 d3 d4 hR0 hR0p wQ;obtain ⟨hc,hr,hk,hyQ,hZ1b,hZ2b,hq,hq2,F,hrn,hkn⟩:=Y.out;obtain ⟨hRi,hQi,hqQ,hxi,hyi,hzi,hti⟩:=HRi.out;obtain ⟨h1,h2,h3,h4,hx10⟩:=HS13.out;obtain ⟨e1,e2,e3,e4,e5⟩:=HDef.out;clear Y HRi HS13 HDef HD1 HD2 HD3 HD4 hin;have hplan:=KU (k:=0) (c:=cn) HB.out (hq.trans hqQ) (r:=D) (by omega) (by rw [e1,e2];exact hx10) (by rw [e1,e3];omega);rw [e1] at hplan;have hN:R * cn=L:=by rw [Oz];exact e4
 rw [hN] at hplan;have HPw0:Hid (∀V (x n:Nat),SJ U V->1<=x->x<q->n<=1000000->Calls prog 65 #[ea b 0,cG x,cG n] V λe w'=>∃k,e = ec #[cG (fA (ah P M.toNat mod).ops x n),cG 0]/\w'=V.drewN k):=λV x n hV h5 h6 h7 =>
  MG HB.out n (HG.ai hV) (show 0<=(x:Int)/\(x:Int)<((ah P M.toNat mod).q:Nat) by rw [hq];omega) (by omega) h7
 have HtbS:Hid (Jv P M mod c.toNat r.toNat k.toNat=bI (ah P M.toNat mod).ops L (iJ (ah P M.toNat mod).ops (Bd (ah P M.toNat mod).ops (ah P M.toNat mod).q D cn) (gv D) kn)):=by show _=_;rw [F,hrn,hkn,M9,M9,M9,Jv,LU,e1,hN]
 have HNN:Hid ((r.toNat+1) * c.toNat=L):=by show _=_;rw [F,hrn,M9,M9,e1,hN]
 obtain ⟨g1,g2,g3,g4,g5,g6⟩:=hplan;have HFl:=Z5 (dY HB.out);rw [<- hqQ] at g1 g2 g3;obtain ⟨C,hux⟩:∃f,(λx=>D7 (ah P M.toNat mod).ops R x)=f:=⟨_,rfl⟩
 have hu1:C 1=[]:=by rw [<- hux];exact K3 R
 have HuT:Hid (∀x:Nat,1<=x->fA (ah P M.toNat mod).ops (x:Int) R=1->C (x+1)=C x ++ [(x:Int)]):=λx h5 h6=>by rw [<- hux];exact zS h5 h6
 have HuS:Hid (∀x:Nat,1<=x->fA (ah P M.toNat mod).ops (x:Int) R ≠ 1->C (x+1)=C x):=λx h5 h6=>by rw [<- hux];exact Ax h5 h6
 have HuL:Hid (∀x,(C x).length<=x):=λx=>by rw [<- hux];exact wZ R x
 have euq:D7 (ah P M.toNat mod).ops R q=C q:=by rw [<- hux]
 rw [euq] at g1 g2 g3;obtain ⟨I,hpx⟩:∃f,(λx=>DA (ah P M.toNat mod).ops (C q) L x)=f:=⟨_,rfl⟩
 obtain ⟨X,hX⟩:∃X,Bd (ah P M.toNat mod).ops (ah P M.toNat mod).q D cn=X:=⟨_,rfl⟩
 rw [hX] at g3 g4 g5 HtbS;have hp1:I 1=[]:=by rw [<- hpx];exact Kc _ _
 have HpT:Hid (∀x:Nat,1<=x->(I x).length<L->¬ (x:Int) ∈ I x->I (x+1)=I x ++ bF ((C q).map ((ah P M.toNat mod).mul (x:Int)))):=λx h5 h6 h7=>by rw [<- hpx] at h6 h7 ⊢;exact GG h5 h6 h7
 have HpS:Hid (∀x:Nat,1<=x->(x:Int) ∈ I x->I (x+1)=I x):=λx h5 h6=>by rw [<- hpx] at h6 ⊢;exact IW h5 h6
 have HpE:Hid (∀x,x<=q->L<=(I x).length->I x=X):=λx h5 h6=>by rw [<- hpx] at h6 ⊢;rw [<- g3];exact I4 h5 h6
 have HpQ:Hid (I q=X):=by show _=_;rw [<- hpx];exact g3
 have HZN:Hid (1<=L/\L<=64):=by refine ⟨?_,by omega⟩;have:=O0 (show 1<=R by omega) (show 1<=cn by omega);omega
 have HRw:Hid (dK P M mod L (iJ (ah P M.toNat mod).ops X (gv D) kn)=0):=by refine iR HB.out (by omega) (by unfold iJ;simp;omega) λrr hrr=>?_;obtain ⟨j,_,rfl⟩:=List.mem_map.1 hrr;refine ⟨by rw [No];exact g4,λy hy=>?_⟩;obtain ⟨u,hu,rfl⟩:=List.mem_map.1 hy;exact eK HFl.out (g5 u hu).1 _
 have HU:=Z5 (Ng g1 g2);have HXp:=Z5 (Ng g4 g5);have HMul:Hid (∀x y,(ah P M.toNat mod).El x->(ah P M.toNat mod).El y->(ah P M.toNat mod).El ((ah P M.toNat mod).mul x y)):=λx y=>HFl.cl.mul x y;have HMk:=Z5 (Ng HB.out hq);obtain ⟨G,hGG⟩:∃G,ah P M.toNat mod=G:=⟨_,rfl⟩
 rw [hGG] at HPw0 HuT HuS HpT HU HXp HG HFl HMul HtbS HRw;obtain ⟨pw,hpw⟩:∃f:Nat->Nat->Int,(λ(x n:Nat)=>fA G.ops (x:Int) n)=f:=⟨_,rfl⟩
 have HPw:Hid (∀V (x n:Nat),SJ U V->1<=x->x<q->n<=1000000->Calls prog 65 #[ea b 0,cG x,cG n] V λe w'=>∃k,e = ec #[cG (pw x n),cG 0]/\w'=V.drewN k):=by rw [<- hpw];exact HPw0
 have HuT:Hid (∀x:Nat,1<=x->pw x R=1->C (x+1)=C x ++ [(x:Int)]):=by rw [<- hpw];exact HuT
 have HuS:Hid (∀x:Nat,1<=x->pw x R ≠ 1->C (x+1)=C x):=by rw [<- hpw];exact HuS
 have Hpw:=Z5 hpw;have HGG:=Z5 (Ng hGG (Ng hq hqQ));have Y:=Z5 (Ng hc (Ng hr (Ng hk (Ng F (Ng hrn (Ng hkn e1))))));have hRb:R<=65:=by omega
 have hR2:2<=R:=by omega
 subst hRi hzi;clear hux hpx hX hpw hGG hq hqQ g1 g2 g3 g4 g5 g6 HPw0 h1 h2 h3 h4 hx10 e1 e2 e3 e4 e5 hN hQi hxi hyi hti hyQ hc hr hk F hrn hkn hZ2b euq;go_wp2_with fail;go_loopw [13,15] (λsv iv wr=>∃(x:Nat) (a1:OA) (c1:Nat),1<=x/\x<=q/\iv = cG x/\sv = .slice a1 (C x).length c1/\wr.ownsRow U.heap.size 3 1 (.slice a1 (C x).length c1) (C x).length ((C x).map (Value.int .i64))/\SJ U wr)
  (λ_ iv _=>q - (intOf iv).toNat)
 case atStart=>exact ⟨1,none,0,M4 _,by omega,rfl,by rw [hu1];rfl,by rw [hu1];exact ⟨rfl,.inl ⟨rfl,rfl⟩⟩,M5 _ _⟩
 case round =>
  obtain ⟨x,a1,c1,hx1,hxq,rfl,rfl,Z,N⟩:=hrel
  by_cases hlt:x<q
  ·have hxl:=HuL x
   have HP1:=Z5 (HPw wr x R N hx1 hlt (by omega))
   have hbz:=below_drewN N
   by_cases hp:pw x R=1
   ·have hu:Hid (C (x+1)=C x ++ [(x:Int)]):=HuT x hx1 hp
    generalize C x=out at *
    rw [hp] at HP1
    clear hp
    go_wp2_with fail
    refine HP1.mono ?_
    rintro e w2 ⟨kk,rfl,rfl⟩
    have hbr2:=below_drewN N kk
    have K:=bj Z (below_drewN (M5 _ _) kk)
    clear Z
    generalize wr.drewN kk=w2 at *
    have F:=bh w2 (cG x) 3
    have hbn:=aD w2 (.cells #[cG x] 3)
    have hsz:=hbr2.size
    go_wp2_with (at_builtin;refine bd rfl _ _ 22 3 rfl (cG 0) 8 underlying22 br rfl U.heap.size a1 out.length c1 _ rfl (K.alloc _) ⟨w2.heap.size,0,none⟩ 1 (cG x) rfl F rfl (by omega) (by unfold maxLen;omega) (by simp;omega) ?_;intro a5 c5 w5 hown5 hgr5 hap5)
    go_roundw
    case rel =>
     refine ⟨x+1,a5,c5,by omega,by omega,by go_num,by rw [hu.out];simp,?_,RY (NK hbr2 (hbn.mono hsz)) (K.alloc _) hgr5 (M4 _) (Np hsz hbn.size)⟩
     rw [hu.out];simpa using hown5
    case measure=>simp [intOf]<;>omega
   ·have hu:Hid (C (x+1)=C x):=HuS x hx1 hp
    have hpb:(pw x R == 1)=false:=by rw [beq_eq_false_iff_ne];exact hp
    generalize C x=out at *
    clear hp
    go_wp2_with fail
    refine HP1.mono ?_
    rintro e w2 ⟨kk,rfl,rfl⟩
    have hbr2:=below_drewN N kk
    have K:=bj Z (below_drewN (M5 _ _) kk)
    clear Z
    generalize wr.drewN kk=w2 at *
    go_wp2_with fail
    go_roundw
    case rel=>exact ⟨x+1,a1,c1,by omega,by omega,by go_num,by rw [hu.out],by rw [hu.out];exact K,hbr2⟩
    case measure=>simp [intOf]<;>omega
  ·obtain rfl:x=q:=by omega
   have hUl:=HU.1
   have hown1:=bq Z (M4 _)
   rw [hUl] at hown1
   have hUi:Ints wr a1 R (C x):=(RW hown1).1
   have HUe:=Z5 HU.2
   have HUi:=Z5 hUi
   have HbW1:=Z5 N
   obtain ⟨UU,hUU⟩:∃UU,C x=UU:=⟨_,rfl⟩
   rw [hUU] at HUe HUi HpT hUl
   have HUl:=Z5 hUl
   have hl0:(C x).length=R:=by rw [hUU];exact hUl
   rw [hl0]
   clear Z hown1 hUi HU HuT HuS HuL hUl hUU hu1 hl0 N hlt
   clear hx1 hxq
   generalize wr=W1 at *
   generalize hxx:x=q at *
   clear hxx
   go_wp2_with (at_make;refine bR rfl _ _ 90 4 rfl (.bool false) 1 underlying90 zA rfl q rfl rfl (by omega) (by unfold maxLen;omega) ?_;intro a8 W2 hown8 hbel8 hge8 hlt8)
   have hown8:W2.ownsRow W1.heap.size 4 1 (.slice a8 q q) q ((jO q (I 1)).map Value.bool):=by rw [hp1,Ef,OB];exact hown8
   have hs1:0<W1.heap.size:=by have h1:=HsW.out;have h2:=O.size;have h3:=HbW1.size;omega
   have Hge:=Z5 (Ng hge8 (Ng hlt8 hs1))
   have ha8:a8 ≠ none:=by rintro rfl;have:(0:Nat)=ablk none:=rfl;omega
   have HCf:Hid (∀V,SJ W1 V->dg V b G/\Ints V a1 R UU):=λV hV=>⟨HG.ai (RU HbW1.out hV),HUi.ai hV⟩
   have hbel8s:=hbel8.size
   clear hge8 hlt8 hs1
   go_loopw [14,19] (λsv iv wr=>∃(x:Nat) (a4:OA) (c4:Nat),1<=x/\x<=q/\(I x).length<=5000/\iv = cG x/\sv = .slice a4 (I x).length c4/\wr.ownsRow W2.heap.size 3 1 (.slice a4 (I x).length c4) (I x).length ((I x).map (Value.int .i64)) /\
     wr.ownsRow W1.heap.size 4 1 (.slice a8 q q) q ((jO q (I x)).map Value.bool)/\SJ W1 wr/\W2.heap.size<=wr.heap.size)
    (λ_ iv _=>q - (intOf iv).toNat)
   case atStart=>exact ⟨1,none,0,M4 _,by omega,by rw [hp1];simp,rfl,by rw [hp1];rfl,by rw [hp1];exact ⟨rfl,.inl ⟨rfl,rfl⟩⟩,hown8,hbel8,M4 _⟩
   case round =>
    clear hown8 hbel8
    obtain ⟨x,a4,c4,hx1,hxq,hl5,rfl,rfl,Z,hus,N,hsz⟩:=hrel
    by_cases hgo:x<q/\(I x).length<L
    ·obtain ⟨hlt,hlz⟩:=hgo
     obtain ⟨hbl,hmi⟩:=SH hus
     have hcx:=hbl.cell x hlt
     have hplb:=hbl.pl
     rw [BT _ hlt] at hcx
     by_cases hin8:(x:Int) ∈ I x
     ·have hd:decide ((x:Int) ∈ I x)=true:=Nv hin8
      rw [hd] at hcx
      have hp:Hid (I (x+1)=I x):=HpS x hx1 hin8
      clear hin8 hd hmi hbl
      generalize I x=out at *
      go_wp2_with fail
      go_roundw
      case rel=>exact ⟨x+1,a4,c4,by omega,by omega,by rw [hp.out];exact hl5,by go_num,by rw [hp.out],by rw [hp.out];exact Z,by rw [hp.out];exact hus,N,hsz⟩
      case measure=>simp [intOf]<;>omega
     ·have hd:decide ((x:Int) ∈ I x)=false:=Nu hin8
      rw [hd] at hcx
      have hp:Hid (I (x+1)=I x ++ bF (UU.map (G.mul x))):=HpT x hx1 hlz hin8
      have HSc:Hid (Calls prog 66 #[ea b 0,cG x,.slice a1 R c1] wr (cR wr (UU.map (G.mul x)))):=by obtain ⟨h5,h6⟩:=HCf wr N;exact pK (x:Int) a1 R c1 UU h5 (show 0<=(x:Int)/\(x:Int)<(G.q:Nat) by rw [<- HGG.1,HGG.2.1];omega) h6 HUe.out (by omega)
      have HCe:Hid (∀y ∈ bF (UU.map (G.mul x)),0<=y/\y<q):=λy hy=>by
       obtain ⟨u,hu,rfl⟩:=List.mem_map.1 ((cB _).mem_iff.1 hy);have h5:=HMul x u (show 0<=(x:Int)/\(x:Int)<(G.q:Nat) by rw [<- HGG.1,HGG.2.1];omega) (HUe u hu);have h6:0<=G.mul x u/\G.mul x u<(G.q:Nat):=h5;have h7:G.q=q:=by rw [<- HGG.1];exact HGG.2.1
       rw [h7] at h6;exact ⟨h6.1,by omega⟩
      have hml:(UU.map (G.mul x)).length=R:=by rw [No];exact HUl
      have hmls:(bF (UU.map (G.mul x))).length=R:=by rw [(cB _).length_eq];exact hml
      obtain ⟨M0,hM0⟩:∃l,UU.map (G.mul x)=l:=⟨_,rfl⟩
      rw [hM0] at hp HSc HCe hml hmls
      have Hms:=Z5 hmls
      clear hin8 hd hmi hbl hM0 hmls
      generalize hpxo:I x=out at *
      clear hpxo
      unfold cR at HSc
      rw [hml] at HSc
      go_wp2_with fail
      refine HSc.mono ?_
      rintro e w3 ⟨a3,c3,rfl,hown3,hb3⟩
      have hs3:=hb3.size
      have HSo:=Z5 (oo wr.heap.size a3 R c3 M0 w3 hown3 hs3 (by omega))
      clear hown3
      go_wp2_with fail
      refine HSo.mono ?_
      rintro e w5 ⟨rfl,hown5,_,hb5⟩
      have hs5:=hb5.size
      have hsrt:=(RW hown5).1
      have hpls:=hsrt.pl
      have hb35:SJ wr w5:=hb3.trans hb5
      have hus5:=bj hus hb35
      have hownp5:=bj Z hb35
      have HB5:Hid (SJ W1 w5):=RU N hb35
      have h3w:wr.heap.size<=ablk a3:=((ew hown5 (by omega))).1
      obtain ⟨cs,hcs⟩:∃cs,bF M0=cs:=⟨_,rfl⟩
      rw [hcs] at hp Hms hsrt HCe
      clear hcs hus Z hown5 hb5 hb3 hb35 HSo
      go_wp2_with fail
      go_loopw [133] (λjv ws=>∃t:Nat,t<=R/\jv = cG t/\ws.ownsRow W1.heap.size 4 1 (.slice a8 q q) q ((jO q (out ++ cs.take t)).map Value.bool)/\ch a8 w5 ws) (λjv _=>R - (intOf jv).toNat)
      case atStart=>exact ⟨0,Nb _,rfl,by simpa using hus5,Sg _ _⟩
      case round =>
       clear hus5
       obtain ⟨t,ht,rfl,hut,hon⟩:=hrel
       have hsrt5:=hon.ints hsrt (.inr (.inr (by have:=Hge.2.1;omega)))
       by_cases A:t<R
       ·have cq:=hsrt5.cell t A
        have hb:=HCe _ (aG (l:=cs) (i:=t) (by rw [Hms.out];exact A))
        obtain ⟨z,hz⟩:∃z:Nat,nth cs t=z:=⟨(nth cs t).toNat,by omega⟩
        have hzq:z<q:=by omega
        obtain ⟨hbl,hmi⟩:=SH hut
        have hfz:=(hmi (by omega)).2 z hzq
        have hcz:=hbl.cell z hzq
        have hnx:Hid (out ++ cs.take (t+1)=(out ++ cs.take t) ++ [(z:Int)]):=by show _=_;rw [Nh (by rw [Hms.out];exact A),<- an,hz,Oa]
        rw [hz] at cq
        clear hz hb hbl hmi
        go_wp2_with fail
        go_roundw
        case rel =>
         refine ⟨t+1,by omega,by go_num,?_,hon.trans (Sl _ _ _ ha8)⟩
         have h5:=bA hut z hzq (.bool true)
         rw [<- Ny,F0,<- hnx.out] at h5
         exact h5
        case measure=>simp [intOf]<;>omega
       ·obtain rfl:t=R:=by omega
        rw [Nj (by rw [Hms.out];exact M4 _),<- hp.out] at hut
        have hbO:Below W1.heap.size w5 wr:=hon.below (λ_=>Hge.1) HB5.size
        have hbW:SJ W1 wr:=HB5.trans hbO
        have hne4:ablk a4 ≠ ablk a8:=by
         rcases lS hownp5 with ⟨h5,_⟩ | ⟨h5,_⟩
         ·rw [h5];have h6:ablk none=0:=rfl;have:=Hge.1;have:=Hge.2.2;omega
         ·have:=Hge.2.1;omega
        have hl4:ablk a4<w5.heap.size:=by
         rcases lS hownp5 with ⟨h5,_⟩ | ⟨_,h5⟩
         ·rw [h5];have h6:ablk none=0:=rfl;have:=HB5.size;have:=Hge.2.2;omega
         ·exact h5
        have hown6:=fh hownp5 (hon.block _ hl4 λh5=>hne4 h5.2)
        have hsw:W2.heap.size<=wr.heap.size:=by have:=hon.size;omega
        have hpl5:=hsrt5.pl
        have hlcs:(cs.map (Value.int .i64)).length=t:=by rw [No];exact Hms
        have hcc:∀j,j<t->wr.cell? ⟨ablk a3,aN a3+j,none⟩=(cs.map (Value.int .i64))[j]?:=λj hj=>by rw [hsrt5.cell j hj,OQ,NJ (by rw [Hms.out];exact hj),an (by rw [Hms.out];exact hj)];rfl
        have h1cs:∀u ∈ cs.map (Value.int .i64),u.oneCell'=true:=λu hu=>by obtain ⟨y,_,rfl⟩:=List.mem_map.1 hu;rfl
        have Hbx:=Z5 (Ng hbW hsw)
        have hlnx:(I (x+1)).length=out.length+t:=by rw [hp.out,Ni,Hms.out]
        clear hownp5 hon hbO hsrt5 hsrt
        go_wp2_with (at_builtin;refine fZ rfl _ _ 22 3 rfl (cG 0) 8 underlying22 br rfl W2.heap.size a4 out.length c4 _ rfl hown6 a3 t c3 _ rfl hpl5 hlcs hcc h1cs (by omega) (by unfold maxLen;omega) hsw ?_;intro a7 c7 w7 hown7 hgr7 _)
        go_roundw
        case rel =>
         have hut7:=fh hut (hgr7.block _ (Nz Hge.2.1 Hbx.2) λh5=>(dq.own (.inr hne4) out.length c4) h5.symm)
         refine ⟨x+1,a7,c7,by omega,by omega,by omega,by go_num,by rw [hlnx],?_,hut7,RY Hbx.1 hown6 hgr7 hbel8s Hbx.1.size,by have:=hgr7.size;omega⟩
         rw [hlnx,hp.out,NT]
         exact hown7
        case measure=>simp [intOf]<;>omega
    ·have hX0:Hid (I x=X):=by
      by_cases h5:x<q
      ·exact HpE x hxq (by omega)
      ·obtain rfl:x=q:=by omega
       exact HpQ
     have hXl:=HXp.1
     rw [hX0.out,hXl] at Z
     have hXi:Ints wr a4 L X:=(RW Z).1
     have HXi:=Z5 hXi
     have HbW2:=Z5 N
     have hlX:(I x).length=L:=by rw [hX0.out];exact hXl
     rw [hlX] at hl5 hgo ⊢
     have hstop:¬ (x<q/\L<L):=by omega
     have HCt:Hid (∀x,x % R=D->i6 D (x+1)=i6 D x):=λx hx=>ER (by rw [Y.2.2.2.2.2.2];exact hx)
     have HCk:Hid (∀x,x % R ≠ D->i6 D (x+1)=i6 D x+1/\iJ G.ops X (gv D) (i6 D x+1)=iJ G.ops X (gv D) (i6 D x) ++ [X.map λy=>fA G.ops y x]):=λx hx=>by obtain ⟨h5,h6⟩:=EV (r:=D) (x:=x) (by have:=Y.2.1;have:=Y.2.2.2.2.1;omega) (by rw [Y.2.2.2.2.2.2];exact hx);exact ⟨h5,by rw [EG,<- h6]⟩
     have HCl:Hid (∀x,i6 D x<kn->x<2 * kn):=λx hx=>KC (by have:=Y.2.1;have:=Y.2.2.2.2.1;omega) hx
     have hct0:i6 D 0=0:=FY D
     have hLL0:iJ G.ops X (gv D) 0=[]:=rfl
     obtain ⟨LL,hLL⟩:∃f,iJ G.ops X (gv D)=f:=⟨_,rfl⟩
     rw [hLL] at HCk hLL0 HtbS HRw
     obtain ⟨ct,hct⟩:∃f,i6 D=f:=⟨_,rfl⟩
     rw [hct] at HCt HCk HCl hct0
     obtain ⟨rw',hrw⟩:∃f:Nat->Lz,(λx=>X.map λy=>fA G.ops y x)=f:=⟨_,rfl⟩
     have HCk:Hid (∀x,x % R ≠ D->ct (x+1)=ct x+1/\LL (ct x+1)=LL (ct x) ++ [rw' x]):=by rw [<- hrw];exact HCk
     have HRl:Hid (∀x,(rw' x).length=L):=λx=>by rw [<- hrw];simp [hXl]
     have HRn:Hid (∀x z t,t<L->nth X t=((z:Nat):Int)->nth (rw' x) t=pw z x):=λx z t ht hz=>by rw [<- hrw,<- Hpw.out];show nth (X.map _) t=_;rw [an (by rw [No,hXl];exact ht),Oc,<- an,hz]
     have HXe:Hid (∀t,t<L->∃z:Nat,nth X t=z/\1<=z/\z<q):=λt ht=>by
      obtain ⟨h5,h6⟩:=HXp.2 _ (aG (l:=X) (i:=t) (by rw [hXl];exact ht));have h7:0<=nth X t/\nth X t<(G.q:Nat):=h5;have h8:G.q=q:=by rw [<- HGG.1];exact HGG.2.1
      rw [h8] at h7;exact ⟨(nth X t).toNat,by omega,by omega,by omega⟩
     obtain ⟨kx,rx⟩:=Ng Y.2.2.2.2.2.1 Y.2.2.2.2.1
     have HkE:=Z5 (Ng kx (Ng rx (Ng Y.2.1 Y.2.2.1)))
     have hk64:kn<=64:=by have:=Y.2.2.1;have:=Y.2.2.2.2.2.1;omega
     have hrwf:=HRl.out
     clear hLL hct hrw hXi Z hus N hX0 hlX hXl HpT HpS HpE HpQ hp1 HMul HFl HCf HUe HUi HUl ha8 hbel8s hin hZ1b kx rx hrwf hsz HOr
     generalize wr=V at *
     clear hgo
     by_cases h5q:x<q
     all_goals (
      go_upto_region 33 with fail
      obtain ⟨g,hg⟩:∃g,V.heap.size=g:=⟨_,rfl⟩
      have HGs:=Z5 hg
      clear hg
      go_cut [23] (λv wx=>v = ea V.heap.size 0/\jF wx V.heap.size (cG L) none 0 0 [] []/\SJ V wx)
      case first =>
       go_wp2_with fail
       go_meet
       exact ⟨rfl,jF.start (RV V [cG L,ds] _ rfl),aD _ _⟩
      obtain ⟨rfl,hO0,hbc⟩:=hcut
      generalize wc=U3 at *
      have hs3:=HGs.out
      rw [hs3] at hO0 ⊢
      have HbU3:=Z5 hbc
      have hgU:=hO0.lt
      have hO0:jF U3 g (cG L) none (ct 0) 0 [] (LL (ct 0)):=by rw [hct0,hLL0];exact hO0
      have hR0p:(R:Int) ≠ 0:=by omega
      have hR0n:R ≠ 0:=by omega
      have hR0b:((R:Int) == 0)=false:=by rw [beq_eq_false_iff_ne];exact hR0p
      clear hbc hs3 hLL0
      go_wp2_with fail
      go_loopw [24] (λiv wr=>∃(x:Nat) (a5:OA) (c5:Nat) (Rr:Z4),x<=2 * kn/\ct x<=kn/\iv = cG x/\jF wr g (cG L) a5 (ct x) c5 Rr (LL (ct x))/\Below g U3 wr) (λiv _=>2 * kn - (intOf iv).toNat)
      case atStart=>exact ⟨0,none,0,[],Nb _,by rw [hct0];exact Nb _,rfl,hO0,M5 _ _⟩
      case round =>
       clear hO0
       obtain ⟨x,a5,c5,Rr,hx2,hxk,rfl,hO,N⟩:=hrel
       have hgr:=hO.lt
       have g1:=hO.c1
       obtain ⟨hk1,hr1,hr2,hk2⟩:=HkE.out
       by_cases hltk:ct x<kn
       ·have hxlt:=HCl x hltk
        have d1:decide (((ct x:Nat):Int)<k)=true:=by rw [hk1];simp;omega
        obtain ⟨xm,hxm⟩:∃xm:Int,xm=((x % R:Nat):Int):=⟨_,rfl⟩
        have tm:(x:Int).tmod (R:Int)=xm:=by rw [hxm,Oo (by omega)];simp
        by_cases hm:x % R=D
        ·have hs:=Z5 (HCt x hm)
         have d2:(xm == r)=true:=by rw [hxm,hm,hr1];simp
         have hO':=Z5 hO
         generalize ct x=cx at *
         clear hm hxm hk1 hr1 hr2 hk2 hO
         go_wp2_with fail
         go_roundw
         case rel=>exact ⟨x+1,a5,c5,Rr,by omega,by rw [hs.out];omega,by go_num,by rw [hs.out];exact hO'.out,N⟩
         case measure=>simp [intOf]<;>omega
        ·have hs:=Z5 (HCk x hm)
         have d2:(xm == r)=false:=by rw [beq_eq_false_iff_ne,hxm,hr1];omega
         have hO':=Z5 hO
         have Hrl:=Z5 (HRl x)
         have Hrn:=Z5 (HRn x)
         have HP1:Hid (∀V' z,SJ V V'->1<=z->z<q->Calls prog 65 #[ea b 0,cG z,cG x] V' λe w'=>∃k,e = ec #[cG (pw z x),cG 0]/\w'=V'.drewN k):=λV' z hV h5 h6 =>
          HPw V' z x (RU HbW1.out (RU HbW2.out hV)) h5 h6 (by have:=HkE.2.2.2;have:=HkE.1;omega)
         obtain ⟨rr,hrr⟩:∃l,rw' x=l:=⟨_,rfl⟩
         rw [hrr] at hs Hrl Hrn
         generalize hcx:ct x=cx at *
         have hcx200:cx<=64:=by have:=HkE.2.2.2;have:=HkE.1;omega
         have hbV:=NK HbU3.out (N.mono (QE HGs.out))
         have hgV:=HGs.out
         clear hm hxm hk1 hr1 hr2 hk2 hO hcx hrr
         go_wp2_with fail
         have HbR:=Z5 (Ng N hgr)
         clear N
         generalize wr=V1 at *
         go_loopw [25,162] (λrv jv ws=>∃(t:Nat) (a6:OA) (c6:Nat),t<=L/\jv = cG t/\rv = .slice a6 t c6/\ws.ownsRow V1.heap.size 3 1 (.slice a6 t c6) t ((rr.take t).map (Value.int .i64))/\SJ V1 ws)
          (λ_ jv _=>L - (intOf jv).toNat)
         case atStart=>exact ⟨0,none,0,Nb _,rfl,rfl,⟨rfl,.inl ⟨rfl,rfl⟩⟩,M5 _ _⟩
         case round =>
          obtain ⟨t,a6,c6,ht,rfl,rfl,Z,hbt⟩:=hrel
          have hbVt:=RU hbV hbt
          have hXt:=HXi.ai hbVt
          have hpl4:=hXt.pl
          by_cases A:t<L
          ·have cq:=hXt.cell t A
           obtain ⟨z,hz,hz1,hzq⟩:=HXe t A
           have HP2:=Z5 (HP1 wr z hbVt hz1 hzq)
           have htk:Hid (rr.take (t+1)=rr.take t ++ [pw z x]):=by show _=_;rw [Nh (by rw [Hrl.out];exact A),<- an,Hrn z t A hz]
           rw [hz] at cq
           clear hz hXt
           go_wp2_with fail
           refine HP2.mono ?_
           rintro e w2 ⟨kk,rfl,rfl⟩
           have hbr2:=below_drewN hbt kk
           have K:=bj Z (below_drewN (M5 _ _) kk)
           clear Z
           generalize wr.drewN kk=w2 at *
           obtain ⟨yv,hyv⟩:∃y,pw z x=y:=⟨_,rfl⟩
           rw [hyv] at htk ⊢
           clear hyv HP2
           have F:=bh w2 (cG yv) 3
           have hbn:=aD w2 (.cells #[cG yv] 3)
           have hsz:=hbr2.size
           go_wp2_with (at_builtin;refine bd rfl _ _ 22 3 rfl (cG 0) 8 underlying22 br rfl V1.heap.size a6 t c6 _ rfl (K.alloc _) ⟨w2.heap.size,0,none⟩ 1 (cG yv) rfl F rfl (by omega) (by unfold maxLen;omega) (by simp;omega) ?_;intro a7 c7 w7 hown7 hgr7 hap7)
           go_roundw
           case rel =>
            refine ⟨t+1,a7,c7,by omega,by go_num,rfl,?_,RY (NK hbr2 (hbn.mono hsz)) (K.alloc _) hgr7 (M4 _) (Np hsz hbn.size)⟩
            rw [htk.out];simpa using hown7
           case measure=>simp [intOf]<;>omega
          ·obtain rfl:t=L:=by omega
           rw [Nj (by rw [Hrl.out];exact M4 _)] at Z
           have hs6:=hO'.ai hbt
           have hOk:=hs6.om.ai (aD wr (.cells #[.slice a6 t c6] 22))
           have hcp:=hs6.c1
           have hgs:=hs6.lt
           clear g1
           go_wp2_with (at_builtin;refine bd rfl _ _ 25 22 rfl ds 24 underlying25 ed rfl (g+1) a5 cx c5 _ rfl hOk.own ⟨wr.heap.size,0,none⟩ 1 (.slice a6 t c6) rfl (bh wr _ _) rfl (by omega) (by unfold maxLen;omega) (by simp;omega) ?_;intro a7 c7 w6 hown6 hgr6 hap6;have hk6:=(hs6.lO hgr6).2.1;have hf6:=(hs6.lO hgr6).2.2)
           go_roundw
           case rel =>
            have hra:a6 ≠ none->¬ bN a5 Rr (ablk a6):=λh0 hI=>by have h1:=(aP Z h0).1;have h2:=(hO'.om.lt _ hI).2;omega
            obtain ⟨hP,hbP⟩:=hs6.push Hrl.out (bq Z (by have:=HbR.2;omega)) hra hown6 hgr6 hap6
            exact ⟨x+1,a7,c7,_,by omega,by rw [hs.1];omega,by go_num,by rw [hs.1,hs.2];exact hP,NK HbR.1 ((hbt.mono (by have:=HbR.2;omega)).trans hbP)⟩
           case measure=>simp [intOf]<;>omega
       ·have hk3:ct x=kn:=by omega
        have d1:decide (((ct x:Nat):Int)<k)=false:=by rw [hk1];simp;omega
        rw [hk3] at hO d1 g1
        have g0:=hO.c0
        have hMN:bJ (g+1) wr a5 kn (LL kn):=Sq hO.om
        have hbV:=NK HbU3.out (N.mono (QE HGs.out))
        have hbE:SJ W wr:=RU (RU (RU O.out HbW1.out) HbW2.out) hbV
        have hSt:=HtbS.out
        obtain ⟨S,hS⟩:∃S,bI G.ops L (LL kn)=S:=⟨_,rfl⟩
        rw [hS] at hSt
        have HNw:Hid (Calls prog 68 #[.agg #[cG P,cG M,.slice am mn cm],.agg #[cG L,.slice a5 kn c5]] wr λe w'=>∃a1 c1 a2 c2,e = ec #[.agg #[cG P,cG M,.slice a1 mod.length c1,cG L,.slice a2 S.length c2],cG 0]/\bH wr.heap.size w' a1 mod.length mod/\bJ wr.heap.size w' a2 S.length S/\SJ wr w'):=by have h:=qn P M am mn cm mod L a5 kn c5 (LL kn) wr (Hmod.1.ai (RU HbW.out hbE)) hMN.lL HRw.out HZN.1 HZN.2 Hmod.2;unfold tX at h;rw [HGG.1] at h;have e:b8 G (LL kn) L=S:=hS;rw [e] at h;exact h
        have HPF:=HP0.out
        rw [HNN.out,hSt] at HPF
        have HPF:=Z5 HPF
        have HbE:=Z5 hbE
        have bx:=HX.1.ai hbE
        have c0:=bx.cell 0 rfl
        have c1':=bx.cell 1 rfl
        have c2':=bx.cell 2 rfl
        clear hS hSt bx hMN hO N hbV hbE hk3 hk1 hr1 hr2 hk2 Y HkE
        go_wp2_with fail
        refine HNw.mono ?_
        rintro e w6 ⟨b1,d1',b2,d2',rfl,hI6,hM6,hb6⟩
        have hbF:=RU HbE.out hb6
        have hsz:=HbE.size
        have hsW:=HsW.out
        obtain ⟨z0,z1,z2,z3,z4,f0,f1,f2,f3,f4⟩:=HZ w6 hbF
        have zz:=(((((HX.2.ai hbF).setCell 0 (cG P)).setCell 1 (cG M)).setCell 2 (.slice b1 mod.length d1')).setCell 3 (cG L)).setCell 4 (.slice b2 S.length d2')
        have y0:=zz.cell 0 rfl
        have y1:=zz.cell 1 rfl
        have y2:=zz.cell 2 rfl
        have y3:=zz.cell 3 rfl
        have y4:=zz.cell 4 rfl
        have HF:=Z5 (HPF b1 d1' b2 d2' (((((w6.setCell ⟨w.heap.size+1,0,none⟩ (cG P)).setCell ⟨w.heap.size+1,1,none⟩ (cG M)).setCell ⟨w.heap.size+1,2,none⟩ (.slice b1 mod.length d1')).setCell ⟨w.heap.size+1,3,none⟩ (cG L)).setCell ⟨w.heap.size+1,4,none⟩ (.slice b2 S.length d2')) HE0.out
         ((((((hI6.setCell (p:=⟨w.heap.size+1,0,none⟩) (by simp;omega) _).setCell (p:=⟨w.heap.size+1,1,none⟩) (by simp;omega) _).setCell (p:=⟨w.heap.size+1,2,none⟩) (by simp;omega) _).setCell (p:=⟨w.heap.size+1,3,none⟩) (by simp;omega) _).setCell (p:=⟨w.heap.size+1,4,none⟩) (by simp;omega) _).mono (by omega))
         ((((((hM6.setCell (p:=⟨w.heap.size+1,0,none⟩) (by simp;omega) _).setCell (p:=⟨w.heap.size+1,1,none⟩) (by simp;omega) _).setCell (p:=⟨w.heap.size+1,2,none⟩) (by simp;omega) _).setCell (p:=⟨w.heap.size+1,3,none⟩) (by simp;omega) _).setCell (p:=⟨w.heap.size+1,4,none⟩) (by simp;omega) _).mono (by omega))
         ((((((RU HbW.out hbF).setCell (p:=⟨w.heap.size+1,0,none⟩) (by simp) _).setCell (p:=⟨w.heap.size+1,1,none⟩) (by simp) _).setCell (p:=⟨w.heap.size+1,2,none⟩) (by simp) _).setCell (p:=⟨w.heap.size+1,3,none⟩) (by simp) _).setCell (p:=⟨w.heap.size+1,4,none⟩) (by simp) _))
        clear hI6 hM6 hb6 hbF zz
        go_wp2_with fail
        exact bodyPost_ret (v:=.tuple #[.agg #[cG P,cG M,.slice b1 mod.length d1',cG L,.slice b2 S.length d2'],cG 0]) (by simp [results,results25,go_sem,y0,y1,y2,y3,y4]) rfl HF.out)
section
theorem aB.LY (w:ej) {I:Nat->Prop} {p:Addr} (Y:I p.block) (v:Value):aB w (w.setCell p v) I I:=by have Z:Below 0 w (w.setCell p v):=(M5 0 w).setCell (Nb _) v;exact ⟨Z.os,Z.tape,Z.output,Z.size,λb hb hI=>Nt _ _ _ _ λe=>hI (e ▸ Y),λb hb=>.inl hb⟩
def Mg (b:Nat) (P M:Int) (am:OA) (Y S:Nat) (N:Int) (a:OA) (n c:Nat) (ag:OA) (X cg:Nat) (O:OA) (Z U k:Nat):List Value :=
 [ea b 0,cG P,cG M,.slice am Y S,cG N,.slice a n c,.slice ag X cg,.slice O Z U,cG k]
def LA (g:Nat) (ag ak:OA):Nat->Prop:=λb=>b<=g\/(ag ≠ none/\b=ablk ag)\/(ak ≠ none/\b=ablk ak)
structure LI (V:ej) (g:Nat) (pre:List Value) (ag:OA) (cg:Nat) (ak:OA) (ck:Nat) (gs:List TX) (Q:Lz):Prop where
 pl:pre.length=6
 box:aQ V g (pre ++ [.slice ag gs.length cg,ds,cG 0])
 so:V.ownsRow (g+1) 25 1 (.slice ag gs.length cg) gs.length (gs.map AO)
 rk:V.ownsRow (g+1) 3 1 (.slice ak Q.length ck) Q.length (Q.map (Value.int .i64))
 st:ag=none\/ak=none\/ablk ag ≠ ablk ak
 gx:∀y ∈ gs,fU (LA g ag ak) V y.a y.T.length y.T
namespace LI
variable {V V' w5:ej} {g:Nat} {pre:List Value} {ag:OA} {cg:Nat} {ak:OA} {ck:Nat} {gs:List TX} {Q:Lz} {o:Obj}
theorem ai (h:LI V g pre ag cg ak ck gs Q) (hb:SJ V V'):LI V' g pre ag cg ak ck gs Q :=
 ⟨h.pl,h.box.ai hb,bj h.so hb,bj h.rk hb,h.st,λy hy=>(h.gx y hy).ai hb⟩
theorem start (Z:pre.length=6) (h:aQ V g (pre ++ [ds,ds,cG 0])):LI V g pre none 0 none 0 [] [] :=
 ⟨Z,h,by simpa using cJ,by simpa using cJ,.inl rfl,λy hy=>by simp at hy⟩
theorem lt (h:LI V g pre ag cg ak ck gs Q):∀b,LA g ag ak b->b<V.heap.size:=λb hb=>by
 rcases hb with h1 | ⟨h1,rfl⟩ | ⟨h1,rfl⟩
 ·exact Nat.lt_of_le_of_lt h1 h.box.1
 ·exact (aP h.so h1).2
 ·exact (aP h.rk h1).2
theorem ME (h:LI V g pre ag cg ak ck gs Q):dq ag g:=by
 by_cases h1:ag=none
 ·exact .inl h1
 ·exact .inr λe=>by have:=(aP h.so h1).1;omega
theorem MT (h:LI V g pre ag cg ak ck gs Q):dq ak g:=by
 by_cases h1:ak=none
 ·exact .inl h1
 ·exact .inr λe=>by have:=(aP h.rk h1).1;omega
theorem c6 (h:LI V g pre ag cg ak ck gs Q):V.cell? ⟨g,6,none⟩=some (.slice ag gs.length cg):=h.box.cell 6 (by rw [N4 (by rw [h.pl];omega),h.pl];rfl)
theorem Mq (h:LI V g pre ag cg ak ck gs Q) {r:Int} {a5:OA} {c5:Nat}
  (Y:w5.ownsRow (g+1) 3 1 (.slice a5 (Q.length+1) c5) (Q.length+1) (Q.map (Value.int .i64) ++ [cG r])) (U:(V.alloc o).grownBy w5 (Value.slice ak Q.length ck).ownBlock) (O:∀b,b<(V.alloc o).heap.size->dq ak b->dq a5 b) :
  LI w5 g pre ag cg a5 c5 gs (Q ++ [r])/\Below (g+1) V w5:=by
 have K:aB V w5 (LA g ag ak) (LA g ag ak):=(RZ (aD V o) _).trans (Se U λh1=>.inr (.inr ⟨h1,rfl⟩));have hne:a5 ≠ none:=λe=>by
  obtain ⟨y,z,L,E⟩:=Sf Y;cases L
  have:=E (by omega);rw [e] at this;cases this
 have I:(V.alloc o).heap.size=V.heap.size+1:=by simp
 have S:∀b,LA g ag a5 b->LA g ag ak b\/V.heap.size<=b:=λb hb=>by
  rcases hb with hb | hb | ⟨_,hb⟩
  ·exact .inl (.inl hb)
  ·exact .inl (.inr (.inl hb))
  ·rcases NU b V.heap.size with h1 | h1
   ·by_cases h2:dq ak b
    ·rcases O b (by omega) h2 with h3 | h3
     ·exact absurd h3 hne
     ·exact absurd hb.symm h3
    ·exact .inl (.inr (.inr ⟨λe=>h2 (.inl e),NB λe=>h2 (.inr λF=>e F.symm)⟩))
   ·exact .inr h1
 have G:=K.G9 S;have N:∀b,b<V.heap.size->dq ak b->w5.heap[b]? = V.heap[b]?:=λb h1 h3=>(U.block b (by omega) λe=>h3.own _ _ e.symm).trans (PH _ _ _ h1);have D:=h.box.1;have Z:ag ≠ none->dq ak (ablk ag):=λh1=>by
  rcases h.st with h2 | h2 | h2
  ·exact absurd h2 h1
  ·exact .inl h2
  ·exact .inr λe=>h2 e.symm
 refine ⟨⟨h.pl,?_,yu h.so λh1=>N _ (aP h.so h1).2 (Z h1),?_,?_,λy hy=>(h.gx y hy).pO G⟩,RY ((aD V o).mono (by omega)) (h.rk.alloc o) U (M4 _) (by rw [I];omega)⟩
 ·have H:=h.box.alloc o;have X:w5.heap[g]? = (V.alloc o).heap[g]?:=U.block g (by omega) λe=>h.MT.own _ _ e.symm;exact ⟨Nz H.1 U.size,λj v L=>(NG (w:=V.alloc o) (a:=⟨g,j,none⟩) X).trans (H.2.1 j v L),λj=>(NI (w:=V.alloc o) (a:=⟨g,j,none⟩) X).trans (H.2.2 j)⟩
 ·rw [Ni,NT];exact Y
 ·by_cases h1:ag=none
  ·exact .inl h1
  ·refine .inr (.inr λe=>?_);rcases O _ (by have:=(aP h.so h1).2;omega) (Z h1) with h3 | h3
   ·exact hne h3
   ·exact h3 e.symm
theorem Mm (h:LI V g pre ag cg ak ck gs Q) {x:TX} (H:fU (LA g ag ak) V x.a x.T.length x.T) {a5:OA} {c5:Nat}
  (Y:w5.ownsRow (g+1) 25 1 (.slice a5 (gs.length+1) c5) (gs.length+1) (gs.map AO ++ [AO x])) (S:(V.alloc o).grownBy w5 (Value.slice ag gs.length cg).ownBlock) (X:∀b,b<(V.alloc o).heap.size->dq ag b->dq a5 b) :
  LI (w5.setCell ⟨g,6,none⟩ (.slice a5 (gs.length+1) c5)) g pre a5 c5 ak ck (gs ++ [x]) Q/\Below g V (w5.setCell ⟨g,6,none⟩ (.slice a5 (gs.length+1) c5))/\aB V (w5.setCell ⟨g,6,none⟩ (.slice a5 (gs.length+1) c5)) (LA g ag ak) (LA g a5 ak):=by
 have E:aB V (w5.setCell ⟨g,6,none⟩ (.slice a5 (gs.length+1) c5)) (LA g ag ak) (LA g ag ak) :=
  ((RZ (aD V o) _).trans (Se S λh1=>.inr (.inl ⟨h1,rfl⟩))).trans (aB.LY (I:=LA g ag ak) (p:=⟨g,6,none⟩) _ (.inl (M4 _)) _)
 have hne:a5 ≠ none:=λe=>by
  obtain ⟨y,z,G,hp⟩:=Sf Y;cases G
  have:=hp (by omega);rw [e] at this;cases this
 have D:(V.alloc o).heap.size=V.heap.size+1:=by simp
 have N:∀b,LA g a5 ak b->LA g ag ak b\/V.heap.size<=b:=λb hb=>by
  rcases hb with hb | ⟨_,hb⟩ | hb
  ·exact .inl (.inl hb)
  ·rcases NU b V.heap.size with h1 | h1
   ·by_cases h2:dq ag b
    ·rcases X b (by omega) h2 with h3 | h3
     ·exact absurd h3 hne
     ·exact absurd hb.symm h3
    ·exact .inl (.inr (.inl ⟨λe=>h2 (.inl e),NB λe=>h2 (.inr λr=>e r.symm)⟩))
   ·exact .inr h1
  ·exact .inl (.inr (.inr hb))
 have F:=E.G9 N;have K:∀b,b<V.heap.size->b ≠ g->dq ag b->(w5.setCell ⟨g,6,none⟩ (.slice a5 (gs.length+1) c5)).heap[b]? = V.heap[b]?:=λb h1 h2 h3 =>
  (Nt _ _ _ _ h2).trans ((S.block b (by omega) λe=>h3.own _ _ e.symm).trans (PH _ _ _ h1))
 have hgl:=h.box.1;have C:aQ w5 g (pre ++ [.slice ag gs.length cg,ds,cG 0]):=by have H:=h.box.alloc o;have U:w5.heap[g]? = (V.alloc o).heap[g]?:=S.block g (by omega) λe=>h.ME.own _ _ e.symm;exact ⟨Nz H.1 S.size,λj v G=>(NG (w:=V.alloc o) (a:=⟨g,j,none⟩) U).trans (H.2.1 j v G),λj=>(NI (w:=V.alloc o) (a:=⟨g,j,none⟩) U).trans (H.2.2 j)⟩
 have L:dq a5 g:=X g (by omega) h.ME;have Z:ak ≠ none->dq ag (ablk ak):=λh1=>by
  rcases h.st with h2 | h2 | h2
  ·exact .inl h2
  ·exact absurd h2 h1
  ·exact .inr h2
 have O:(pre ++ [.slice ag gs.length cg,ds,cG 0]:List Value).set 6 (.slice a5 (gs.length+1) c5)=pre ++ [.slice a5 (gs.length+1) c5,ds,cG 0]:=by rw [P1 _ _ (by rw [h.pl];omega),h.pl];rfl
 refine ⟨⟨h.pl,?_,?_,yu h.rk λh1=>K _ (aP h.rk h1).2 (by have:=(aP h.rk h1).1;omega) (Z h1),?_,λy hy=>?_⟩,?_⟩
 ·rw [Ni];have A:=C.LW 6 (.slice a5 (gs.length+1) c5);rw [O] at A;exact A
 ·rw [Ni,NT];exact dO Y _ (L.elim (λe=>.inl e) λe=>.inr e)
 ·by_cases h1:ak=none
  ·exact .inr (.inl h1)
  ·refine .inr (.inr λe=>?_);rcases X _ (by have:=(aP h.rk h1).2;omega) (Z h1) with h3 | h3
   ·exact hne h3
   ·exact h3 e
 ·rcases List.mem_append.1 hy with hy | hy
  ·exact (h.gx y hy).pO F
  ·rw [List.mem_singleton.1 hy];exact H.pO F
 ·refine ⟨?_,F⟩;exact ((RY ((aD V o).mono (show g+1<=V.heap.size by omega)) (h.so.alloc o) S (M4 _) (by rw [D];omega)).mono (Nat.le_succ g)).setCell (p:=⟨g,6,none⟩) (M4 g) _
end LI
structure zf (w:ej) (a:OA) (n:Nat) (l:ZZ):Prop where
 len:l.length=n
 pl:Pl a n
 max:n<=maxLen
 cell:∀i,i<n->∀j,j<4->w.cell? ⟨ablk a,aN a+i * 4+j,none⟩=some (cG (nth (aj l i) j))
theorem zf.nil (w:ej) (a:OA):zf w a 0 []:=⟨rfl,λh=>by omega,by unfold maxLen;omega,λi h=>by omega⟩
def Ba:ZZ->List Value
 | []=>[]
 | r :: l=>cG (nth r 0) :: cG (nth r 1) :: cG (nth r 2) :: cG (nth r 3) :: Ba l
theorem Hi:∀(l:ZZ) (i j:Nat),i<l.length->j<4->(Ba l)[i * 4+j]? = some (cG (nth (aj l i) j))
 | [],i,j,h,_=>by simp at h
 | r :: l,0,j,_,Z=>by
  have e:aj (r :: l) 0=r:=rfl;rw [e,Ba];match j,Z with
  | 0,_=>rfl
  | 1,_=>rfl
  | 2,_=>rfl
  | 3,_=>rfl
 | r :: l,i+1,j,hi,Z=>by have e:aj (r :: l) (i+1)=aj l i:=rfl;have h:=Hi l i j (by simpa using hi) Z;rw [e,Ba,show (i+1) * 4+j=(i * 4+j)+1+1+1+1 by omega];simpa using h
theorem zf.own {w:ej} {B:Nat} {e:TypeId} {a:OA} {k c:Nat} {l:ZZ} (h:w.ownsRow B e 4 (.slice a k c) k (Ba l)) (Y:l.length=k):zf w a k l:=by
 rcases h.2 with ⟨Z,h0⟩ | ⟨g,cap,cur,Z,N,L,O,hm,K,I⟩
 ·cases Z
  have U:l=[]:=NF Y;subst U;exact zf.nil _ _
 ·cases Z
  refine ⟨Y,λ_=>rfl,by omega,λi hi j S=>?_⟩;have X:=World.ownsRow.cells h (g:=g) rfl _ _ (Hi l i j (by omega) S);rw [Qn] at X;simpa [ablk,aN,Pq] using X
theorem Cp {P:Program} {w:ej} {ops:Array Oper} {o:Oper} {ac:Act} {K:Act->ej->Prop} {Q:Exit->Act->ej->Prop} {E:Prop}
  (hg:o.guard=none) (s x:Operand) (t e:TypeId) (hop:o.op = .call { callee:=.builtin .append,args:=#[s,x],argTypes:=#[t,t] }) (z:Value) (bytes:Nat)
  (h1:P.underlying t=some (.slice e)) (h2:(P.info? e).map (λi=>(i.zero,i.size,i.bytes))=some (some z,4,bytes)) (hz:z.cells.size=4)
  (B:Nat) (a:OA) (n c:Nat) (xs:List Value) (hs:ac.eval s = .slice a n c) (S:w.ownsRow B e 4 (.slice a n c) n xs)
  (g cc:Nat) (N O L I:Value) (hx:ac.eval x = .slice (some ⟨g,0,none⟩) 1 cc) (r:w.cell? ⟨g,0,none⟩=some N) (hu1:w.cell? ⟨g,1,none⟩=some O) (A:w.cell? ⟨g,2,none⟩=some L) (H:w.cell? ⟨g,3,none⟩=some I)
  (D:∀u ∈ [N,O,L,I],u.oneCell'=true)
  (b2:(n+1) * bytes<=140737488355328) (b3:n+1<=maxLen) (hB:B<=w.heap.size)
  (hK:∀a' Y w',w'.ownsRow B e 4 (.slice a' (n+1) Y) (n+1) (xs ++ [N,O,L,I])->w.grownBy w' (Value.slice a n c).ownBlock->(∀b,b<w.heap.size->dq a b->dq a' b)->K (ac.put o.dst (.slice a' (n+1) Y)) w') :
  if Region.wanted o (yielded ops ac.tmps)=true then Oper.wp P o ac w K Q else E:=by
 have hw:Region.wanted o (yielded ops ac.tmps)=true:=by simp [Region.wanted,hg]
 rw [M7 hw];obtain ⟨i,hi,C,F,G⟩:∃i,P.info? e=some i/\i.zero=some z/\i.size=4/\i.bytes=bytes:=by
  cases hp:P.info? e with
  | none=>rw [hp] at h2;cases h2
  | some i=>rw [hp] at h2;simp at h2;exact ⟨i,rfl,h2.1,h2.2.1,h2.2.2⟩
 obtain ⟨v',w',hr,h3,h4,_,U⟩:=run_append_own_at (P:=P) w B t o.type e i z 4 bytes h1 hi C F G hz (by decide) _ n xs S ⟨g,0,none⟩ 1 cc [N,O,L,I] rfl
  (λj y Z=>by
   match j,Z with
   | 0,Z=>simp at Z;subst Z;simpa [Addr.add] using r
   | 1,Z=>simp at Z;subst Z;simpa [Addr.add] using hu1
   | 2,Z=>simp at Z;subst Z;simpa [Addr.add] using A
   | 3,Z=>simp at Z;subst Z;simpa [Addr.add] using H) D b3 b2 hB
 obtain ⟨a',Y,rfl⟩:∃a' Y,v' = .slice a' (n+1) Y:=by
  rcases h3.2 with ⟨_,h0⟩ | ⟨g',cap,cur,rfl,_⟩
  ·omega
  ·exact ⟨_,cap,rfl⟩
 unfold Oper.wp execOp;simp only [hop,resolve,invoke,builtin,QF,QG,PW,P7,Oq,QH,hs,hx,hr];refine hK a' Y w' h3 h4 λb hb X=>?_;have h:=X.own n c;rcases U with U | U
 ·exact SC (n:=n+1) (c:=Y) (by rw [U];exact h)
 ·exact SC (n:=n+1) (c:=Y) (by rw [U];intro h7;cases h7;omega)
theorem fU.MP {g:Nat} {ag ak:OA} {w:ej} {a:OA} {n:Nat} {L:ZZ} (h:fU (LA g ag ak) w a n L):bJ (g+1) w a n L :=
 ⟨h.len,h.pl,h.max,λZ=>RE λh2=>h.no Z (.inl h2),λi hi=>by obtain ⟨b,m,c,h1,h2,h3⟩:=h.cell i hi;exact ⟨b,m,c,h1,h2,λhm=>RE λh4=>h3 hm (.inl h4)⟩⟩
theorem j9 {w:ej} {B s:Nat} {e:TypeId} {a:OA} {n c:Nat} {xs:List Value} (h:w.ownsRow B e s (.slice a n c) n xs) (ha:a ≠ none):B<=ablk a/\ablk a<w.heap.size:=by
 rcases h.2 with ⟨Z,_⟩ | ⟨g,cap,cur,Z,Y,X,_⟩
 ·cases Z;exact absurd rfl ha
 ·cases Z;exact ⟨Y,(Array.getElem?_eq_some_iff.1 X).1⟩
theorem pP {w w':ej} {B s:Nat} {e:TypeId} {a:OA} {n c:Nat} {xs:List Value} (h:w.ownsRow B e s (.slice a n c) n xs) (h1:a ≠ none->w'.heap[ablk a]? = w.heap[ablk a]?):w'.ownsRow B e s (.slice a n c) n xs:=by
 refine ⟨h.1,?_⟩;rcases h.2 with h2 | ⟨g,cap,cur,Z,Y,X,r⟩
 ·exact .inl h2
 ·cases Z
  exact .inr ⟨g,_,cur,rfl,Y,by rw [show w'.heap[g]? = w.heap[g]? from h1 (by simp)];exact X,r⟩
theorem Le {P M:Int} {mod:Lz} {m:Nat} {L:ZZ} (Z:aI P M mod m L=0) {v:Int} (O:0<=v/\v<=(L.length:Int)) (N:L.length<=64) :
  Dq L.length ((gD (ah P M.toNat mod).ops L m).map (·.2)) v=(flTo L.length v ((gD (ah P M.toNat mod).ops L m).map (·.2)) ((gD (ah P M.toNat mod).ops L m).map (·.2)).length,0):=by
 obtain ⟨K,e,X,Y,_,_⟩:=aT Z;obtain ⟨h1,h2⟩:=gh Z;unfold Dq;rw [M7];refine ⟨?_,List.all_eq_true.2 λx S=>?_⟩
 ·unfold Lg;simp [No];omega
 ·obtain ⟨t,U,rfl⟩:=List.mem_map.1 S;have h3:=fO h1 t U;unfold Du;simp;omega
theorem aB.Ml {w w':ej} {M Z I:Nat->Prop} (h:aB w w' M Z) (h1:∀x,M x->I x) (h2:∀x,Z x->I x):aB w w' I I :=
 ⟨h.os,h.tape,h.output,h.size,λb hb hI=>h.block b hb λhm=>hI (h1 b hm),λb hb=>.inl hb⟩
theorem Ki:(prog.info? 183).map (λi=>(i.zero,i.size,i.bytes))=some (some (.agg #[cG 0,cG 0,cG 0,cG 0]),4,32):=by kernel_rfl
end
theorem Gx:(prog.info? 25).map (λi=>(i.zero,i.size,i.bytes))=some (some ds,1,24):=by kernel_rfl
theorem IC {P M:Int} {mod:Lz} {m:Nat} {L:ZZ} (U:aI P M mod m L=0) {Q:Lz} (X:dZ m Q=true) (Y:yE (ah P M.toNat mod).ops L Q=true):qc P M mod m L Q=0:=by
 have Z:fw P M mod m L Q=0:=by rw [fw,M7 U,pS,M7 X]
 unfold qc;rw [M8 (by rw [Z];decide),L7 Z,M7 Y]
theorem DV (r:Lz):∀l,Ba (l ++ [r])=Ba l ++ [cG (nth r 0),cG (nth r 1),cG (nth r 2),cG (nth r 3)]
 | []=>rfl
 | x :: l=>by rw [OD,Ba,DV r l];rfl
theorem Fv {Y O w6:ej} {g b:Nat} {P M:Int} {am:OA} {A cm:Nat} {N:Int} {a:OA} {n c:Nat} {ag:OA} {z cg:Nat} {D:OA} {r:Nat} {B:Lz} {kk:Nat} {Z a5:OA} {co k G s:Nat} {e:TypeId} {xs:List Value}
  (S:xY (λx=>x=g\/(Z ≠ none/\x=ablk Z)) Y g b P M am A cm N a n c ag z cg D r B kk) (C:Y.ownsRow G e s (.slice Z k co) k xs) (hB:g<G) (X:SJ Y O) (H:O.grownBy w6 (Value.slice Z k co).ownBlock) (F:∀b,b<O.heap.size->dq Z b->dq a5 b) :
  xY (λx=>x=g\/(a5 ≠ none/\x=ablk a5)) w6 g b P M am A cm N a n c ag z cg D r B kk/\aB Y w6 (λx=>x=g\/G<=x) (λx=>x=g\/G<=x):=by
 have hsz:=X.size;have hgl:=S.box.1;have I:dq Z g:=by
  by_cases h1:Z=none
  ·exact .inl h1
  ·exact .inr λe=>by have:=(j9 C h1).1;omega
 have U:0<B.length->dq Z (ablk D):=λK=>by
  by_cases h1:Z=none
  ·exact .inl h1
  ·exact .inr λe=>S.best.lo K (.inr ⟨h1,e.symm⟩)
 have E:=S.box.ai X;have L:w6.heap[g]? = O.heap[g]?:=H.block g (by omega) λe=>I.own _ _ e.symm;refine ⟨⟨⟨Nz E.1 H.size,λj v hv=>(NG (w:=O) (a:=⟨g,j,none⟩) L).trans (E.2.1 j v hv),λj=>(NI (w:=O) (a:=⟨g,j,none⟩) L).trans (E.2.2 j)⟩,
  ⟨(S.best.ints.ai X).y5 H U,λK h=>?_⟩⟩,(RZ X _).trans (Se H λh1=>.inr (j9 C h1).1)⟩
 rcases h with h | ⟨h1,h2⟩
 ·exact S.best.lo K (.inl h)
 ·rcases F _ (by have:=S.best.ints.lt K;omega) (U K) with h3 | h3
  ·exact h1 h3
  ·exact h3 h2.symm
def ga (P M:Int) (mod:Lz) (N:Int) (L:ZZ):ZZ × Lz × Int :=
 if aI P M mod N L ≠ 0 then ([],[],aI P M mod N L) else if L.length=0 then ([],[],11) else
  FU (ah P M.toNat mod).ops (ah P M.toNat mod).q N.toNat L.length (kE P M mod N.toNat L) ((gD (ah P M.toNat mod).ops L N.toNat).map (·.2)) L.length 1 [] 0 []
def oE (P M:Int) (mod:Lz) (N:Int) (L:ZZ) (w:ej) (e:Ending) (w':ej):Prop :=
 SJ w w'/\∃ar Z cr X Y U,e = ec #[.slice ar Z cr,.slice X Y U,cG (ga P M mod N L).2.2]/\zf w' ar Z (ga P M mod N L).1/\Ints w' X Y (ga P M mod N L).2.1
theorem CI {P M:Int} {mod:Lz} {N:Int} {L:ZZ} {w w':ej} {Y:Int} (Z:ga P M mod N L=([],[],Y)) (hF:SJ w w'):oE P M mod N L w (ec #[ds,ds,cG Y]) w':=by
 refine ⟨hF,none,0,0,none,0,0,by rw [Z],?_,?_⟩
 ·rw [Z];exact zf.nil _ _
 ·rw [Z];exact R9 _ _
theorem Jj {P M:Int} {mod:Lz} {N:Int} {L:ZZ} {w Z K:ej} {o:ZZ} {B:Lz} {k I co O:Nat} {e:TypeId} {X U:OA} (Y:ga P M mod N L=(o,B,0)) (hF:SJ w Z)
  (H:o.length=k) (S:Z.ownsRow I e 4 (.slice X k co) k (Ba o)) (hb:Ints Z U B.length B) (hd:SJ Z K):oE P M mod N L w (ec #[.slice X k co,.slice U B.length O,cG 0]) K:=by
 refine ⟨RU hF hd,X,k,co,U,B.length,O,by rw [Y],?_,?_⟩
 ·rw [Y];exact zf.own (pP S λh1=>hd.block _ (j9 S h1).2) H
 ·rw [Y];exact hb.ai hd
theorem J5 (P M:Int) (am:OA) (mn cm:Nat) (mod:Lz) (N:Int) (a:OA) (n c:Nat) (L:ZZ) (w:ej) (hmod:Ints w am mn mod) (hi:bP w a n L) :
  Calls prog 97 #[.agg #[cG P,cG M,.slice am mn cm,cG N,.slice a n c]] w (oE P M mod N L w):=by
 have HCk:Hid (∀V,SJ w V->Calls prog 88 #[.agg #[cG P,cG M,.slice am mn cm,cG N,.slice a n c]] V λe w'=>e = .returned (cG (aI P M mod N L))/\SJ V w'):=λV hV=>cH P M am mn cm mod N a n c L V (hmod.ai hV) (hi.ai hV);have HNw0:Hid (bw P M mod=true->∀V,SJ w V->Calls prog 52 #[.agg #[cG P,cG M,.slice am mn cm]] V λe w'=>∃b,e = ec #[ea b 0,cG 0]/\dg w' b (ah P M.toNat mod)/\SJ V w'):=λhfB V hV=>by
  refine (dh P M am mn cm mod V (hmod.ai hV)).mono ?_;rintro e w' (⟨h1,_⟩ | ⟨_,b,h2,h3,_,h4⟩)
  ·rw [hfB] at h1;cases h1
  ·exact ⟨b,h2,h3.gf,h4⟩
 have Hln:=Z5 hi.len;have Hmi:=Z5 (Ng hmod hi);clear hmod hi;go_enter func97,ntmps97;go_upto_region 1 with fail;obtain ⟨W,hW⟩:∃W:ej,W=w.alloc (.cells #[cG P,cG M,.slice am mn cm,cG N,.slice a n c] 27):=⟨_,rfl⟩
 rw [<- hW];have hbW:SJ w W:=by rw [hW];exact aD _ _
 have x0:aQ W w.heap.size [cG P,cG M,.slice am mn cm,cG N,.slice a n c]:=by rw [hW];exact RV _ _ _ rfl
 have HS:Hid (∀V,SJ W V->V.cell? ⟨w.heap.size,0,none⟩=some (cG P)/\V.cell? ⟨w.heap.size,1,none⟩=some (cG M)/\V.cell? ⟨w.heap.size,2,none⟩=some (.slice am mn cm)/\V.cell? ⟨w.heap.size,3,none⟩=some (cG N)/\V.cell? ⟨w.heap.size,4,none⟩=some (.slice a n c)):=λV hV=>by have x1:=x0.ai hV;exact ⟨x1.cell 0 rfl,x1.cell 1 rfl,x1.cell 2 rfl,x1.cell 3 rfl,x1.cell 4 rfl⟩
 have HbW:=Z5 hbW;have Hck:=Z5 (HCk W hbW);clear hW x0 hbW HCk;obtain ⟨c0,c1,c2,c3,c4⟩:=HS W (M5 _ _);go_wp2_with fail;refine Hck.mono ?_;rintro e w1 ⟨rfl,K⟩;clear c0 c1 c2 c3 c4 Hck;by_cases hE:aI P M mod N L=0;rotate_left
 ·have hE2:(aI P M mod N L != 0)=true:=by simpa using hE
  have HR:Hid (ga P M mod N L=([],[],aI P M mod N L)):=by show _=_;unfold ga;rw [M7 hE]
  have hF:=RU HbW.out K;clear hE;generalize aI P M mod N L=er at *;go_wp2_with fail;go_ret3;exact CI HR.out hF
 rw [hE];obtain ⟨m,rfl,hm1,hm64,F,hR⟩:=aT hE;obtain ⟨c0,c1,c2,c3,c4⟩:=HS w1 K;by_cases hn0:n=0
 ·subst hn0;have HR:Hid (ga P M mod m L=([],[],11)):=by show _=_;unfold ga;rw [M8 (by rw [hE];decide),M7 Hln.out]
  have hF:=RU HbW.out K;clear hE F hR;go_wp2_with fail;go_ret3;exact CI HR.out hF
 have hfB:=(aX hE).1;have hn64:n<=64:=by have:=iM hE;have:=Hln.out;omega
 have hL1:1<=L.length:=by have:=Hln.out;omega
 have HNw:=Z5 (HNw0 hfB);have hall:=λt ht=>fO (gh hE).1 t ht;have hTl:=(gh hE).2;have hne:=yx hE hL1;obtain ⟨T,hT⟩:∃T,gD (ah P M.toNat mod).ops L m=T:=⟨_,rfl⟩
 rw [hT] at hall hTl hne;obtain ⟨kf,hkf⟩:∃kf,T.length=kf:=⟨_,rfl⟩
 have HFa:Hid (∀V,SJ w V->Calls prog 152 #[.agg #[cG P,cG M,.slice am mn cm,cG m,.slice a n c]] V λe w'=>∃a1 c1,e = ec #[.slice a1 kf c1,cG 0]/\Ms w' a1 kf T/\SJ V w'):=λV hV=>by
  refine (Cx P M am mn cm mod m a n c L V (Hmi.1.ai hV) (Hmi.2.ai hV)).mono ?_;rintro e w' ⟨hb,⟨h1,_⟩ | ⟨_,m2,e2,k,a1,c1,R,T2,h3,rfl,hO⟩⟩
  ·exact absurd hE h1
  ·obtain rfl:m=m2:=by omega
   rw [hT] at h3;subst h3;obtain rfl:k=kf:=by rw [<- hkf];exact hO.tl.symm
   exact ⟨a1,c1,rfl,hO.str,hb⟩
 have HSy:Hid (∀t ∈ T,∀V sa Sn sc,SJ w V->Ints V sa Sn t.1->Calls prog 153 #[.agg #[cG P,cG M,.slice am mn cm,cG m,.slice a n c],.slice sa Sn sc] V λe w'=>∃a1 c1,e = ec #[.agg #[cG m,.slice a1 n c1],cG 0]/\bJ V.heap.size w' a1 n (en (ah P M.toNat mod).ops m L t.1)/\SJ V w'):=λt ht V sa Sn sc hV hI=>by
  obtain ⟨t1,t2,_,_⟩:=hall t ht;refine (tA P M am mn cm mod m a n c L sa Sn sc t.1 V (Hmi.1.ai hV) (Hmi.2.ai hV) hI).mono ?_;rintro e w' ⟨hb,⟨h1,_⟩ | ⟨_,m2,e2,a1,c1,rfl,hM⟩⟩
  ·exact absurd (IC hE t1 t2) h1
  ·obtain rfl:m=m2:=by omega
   rw [Hln.out] at hM ⊢;exact ⟨a1,c1,rfl,hM,hb⟩
 have Hall:=Z5 hall;have HE:=Z5 hE;have HT:=Z5 hT;have Hkf:=Z5 hkf;have Hne:=Z5 hne;have hkl:kf<=64:=by omega
 have hn1:((n:Int) == 0)=false:=by simp;omega
 clear hall hE hT hkf hne hfB hTl HNw0;go_wp2_with fail;refine (HNw w1 (RU HbW.out K)).mono ?_;rintro e w2 ⟨b,rfl,hG2,hb2⟩;have hB2:=RU K hb2;clear c0 c1 c2 c3 c4 HNw;obtain ⟨c0,c1,c2,c3,c4⟩:=HS w2 hB2;go_wp2_with fail;refine (HFa w2 (RU HbW.out hB2)).mono ?_;rintro e w3 ⟨af,cf,rfl,hSt,hb3⟩;have hB3:=RU hB2 hb3;have HG3:=Z5 (hG2.ai hb3);clear c0 c1 c2 c3 c4 HFa hG2 hb2 hb3;obtain ⟨c0,c1,c2,c3,c4⟩:=HS w3 hB3;go_upto_region 13 with fail;obtain ⟨U,hU⟩:∃U:ej,U=w3.alloc (.cells #[ea b 0,cG P,cG M,.slice am mn cm,cG m,.slice a n c,ds,ds,cG 0] 175):=⟨_,rfl⟩
 rw [<- hU];obtain ⟨g,hg⟩:∃g,w3.heap.size=g:=⟨_,rfl⟩
 rw [hg];have hbU:Below g w3 U:=by rw [hU,<- hg];exact aD _ _
 have hLI0:LI U g [ea b 0,cG P,cG M,.slice am mn cm,cG m,.slice a n c] none 0 none 0 [] []:=LI.start rfl (by rw [hU,<- hg];exact RV w3 _ _ rfl);have Hg:=Z5 hg;have HbU:=Z5 hbU;have hgW:W.heap.size<=g:=by have:=hB3.size;omega
 have HB3:=Z5 hB3;have hplF:=hSt.pl;have HSt:=Z5 hSt;clear hU hg hbU c0 c1 c2 c3 c4 hSt hB3 hB2 K;go_wp2_with fail;go_loopw [10,55] (λrv iv wr=>∃(i:Nat) (ag:OA) (cg:Nat) (ak:OA) (ck:Nat) (gs:List TX),i<=kf/\iv = cG i/\rv = .slice ak i ck/\Hid (LI wr g [ea b 0,cG P,cG M,.slice am mn cm,cG m,.slice a n c] ag cg ak ck gs ((T.take i).map (·.2))) /\
   Hid (gs.length=i/\gs.map TX.T=(T.take i).map λt=>en (ah P M.toNat mod).ops m L t.1)/\Below g U wr) (λ_ iv _=>kf - (intOf iv).toNat)
 case atStart=>exact ⟨0,none,0,none,0,[],Nb _,rfl,rfl,hLI0,⟨rfl,by simp⟩,M5 _ _⟩
 case round =>
  clear hLI0
  obtain ⟨i,ag,cg,ak,ck,gs,hik,rfl,rfl,hLI,hgs,hbr⟩:=hrel
  generalize wr=V at *
  obtain ⟨hgl,hgm⟩:=hgs.out
  subst hgl
  have Hgm:=Z5 hgm
  clear hgm hgs
  have hb3V:Below g w3 V:=NK HbU.out hbr
  have hbWV:SJ W V:=NK HB3.out (hb3V.mono hgW)
  have hgV:g<V.heap.size:=hLI.box.1
  by_cases hlt:gs.length<kf
  ·have hiT:gs.length<T.length:=by rw [Hkf.out];exact hlt
   obtain ⟨sa,sc,p0,p1,hIS⟩:=(HSt.ai (by have h:=hb3V;rw [<- Hg.out] at h;exact h)).cell gs.length hiT
   have hmem:T[gs.length] ∈ T:=NL hiT
   have htk:T.take (gs.length+1)=T.take gs.length ++ [T[gs.length]]:=Nh hiT
   have Hrk2:Hid ((T.take (gs.length+1)).map (·.2)=(T.take gs.length).map (·.2) ++ [T[gs.length].2]):=by show _=_;rw [htk,NT];rfl
   have Hsy2:Hid ((T.take (gs.length+1)).map (λt=>en (ah P M.toNat mod).ops m L t.1)=(T.take gs.length).map (λt=>en (ah P M.toNat mod).ops m L t.1) ++ [en (ah P M.toNat mod).ops m L T[gs.length].1]):=by show _=_;rw [htk,NT];rfl
   have hSyi:=HSy _ hmem
   have Hql:Hid (((T.take gs.length).map (·.2)).length=gs.length):=by show _=_;rw [No,NH];omega
   obtain ⟨S,hS⟩:∃S,T[gs.length].1=S:=⟨_,rfl⟩
   obtain ⟨r,hr⟩:∃r,T[gs.length].2=r:=⟨_,rfl⟩
   rw [hS] at p0 hIS Hsy2 hSyi
   rw [hr] at p1 Hrk2
   obtain ⟨Sn,hSn⟩:∃Sn,S.length=Sn:=⟨_,rfl⟩
   rw [hSn] at p0 hIS
   have HIS:=Z5 hIS
   have HSyi:=Z5 hSyi
   clear hS hr hSn hmem htk hIS hSyi hiT
   obtain ⟨V1,hV1⟩:∃V1:ej,V1=V.alloc (.cells #[.slice sa Sn sc,cG r] 177):=⟨_,rfl⟩
   have xV:aQ V1 V.heap.size [.slice sa Sn sc,cG r]:=by rw [hV1];exact RV _ _ _ rfl
   have hbV:SJ V V1:=by rw [hV1];exact aD _ _
   have hcall:=HSyi V1 sa Sn sc (RU HbW.out (RU hbWV hbV)) (HIS.ai hbV)
   have HV1:=Z5 hV1
   have HxV:=Z5 (Ng xV hbV)
   obtain ⟨c0,c1,c2,c3,c4⟩:=HS _ (RU hbWV hbV)
   have e0:=xV.cell 0 rfl
   rw [hV1] at hcall c0 c1 c2 c3 c4 e0
   have Hcall:=Z5 hcall
   clear hV1 xV hbV hcall HIS HSyi
   go_wp2_with fail
   refine Hcall.mono ?_
   rintro e w5 ⟨a1,H,rfl,hM5,hb5⟩
   rw [<- HV1.out] at hb5 hM5
   have hbV5:SJ V w5:=RU HxV.2 hb5
   have hgl:=HxV.2.size
   obtain ⟨Sy,hSy⟩:∃Sy,en (ah P M.toNat mod).ops m L S=Sy:=⟨_,rfl⟩
   rw [hSy] at hM5 Hsy2
   have hSyl:Sy.length=n:=hM5.len
   have hbx:=aD w5 (.cells #[cG m,.slice a1 n H] 94)
   have hMA:fU (LA g ag ak) (w5.alloc (.cells #[cG m,.slice a1 n H] 94)) a1 n Sy:=(hM5.Ig λx A=>Nz (hLI.lt x A) hgl).ai hbx
   have hbV2:SJ V (w5.alloc (.cells #[cG m,.slice a1 n H] 94)):=RU hbV5 hbx
   have hLI2:=hLI.ai hbV2
   have hxb:aQ (w5.alloc (.cells #[cG m,.slice a1 n H] 94)) V.heap.size [.slice sa Sn sc,cG r]:=(HxV.1.ai hb5).ai hbx
   have hmb:aQ (w5.alloc (.cells #[cG m,.slice a1 n H] 94)) w5.heap.size [cG m,.slice a1 n H]:=RV _ _ _ rfl
   clear c0 c1 c2 c3 c4 e0 Hcall hM5 hSy
   go_upto_region 20 with fail
   obtain ⟨V2,hV2⟩:∃V2,w5.alloc (.cells #[cG m,.slice a1 n H] 94)=V2:=⟨_,rfl⟩
   rw [hV2] at hMA hbV2 hLI2 hxb hmb ⊢
   have c6:=hLI2.c6
   have f6:=hLI2.box.frozen 6
   have m1:=hmb.cell 1 rfl
   have d6:=aU c6 (.cells #[.slice a1 n H] 25)
   have dm1:=aU m1 (.cells #[.slice a1 n H] 25)
   have HO:Hid (∀X,SJ V2 X->X.ownsRow (g+1) 25 1 (.slice ag gs.length cg) gs.length (gs.map AO)):=λX hX=>bj hLI2.so hX
   have hapG:=hLI2.ME
   have hg2:g<V2.heap.size:=hLI2.box.1
   have HLI2:=Z5 hLI2
   have HMA:=Z5 hMA
   have Hxb:=Z5 hxb
   have HSl:=Z5 hSyl
   have hgs64:gs.length<=64:=by omega
   clear hV2 hbx hLI2 hMA hxb hmb hSyl hbV5 hb5
   go_cut [] (λwx=>∃ag' cg',LI wx g [ea b 0,cG P,cG M,.slice am mn cm,cG m,.slice a n c] ag' cg' ak ck (gs ++ [⟨a1,H,Sy⟩]) ((T.take gs.length).map (·.2))/\Below g V2 wx/\aQ wx V.heap.size [.slice sa Sn sc,cG r])
   case first =>
    go_region_law ((first
     | (refine gB (by rfl) (.tmp 73) (.tmp 76) 173 25 (by rfl) ds 24 underlying173 Gx (by rfl) (g+1) ag gs.length cg (gs.map AO) (by rfl) (HO _ (by first|exact (aD _ _).drew|exact aD _ _)) (some ⟨V2.heap.size,0,none⟩) 1 1 [.slice a1 n H] (by rfl) (λ_=>rfl) rfl (by intro j hj;obtain rfl:j=0:=(by omega);exact dB _ _ _ rfl) (by intro y hy;simp at hy;subst hy;rfl) (by omega) (by unfold maxLen;omega) (by simp;omega) ?_;intro a5 c5 w6 hown6 hgr6 hap6;have p1:=bG hgr6 (aU c6 _) hapG;have p2:w6.frozen? ⟨g,6,none⟩=false:=(NI (hgr6.block g (by simp;omega) (λe=>hapG.own gs.length cg e.symm))).trans (dA hg2 f6 _))))
    all_goals (
     go_wp2_with fail
     go_meet
     have hk:=(HLI2.ai (M5 _ _).drew).Mm (o:=.cells #[.slice a1 n H] 25) (x:=⟨a1,H,Sy⟩) (by rw [HSl.out];exact HMA.ai (M5 _ _).drew) (by rw [show AO ⟨a1,H,Sy⟩ = .slice a1 n H by unfold AO;rw [HSl.out]];exact hown6) hgr6 hap6
     exact ⟨a5,c5,hk.1,((M5 g V2).drew).trans hk.2.1,(Hxb.ai (M5 _ _).drew).cQ hk.2.2 λh=>Pr _ (hLI.lt _ h)⟩)
   obtain ⟨ag',cg',hLI3,hb3',hx3⟩:=hcut
   generalize wc=V3 at *
   have r1:=hx3.cell 1 rfl
   have hrk:=hLI3.rk
   rw [Hql.out] at hrk
   have hg3:g<V3.heap.size:=hLI3.box.1
   have HLI3:=Z5 hLI3
   clear hx3 hLI3 c6 f6 m1 d6 dm1
   go_wp2_with (at_builtin;refine bd rfl _ _ 22 3 rfl (cG 0) 8 underlying22 br rfl (g+1) ak gs.length ck _ rfl (hrk.alloc _) ⟨V3.heap.size,0,none⟩ 1 (cG r) rfl (bh V3 _ _) rfl (by omega) (by unfold maxLen;omega) (by simp;omega) ?_;intro a5 c5 w7 hown7 hgr7 hap7)
   go_roundw
   case rel =>
    obtain ⟨hL4,hb4⟩:=HLI3.Mq (r:=r) (o:=.cells #[cG r] 3) (by rw [Hql.out];exact hown7) (by rw [Hql.out];exact hgr7) hap7
    exact ⟨gs.length+1,ag',cg',a5,c5,gs ++ [⟨a1,H,Sy⟩],by omega,by go_num,rfl,by rw [Hrk2.out];exact hL4,⟨by simp,by rw [Hsy2.out,NT,Hgm.out];rfl⟩,NK hbr (NK (hbV2.mono (by omega)) (NK hb3' (hb4.mono (Nat.le_succ g))))⟩
   case measure=>simp [intOf]<;>omega
  ·obtain rfl:kf=gs.length:=by omega
   have htk:T.take gs.length=T:=Nj (by rw [Hkf.out];exact M4 _)
   have hLI1:=hLI.out
   rw [htk] at hLI1
   have hfm:gs.map TX.T=kE P M mod m L:=by rw [Hgm.out,htk];unfold kE;rw [HT.out]
   have hgs1:1<=gs.length:=by
    rcases Om gs.length with h | h
    ·exact absurd (NF (by rw [Hkf.out];exact h)) Hne.out
    ·exact h
   have hgs64:gs.length<=64:=hkl
   have Hfm:=Z5 hfm
   have HL1:=Z5 hLI1
   have hmats:∀t (ht:t<gs.length),V.cell? ⟨ablk ag,aN ag+t,none⟩=some (.slice gs[t].a gs[t].T.length gs[t].c)/\bJ (g+1) V gs[t].a gs[t].T.length gs[t].T:=λt ht=>by
    have h1:=(bL hLI1.so t ht).1;have e1:(gs.map AO)[t]? = some (AO gs[t]):=by rw [OQ,NJ ht];rfl
    rw [e1] at h1;exact ⟨by rw [h1];rfl,(hLI1.gx _ (NL ht)).MP⟩
   have Hmats:=Z5 hmats
   have HGR:Hid (∀t (ht:t<gs.length),gs[t].T.length=n/\bz (ah P M.toNat mod).El m gs[t].T):=λt ht=>by
    have h1:gs[t].T ∈ kE P M mod m L:=by rw [<- hfm];exact List.mem_map.2 ⟨gs[t],NL ht,rfl⟩
    obtain ⟨s,hs,e⟩:=List.mem_map.1 h1;obtain ⟨q1,q2,_,_⟩:=fO (gh HE.out).1 s hs;obtain ⟨hI,hl,hgr⟩:=mL q1 q2;obtain ⟨s1,s2,_,_⟩:=ob HE.out hI hl hgr;rw [<- e];exact ⟨by rw [s2];exact Hln.out,s1⟩
   have hplG:Pl ag gs.length:=by obtain ⟨a',c',hv,hp⟩:=Sf hLI1.so;cases hv;exact hp
   have hbV0:aQ V g (Mg b P M am mn cm m a n c ag gs.length cg none 0 0 0):=hLI1.box
   have HrkV:=Z5 (RW hLI1.rk).1
   have HGV:Hid (∀X,aB V X (One g) (λx=>x=g\/V.heap.size<=x)->Below g V X):=λX hX=>hX.below (λx A=>by rw [show x=g from A];exact M4 _) (by omega)
   obtain ⟨RES,hRES⟩:∃RES,ga P M mod m L=RES:=⟨_,rfl⟩
   have hRES2:FU (ah P M.toNat mod).ops (ah P M.toNat mod).q m n (kE P M mod m L) (T.map (·.2)) n 1 [] 0 []=RES:=by rw [<- hRES];unfold ga;rw [M8 (by rw [HE.out];decide),M8 (by rw [Hln.out];omega),M9,Hln.out,HT.out]
   have HRES:=Z5 hRES
   clear hfm htk hLI1 hmats hRES hLI Hgm
   go_wp2_with fail
   go_loopw [15,16] (λov wv wr=>∃(O:Nat) (ao:OA) (co:Nat) (o:ZZ) (ab:OA) (cb:Nat) (B:Lz) (kk:Nat),O<=n/\wv = cG ((O:Int)+1)/\ov = .slice ao o.length co /\
     Hid (wr.ownsRow V.heap.size 183 4 (.slice ao o.length co) o.length (Ba o))/\Hid (aQ wr g (Mg b P M am mn cm m a n c ag gs.length cg ab B.length cb kk)) /\
     Hid (Ints wr ab B.length B/\(0<B.length->ablk ab ≠ g/\(ao ≠ none->ablk ab ≠ ablk ao)))/\kk<=65536/\o.length<=O/\aB V wr (One g) (λx=>x=g\/V.heap.size<=x) /\
     Hid (FU (ah P M.toNat mod).ops (ah P M.toNat mod).q m n (kE P M mod m L) (T.map (·.2)) (n - O) (O+1) B kk o=RES)) (λ_ wv _=>n+1 - (intOf wv).toNat)
   case atStart=>exact ⟨0,none,0,[],none,0,[],0,Nb _,rfl,rfl,⟨rfl,.inl ⟨rfl,rfl⟩⟩,hbV0,⟨R9 _ _,λh=>absurd h (by simp)⟩,by omega,M4 _,(Sb V (One g)).G9 λx A=>A,hRES2⟩
   case round =>
    clear hbV0 hRES2
    obtain ⟨O,ao,co,o,ab,cb,B,kk,hW1,rfl,rfl,howo,hbox,hbest,hkk,hol,hMV,hres⟩:=hrel
    generalize wr=X at *
    have hbX:=HGV X hMV
    have hbWX:=NK hbWV (hbX.mono hgW)
    have hb3X:SJ w3 X:=by have h:=NK hb3V hbX;rw [<- Hg.out] at h;exact h
    obtain ⟨c0,c1,c2,c3,c4⟩:=HS X hbWX
    have hgX:g<X.heap.size:=hbox.1
    by_cases hlt2:O<n
    ·have d1:decide ((O:Int)+1<=(n:Int))=true:=by simp;omega
     obtain ⟨f,hf⟩:∃f,n - O=f+1:=⟨n - O - 1,by omega⟩
     have C:=hres.out
     rw [hf,FU,<- Hfm.out,No] at C
     have E:xY (λx=>x=g\/(ao ≠ none/\x=ablk ao)) X g b P M am mn cm m a n c ag gs.length cg ab cb B kk:=⟨hbox,hbest.1,λhn h=>by
      rcases h with h | ⟨h,h'⟩
      ·exact (hbest.2 hn).1 h
      ·exact (hbest.2 hn).2 h h'⟩
     have hmore:=Ix (O+1) HG3.out hb3X E hkk hn64 (by omega) (by omega) hgs1 hgs64
     rw [show ((O+1:Nat):Int)=(O:Int)+1 by omega] at hmore
     have Hmore:=Z5 hmore
     have Hsea:=Z5 E
     clear hmore E
     by_cases hm:mY (ah P M.toNat mod).q n gs.length kk (O+1)=true
     rotate_left
     ·rw [M8 hm] at C Hmore
      have HR:Hid (ga P M mod m L=([],[],8)):=by show _=_;rw [HRES.out,<- C]
      have hFW:=RU HbW.out hbWX
      clear C hm
      go_wp2_with fail
      refine Hmore.mono ?_
      rintro e X1 ⟨K,z,rfl⟩
      have hF:=RU hFW K
      go_wp2_with fail
      go_ret3
      exact CI HR.out hF
     rw [M7 hm] at C Hmore
     have Hres2:=Z5 C
     have Hm:=Z5 hm
     clear C hm
     go_wp2_with fail
     refine Hmore.mono ?_
     rintro e X1 ⟨K,z,rfl⟩
     have hbox1:=hbox.ai K
     have c6:=hbox1.cell 6 rfl
     clear c0 c1 c2 c3 c4
     go_wp2_with fail
     obtain ⟨RB,hRB⟩:∃RB,pZ (ah P M.toNat mod).ops (ah P M.toNat mod).q m (O+1) (gs.map TX.T) B=RB:=⟨_,rfl⟩
     obtain ⟨cnt,hcnt⟩:∃cnt,dW n (O+1) * ((ah P M.toNat mod).q - 1) ^ O=cnt:=⟨_,rfl⟩
     have hrn:sN (ah P M.toNat mod).q n gs.length (O+1)=gs.length * cnt:=by unfold sN;rw [On,hcnt]
     have hmb:gs.length * cnt<=65536 - kk:=by have h1:=Hm.out;unfold mY at h1;simp only [Nx,NM] at h1;rw [<- hrn];exact h1.2
     have Hcnt:=Z5 hcnt
     have HRB:=Z5 hRB
     have Hrn:=Z5 hrn
     have hsea1:xY (λx=>x=g\/(ao ≠ none/\x=ablk ao)) X1 g b P M am mn cm m a n c ag gs.length cg ab cb B kk:=Hsea.ai K
     have hgX1:g<X1.heap.size:=hbox1.1
     have hstart:((gs.drop 0).map TX.T).foldl (λb G=>(lG (ah P M.toNat mod).ops (eQ (ah P M.toNat mod).q) [1] (O+1) G (List.replicate m 0)).foldl (dy (ah P M.toNat mod).ops) b) B=RB:=hRB
     clear hcnt hRB hrn hbox1
     go_loopw [107] (λiv wr=>∃(t:Nat) (ab':OA) (cb':Nat) (B':Lz) (k':Nat),t<=gs.length/\iv = cG t/\Hid (xY (λx=>x=g\/(ao ≠ none/\x=ablk ao)) wr g b P M am mn cm m a n c ag gs.length cg ab' cb' B' k')/\aB X1 wr (One g) (λx=>x=g\/X1.heap.size<=x) /\
       Hid (((gs.drop t).map TX.T).foldl (λb G=>(lG (ah P M.toNat mod).ops (eQ (ah P M.toNat mod).q) [1] (O+1) G (List.replicate m 0)).foldl (dy (ah P M.toNat mod).ops) b) B'=RB)/\k'+(gs.length - t) * cnt=kk+gs.length * cnt) (λiv _=>gs.length - (intOf iv).toNat)
     case atStart=>exact ⟨0,ab,cb,B,kk,Nb _,rfl,hsea1,(Sb X1 (One g)).G9 λx A=>A,hstart,by simp⟩
     case round =>
      clear hsea1 hstart
      obtain ⟨t,ab',cb',B',k',ht,rfl,E,hMt,hfold,hkt⟩:=hrel
      generalize wr=Y at *
      by_cases hltt:t<gs.length
      ·obtain ⟨hc0,hm0⟩:=Hmats t hltt
       obtain ⟨hTl,hTr⟩:=HGR t hltt
       have hag:ag ≠ none:=λe=>by have:=hplG (by omega);rw [e] at this;cases this
       have hagg:¬ One g (ablk ag):=λe=>by
        rcases HL1.ME with h | h
        ·exact hag h
        ·exact h e
       have hcY:Y.cell? ⟨ablk ag,aN ag+t,none⟩=some (.slice gs[t].a gs[t].T.length gs[t].c):=hMt.cell (aC K (hMV.cell hc0 hagg)) hagg
       have hmY:bJ (g+1) Y gs[t].a gs[t].T.length gs[t].T:=((hm0.cQ hMV λx A=>by rw [show x=g from A];omega).ai K).cQ hMt λx A=>by rw [show x=g from A];omega
       have hdrop:gs.drop t=gs[t] :: gs.drop (t+1):=NX hltt
       have hfold2:=hfold.out
       rw [hdrop,Oq,QR] at hfold2
       obtain ⟨GT,hGT⟩:∃GT,gs[t]=GT:=⟨_,rfl⟩
       rw [hGT] at hcY hmY hTl hTr hfold2
       rw [hTl] at hcY hmY
       have hbY:Below g X1 Y:=hMt.below (λx A=>by rw [show x=g from A];exact M4 _) (by omega)
       have hbWY:SJ W Y:=NK (RU hbWX K) (hbY.mono hgW)
       have hb3Y:SJ w3 Y:=by have h:=NK (NK (by rw [<- Hg.out];exact hb3X) (K.mono (by omega))) hbY;rw [<- Hg.out] at h;exact h
       obtain ⟨c0,c1,c2,c3,c4⟩:=HS Y hbWY
       have Hfold2:=Z5 hfold2
       have HmY:=Z5 hmY
       have HTr:=Z5 hTr
       have HTl:=Z5 hTl
       clear hc0 hm0 hGT hdrop hfold2 hmY hTr hTl hfold
       go_wp2_with (at_make;refine bR rfl _ _ 22 3 rfl (cG 0) 8 underlying22 br rfl m rfl rfl (by omega) (by unfold maxLen;omega) ?_;intro a5 w5 hown hbel hge hlt5)
       have hgY:g<Y.heap.size:=E.box.1
       have hown2:w5.ownsRow Y.heap.size 3 1 (.slice a5 m m) m ((List.replicate m (0:Int)).map (Value.int .i64)):=by rw [OB];exact hown
       have hls:(lG (ah P M.toNat mod).ops (eQ (ah P M.toNat mod).q) [1] (O+1) GT.T (List.replicate m 0)).length=cnt:=by rw [th,HTl.out,pa];exact Hcnt
       obtain ⟨d,hd⟩:∃d,gs.length - t=d+1:=⟨gs.length - t - 1,by omega⟩
       have hd2:gs.length - (t+1)=d:=by omega
       rw [hd,PI] at hkt
       have hbnd:kk+gs.length * cnt<=65536:=by omega
       have hFl:∀x,(x=g\/(ao ≠ none/\x=ablk ao))->x<w5.heap.size:=λx A=>by
        have h5:=hbel.size;rcases A with rfl | ⟨h1,rfl⟩
        ·omega
        ·have h2:=(j9 howo.out h1).2;have h3:=K.size;have h4:=hMt.size;omega
       have hso:=AD (cr:=GT.c) (F:=λx=>x=g\/(ao ≠ none/\x=ablk ao)) (.inl rfl) HG3.out (by rw [Hg.out];exact M4 _) hm64 hm1 HTr.out hn64 (O+1) (by omega) w5 ab' cb' B' k' a5 m (List.replicate m 0) 0 true hFl (RU hb3Y hbel) (E.ai hbel) (HmY.ai hbel) ⟨(RW hown2).1,λ_=>by omega⟩ (λx A=>by rw [(List.mem_replicate.1 A).2];exact F.zero) (Nb _) (by rw [M7 rfl];show k'+(lG _ _ _ _ GT.T _).length<=_;rw [hls];omega)
       rw [M7 rfl,O9,hls,show ((O+1:Nat):Int)=(O:Int)+1 by omega] at hso
       have Hso:=Z5 hso
       have Hbel:=Z5 hbel
       clear hso hown hown2 hbel hls
       refine Hso.mono ?_
       rintro e w6 ⟨rfl,ab6,cb6,hs6,hM6⟩
       have Hs6:=Z5 (Ng hs6 hM6)
       clear hs6 hM6 c0 c1 c2 c3 c4
       go_wp2_with fail
       go_roundw
       case rel=>exact ⟨t+1,ab6,cb6,_,_,by omega,by go_num,Hs6.1,hMt.trans ((RZ Hbel.out _).trans (Hs6.2.wide λx A=>.inl A)),Hfold2,by rw [hd2];omega⟩
       case measure=>simp [intOf]<;>omega
      ·obtain rfl:t=gs.length:=by omega
       have hB':B'=RB:=by have h1:=hfold.out;rw [List.drop_length] at h1;exact h1
       have hk':k'=kk+sN (ah P M.toNat mod).q n gs.length (O+1):=by rw [Hrn.out];rw [PD,QM] at hkt;omega
       have hk'2:k'<=65536:=by rw [hk',Hrn.out];omega
       have HB':=Z5 hB'
       have Hk':=Z5 hk'
       have hbY:Below g X1 Y:=hMt.below (λx A=>by rw [show x=g from A];exact M4 _) (by omega)
       have hbWY:SJ W Y:=NK (RU hbWX K) (hbY.mono hgW)
       have hVY:aB V Y (One g) (λx=>x=g\/V.heap.size<=x):=(hMV.trans (RZ K _)).trans ((hMt.Ml (I:=λx=>x=g\/V.heap.size<=x) (λx A=>.inl A) λx A=>by
        rcases A with h | h
        ·exact .inl h
        ·have h1:=hMV.size;have h2:=K.size;exact .inr (by omega)))
       have hakg:0<(T.map (·.2)).length->¬ One g (ablk ak):=λhn e=>by
        rcases HL1.MT with h | h
        ·have:=HrkV.pl hn;rw [h] at this;cases this
        ·exact h e
       have hrkY:Ints Y ak (T.map (·.2)).length (T.map (·.2)):=HrkV.cQ hVY hakg
       have hQl:(T.map (·.2)).length=gs.length:=by rw [No,Hkf.out]
       obtain ⟨fl,hfl⟩:∃fl,flTo (n:Int) ((O:Int)+1) (T.map (·.2)) (T.map (·.2)).length=fl:=⟨_,rfl⟩
       have hflV:Dq (n:Int) (T.map (·.2)) ((O:Int)+1)=(fl,0):=by have h1:=Le HE.out (v:=(O:Int)+1) (by rw [Hln.out];omega) (by rw [Hln.out];exact hn64);rw [HT.out,Hln.out,hfl] at h1;exact h1
       have hflo:=E0 (n:Int) ak gs.length ck (T.map (·.2)) ((O:Int)+1) Y (by rw [hQl] at hrkY;exact hrkY)
       rw [hflV] at hflo
       have Hflo:=Z5 hflo
       have Hfl:=Z5 hfl
       have hownY:Y.ownsRow V.heap.size 183 4 (.slice ao o.length co) o.length (Ba o):=pP howo.out λh1=>by
        have h2:=(j9 howo.out h1)
        have h3:=K.size;rw [hMt.block _ (by omega) λe=>by have:ablk ao=g:=e;omega,K.block _ h2.2]
       obtain ⟨c0,c1,c2,c3,c4⟩:=HS Y hbWY
       have c7:=E.box.cell 7 rfl
       have c8:=E.box.cell 8 rfl
       have hbI:=E.best.ints
       have HownY:=Z5 hownY
       have HMY:=Z5 (Ng hbWY hVY)
       clear hB' hk' hfold hkt hflV hflo hfl hrkY hakg hownY hbWY hVY
       go_wp2_with fail
       refine Hflo.mono ?_
       rintro e w' ⟨rfl,hw'⟩
       obtain rfl:=hw'.symm
       obtain ⟨zt,hzt⟩:∃zt,bY B'=zt:=⟨_,rfl⟩
       have HWt:Hid (∀X,SJ Y X->Calls prog 98 #[.slice ab' B'.length cb'] X λe w'=>e = .returned (cG (zt:Nat))/\w'=X):=λX hX=>by rw [<- hzt];exact iL ab' B'.length cb' B' X (hbI.ai hX)
       have Hzt:=Z5 hzt
       have HO:Hid (∀X,SJ Y X->X.ownsRow V.heap.size 183 4 (.slice ao o.length co) o.length (Ba o)):=λX hX=>pP HownY.out λh1=>hX.block _ (j9 HownY.out h1).2
       have hq4:aQ ((Y.alloc (.cells #[cG ((O:Int)+1),cG (k':Nat),cG (zt:Nat),cG fl] 183)).drew) Y.heap.size [cG ((O:Int)+1),cG (k':Nat),cG (zt:Nat),cG fl]:=(RV Y _ _ rfl).ai (M5 _ _).drew
       have q0:=hq4.cell 0 rfl
       have q1:=hq4.cell 1 rfl
       have q2:=hq4.cell 2 rfl
       have q3:=hq4.cell 3 rfl
       have ho4:=HO _ (aD Y (.cells #[cG ((O:Int)+1),cG (k':Nat),cG (zt:Nat),cG fl] 183)).drew
       have HQ:=Z5 (Ng q0 (Ng q1 (Ng q2 (Ng q3 ho4))))
       clear hq4 q0 q1 q2 q3 ho4
       have hgVs:V.heap.size<=Y.heap.size:=HMY.2.size
       have ho64:o.length<=64:=by omega
       clear hzt hbI
       go_upto_region 38 with fail
       go_cut [15] (λv wx=>∃a5 c5,v = .slice a5 (o.length+1) c5/\wx.ownsRow V.heap.size 183 4 (.slice a5 (o.length+1) c5) (o.length+1) (Ba o ++ [cG ((O:Int)+1),cG (k':Nat),cG (zt:Nat),cG fl]) /\
        xY (λx=>x=g\/(a5 ≠ none/\x=ablk a5)) wx g b P M am mn cm m a n c ag gs.length cg ab' cb' B' k'/\aB Y wx (λx=>x=g\/V.heap.size<=x) (λx=>x=g\/V.heap.size<=x))
       case first =>
        go_region_law ((first
         | (go_simp;go_at_call 98;((with_reducible refine (HWt.out _ (by first|exact M5 _ _|exact (M5 _ _).drew|exact (aD _ _).drew|exact aD _ _)).mono ?_);rintro e w8 ⟨rfl,rfl⟩))
         | (refine Cp (by rfl) (.tmp 131) (.tmp 144) 119 183 (by rfl) (.agg #[cG 0,cG 0,cG 0,cG 0]) 32 underlying119 Ki (by rfl) V.heap.size ao o.length co (Ba o) (by rfl) HQ.2.2.2.2 Y.heap.size 1 (cG ((O:Int)+1)) (cG (k':Nat)) (cG (zt:Nat)) (cG fl) (by rfl) HQ.1 HQ.2.1 HQ.2.2.1 HQ.2.2.2.1 (by intro u hu;simp at hu;rcases hu with rfl | rfl | rfl | rfl<;>rfl) (by omega) (by unfold maxLen;omega) (by simp;omega) ?_;intro a5 c5 w6 hown6 hgr6 hap6)))
        all_goals (
         go_wp2_with fail
         have hp:=Fv E.out (HO _ (M5 _ _)) hgV (by first|exact (aD _ _).drew|exact aD _ _) hgr6 hap6
         have hQ9:=Ng hown6 hp
         clear hown6 hgr6 hap6 hp
         have HQ9:=Z5 hQ9
         clear hQ9
         simp only [List.getElem_toArray,List.getElem_cons_succ,List.getElem_cons_zero,Act.put,M6,Nc,Nd]
         go_meet
         exact ⟨a5,c5,rfl,HQ9.1,HQ9.2.1,HQ9.2.2⟩)
       obtain ⟨a5,c5,rfl,hown5,D,hM5⟩:=hcut
       generalize wc=Z at *
       have hVZ:aB V Z (One g) (λx=>x=g\/V.heap.size<=x):=HMY.2.trans hM5
       have hbYZ:Below g Y Z:=hM5.below (λx A=>by rcases A with rfl | h;exact M4 _;omega) (by omega)
       have hbWZ:SJ W Z:=NK HMY.1 (hbYZ.mono hgW)
       obtain ⟨d0,d1',d2,d3,d4⟩:=HS Z hbWZ
       have e7:=D.box.cell 7 rfl
       have HwZ:Hid (Calls prog 98 #[.slice ab' B'.length cb'] Z λe w'=>e = .returned (cG (zt:Nat))/\w'=Z):=by rw [<- Hzt.out];exact iL ab' B'.length cb' B' Z D.best.ints
       have hRes:(if fl > (zt:Int) then (o ++ [[(O:Int)+1,(k':Int),(zt:Int),fl]],B',(0:Int)) else FU (ah P M.toNat mod).ops (ah P M.toNat mod).q m n (gs.map TX.T) (T.map (·.2)) f (O+1+1) B' k' (o ++ [[(O:Int)+1,(k':Int),(zt:Int),fl]]))=RES:=by have h9:=Hres2.out;rw [HRB.out,<- HB'.out,<- Hk'.out,show ((O+1:Nat):Int)=(O:Int)+1 by omega,Hfl.out,Hzt.out] at h9;exact h9
       have HrV:Hid (Ba o ++ [cG ((O:Int)+1),cG (k':Nat),cG (zt:Nat),cG fl]=Ba (o ++ [[(O:Int)+1,(k':Int),(zt:Int),fl]])):=by show _=_;rw [DV];rfl
       have HoL:Hid ((o ++ [[(O:Int)+1,(k':Int),(zt:Int),fl]]).length=o.length+1):=by show _=_;simp
       rw [HrV.out] at hown5
       have HBest:Hid (Ints Z ab' B'.length B'/\(0<B'.length->ablk ab' ≠ g/\(a5 ≠ none->ablk ab' ≠ ablk a5))):=⟨D.best.ints,λhn=>⟨λe=>D.best.lo hn (.inl e),λh1 e=>D.best.lo hn (.inr ⟨h1,e⟩)⟩⟩
       obtain ⟨o2,ho2⟩:∃o2,o ++ [[(O:Int)+1,(k':Int),(zt:Int),fl]]=o2:=⟨_,rfl⟩
       rw [ho2] at hRes hown5 HoL HrV
       have Hown5:=Z5 hown5
       have Hsea5:=Z5 D
       have HbZ:=Z5 (Ng hbWZ hVZ)
       clear hown5 D hM5 hbYZ hbWZ hVZ ho2
       by_cases hst:(zt:Int)<fl
       ·have hd:decide ((zt:Int)<fl)=true:=Nv hst
        rw [M7 hst] at hRes
        have HR9:Hid (ga P M mod m L=(o2,B',0)):=by show _=_;rw [HRES.out,<- hRes]
        have hF:=RU HbW.out HbZ.1
        clear hRes hst
        go_wp2_with fail
        refine HwZ.mono ?_
        rintro e w' ⟨rfl,hw'⟩
        obtain rfl:=hw'.symm
        go_wp2_with fail
        go_quiet (fail)
        go_wp2_with fail
        go_ret3
        exact Jj HR9.out hF HoL.out Hown5.out HBest.1 (Sd ⟨_,rfl⟩)
       ·have hd:decide ((zt:Int)<fl)=false:=Nu hst
        rw [M8 hst] at hRes
        have HRes:=Z5 hRes
        have hfw:n - (O+1)=f:=by omega
        clear hRes hst
        go_wp2_with fail
        refine HwZ.mono ?_
        rintro e w' ⟨rfl,hw'⟩
        obtain rfl:=hw'.symm
        go_wp2_with fail
        go_roundw
        case rel=>exact ⟨O+1,a5,c5,o2,ab',cb',B',k',by omega,by go_num,by rw [HoL.out],by rw [HoL.out];exact Hown5.out,Hsea5.box,HBest,hk'2,by rw [HoL.out];omega,HbZ.2,by show FU _ _ _ _ _ _ (n - (O+1)) _ _ _ _=_;rw [hfw,<- Hfm.out];exact HRes⟩
        case measure=>simp [intOf]<;>omega
    ·obtain rfl:O=n:=by omega
     have hres3:=hres.out
     rw [PD,FU] at hres3
     have HR9:Hid (ga P M mod m L=(o,B,0)):=by show _=_;rw [HRES.out,<- hres3]
     have d1:decide ((O:Int)+1<=(O:Int))=false:=by simp;omega
     have hF:=RU HbW.out hbWX
     have e7:=hbox.cell 7 rfl
     clear hres3
     go_wp2_with fail
     go_quiet (fail)
     go_wp2_with fail
     go_ret3
     exact Jj HR9.out hF rfl howo.out hbest.1 (Sd ⟨_,rfl⟩)
theorem AT (P M:Int) (am:OA) (U K:Nat) (mod:Lz) (N:Int) (a:OA) (n c:Nat) (L:ZZ) (w:ej) (Y:Ints w am U mod) (hi:bP w a n L) (I:aI P M mod N L ≠ 0) :
  Calls prog 80 #[.agg #[cG P,cG M,.slice am U K,cG N,.slice a n c]] w λe w'=>e = ec #[.agg #[cG 0,cG 0,ds,cG 0,ds],cG (aI P M mod N L)]/\SJ w w':=by
 have F:Hid (∀V,SJ w V->Calls prog 88 #[.agg #[cG P,cG M,.slice am U K,cG N,.slice a n c]] V λe w'=>e = .returned (cG (aI P M mod N L))/\SJ V w'):=λV H=>cH P M am U K mod N a n c L V (Y.ai H) (hi.ai H);generalize aI P M mod N L=ce at *;have d0:(ce != 0)=true:=by simpa using I
 clear Y hi I;go_enter func80,ntmps80;go_wp2_with fail;obtain ⟨W,O⟩:∃W:ej,W=(w.alloc (.cells #[cG P,cG M,.slice am U K,cG N,.slice a n c] 27)).alloc (.cells #[cG 0,cG 0,ds,cG 0,ds] 27):=⟨_,rfl⟩
 rw [<- O];have S:SJ w W:=by rw [O];exact dP _ _ _
 have z0:aQ W (w.heap.size+1) [cG 0,cG 0,ds,cG 0,ds]:=by rw [O];exact RV _ _ _ (by simp)
 have D:=Z5 z0;clear O z0;refine (F W S).mono ?_;rintro e C ⟨rfl,X⟩;have Z:=D.ai X;have z0:=Z.cell 0 rfl;have E:=Z.cell 1 rfl;have z2:=Z.cell 2 rfl;have z3:=Z.cell 3 rfl;have z4:=Z.cell 4 rfl;have f0:=Z.frozen 0;have f1:=Z.frozen 1;have f2:=Z.frozen 2;have f3:=Z.frozen 3;have f4:=Z.frozen 4;have hF:=RU S X;have G:=Z5 (((((hF.setCell (p:=⟨w.heap.size+1,0,none⟩) (by simp) (cG 0)).setCell (p:=⟨w.heap.size+1,1,none⟩) (by simp) (cG 0)).setCell (p:=⟨w.heap.size+1,2,none⟩) (by simp) ds).setCell (p:=⟨w.heap.size+1,3,none⟩) (by simp) (cG 0)).setCell (p:=⟨w.heap.size+1,4,none⟩) (by simp) ds);clear Z hF;go_wp2_with fail;exact bodyPost_ret (v:=.tuple #[.agg #[cG 0,cG 0,ds,cG 0,ds],cG ce]) (by simp [results,results80,go_sem,z0,E,z2,z3,z4]) rfl ⟨rfl,G⟩
def Eh (P M:Int) (mod:Lz) (m:Nat) (L:ZZ) (k:Nat) (x:Lz) (T:ZZ):Bool :=
 decide (lU P M mod m (bt (ah P M.toNat mod) L m) x=0) && uq P M mod m (bt (ah P M.toNat mod) L m) x && decide (nth x k=1) && decide (sG P M mod m (fV P M mod m L k) x ((bY x:Int) - 1) T=0)
def lkTo (P M:Int) (mod:Lz) (m:Nat) (L Z:ZZ) (TT:List ZZ):Nat->Bool
 | 0=>true
 | k+1=>lkTo P M mod m L Z TT k && Eh P M mod m L k (aj Z k) (xJ TT k)
theorem DT {P M:Int} {mod:Lz} {m:Nat} {L Z:ZZ} {TT:List ZZ} {k:Nat} (h:Eh P M mod m L k (aj Z k) (xJ TT k)=false):∀d,lkTo P M mod m L Z TT (k+1+d)=false
 | 0=>by rw [QK,lkTo,h,Q9]
 | d+1=>by rw [show k+1+(d+1)=(k+1+d)+1 by omega,lkTo,DT h d,RR]
def DS (P M:Int) (mod:Lz) (N:Int) (L Z:ZZ) (TT:List ZZ):Int :=
 if aI P M mod N L=0 then (if (Z.length:Int)=N/\(TT.length:Int)=N/\lkTo P M mod N.toNat L Z TT N.toNat=true then 0 else 13) else aI P M mod N L
def Bz (Z:ZZ) (k:Nat):Lz:=(Z.take k).map λx=>(bY x:Int) - 1
def sk (Z:Int) (V:Lz) (n:Nat) (w:ej) (e:Ending) (w':ej):Prop :=
 SJ w w'/\((Z ≠ 0/\e = ec #[ds,cG Z])\/(Z=0/\∃a c,e = ec #[.slice a n c,cG 0]/\Ints w' a n V))
theorem zK (P M:Int) (am:OA) (C cm:Nat) (mod:Lz) (N:Int) (a:OA) (n c:Nat) (L:ZZ) (aw:OA) (F cw:Nat) (Z:ZZ) (O:OA) (G ct:Nat) (TT:List ZZ) (w:ej)
  (H:Ints w am C mod) (hi:bP w a n L) (hw:bP w aw F Z) (ht:j6 w O G TT) :
  Calls prog 31 #[.agg #[cG P,cG M,.slice am C cm,cG N,.slice a n c],.agg #[.slice aw F cw,.slice O G ct]] w (sk (DS P M mod N L Z TT) (Bz Z N.toNat) N.toNat w):=by
 have S:Hid (∀V er,DS P M mod N L Z TT=er->er ≠ 0->SJ w V->sk (DS P M mod N L Z TT) (Bz Z N.toNat) N.toNat w (ec #[ds,cG er]) V):=λV er h1 h2 h3=>⟨h3,.inl ⟨by rw [h1];exact h2,by rw [h1]⟩⟩
 have hmw:=hw.max;have hmt:=ht.max;have hplw:=hw.pl;have hplt:=ht.pl;unfold maxLen at hmw hmt;by_cases hE:aI P M mod N L=0;rotate_left
 ·have HD:Hid (∀V,SJ w V->Calls prog 80 #[.agg #[cG P,cG M,.slice am C cm,cG N,.slice a n c]] V λe w'=>e = ec #[.agg #[cG 0,cG 0,ds,cG 0,ds],cG (aI P M mod N L)]/\SJ V w'):=λV X =>
   AT P M am C cm mod N a n c L V (H.ai X) (hi.ai X) hE
  have HR:Hid (DS P M mod N L Z TT=aI P M mod N L):=by show _=_;rw [DS,M8 hE]
  generalize sk (DS P M mod N L Z TT) (Bz Z N.toNat) N.toNat w=Post at *;generalize aI P M mod N L=ce at *;have d0:(ce != 0)=true:=by simpa using hE
  have H0:=Z5 hE;clear H hi hw ht hE;go_enter func31,ntmps31;go_upto_region 1 with fail;obtain ⟨W,hW⟩:∃W:ej,W=(w.alloc (.cells #[cG P,cG M,.slice am C cm,cG N,.slice a n c] 27)).alloc (.cells #[.slice aw F cw,.slice O G ct] 48):=⟨_,rfl⟩
  rw [<- hW];have hbW:SJ w W:=by rw [hW];exact dP _ _ _
  have x0:aQ W w.heap.size [cG P,cG M,.slice am C cm,cG N,.slice a n c]:=by rw [hW];exact (RV _ _ _ rfl).alloc _
  have c0:=x0.cell 0 rfl;have c1:=x0.cell 1 rfl;have c2:=x0.cell 2 rfl;have c3:=x0.cell 3 rfl;have c4:=x0.cell 4 rfl;have HbW:=Z5 hbW;clear hW x0 hbW;go_wp2_with fail;refine (HD W HbW.out).mono ?_;rintro e w1 ⟨rfl,hb1⟩;have hF:=RU (RU HbW.out hb1) (aD w1 (.cells #[cG 0,cG 0,ds,cG 0,ds] 27));clear c0 c1 c2 c3 c4;go_wp2_with fail;exact S _ _ HR.out H0.out hF
 obtain ⟨m,rfl,hm1,hm64,_⟩:=aT hE;have hml:mod.length<=8:=mB (aX hE).1;have hmn:C<=8:=by rw [<- H.len];exact hml
 have HD:Hid (∀V,SJ w V->Calls prog 80 #[.agg #[cG P,cG M,.slice am C cm,cG m,.slice a n c]] V (ky P M mod m L V)):=λV X=>tu P M am C cm mod m a n c L V (H.ai X) (hi.ai X) hE (by omega);have A:Hid (∀V a1 c1 a2 c2 E K rc x,Ints V a1 mod.length mod->bP V a2 (bt (ah P M.toNat mod) L m).length (bt (ah P M.toNat mod) L m)->Ints V E K x->Calls prog 81 #[.agg #[cG P,cG M,.slice a1 mod.length c1,cG m,.slice a2 (bt (ah P M.toNat mod) L m).length c2],.slice E K rc] V
   λe w'=>e = ec #[.bool (uq P M mod m (bt (ah P M.toNat mod) L m) x),cG (lU P M mod m (bt (ah P M.toNat mod) L m) x)]/\SJ V w'):=λV a1 c1 a2 c2 E K rc x h1 h2 h3 =>
  wk P M a1 _ c1 mod m a2 _ c2 _ E K rc x V h1 h2 h3
 have HWl:Hid (∀x,lU P M mod m (bt (ah P M.toNat mod) L m) x=0->x.length=m):=λx h=>by have h1:=(vB h).2.1;simpa using h1
 have HZe : Hid (∀ V (k : Nat), k < m → SJ w V → Calls prog 74 #[.agg #[cG P, cG M, .slice am C cm, cG m, .slice a n c], cG k] V fun e w' =>
       ∃a1 c1 a2 c2,e = ec #[.agg #[cG P,cG M,.slice a1 mod.length c1,cG m,.slice a2 (fV P M mod m L k).length c2],cG 0]/\Ints w' a1 mod.length mod/\bP w' a2 (fV P M mod m L k).length (fV P M mod m L k)/\SJ V w'):=λV k hk X =>
  tz P M am C cm mod m a n c L k V (H.ai X) (hi.ai X) hE hk
 have HCk : Hid (∀ V a1 c1 a2 c2 (k : Nat) E rc x W ab nb cb T, Ints V a1 mod.length mod → bP V a2 (fV P M mod m L k).length (fV P M mod m L k) → Ints V E m x → bP V ab nb T → Calls prog 82 #[.agg #[cG P, cG M, .slice a1 mod.length c1, cG m, .slice a2 (fV P M mod m L k).length c2], .slice E m rc, cG W, .agg #[.slice ab nb cb]] V
       λe w'=>e = .returned (cG (sG P M mod m (fV P M mod m L k) x W T))/\SJ V w'):=λV a1 c1 a2 c2 k E rc x W ab nb cb T h1 h2 h3 h4 =>
  pG P M a1 _ c1 mod m a2 _ c2 _ E m rc x W ab nb cb T V h1 h2 h3 h4
 have HEl:Hid (DS P M mod m L Z TT=if (F:Int)=m/\(G:Int)=m/\lkTo P M mod m L Z TT m=true then 0 else 13):=by show _=_;rw [DS,M7 hE,hw.len,ht.len,M9]
 have HTn:Hid (∀k,k<m->Eh P M mod m L k (aj Z k) (xJ TT k)=false->DS P M mod m L Z TT=13):=λk hk h=>by rw [HEl.out,M8];rintro ⟨_,_,h3⟩;have h4:=DT (TT:=TT) h (m - (k+1));rw [show k+1+(m - (k+1))=m by omega,h3] at h4;cases h4
 have HTs:Hid (∀k,lkTo P M mod m L Z TT k=true->Eh P M mod m L k (aj Z k) (xJ TT k)=true->lkTo P M mod m L Z TT (k+1)=true):=λk h1 h2=>by rw [lkTo,h1,h2];rfl
 have HOk:Hid (∀k x T,Eh P M mod m L k x T=(decide (lU P M mod m (bt (ah P M.toNat mod) L m) x=0) && uq P M mod m (bt (ah P M.toNat mod) L m) x && decide (nth x k=1) && decide (sG P M mod m (fV P M mod m L k) x ((bY x:Int) - 1) T=0))):=λk x T=>rfl;have HVk:Hid (∀k,k<F->Bz Z (k+1)=Bz Z k ++ [(bY (aj Z k):Int) - 1]):=λk hk=>by
  have hkA:k<Z.length:=by rw [hw.len];exact hk
  unfold Bz;rw [Nh hkA,NT,aH hkA];rfl
 have HV0:Hid (Bz Z 0=[]/\lkTo P M mod m L Z TT 0=true):=⟨rfl,rfl⟩
 have HVl:Hid (∀k,k<=F->(Bz Z k).length=k):=λk hk=>by unfold Bz;rw [No,NH,hw.len];omega
 rw [M9] at S ⊢;have HFin:Hid (∀a1 c1 V,DS P M mod m L Z TT=0->Ints V a1 m (Bz Z m)->SJ w V->sk (DS P M mod m L Z TT) (Bz Z m) m w (ec #[.slice a1 m c1,cG 0]) V):=λa1 c1 V h0 h1 h2=>⟨h2,.inr ⟨h0,a1,c1,rfl,h1⟩⟩
 unfold ky at HD;generalize hPo:sk (DS P M mod m L Z TT) (Bz Z m) m w=Post at *;generalize DS P M mod m L Z TT=le at *;generalize lkTo P M mod m L Z TT=LT at *;generalize Eh P M mod m L=ok at *;generalize bt (ah P M.toNat mod) L m=D at *;generalize hVc:fV P M mod m L=vc at *;generalize Bz Z=LV at *;obtain ⟨r,hnm⟩:∃r,mod.length=r:=⟨_,rfl⟩
 obtain ⟨nd,hnd⟩:∃nd,D.length=nd:=⟨_,rfl⟩
 rw [hnm] at HD A HZe HCk;rw [hnd] at HD A;have HI:=Z5 (Ng hw ht);clear H hi hw ht hE hm1 hml hmn hPo hVc hnm hnd;go_enter func31,ntmps31;go_upto_region 1 with fail;obtain ⟨W,hW⟩:∃W:ej,W=(w.alloc (.cells #[cG P,cG M,.slice am C cm,cG m,.slice a n c] 27)).alloc (.cells #[.slice aw F cw,.slice O G ct] 48):=⟨_,rfl⟩
 rw [<- hW];have hbW:SJ w W:=by rw [hW];exact dP _ _ _
 have x0:aQ W w.heap.size [cG P,cG M,.slice am C cm,cG m,.slice a n c]:=by rw [hW];exact (RV _ _ _ rfl).alloc _
 have y0:aQ W (w.heap.size+1) [.slice aw F cw,.slice O G ct]:=by rw [hW];exact RV _ _ _ (by simp)
 clear hW;have HX:Hid (∀V,SJ W V->V.cell? ⟨w.heap.size,0,none⟩=some (cG P)/\V.cell? ⟨w.heap.size,1,none⟩=some (cG M)/\V.cell? ⟨w.heap.size,2,none⟩=some (.slice am C cm)/\V.cell? ⟨w.heap.size,3,none⟩=some (cG m)/\V.cell? ⟨w.heap.size,4,none⟩=some (.slice a n c)/\V.cell? ⟨w.heap.size+1,0,none⟩=some (.slice aw F cw)/\V.cell? ⟨w.heap.size+1,1,none⟩=some (.slice O G ct)):=λV X=>by have x1:=x0.ai X;have y1:=y0.ai X;exact ⟨x1.cell 0 rfl,x1.cell 1 rfl,x1.cell 2 rfl,x1.cell 3 rfl,x1.cell 4 rfl,y1.cell 0 rfl,y1.cell 1 rfl⟩
 have HbW:=Z5 hbW;clear x0 y0 hbW;obtain ⟨c0,c1,c2,c3,c4,d0,d1⟩:=HX W (M5 _ _);go_wp2_with fail;refine (HD W HbW.out).mono ?_;rintro e w1 ⟨a1,k1,a2,k2,rfl,hI1,hM1,hb1⟩;have hn1:=aD w1 (.cells #[cG P,cG M,.slice a1 r k1,cG m,.slice a2 nd k2] 27);have y1:aQ (w1.alloc (.cells #[cG P,cG M,.slice a1 r k1,cG m,.slice a2 nd k2] 27)) w1.heap.size [cG P,cG M,.slice a1 r k1,cG m,.slice a2 nd k2]:=RV _ _ _ rfl;have hI1':=hI1.ints.ai hn1;have hM1':=hM1.lL.ai hn1;clear c0 c1 c2 c3 c4 d0 d1 hI1 hM1;go_upto_region 2 with fail;obtain ⟨U,hU⟩:∃U,w1.alloc (.cells #[cG P,cG M,.slice a1 r k1,cG m,.slice a2 nd k2] 27)=U:=⟨_,rfl⟩
 rw [hU] at hn1 y1 hI1' hM1' ⊢;obtain ⟨g1,hg1⟩:∃g,w1.heap.size=g:=⟨_,rfl⟩
 rw [hg1] at y1 ⊢;have hbU:=RU hb1 hn1;have hF1:=RU HbW.out hbU;have HDc:Hid (∀V,SJ U V->V.cell? ⟨g1,0,none⟩=some (cG P)/\V.cell? ⟨g1,1,none⟩=some (cG M)/\V.cell? ⟨g1,2,none⟩=some (.slice a1 r k1)/\V.cell? ⟨g1,3,none⟩=some (cG m)/\V.cell? ⟨g1,4,none⟩=some (.slice a2 nd k2)):=λV X=>by have y:=y1.ai X;exact ⟨y.cell 0 rfl,y.cell 1 rfl,y.cell 2 rfl,y.cell 3 rfl,y.cell 4 rfl⟩
 have HH:=Z5 (λV E K rc x (X:SJ U V) h=>A V a1 k1 a2 k2 E K rc x (hI1'.ai X) (hM1'.ai X) h);clear hU hg1 y1 hI1' hM1' A HD hn1 hb1;obtain ⟨c0,c1,c2,c3,c4,d0,d1⟩:=HX U hbU;by_cases h1:(F:Int)=m;rotate_left
 ·have e1:((F:Int) != m)=true:=by simpa using h1
  have j:=Z5 (S U 13 (by rw [HEl.out,M8 (λh=>h1 h.1)]) (by decide) hF1);clear h1;go_wp2_with fail;exact j
 obtain rfl:F=m:=by omega
 by_cases h2:(G:Int)=F;rotate_left
 ·have e1:((F:Int) != F)=false:=by simp
  have e2:((G:Int) != F)=true:=by simpa using h2
  have j:=Z5 (S U 13 (by rw [HEl.out,M8 (λh=>h2 h.2.1)]) (by decide) hF1);clear h1 h2;go_wp2_with fail;exact j
 obtain rfl:G=F:=by omega
 have e1:((G:Int) != G)=false:=by simp
 have HF1:=Z5 (Ng hF1 hbU);clear h1 h2;go_wp2_with fail;clear c0 c1 c2 c3 c4 d0 d1 e1;go_loopw [8,39] (λsv iv wr=>∃(k:Nat) (a8:OA) (c8:Nat),k<=G/\iv = cG k/\sv = .slice a8 k c8/\Hid (wr.ownsRow U.heap.size 3 1 (.slice a8 k c8) k ((LV k).map (Value.int .i64)))/\SJ U wr/\Hid (LT k=true)) (λ_ iv _=>G - (intOf iv).toNat);case atStart=>exact ⟨0,none,0,Nb _,rfl,rfl,by show World.ownsRow _ _ _ _ _ _ _;rw [HV0.1];exact cJ,M5 _ _,HV0.2⟩
 case round =>
  obtain ⟨k,a8,c8,hk,rfl,rfl,Hown,hbr,Hlt⟩:=hrel
  by_cases hlt:k<G
  ·have hbwr:=RU HF1.1 hbr
   obtain ⟨E,K,rc,hcell,hrw⟩:=(HI.1.ai hbwr).cell k hlt
   have HRw:=Z5 hrw
   have HTk:=Z5 (HTn k hlt)
   have HSk:=Z5 (HTs k Hlt.out)
   have HVk1:=Z5 (HVk k hlt)
   have HTr:=Z5 ((HI.2.ai hbwr).cell k hlt)
   have hok:=HOk k (aj Z k) (xJ TT k)
   have HLk:=Z5 (HWl (aj Z k))
   have HHk:=Z5 (HH wr E K rc _ hbr hrw)
   have hpr:=hrw.pl
   obtain ⟨x,hx⟩:∃x,aj Z k=x:=⟨_,rfl⟩
   rw [hx] at HRw HTk HSk HVk1 hok HLk HHk
   obtain ⟨T,hT⟩:∃T,xJ TT k=T:=⟨_,rfl⟩
   rw [hT] at HTk HSk hok HTr
   have Y:=Z5 hok
   obtain ⟨wE,hwE⟩:∃e,lU P M mod G D x=e:=⟨_,rfl⟩
   obtain ⟨X,hhV⟩:∃e,uq P M mod G D x=e:=⟨_,rfl⟩
   rw [hwE,hhV] at HHk Y
   rw [hwE] at HLk
   obtain ⟨q0,q1,q2,q3,q4⟩:=HDc wr hbr
   have Hbr:=Z5 hbr
   clear hx hT hwE hhV hok hrw hbr hbwr
   go_wp2_with fail
   refine HHk.mono ?_
   rintro e w3 ⟨rfl,hb3⟩
   have hbr3:=RU Hbr.out hb3
   have hF3:=RU HF1.1 hbr3
   clear q0 q1 q2 q3 q4
   by_cases h0:wE=0
   rotate_left
   ·have e0:(wE != 0)=true:=by simpa using h0
    have j:=Z5 (S w3 13 (HTk (by rw [Y.out,Nu h0];rfl)) (by decide) hF3)
    clear h0
    go_wp2_with fail
    exact j
   subst h0
   have hxl:=HLk rfl
   have hrn:K=G:=by rw [<- HRw.len];exact hxl
   subst hrn
   cases X
   ·have j:=Z5 (S w3 13 (HTk (by rw [Y.out];simp)) (by decide) hF3)
    clear hxl
    go_wp2_with fail
    exact j
   have hrw3:=HRw.ai hb3
   have ck:=hrw3.cell k hlt
   have Hxl:=Z5 hxl
   have HRw3:=Z5 hrw3
   obtain ⟨y,hy⟩:∃y,nth x k=y:=⟨_,rfl⟩
   rw [hy] at ck Y
   have hk1:(k:Int)<K:=by omega
   clear hy hxl hrw3
   by_cases hy1:y=1
   rotate_left
   ·have e0:(y != 1)=true:=by simpa using hy1
    have j:=Z5 (S w3 13 (HTk (by rw [Y.out,Nu hy1];simp)) (by decide) hF3)
    clear hy1
    go_wp2_with fail
    exact j
   subst hy1
   have HZk:=Z5 (HZe w3 k hlt hF3)
   obtain ⟨vk,hvk⟩:∃vk,vc k=vk:=⟨_,rfl⟩
   obtain ⟨qv,hqv⟩:∃q,vk.length=q:=⟨_,rfl⟩
   have hck2:=λV a1 c1 a2 c2=>HCk V a1 c1 a2 c2 k E rc x
   rw [hvk,hqv] at HZk hck2
   rw [hvk] at Y
   have HCk2:=Z5 hck2
   obtain ⟨c0,c1,c2,c3,c4,_,d1⟩:=HX w3 (RU HF1.2 hbr3)
   clear hvk hqv hck2
   go_wp2_with fail
   refine HZk.mono ?_
   rintro e w4 ⟨a3,k3,a4,k4,rfl,hI3,hM3,hb4⟩
   have hn4:=aD w4 (.cells #[cG P,cG M,.slice a3 r k3,cG K,.slice a4 qv k4] 27)
   have y4:aQ (w4.alloc (.cells #[cG P,cG M,.slice a3 r k3,cG K,.slice a4 qv k4] 27)) w4.heap.size [cG P,cG M,.slice a3 r k3,cG K,.slice a4 qv k4]:=RV _ _ _ rfl
   have hI3':=hI3.ai hn4
   have hM3':=hM3.ai hn4
   clear c0 c1 c2 c3 c4 d1 hI3 hM3 ck
   go_upto_region 14 with fail
   obtain ⟨V3,hV3⟩:∃V3,w4.alloc (.cells #[cG P,cG M,.slice a3 r k3,cG K,.slice a4 qv k4] 27)=V3:=⟨_,rfl⟩
   rw [hV3] at hn4 y4 hI3' hM3' ⊢
   have I:=RU hb4 hn4
   have hrV3:=HRw3.ai I
   have z:=RU hbr3 I
   obtain ⟨g3,hg3⟩:∃g,w4.heap.size=g:=⟨_,rfl⟩
   rw [hg3] at y4 ⊢
   obtain ⟨ab,nb,cb,hcT,hmT,_⟩:=HTr.out
   have hcT3:=aC (RU hb3 I) hcT
   have hmT3:=hmT.ai (RU hb3 I)
   have hxm:bY x<=K:=by have h:=GN (x:=x);rw [Hxl.out] at h;exact h
   obtain ⟨wt,hwt⟩:∃wt,bY x=wt:=⟨_,rfl⟩
   rw [hwt] at hxm Y HVk1
   have w1':IntKind.i64.wrap ((wt:Int) - 1)=(wt:Int) - 1:=Nn _ (by omega)
   have HW3:Hid (∀V,SJ V3 V->Calls prog 76 #[.slice E K rc] V λe w'=>e = .returned (cG (wt:Nat))/\SJ V w'):=λV X=>by rw [<- hwt];exact nY E K rc _ V (hrV3.ai X) (by omega)
   have HC3:=Z5 (λV (X:SJ V3 V)=>HCk2 V a3 k3 a4 k4 ((wt:Int) - 1) ab nb cb T (hI3'.ai X) (hM3'.ai X) (hrV3.ai X) (hmT3.ai X))
   obtain ⟨ce,hce⟩:∃ce,sG P M mod K vk x ((wt:Int) - 1) T=ce:=⟨_,rfl⟩
   rw [hce] at HC3 Y
   have HS5:Hid (∀V,SJ V3 V->V.cell? ⟨g3,0,none⟩=some (cG P)/\V.cell? ⟨g3,1,none⟩=some (cG M)/\V.cell? ⟨g3,2,none⟩=some (.slice a3 r k3)/\V.cell? ⟨g3,3,none⟩=some (cG K)/\V.cell? ⟨g3,4,none⟩=some (.slice a4 qv k4)/\V.cell? ⟨w.heap.size+1,1,none⟩=some (.slice O K ct)/\V.cell? ⟨ablk O,aN O+k,none⟩=some (.slice ab nb cb)/\SJ V3 V):=λV X=>by have y:=y4.ai X;obtain ⟨_,_,_,_,_,_,d1⟩:=HX V (RU (RU HF1.2 z) X);exact ⟨y.cell 0 rfl,y.cell 1 rfl,y.cell 2 rfl,y.cell 3 rfl,y.cell 4 rfl,d1,aC X hcT3,X⟩
   have HV3:=Z5 (Ng I z)
   have hsz4:=z.size
   clear hV3 hg3 hI3' hM3' hrV3 hn4 hb4 y4 hcT hmT hcT3 hmT3 hwt hce I z
   obtain ⟨c0,c1,c2,c3,c4,d1,d2,_⟩:=HS5 V3 (M5 _ _)
   have e0:((0:Int) != 0)=false:=rfl
   go_cut [84] (λv wx=>v = .bool (ce != 0)/\SJ V3 wx)
   case first =>
    go_region_held3 (λV=>V.cell? ⟨g3,0,none⟩=some (cG P)/\V.cell? ⟨g3,1,none⟩=some (cG M)/\V.cell? ⟨g3,2,none⟩=some (.slice a3 r k3)/\V.cell? ⟨g3,3,none⟩=some (cG K)/\V.cell? ⟨g3,4,none⟩=some (.slice a4 qv k4)/\V.cell? ⟨w.heap.size+1,1,none⟩=some (.slice O K ct)/\V.cell? ⟨ablk O,aN O+k,none⟩=some (.slice ab nb cb)/\SJ V3 V)
     ((refine HS5 _ ?_;first|exact (M5 _ _).drew|assumption|(go_split_ands;first|assumption|exact RU (by assumption) (by assumption))))
     (first
      | (go_at_call 76;((with_reducible refine (HW3.out _ (by go_split_ands;assumption)).mono ?_);rintro e w5 ⟨rfl,hb5⟩;have hB5:SJ V3 w5:=(by go_split_ands;exact RU (by assumption) hb5)))
      | (go_at_call 82;((with_reducible refine (HC3.out _ (by go_split_ands;assumption)).mono ?_);rintro e w6 ⟨rfl,hb6⟩;have hB6:SJ V3 w6:=(by go_split_ands;exact RU (by assumption) hb6))))
    all_goals (
     go_wp2_with fail
     go_meet
     exact ⟨rfl,by go_split_ands;assumption⟩)
   obtain ⟨rfl,hbV⟩:=hcut
   generalize wc=V5 at *
   have hbr5:=RU HV3.2 hbV
   have hF5:=RU HF1.1 hbr5
   clear c0 c1 c2 c3 c4 d1 d2
   by_cases hc0:ce=0
   rotate_left
   ·have e2:(ce != 0)=true:=by simpa using hc0
    have j:=Z5 (S V5 13 (HTk (by rw [Y.out,Nu hc0];simp)) (by decide) hF5)
    clear hc0
    go_wp2_with fail
    exact j
   subst hc0
   have e2:((0:Int) != 0)=false:=rfl
   have HLT1:=Z5 (HSk (by rw [Y.out];rfl))
   have HW5:=Z5 (HW3 V5 hbV)
   go_wp2_with fail
   refine HW5.mono ?_
   rintro e w7 ⟨rfl,hb7⟩
   have hbr7:=RU hbr5 hb7
   have hcn:=bh w7 (cG ((wt:Int) - 1)) 3
   have hown7:=bj Hown.out (RU (RU (RU hb3 HV3.1) (RU hbV hb7)) (aD w7 (.cells #[cG ((wt:Int) - 1)] 3)))
   have hs7:=hbr7.size
   go_wp2_with (at_builtin;refine bd rfl _ _ 22 3 rfl (cG 0) 8 underlying22 br rfl U.heap.size a8 k c8 _ rfl hown7 ⟨w7.heap.size,0,none⟩ 1 (cG ((wt:Int) - 1)) rfl hcn rfl (by omega) (by unfold maxLen;omega) (by simp;omega) ?_;intro a9 c9 w9 hown9 hgr9 hap9)
   go_roundw
   case rel=>exact ⟨k+1,a9,c9,by omega,by go_num,rfl,by show World.ownsRow _ _ _ _ _ _ _;rw [HVk1.out,NT];exact hown9,RY (RU hbr7 (aD w7 (.cells #[cG ((wt:Int) - 1)] 3))) hown7 hgr9 (M4 _) (by simp;omega),HLT1⟩
   case measure=>simp [intOf]<;>omega
  ·obtain rfl:k=G:=by omega
   have j:=Z5 (HFin a8 c8 wr (by rw [HEl.out,M7 (by first|exact ⟨rfl,rfl,Hlt⟩|exact ⟨trivial,trivial,Hlt⟩)]) (RW Hown.out).1 (RU HF1.1 hbr))
   go_wp2_with fail
   exact j
def cI:ZZ:=[[1,0,1,0],[0,1,1,1]]
def l5:ZZ:=[[1,1,1,0],[0,1,0,1],[1,1,1,0],[0,1,0,1]]
theorem KJ:FE 2 1 [] 4 cI 0=0:=by decide +kernel
theorem J2:FE 2 1 [] 4 cI 1=0:=by decide +kernel
theorem J7:jg 2 1 [] 4 cI 0=[1,2]:=by decide +kernel
theorem KF:jg 2 1 [] 4 cI 1=[3]:=by decide +kernel
theorem Jw:oF 2 1 [] 4 cI 0=[1,1]:=by decide +kernel
theorem J9:oF 2 1 [] 4 cI 1=[1]:=by decide +kernel
theorem DI:i5 2 1 [] 4 cI=0:=by decide +kernel
theorem oQ:dT 2 1 [] 4 cI=l5:=by decide +kernel
theorem KX:nT 2 1 [] 4 cI=2:=by decide +kernel
theorem JI:Bn 2 1 [] 4 cI 0 [0,1,0,1]=0:=by decide +kernel
theorem JG:JN 2 1 [] 4 cI 0 [0,1,0,1]=1:=by decide +kernel
theorem Jz:tn 6 3 2=0:=by decide +kernel
theorem KS:oW 6 3 2=3:=by decide +kernel
theorem JJ:DP 7 1 [] 2 2 3=0:=by decide +kernel
theorem Dh:bw 7 1 []=true:=by decide +kernel
theorem DJ:(ah 7 (1:Int).toNat []).q=7:=by decide +kernel
theorem JW:(Jv 7 1 [] 2 2 3).length=3:=by have F:=dY Dh;obtain ⟨g,Z⟩:=qq Dh;exact (LG F Z (r:=2) (c:=2) (k:=3) (by decide) (by rw [DJ];decide) (by rw [DJ];decide) (by decide) (by decide)).2.2.1
def vF:List ZZ:=[[[1],[3],[]],[[0],[2]],[[1],[3],[]],[[0],[1]]]
theorem K4:fV 2 1 [] 4 cI 0=[[0,1,0,1]]:=by decide +kernel
theorem Kg:fV 2 1 [] 4 cI 1=[[1,0,1,1]]:=by decide +kernel
theorem KH:fV 2 1 [] 4 cI 2=[[0,1,0,1]]:=by decide +kernel
theorem KP:fV 2 1 [] 4 cI 3=[[1,1,1,0]]:=by decide +kernel
theorem DG:gX 2 1 [] 4 [[0,1,0,1]] [1,1,1,0] 2=0:=by decide +kernel
theorem JM:gX 2 1 [] 4 [[1,0,1,1]] [0,1,0,1] 1=0:=by decide +kernel
theorem J6:gX 2 1 [] 4 [[1,1,1,0]] [0,1,0,1] 1=0:=by decide +kernel
theorem C6:yF 2 1 [] 4 cI 0=(0,[[1],[3],[]]):=by unfold yF;rw [show fV 2 1 [] 4 cI ((0:Nat):Int)=_ from K4,oQ];show me 2 1 [] 4 [[0,1,0,1]] [1,1,1,0] 2=_;rw [me,M7 DG,Df];decide +kernel
theorem DD:yF 2 1 [] 4 cI 1=(0,[[0],[2]]):=by unfold yF;rw [show fV 2 1 [] 4 cI ((1:Nat):Int)=_ from Kg,oQ];show me 2 1 [] 4 [[1,0,1,1]] [0,1,0,1] 1=_;rw [me,M7 JM,Df];decide +kernel
theorem DL:yF 2 1 [] 4 cI 2=(0,[[1],[3],[]]):=by unfold yF;rw [show fV 2 1 [] 4 cI ((2:Nat):Int)=_ from KH,oQ];show me 2 1 [] 4 [[0,1,0,1]] [1,1,1,0] 2=_;rw [me,M7 DG,Df];decide +kernel
theorem Dj:yF 2 1 [] 4 cI 3=(0,[[0],[1]]):=by unfold yF;rw [show fV 2 1 [] 4 cI ((3:Nat):Int)=_ from KP,oQ];show me 2 1 [] 4 [[1,1,1,0]] [0,1,0,1] 1=_;rw [me,M7 J6,Df];decide +kernel
theorem Kz:DX 2 1 [] 4 cI=0:=by unfold DX;rw [M7 DI];show lcTo 2 1 [] 4 cI 4=0;simp [lcTo,C6,DD,DL,Dj]
theorem KR:uB 2 1 [] 4 cI 4=vF:=by unfold uB;show [_,_,_,_]=_;simp only [C6,DD,DL,Dj];rfl
theorem JY:DS 2 1 [] 4 cI l5 vF=0:=by decide +kernel
theorem KD:Bz l5 4=[2,1,2,1]:=by decide +kernel
structure MU (B:Nat) (V:ej) (a1:OA) (c1:Nat) (l1:Lz) (a2:OA) (c2:Nat) (l2:Lz):Prop where
 o1:V.ownsRow B 3 1 (.slice a1 l1.length c1) l1.length (l1.map (Value.int .i64))
 o2:V.ownsRow B 3 1 (.slice a2 l2.length c2) l2.length (l2.map (Value.int .i64))
 st:a1=none\/a2=none\/ablk a1 ≠ ablk a2
section
variable {B:Nat} {V V' w5:ej} {a1 a2 a5:OA} {c1 c2 c5:Nat} {l1 l2:Lz} {o:Obj} {x:Int}
end
theorem uw (P M:Int) (am:OA) (O I:Nat) (mod:Lz) (N:Int) (a:OA) (n c:Nat) (L:ZZ) (w:ej) (Y:Ints w am O mod) (hi:bP w a n L) :
  Calls prog 43 #[.agg #[cG P,cG M,.slice am O I,cG N,.slice a n c]] w λe w'=>e = ec #[cG (bY (ga P M mod N L).2.1:Nat),cG (ga P M mod N L).2.2]/\SJ w w':=by
 have Z:Hid (∀V,SJ w V->Calls prog 97 #[.agg #[cG P,cG M,.slice am O I,cG N,.slice a n c]] V (oE P M mod N L V)):=λV r=>J5 P M am O I mod N a n c L V (Y.ai r) (hi.ai r);obtain ⟨R,A⟩:∃R,ga P M mod N L=R:=⟨_,rfl⟩
 unfold oE at Z;rw [A] at Z ⊢;obtain ⟨C,S⟩:∃C,R.2.2=C:=⟨_,rfl⟩
 rw [S] at Z ⊢;obtain ⟨z,E⟩:∃z,bY R.2.1=z:=⟨_,rfl⟩
 rw [E];have Hz:=Z5 E;clear Y hi A S E;go_enter func43,ntmps43;go_wp2_with fail;obtain ⟨U,D⟩:∃U:ej,U=w.alloc (.cells #[cG P,cG M,.slice am O I,cG N,.slice a n c] 27):=⟨_,rfl⟩
 rw [<- D];have K:SJ w U:=by rw [D];exact aD _ _
 clear D;refine (Z U K).mono ?_;rintro e j ⟨F,ar,nr,cr,ab,nb,cb,rfl,h1,h2⟩;have hF:=RU K F;have X:=iL ab nb cb R.2.1 j h2;rw [Hz.out] at X;have H:=Z5 X;clear X;clear h1 h2;go_wp2_with fail;refine H.mono ?_;rintro e w' ⟨rfl,G⟩;obtain rfl:=G.symm;go_wp2_with fail;go_ret2;exact ⟨rfl,hF⟩
section
open Go.RowKit
end
section
open Go.RowKit
end
section
open Go.RowKit
end
end Go.Proofs.YthglbncgemdcbaaGreat
