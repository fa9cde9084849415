import Derived.Test.YthglbncgemdcbaaGreatHE32
namespace Go.Proofs.YthglbncgemdcbaaGreat
set_option linter.all false
set_option maxRecDepth 100000
set_option maxHeartbeats 16000000
open Go.RowKit Go.Proofs.Tryz
theorem uX {P M : Int} {mod : LI} (hB : ba P M mod=true) (am : OA) (mn cm : Nat) (ax : OA) (n cx : Nat) (x : LI) (i : Int) (w : World) (hmod : Ints w am mn mod) (hx : Ints w ax n x) (hxe : (ah P M.toNat mod).va x) (hn : n<=1000000) :
  Calls prog 51 #[.agg #[.int .i64 P,.int .i64 M,.slice am mn cm],.slice ax n cx,.int .i64 i] w λe w'=>∃a c a2 c2,e = .returned (.tuple #[.slice a (bH x n i).length c,.slice a2 (bH x n i).length c2]) /\
   Ints w' a (bH x n i).length (bH x n i)/\Ints w' a2 (bH x n i).length ((bH x n i).map λj=>(ah P M.toNat mod).ops.neg (nth x j.toNat))/\Mv w w':=by
 obtain ⟨Z,hZ⟩ : ∃Z : Nat->LI,(λk=>bH x k i)=Z:=⟨_,rfl⟩
 have hZk : ∀k,bH x k i=Z k:=λk=>by rw [<- hZ]
 obtain ⟨Y,hY⟩ : ∃Y : Nat->LI,(λk=>(Z k).map λj=>(ah P M.toNat mod).ops.neg (nth x j.toNat))=Y:=⟨_,rfl⟩
 have hYk : ∀k,(Z k).map (λj=>(ah P M.toNat mod).ops.neg (nth x j.toNat))=Y k:=λk=>by rw [<- hY]
 have HG1 : Hid (∀k : Nat,nth x k ≠ 0->(k : Int) ≠ i->Z (k+1)=Z k ++ [(k : Int)]/\Y (k+1)=Y k ++ [(ah P M.toNat mod).ops.neg (nth x k)]):=λk h1 h2=>by
  have e : Z (k+1)=Z k ++ [(k : Int)]:=by rw [<- hZk,<- hZk,gR,GV ⟨h1,h2⟩]
  refine ⟨e,?_⟩;rw [<- hYk,<- hYk,e,II];rfl
 have HG2 : Hid (∀k : Nat,nth x k=0\/(k : Int)=i->Z (k+1)=Z k/\Y (k+1)=Y k):=λk h1=>by
  have e : Z (k+1)=Z k:=by rw [<- hZk,<- hZk,gR,GU];rintro ⟨h2,h3⟩;rcases h1 with h1 | h1;exact h2 h1;exact h3 h1
  exact ⟨e,by rw [<- hYk,<- hYk,e]⟩
 have HGl : Hid (∀k,(Z k).length<=k/\(Y k).length=(Z k).length):=λk=>⟨by rw [<- hZk];exact eT _ _ _,by rw [<- hYk,H8]⟩
 have HZ0 : Hid (Z 0=[]/\Y 0=[]):=⟨by rw [<- hZk];rfl,by rw [<- hYk,<- hZk];rfl⟩
 have HNg : Hid (∀V k,k<n->Calls prog 107 #[.agg #[.int .i64 P,.int .i64 M,.slice am mn cm],.int .i64 (nth x k)] V λe w'=>e = .returned (.int .i64 ((ah P M.toNat mod).ops.neg (nth x k)))/\Mv V w'):=λV k hk =>
  BB hB _ V (hxe.nth (by rw [hx.len];exact hk))
 rw [hZk,hYk];generalize (ah P M.toNat mod).ops.neg=ng at *;have HI:=Z5 hx;have hpl:=hx.pl;clear hZk hYk hZ hY hxe hmod hx hB;go_enter func51,ntmps51;go_upto_region 1 with fail;obtain ⟨W,hW⟩ : ∃W : World,W=w.alloc (.cells #[.int .i64 P,.int .i64 M,.slice am mn cm] 24):=⟨_,rfl⟩
 rw [<- hW];have hbW : Mv w W:=by rw [hW];exact an _ _
 have x0 : aO W w.heap.size [.int .i64 P,.int .i64 M,.slice am mn cm]:=by rw [hW];exact LZ _ _ _ rfl
 have HbW:=Z5 hbW;have HX:=Z5 x0;clear hW x0 hbW;go_wp2_with fail;go_loopw [8,9,10] (λsv fv iv wr=>∃(k g : Nat) (a8 : OA) (c8 : Nat) (a9 : OA) (c9 : Nat),k<=n/\iv = .int .i64 k/\Hid ((Z k).length=g)/\sv = .slice a8 g c8/\fv = .slice a9 g c9/\Hid (k8 W.heap.size wr a8 c8 (Z k) a9 c9 (Y k))/\Mv W wr) (λ_ _ iv _=>n - (intOf iv).toNat);case atStart=>exact ⟨0,0,none,0,none,0,G0 _,rfl,by show _=_;rw [HZ0.out.1];rfl,rfl,rfl,by rw [HZ0.out.1,HZ0.out.2];exact k8.start _ _,GS _ _⟩
 case round =>
  obtain ⟨k,g,a8,c8,a9,c9,hk,rfl,Hg,rfl,rfl,HO,hbr⟩:=hrel
  generalize wr=U at *
  by_cases hlt : k<n
  ·have hgk : g<=k:=by have h:=(HGl.out k).1;rw [Hg.out] at h;omega
   have hbwU:=LY HbW.out hbr
   have ck:=(HI.out.af hbwU).cell k hlt
   have hG1:=HG1.out k
   have hG2:=HG2.out k
   have hNg:=λV=>HNg.out V k hlt
   obtain ⟨y,hy⟩ : ∃y,nth x k=y:=⟨_,rfl⟩
   have HS : Hid (∀V,Mv W V->V.cell? ⟨w.heap.size,0,none⟩=some (.int .i64 P)/\V.cell? ⟨w.heap.size,1,none⟩=some (.int .i64 M)/\V.cell? ⟨w.heap.size,2,none⟩=some (.slice am mn cm)/\V.cell? ⟨ablk ax,aL ax+k,none⟩=some (.int .i64 y)):=λV hV=>by have y1:=HX.out.af hV;have h2:=(HI.out.af (LY HbW.out hV)).cell k hlt;rw [hy] at h2;exact ⟨y1.cell 0 rfl,y1.cell 1 rfl,y1.cell 2 rfl,h2⟩
   rw [hy] at ck hG1 hG2 hNg
   clear hy
   by_cases hki : (k : Int)=i
   ·have Hn:=Z5 (hG2 (.inr hki))
    have d2 : ((k : Int) != i)=false:=by simpa using hki
    clear hG1 hG2 hki hNg
    go_wp2_with fail
    go_roundw
    case rel=>exact ⟨k+1,g,a8,c8,a9,c9,by omega,by go_num,by show _=_;rw [Hn.out.1];exact Hg.out,rfl,rfl,by rw [Hn.out.1,Hn.out.2];exact HO.out,hbr⟩
    case measure=>simp [intOf] <;> omega
   have d2 : ((k : Int) != i)=true:=by simpa using hki
   by_cases hy0 : y=0
   ·have Hn:=Z5 (hG2 (.inl hy0))
    have d1 : (y != 0)=false:=by simpa using hy0
    clear hG1 hG2 hy0 hki hNg
    go_wp2_with fail
    go_roundw
    case rel=>exact ⟨k+1,g,a8,c8,a9,c9,by omega,by go_num,by show _=_;rw [Hn.out.1];exact Hg.out,rfl,rfl,by rw [Hn.out.1,Hn.out.2];exact HO.out,hbr⟩
    case measure=>simp [intOf] <;> omega
   have d1 : (y != 0)=true:=by simpa using hy0
   have Hn:=Z5 (hG1 hy0 hki)
   obtain ⟨z,hz⟩ : ∃z,ng y=z:=⟨_,rfl⟩
   rw [hz] at hNg Hn
   have HNk:=Z5 hNg
   have HYl : Hid ((Y k).length=g):=by show _=_;rw [(HGl.out k).2];exact Hg.out
   clear hG1 hG2 hy0 hki hNg hz ck
   have hcn:=bm U (.int .i64 k) 3
   have hbn:=an U (.cells #[.int .i64 k] 3)
   have hown1 : (U.alloc (.cells #[.int .i64 k] 3)).ownsRow W.heap.size 3 1 (.slice a8 g c8) g ((Z k).map (Value.int .i64)):=by have h:=(HO.out.af hbn).o1;rw [Hg.out] at h;exact h
   have hsz:=hbr.size
   obtain ⟨b0,b1,b2,b3⟩:=HS.out U hbr
   go_upto_region 7 with (at_builtin;refine aU rfl _ _ 22 3 rfl (.int .i64 0) 8 underlying22 bg rfl W.heap.size a8 g c8 _ rfl hown1 ⟨U.heap.size,0,none⟩ 1 (.int .i64 k) rfl hcn rfl (by omega) (by unfold maxLen;omega) (by simp;omega) ?_;intro a5 c5 w5 hown5 hgr5 hap5)
   have hO5 : k8 W.heap.size w5 a5 c5 (Z k ++ [(k : Int)]) a9 c9 (Y k):=k8.push (HO.out.af hbn) (by rw [Hg.out];exact hown5) (by rw [Hg.out];exact hgr5) hap5
   have hb5 : Mv W w5:=L3 (LY hbr hbn) hown1 hgr5 (GQ _) (by simp;omega)
   have HO5:=Z5 (Hi hO5 hb5)
   have hsz5:=hb5.size
   have hk1 : (k : Int)<n:=by omega
   clear hcn hbn hown1 hown5 hgr5 hap5 hO5 hb5 b0 b1 b2 b3 hbr hbwU hsz
   generalize w5=X at *
   obtain ⟨b0,b1,b2,b3⟩:=HS.out X HO5.out.2
   go_region_held3 (λV=>V.cell? ⟨w.heap.size,0,none⟩=some (.int .i64 P)/\V.cell? ⟨w.heap.size,1,none⟩=some (.int .i64 M)/\V.cell? ⟨w.heap.size,2,none⟩=some (.slice am mn cm)/\V.cell? ⟨ablk ax,aL ax+k,none⟩=some (.int .i64 y))
    ((refine HS.out _ ?_;first | exact hb7 | exact LY HO5.out.2 hb4w | exact LY HO5.out.2 (GS _ _).drew | exact LY HO5.out.2 hB4 | exact (LY HO5.out.2 hB4).drew))
    (first
     | (go_at_call 107;((with_reducible refine (HNk.out _).mono ?_);rintro e w4 ⟨rfl,hb4⟩;have hb4w : Mv X w4:=LY (GS _ _).drew hb4;have hB4:=L5 hb4w (.cells #[.int .i64 z] 3);have hP4:=HO5.out.1.af hB4;have hO4:=hP4.o2;rw [HYl.out] at hO4))
     | (refine iM (by rfl) (.tmp 31) (.tmp 38) 22 3 (by rfl) (.int .i64 0) 8 underlying22 bg (by rfl) W.heap.size a9 g c9 ((Y k).map (Value.int .i64)) (by rfl) (by exact hO4) _ 1 1 [.int .i64 z] (by rfl) (λ_=>rfl) rfl (by intro j hj;obtain rfl : j=0:=(by omega);exact fS _ _ _ rfl) (by intro y hy;simp at hy;subst hy;rfl) (by omega) (by unfold maxLen;omega) (by exact H7 hsz5 hB4.size) ?_;intro a7 c7 w7 hown7 hgr7 hap7;have hb7 : Mv W w7:=(by first | exact L3 (LY HO5.out.2 hB4) hO4 hgr7 (GQ _) (H7 hsz5 hB4.size) | exact L3 (LY HO5.out.2 hB4).drew (by exact hO4) hgr7 (GQ _) (H7 hsz5 hB4.drew.size))))
   all_goals (
    go_wp2_with fail
    go_roundw
    case rel=>exact ⟨k+1,g+1,a5,c5,a7,c7,by omega,by go_num,by show _=_;rw [Hn.out.1,H5,Hg.out];rfl,rfl,rfl,by rw [Hn.out.1,Hn.out.2];exact (k8.push hP4.symm (by rw [HYl.out];exact hown7) (by rw [HYl.out];exact hgr7) hap7).symm,hb7⟩
    case measure=>simp [intOf] <;> omega)
  ·obtain rfl : k=n:=by omega
   have HF : Hid (Ints U a8 (Z k).length (Z k)/\Ints U a9 (Z k).length (Y k)):=by have h2:=(L0 HO.out.o2).1;rw [(HGl.out k).2] at h2;exact ⟨(L0 HO.out.o1).1,h2⟩
   have hF:=LY HbW.out hbr
   go_wp2_with fail
   go_ret2
   exact ⟨a8,c8,a9,c9,by rw [Hg.out] <;> rfl,HF.out.1,HF.out.2,hF⟩
theorem oN {P M : Int} {mod : LI} {N : Int} {L : Ll} {i : Int} : gH P M mod N L i=if aG P M mod N L=0 then (if i<0\/N<=i then 6 else oD P M mod N.toNat L i) else aG P M mod N L:=by
 unfold gH ie;by_cases h : aG P M mod N L=0
 ·rw [GV h,GV h];by_cases h2 : i<0\/N<=i
  ·rw [GV h2,GV h2,GU (by decide)]
  ·rw [GU h2,GU h2,GV rfl]
 ·rw [GU h,GU h,GU h]
theorem kj (P M : Int) (am : OA) (mn cm : Nat) (mod : LI) (N : Int) (a : OA) (n c : Nat) (L : Ll) (i : Int) (w : World) (hmod : Ints w am mn mod) (hi : bC w a n L) :
  Calls prog 16 #[.agg #[.int .i64 P,.int .i64 M,.slice am mn cm,.int .i64 N,.slice a n c],.int .i64 i] w (iN (gH P M mod N L i) (bW P M mod N.toNat L i) (gZ P M mod N.toNat L i) w):=by
 have HCk : Hid (∀V,Mv w V->Calls prog 35 #[.agg #[.int .i64 P,.int .i64 M,.slice am mn cm,.int .i64 N,.slice a n c]] V λe w'=>e = .returned (.int .i64 (aG P M mod N L))/\Mv V w'):=λV hV=>lG P M am mn cm mod N a n c L V (hmod.af hV) (hi.af hV);have HD : Hid (∀V,Mv w V->Calls prog 49 #[.agg #[.int .i64 P,.int .i64 M,.slice am mn cm,.int .i64 N,.slice a n c]] V (na (Dz P M mod N L) (mS P M mod N.toNat L) V)):=λV hV=>wP P M am mn cm mod N a n c L V (hmod.af hV) (hi.af hV);have HDe : Hid (aG P M mod N L=0->Dz P M mod N L=qE P M mod N.toNat L):=λh=>by rw [Dz,GV h]
 have HB : Hid (aG P M mod N L=0->0<=i->i<N->∀V aW nW cW,bC V aW nW (mS P M mod N.toNat L)->Calls prog 50 #[.slice aW nW cW,.int .i64 i] V λe w'=>Mv V w'/\∃ar nr cr,e = .returned (.slice ar nr cr)/\jU w' ar nr (dX P M mod N.toNat L i)):=λhE h0 h1 V aW nW cW hW=>by
  obtain ⟨m,rfl,_,hm64,_⟩:=bf hE;rw [GW] at hW ⊢;obtain ⟨j,rfl⟩ : ∃j : Nat,i=j:=⟨i.toNat,by omega⟩
  have h:=vX aW nW cW (mS P M mod m L) m j V hW (λr hr=>((lL hE).1 hr).1.1) (by omega) hm64;have e : dX P M mod m L (j : Nat)=bstL m (j : Nat) (mS P M mod m L) nW:=by rw [dX,hW.len]
  rw [e];exact h
 have HH : Hid (aG P M mod N L=0->dX P M mod N.toNat L i ≠ []->∀V ax nx cx,Mv w V->Ints V ax nx (dX P M mod N.toNat L i)->Calls prog 51 #[.agg #[.int .i64 P,.int .i64 M,.slice am mn cm],.slice ax nx cx,.int .i64 i] V λe w' =>
   ∃a c a2 c2,e = .returned (.tuple #[.slice a (bW P M mod N.toNat L i).length c,.slice a2 (bW P M mod N.toNat L i).length c2])/\Ints w' a (bW P M mod N.toNat L i).length (bW P M mod N.toNat L i)/\Ints w' a2 (bW P M mod N.toNat L i).length (gZ P M mod N.toNat L i)/\Mv V w'):=λhE hne V ax nx cx hV hx=>by
  obtain ⟨m,rfl,_,hm64,_⟩:=bf hE;rw [GW] at hne hx ⊢;have hl:=my hE hne;have hnx : nx=m:=by rw [<- hx.len];exact hl
  subst hnx;have hme : (ah P M.toNat mod).va (dX P M mod nx L i):=by
   rcases mA hE i with ⟨h1,_⟩ | ⟨h1,_,_⟩
   ·exact absurd h1 hne
   ·exact ((lL hE).1 h1).1.2
  exact uX (aQ hE).1 am mn cm ax nx cx _ i V (hmod.af hV) hx hme (by omega)
 have HE : Hid (gH P M mod N L i=if aG P M mod N L=0 then (if i<0\/N<=i then 6 else if qE P M mod N.toNat L=0 then (if dX P M mod N.toNat L i=[] then 11 else 0) else qE P M mod N.toNat L) else aG P M mod N L):=by show _=_;rw [oN];rfl
 unfold na at HD;generalize gH P M mod N L i=er at *;generalize aG P M mod N L=ce at *;generalize Dz P M mod N L=dd at *;generalize qE P M mod N.toNat L=de at *;generalize bW P M mod N.toNat L i=S at *;generalize gZ P M mod N.toNat L i=C at *;generalize dX P M mod N.toNat L i=x at *;generalize mS P M mod N.toNat L=Dw at *;clear hmod hi;go_enter func16,ntmps16;go_upto_region 1 with fail;obtain ⟨W,hW⟩ : ∃W : World,W=w.alloc (.cells #[.int .i64 P,.int .i64 M,.slice am mn cm,.int .i64 N,.slice a n c] 27):=⟨_,rfl⟩
 rw [<- hW];have hbW : Mv w W:=by rw [hW];exact an _ _
 have x0 : aO W w.heap.size [.int .i64 P,.int .i64 M,.slice am mn cm,.int .i64 N,.slice a n c]:=by rw [hW];exact LZ _ _ _ rfl
 have HX:=Z5 x0;have HbW:=Z5 hbW;have c0:=x0.cell 0 rfl;have c1:=x0.cell 1 rfl;have c2:=x0.cell 2 rfl;have c3:=x0.cell 3 rfl;have c4:=x0.cell 4 rfl;clear hW x0 hbW;go_wp2_with fail;refine (HCk.out W HbW.out).mono ?_;rintro e w1 ⟨rfl,hb1⟩;have hF1:=LY HbW.out hb1;clear c0 c1 c2 c3 c4;have y1:=HX.out.af hb1;have c3:=y1.cell 3 rfl;by_cases h0 : ce=0;rotate_left
 ·have d0 : (ce != 0)=true:=by simpa using h0
  have HR : Hid (er=ce):=by show _=_;rw [HE.out,GU h0]
  have H0:=Z5 h0;clear h0 HD HDe HB HH y1;go_wp2_with fail;go_ret3;exact ⟨hF1,.inl ⟨by rw [HR.out];exact H0.out,by rw [HR.out] <;> rfl⟩⟩
 have d0 : (ce != 0)=false:=by simp [h0]
 have HE1 : Hid (er=if i<0\/N<=i then 6 else if de=0 then (if x=[] then 11 else 0) else de):=by show _=_;rw [HE.out,GV h0]
 have HDe1 : Hid (dd=de):=HDe.out h0;have HB1:=Z5 (HB.out h0);have HH1:=Z5 (HH.out h0);clear h0 HE HDe HB HH;by_cases h1 : i<0
 ·have d1 : decide (i<0)=true:=Ig h1;have HR : Hid (er=6):=by show _=_;rw [HE1.out,GV (.inl h1)]
  clear h1 HD y1;go_wp2_with fail;go_ret3;exact ⟨hF1,.inl ⟨by rw [HR.out];decide,by rw [HR.out] <;> rfl⟩⟩
 have d1 : decide (i<0)=false:=Ic h1;by_cases h2 : N<=i
 ·have d2 : decide (N<=i)=true:=Ig h2;have HR : Hid (er=6):=by show _=_;rw [HE1.out,GV (.inr h2)]
  clear h1 h2 HD y1;go_wp2_with fail;go_ret3;exact ⟨hF1,.inl ⟨by rw [HR.out];decide,by rw [HR.out] <;> rfl⟩⟩
 have d2 : decide (N<=i)=false:=Ic h2;have HE2 : Hid (er=if de=0 then (if x=[] then 11 else 0) else de):=by show _=_;rw [HE1.out,GU (by omega)]
 have HB2:=Z5 (HB1.out (by omega) (by omega));have c0:=y1.cell 0 rfl;have c1:=y1.cell 1 rfl;have c2:=y1.cell 2 rfl;have c4:=y1.cell 4 rfl;rw [HDe1.out] at HD;clear y1 HE1 HB1 HDe1;go_wp2_with fail;refine (HD.out w1 hF1).mono ?_;rintro e w2 ⟨hb2,⟨h3,rfl⟩ | ⟨h3,aW,nW,cW,rfl,hM⟩⟩
 ·have hF2:=LY hF1 hb2;have d3 : (de != 0)=true:=by simpa using h3
  have HR : Hid (er=de):=by show _=_;rw [HE2.out,GU h3]
  have H3:=Z5 h3;clear c0 c1 c2 c3 c4 h3 h1 h2;go_wp2_with fail;go_ret3;exact ⟨hF2,.inl ⟨by rw [HR.out];exact H3.out,by rw [HR.out] <;> rfl⟩⟩
 have hF2:=LY hF1 hb2;have HE3 : Hid (er=if x=[] then 11 else 0):=by show _=_;rw [HE2.out,GV h3]
 have HBm:=Z5 (HB2.out w2 aW nW cW hM);have d3 : (de != 0)=false:=by simp [h3]
 have y2:=HX.out.af (LY hb1 hb2);have HY2:=Z5 y2;clear c0 c1 c2 c3 c4 hM h1 h2 y2 h3;go_wp2_with fail;refine HBm.out.mono ?_;rintro e w3 ⟨hb3,ax,nx,cx,rfl,hxq⟩;have hF3:=LY hF2 hb3;have heq:=λ(w : World) (a : OA) (l c : Nat)=>Go.run_eql_slice_nil (P:=prog) w 22 3 a l c underlying22;by_cases h4 : x=[]
 ·have hin : ax.isNone=true:=by rw [hxq.2];exact Ig h4
  have HR : Hid (er=11):=by show _=_;rw [HE3.out,GV h4]
  clear h4 hxq;go_wp2_with fail;go_ret3;exact ⟨hF3,.inl ⟨by rw [HR.out];decide,by rw [HR.out] <;> rfl⟩⟩
 have hin : ax.isNone=false:=by rw [hxq.2];exact Ic h4
 have HR : Hid (er=0):=by show _=_;rw [HE3.out,GU h4]
 have HHm:=Z5 (HH1.out h4 w3 ax nx cx hF3 hxq.1);have y3:=HY2.out.af hb3;have c0:=y3.cell 0 rfl;have c1:=y3.cell 1 rfl;have c2:=y3.cell 2 rfl;clear h4 hxq y3 HH1;go_wp2_with fail;refine HHm.out.mono ?_;rintro e w4 ⟨a4,k4,a5,k5,rfl,hI4,hI5,hb4⟩;have hF4:=LY hF3 hb4;have H4:=Z5 (Hi hI4 hI5);clear c0 c1 c2 hI4 hI5;go_wp2_with fail;go_ret3;exact ⟨hF4,.inr ⟨HR.out,a4,k4,a5,k5,rfl,H4.out.1,H4.out.2⟩⟩
theorem u0 {O : aM} {d y : LI} {S : LI} (hb : ∀k,k<S.length->0<=nth S k) : ∀k,k<=S.length->dotL O (S.map λj=>O.neg (nth d j.toNat)) (gI S y) k=repTo O d y S k
 | 0,_=>rfl
 | k+1,hk=>by
  rw [dotL,repTo,u0 hb k (by omega)];congr 2
  ·rw [aj (by simp;omega),IF,aj (show k<S.length by omega)]
  ·rw [nL S y (by omega)]
theorem q8 (P M : Int) (am : OA) (mn cm : Nat) (mod : LI) (N : Int) (a : OA) (n c : Nat) (L : Ll) (i : Int) (ay : OA) (ny cy : Nat) (y : LI) (w : World) (hmod : Ints w am mn mod) (hi : bC w a n L) (hy : Ints w ay ny y) :
  Calls prog 18 #[.agg #[.int .i64 P,.int .i64 M,.slice am mn cm,.int .i64 N,.slice a n c],.int .i64 i,.slice ay ny cy] w λe w'=>e = .returned (.tuple #[.int .i64 (rB P M mod N L i y),.int .i64 (lu P M mod N L i y)])/\Mv w w':=by
 have HCk : Hid (∀V,Mv w V->Calls prog 35 #[.agg #[.int .i64 P,.int .i64 M,.slice am mn cm,.int .i64 N,.slice a n c]] V λe w'=>e = .returned (.int .i64 (aG P M mod N L))/\Mv V w'):=λV hV=>lG P M am mn cm mod N a n c L V (hmod.af hV) (hi.af hV);have HH : Hid (∀V,Mv w V->Calls prog 16 #[.agg #[.int .i64 P,.int .i64 M,.slice am mn cm,.int .i64 N,.slice a n c],.int .i64 i] V (iN (gH P M mod N L i) (bW P M mod N.toNat L i) (gZ P M mod N.toNat L i) V)):=λV hV=>kj P M am mn cm mod N a n c L i V (hmod.af hV) (hi.af hV);have HLs : Hid (aG P M mod N L=0->∀V,Mv w V->Calls prog 36 #[.agg #[.int .i64 P,.int .i64 M,.slice am mn cm],.slice ay ny cy,.int .i64 N] V λe w'=>e = .returned (.int .i64 (if (ny : Int) ≠ N then 4 else if dR (ah P M.toNat mod).q y=false then 2 else 0))/\Mv V w'):=λhE V hV=>by
  obtain ⟨m,rfl,_⟩:=bf hE;have h:=wz P M am mn cm ay ny cy y m V (hy.af hV);have e1 : kd (aI P M) y m=(if (ny : Int) ≠ (m : Int) then 4 else if dR (ah P M.toNat mod).q y=false then 2 else 0):=by
   rw [(oT hE).1];unfold kd;rw [hy.len];by_cases h1 : ny=m
   ·rw [GV h1,GU (by omega)];unfold iU;cases dR ((ah P M.toNat mod).q : Int) y <;> rfl
   ·rw [GU h1,GV (by omega)]
  rw [e1] at h;exact h
 have HPk : Hid (gH P M mod N L i=0->(ny : Int)=N->∀V as' cs,Mv w V->Ints V as' (bW P M mod N.toNat L i).length (bW P M mod N.toNat L i)->Calls prog 59 #[.slice ay ny cy,.slice as' (bW P M mod N.toNat L i).length cs] V λe w' =>
   ∃a1 c1,e = .returned (.slice a1 (bW P M mod N.toNat L i).length c1)/\Ints w' a1 (bW P M mod N.toNat L i).length (gI (bW P M mod N.toNat L i) y)/\Mv V w'):=λh hN V as' cs hV hS=>by
  have hE : aG P M mod N L=0:=by
   rw [oN] at h;split at h
   ·assumption
   ·rename_i hE;exact absurd h hE
  obtain ⟨m,rfl,_,hm64,_⟩:=bf hE;rw [GW] at hS ⊢;have hnm : ny=m:=by omega
  subst hnm;have hlt : ∀k,k<(bW P M mod ny L i).length->0<=nth (bW P M mod ny L i) k/\nth (bW P M mod ny L i) k<ny:=λk hk=>by have h:=aH hk;rw [bW] at h;exact oR h
  have hle : (bW P M mod ny L i).length<=ny:=eT _ _ _;refine (AT ay ny cy y as' _ cs _ V (hy.af hV) hS hlt (by omega)).mono ?_;rintro e w' ⟨a1,c1,rfl,hown,hb⟩;have hl : (gI (bW P M mod ny L i) y).length=(bW P M mod ny L i).length:=by simp [gI]
  rw [hl] at hown ⊢;exact ⟨a1,c1,rfl,(L0 hown).1,hb⟩
 have HDt : Hid (gH P M mod N L i=0->(ny : Int)=N->dR (ah P M.toNat mod).q y=true->∀V a1 c1 a2 c2,Mv w V->Ints V a1 (bW P M mod N.toNat L i).length (gZ P M mod N.toNat L i)->Ints V a2 (bW P M mod N.toNat L i).length (gI (bW P M mod N.toNat L i) y) ->
   Calls prog 58 #[.agg #[.int .i64 P,.int .i64 M,.slice am mn cm],.slice a1 (bW P M mod N.toNat L i).length c1,.slice a2 (bW P M mod N.toNat L i).length c2] V λe w'=>e = .returned (.int .i64 (repTo (ah P M.toNat mod).ops (dX P M mod N.toNat L i) y (bW P M mod N.toNat L i) (bW P M mod N.toNat L i).length))/\Mv V w'):=λh hN hq V a1 c1 a2 c2 hV h1 h2=>by
  have hE : aG P M mod N L=0:=by
   rw [oN] at h;split at h
   ·assumption
   ·rename_i hE;exact absurd h hE
  obtain ⟨m,rfl,_,hm64,F,_⟩:=bf hE;rw [GW] at h1 h2 ⊢;have hnm : ny=m:=by omega
  subst hnm;have hye : (ah P M.toNat mod).va y:=po hq;have hyl:=hy.len;have hlt : ∀k,k<(bW P M mod ny L i).length->0<=nth (bW P M mod ny L i) k/\nth (bW P M mod ny L i) k<ny:=λk hk=>by have h:=aH hk;rw [bW] at h;exact oR h
  have hde : ∀j : Nat,j<ny->(ah P M.toNat mod).El (nth (dX P M mod ny L i) j):=λj hj=>by
   rcases mA hE i with ⟨h1,_⟩ | ⟨h1,_,_⟩
   ·rw [h1];exact F.zero
   ·exact L8 ((lL hE).1 h1).1 hj
  rw [<- u0 (λk hk=>(hlt k hk).1) _ (GQ _)];refine C5 (aQ hE).1 am mn cm a1 _ c1 _ a2 c2 _ V (hmod.af hV) h1 h2 (λk hk=>?_) (λk hk=>?_)
  ·show (ah P M.toNat mod).El (nth ((bW P M mod ny L i).map λj=>(ah P M.toNat mod).neg (nth (dX P M mod ny L i) j.toNat)) k);rw [aj (by simpa using hk),IF];have h3:=hlt k hk;rw [aj hk] at h3;exact F.cl.neg _ (hde _ (by omega))
  ·rw [nL _ y hk];have h3:=hlt k hk;exact hye _ (aH (by rw [hyl];omega))
 have HE : Hid (lu P M mod N L i y=if aG P M mod N L=0 then (if i<0\/N<=i then 6 else if (ny : Int) ≠ N then 4 else if dR (ah P M.toNat mod).q y=false then 2 else gH P M mod N L i) else aG P M mod N L):=by
  show _=_;rw [oN,lu,hy.len];unfold ie;by_cases h : aG P M mod N L=0
  ·simp only [GV h];by_cases h2 : i<0\/N<=i
   ·simp only [GV h2];rw [GU (by decide)]
   ·simp only [GU h2];rw [GV trivial]
  ·simp only [GU h]
 have HV : Hid (rB P M mod N L i y=if lu P M mod N L i y=0 then repTo (ah P M.toNat mod).ops (dX P M mod N.toNat L i) y (bW P M mod N.toNat L i) (bW P M mod N.toNat L i).length else 0):=rfl;generalize rB P M mod N L i y=v at *;generalize lu P M mod N L i y=er at *;generalize gH P M mod N L i=he at *;generalize gZ P M mod N.toNat L i=C at *;generalize hR : repTo (ah P M.toNat mod).ops (dX P M mod N.toNat L i) y (bW P M mod N.toNat L i) (bW P M mod N.toNat L i).length=rv at *;generalize bW P M mod N.toNat L i=S at *;generalize aG P M mod N L=ce at *;generalize dR (ah P M.toNat mod).q y=eq at *;have HI:=Z5 hy;clear hmod hi hy hR;go_enter func18,ntmps18;go_upto_region 1 with fail;obtain ⟨W,hW⟩ : ∃W : World,W=w.alloc (.cells #[.int .i64 P,.int .i64 M,.slice am mn cm,.int .i64 N,.slice a n c] 27):=⟨_,rfl⟩
 rw [<- hW];have hbW : Mv w W:=by rw [hW];exact an _ _
 have x0 : aO W w.heap.size [.int .i64 P,.int .i64 M,.slice am mn cm,.int .i64 N,.slice a n c]:=by rw [hW];exact LZ _ _ _ rfl
 have HX : Hid (∀V,Mv W V->V.cell? ⟨w.heap.size,0,none⟩=some (.int .i64 P)/\V.cell? ⟨w.heap.size,1,none⟩=some (.int .i64 M)/\V.cell? ⟨w.heap.size,2,none⟩=some (.slice am mn cm)/\V.cell? ⟨w.heap.size,3,none⟩=some (.int .i64 N)/\V.cell? ⟨w.heap.size,4,none⟩=some (.slice a n c)):=λV hV=>by have y:=x0.af hV;exact ⟨y.cell 0 rfl,y.cell 1 rfl,y.cell 2 rfl,y.cell 3 rfl,y.cell 4 rfl⟩
 have HbW:=Z5 hbW;clear hW x0 hbW;obtain ⟨c0,c1,c2,c3,c4⟩:=HX.out W (GS _ _);go_wp2_with fail;refine (HCk.out W HbW.out).mono ?_;rintro e w1 ⟨rfl,hb1⟩;have hF1:=LY HbW.out hb1;clear c0 c1 c2 c3 c4;obtain ⟨c0,c1,c2,c3,c4⟩:=HX.out w1 hb1;by_cases h0 : ce=0;rotate_left
 ·have d0 : (ce != 0)=true:=by simpa using h0
  have HR : Hid (er=ce):=by show _=_;rw [HE.out,GU h0]
  have HR2 : Hid (v=0):=by show _=_;rw [HV.out,GU (by rw [HR.out];exact h0)]
  clear h0 HLs;go_wp2_with fail;go_ret2;exact ⟨by rw [HR.out,HR2.out] <;> rfl,hF1⟩
 have d0 : (ce != 0)=false:=by simp [h0]
 have HE1 : Hid (er=if i<0\/N<=i then 6 else if (ny : Int) ≠ N then 4 else if eq=false then 2 else he):=by show _=_;rw [HE.out,GV h0]
 have HL1:=Z5 (HLs.out h0);clear h0 HE HLs;by_cases h1 : i<0
 ·have d1 : decide (i<0)=true:=Ig h1;have HR : Hid (er=6):=by show _=_;rw [HE1.out,GV (.inl h1)]
  have HR2 : Hid (v=0):=by show _=_;rw [HV.out,GU (by rw [HR.out];decide)]
  clear h1;go_wp2_with fail;go_ret2;exact ⟨by rw [HR.out,HR2.out] <;> rfl,hF1⟩
 have d1 : decide (i<0)=false:=Ic h1;by_cases h2 : N<=i
 ·have d2 : decide (N<=i)=true:=Ig h2;have HR : Hid (er=6):=by show _=_;rw [HE1.out,GV (.inr h2)]
  have HR2 : Hid (v=0):=by show _=_;rw [HV.out,GU (by rw [HR.out];decide)]
  clear h1 h2;go_wp2_with fail;go_ret2;exact ⟨by rw [HR.out,HR2.out] <;> rfl,hF1⟩
 have d2 : decide (N<=i)=false:=Ic h2;have HE2 : Hid (er=if (ny : Int) ≠ N then 4 else if eq=false then 2 else he):=by show _=_;rw [HE1.out,GU (by omega)]
 obtain ⟨le,hle⟩ : ∃le,(if (ny : Int) ≠ N then (4 : Int) else if eq=false then 2 else 0)=le:=⟨_,rfl⟩
 rw [hle] at HL1;have Hle:=Z5 hle;clear h1 h2 HE1 hle;go_wp2_with fail;refine (HL1.out w1 hF1).mono ?_;rintro e w2 ⟨rfl,hb2⟩;have hF2:=LY hF1 hb2;clear c0 c1 c2 c3 c4;obtain ⟨c0,c1,c2,c3,c4⟩:=HX.out w2 (LY hb1 hb2);by_cases h3 : le=0;rotate_left
 ·have d3 : (le != 0)=true:=by simpa using h3
  have HR : Hid (er=le):=by
   show _=_;rw [HE2.out];have h4:=Hle.out;by_cases h5 : (ny : Int) ≠ N
   ·rw [GV h5] at h4 ⊢;exact h4
   ·rw [GU h5] at h4 ⊢;by_cases h6 : eq=false
    ·rw [GV h6] at h4 ⊢;exact h4
    ·rw [GU h6] at h4;exact absurd h4.symm h3
  have HR2 : Hid (v=0):=by show _=_;rw [HV.out,GU (by rw [HR.out];exact h3)]
  clear h3;go_wp2_with fail;go_ret2;exact ⟨by rw [HR.out,HR2.out] <;> rfl,hF2⟩
 have d3 : (le != 0)=false:=by simp [h3]
 have hny : (ny : Int)=N/\eq=true:=by
  have h4:=Hle.out;by_cases h5 : (ny : Int) ≠ N
  ·rw [GV h5] at h4;rw [<- h4] at h3;exact absurd h3 (by decide)
  ·rw [GU h5] at h4;refine ⟨Classical.not_not.1 h5,?_⟩;cases eq
   ·rw [GV rfl] at h4;rw [<- h4] at h3;exact absurd h3 (by decide)
   ·rfl
 have HE3 : Hid (er=he):=by show _=_;rw [HE2.out,GU (by omega),GU (by rw [hny.2];decide)]
 have HN:=Z5 hny;clear h3 hny HE2;go_wp2_with fail;refine (HH.out w2 hF2).mono ?_;rintro e w3 ⟨hb3,⟨h4,rfl⟩ | ⟨h4,a4,k4,a5,k5,rfl,hI4,hI5⟩⟩
 ·have hF3:=LY hF2 hb3;have d4 : (he != 0)=true:=by simpa using h4
  have HR2 : Hid (v=0):=by show _=_;rw [HV.out,GU (by rw [HE3.out];exact h4)]
  clear c0 c1 c2 c3 c4 h4;go_wp2_with fail;go_ret2;exact ⟨by rw [HE3.out,HR2.out] <;> rfl,hF3⟩
 have hF3:=LY hF2 hb3;have HR2 : Hid (v=rv):=by show _=_;rw [HV.out,GV (by rw [HE3.out];exact h4)]
 have HR3 : Hid (er=0):=by show _=_;rw [HE3.out];exact h4
 have HP1:=Z5 (λV (hV : Mv w3 V)=>HPk.out h4 HN.out.1 V a4 k4 (LY hF3 hV) (hI4.af hV));have HD1:=Z5 (λV a2 c2 (hV : Mv w3 V) h=>HDt.out h4 HN.out.1 HN.out.2 V a5 k5 a2 c2 (LY hF3 hV) (hI5.af hV) h);have d4 : (he != 0)=false:=by simp [h4]
 have HXw : Hid (∀V,Mv w3 V->V.cell? ⟨w.heap.size,0,none⟩=some (.int .i64 P)/\V.cell? ⟨w.heap.size,1,none⟩=some (.int .i64 M)/\V.cell? ⟨w.heap.size,2,none⟩=some (.slice am mn cm)/\Mv w3 V):=λV hV=>by obtain ⟨q0,q1,q2,_⟩:=HX.out V (LY (LY (LY hb1 hb2) hb3) hV);exact ⟨q0,q1,q2,hV⟩
 obtain ⟨q,hq⟩ : ∃q,S.length=q:=⟨_,rfl⟩
 rw [hq] at HP1 HD1 ⊢;clear c0 c1 c2 c3 c4 hI4 hI5 h4 hq HPk HDt HH;obtain ⟨c0,c1,c2,_⟩:=HXw.out w3 (GS _ _);go_wp2_with fail;go_region_held3 (λV=>V.cell? ⟨w.heap.size,0,none⟩=some (.int .i64 P)/\V.cell? ⟨w.heap.size,1,none⟩=some (.int .i64 M)/\V.cell? ⟨w.heap.size,2,none⟩=some (.slice am mn cm)/\Mv w3 V)
  ((refine HXw.out _ ?_;first | exact (GS _ _).drew | assumption | (go_split_ands;first | assumption | exact LY (by assumption) (by assumption))))
  (first
   | (go_at_call 59;((with_reducible refine (HP1.out _ (by first | exact (GS _ _).drew | (go_split_ands;assumption))).mono ?_);rintro e w4 ⟨a6,k6,rfl,hI6,hb6⟩;have hB6 : Mv w3 w4:=(by first | exact LY (GS _ _).drew hb6 | (go_split_ands;exact LY (by assumption) hb6));have HI6:=Z5 hI6;clear hI6))
   | (go_at_call 58;((with_reducible refine (HD1.out _ a6 k6 (by first | exact hB6 | exact hB6.drew) (by first | exact HI6.out | exact HI6.out.af (GS _ _).drew)).mono ?_);rintro e w5 ⟨rfl,hb7⟩;have hB7 : Mv w3 w5:=(by first | exact LY hB6 hb7 | exact LY hB6.drew hb7))))
 all_goals (
  go_wp2_with fail
  go_ret2
  exact ⟨by rw [HR2.out,HR3.out] <;> rfl,LY hF3 (by first | exact hB7 | (go_split_ands;assumption))⟩)
def bN : Ll:=[[1,0,1,0],[0,1,1,1]]
def kt : Ll:=[[1,1,1,0],[0,1,0,1],[1,1,1,0],[0,1,0,1]]
theorem D6 : gH 2 1 [] 4 bN 0=0:=by decide +kernel
theorem DS : gH 2 1 [] 4 bN 1=0:=by decide +kernel
theorem EH : bW 2 1 [] 4 bN 0=[1,2]:=by decide +kernel
theorem EB : bW 2 1 [] 4 bN 1=[3]:=by decide +kernel
theorem DJ : gZ 2 1 [] 4 bN 0=[1,1]:=by decide +kernel
theorem EY : gZ 2 1 [] 4 bN 1=[1]:=by decide +kernel
theorem zO : iS 2 1 [] 4 bN=0:=by decide +kernel
theorem lO : dy 2 1 [] 4 bN=kt:=by decide +kernel
theorem DB : DI 2 1 [] 4 bN=2:=by decide +kernel
theorem D7 : lu 2 1 [] 4 bN 0 [0,1,0,1]=0:=by decide +kernel
theorem Eh : rB 2 1 [] 4 bN 0 [0,1,0,1]=1:=by decide +kernel
theorem DM : uE 6 3 2=0:=by decide +kernel
theorem Es : tP 6 3 2=3:=by decide +kernel
theorem Ea : Ai 7 1 [] 2 2 3=0:=by decide +kernel
theorem zT : ba 7 1 []=true:=by decide +kernel
theorem Ak : (ah 7 (1 : Int).toNat []).q=7:=by decide +kernel
theorem ES : (DA 7 1 [] 2 2 3).length=3:=by have F:=dM zT;obtain ⟨g,hG⟩:=ot zT;exact (F1 F hG (r:=2) (c:=2) (k:=3) (by decide) (by rw [Ak];decide) (by rw [Ak];decide) (by decide) (by decide)).2.2.1
def rW : List Ll:=[[[1],[3],[]],[[0],[2]],[[1],[3],[]],[[0],[1]]]
theorem DH : fb 2 1 [] 4 bN 0=[[0,1,0,1]]:=by decide +kernel
theorem EM : fb 2 1 [] 4 bN 1=[[1,0,1,1]]:=by decide +kernel
theorem Ew : fb 2 1 [] 4 bN 2=[[0,1,0,1]]:=by decide +kernel
theorem DW : fb 2 1 [] 4 bN 3=[[1,1,1,0]]:=by decide +kernel
theorem zo : fW 2 1 [] 4 [[0,1,0,1]] [1,1,1,0] 2=0:=by decide +kernel
theorem DO : fW 2 1 [] 4 [[1,0,1,1]] [0,1,0,1] 1=0:=by decide +kernel
theorem D4 : fW 2 1 [] 4 [[1,1,1,0]] [0,1,0,1] 1=0:=by decide +kernel
theorem zK : uZ 2 1 [] 4 bN 0=(0,[[1],[3],[]]):=by unfold uZ;rw [show fb 2 1 [] 4 bN ((0 : Nat) : Int)=_ from DH,lO];show kF 2 1 [] 4 [[0,1,0,1]] [1,1,1,0] 2=_;rw [kF,GV zo,Al];decide +kernel
theorem Aa : uZ 2 1 [] 4 bN 1=(0,[[0],[2]]):=by unfold uZ;rw [show fb 2 1 [] 4 bN ((1 : Nat) : Int)=_ from EM,lO];show kF 2 1 [] 4 [[1,0,1,1]] [0,1,0,1] 1=_;rw [kF,GV DO,Al];decide +kernel
theorem zD : uZ 2 1 [] 4 bN 2=(0,[[1],[3],[]]):=by unfold uZ;rw [show fb 2 1 [] 4 bN ((2 : Nat) : Int)=_ from Ew,lO];show kF 2 1 [] 4 [[0,1,0,1]] [1,1,1,0] 2=_;rw [kF,GV zo,Al];decide +kernel
theorem zN : uZ 2 1 [] 4 bN 3=(0,[[0],[1]]):=by unfold uZ;rw [show fb 2 1 [] 4 bN ((3 : Nat) : Int)=_ from DW,lO];show kF 2 1 [] 4 [[1,1,1,0]] [0,1,0,1] 1=_;rw [kF,GV D4,Al];decide +kernel
theorem EA : zw 2 1 [] 4 bN=0:=by unfold zw;rw [GV zO];show lcTo 2 1 [] 4 bN 4=0;simp [lcTo,zK,Aa,zD,zN]
theorem Ek : rF 2 1 [] 4 bN 4=rW:=by unfold rF;show [_,_,_,_]=_;simp only [zK,Aa,zD,zN];rfl
theorem DN : zH 2 1 [] 4 bN kt rW=0:=by decide +kernel
theorem Eo : yd kt 4=[2,1,2,1]:=by decide +kernel
theorem lits (V : World) (l : LI) (cs : Array Value) (h : cs=(l.map (Value.int .i64)).toArray) (hl : l.length<=1000) {g : Nat} (hg : g=V.heap.size) : Ints (V.alloc (.cells cs 3)) (some ⟨g,0,none⟩) l.length l:=by subst h;refine ⟨rfl,λ_=>rfl,by unfold maxLen;omega,λi hi=>?_⟩;have h1:=aE V ((l.map (Value.int .i64)).toArray) 3 hg i;rw [aj hi];simpa [ablk,aL,hi] using h1
theorem Gr (V : World) {p q : Addr} {n1 n2 c1 c2 : Nat} {l1 l2 : LI} (h1 : Ints V (some p) n1 l1) (h2 : Ints V (some q) n2 l2) {g : Nat} (hg : g=V.heap.size) : bC (V.alloc (.cells #[.slice (some p) n1 c1,.slice (some q) n2 c2] 22)) (some ⟨g,0,none⟩) 2 [l1,l2] :=
 ⟨rfl,λ_=>rfl,by unfold maxLen;omega,λk hk=>by
  have h:=aE V #[.slice (some p) n1 c1,.slice (some q) n2 c2] 22 hg k;match k,hk with
  | 0,_=>exact ⟨some p,n1,c1,h,h1.af (an _ _)⟩
  | 1,_=>exact ⟨some q,n2,c2,h,h2.af (an _ _)⟩⟩
theorem CP (w : World) (o1 o2 o3 o4 : Obj) : Mv w ((((w.alloc o1).alloc o2).alloc o3).alloc o4):=LY (jI w o1 o2 o3) (an _ _)
theorem Gh (V : World) {p q r s : Addr} {n1 n2 n3 n4 c1 c2 c3 c4 : Nat} {l1 l2 l3 l4 : LI} (h1 : Ints V (some p) n1 l1) (h2 : Ints V (some q) n2 l2) (h3 : Ints V (some r) n3 l3) (h4 : Ints V (some s) n4 l4) {g : Nat} (hg : g=V.heap.size) :
  bC (V.alloc (.cells #[.slice (some p) n1 c1,.slice (some q) n2 c2,.slice (some r) n3 c3,.slice (some s) n4 c4] 22)) (some ⟨g,0,none⟩) 4 [l1,l2,l3,l4] :=
 ⟨rfl,λ_=>rfl,by unfold maxLen;omega,λk hk=>by
  have h:=aE V #[.slice (some p) n1 c1,.slice (some q) n2 c2,.slice (some r) n3 c3,.slice (some s) n4 c4] 22 hg k;match k,hk with
  | 0,_=>exact ⟨some p,n1,c1,h,h1.af (an _ _)⟩
  | 1,_=>exact ⟨some q,n2,c2,h,h2.af (an _ _)⟩
  | 2,_=>exact ⟨some r,n3,c3,h,h3.af (an _ _)⟩
  | 3,_=>exact ⟨some s,n4,c4,h,h4.af (an _ _)⟩⟩
theorem F3 (w : World) (o1 o2 o3 o4 o5 : Obj) : Mv w (((((w.alloc o1).alloc o2).alloc o3).alloc o4).alloc o5):=LY (CP w o1 o2 o3 o4) (an _ _)
theorem jl.B3 {w w' : World} {a : OA} {n : Nat} {TT : List Ll} (h : jl w a n TT) (hb : Mv w w') : jl w' a n TT :=
 ⟨h.len,h.pl,h.max,λi hi=>by obtain ⟨b,m,c,h1,h2,h3⟩:=h.cell i hi;exact ⟨b,m,c,ak hb h1,h2.af hb,h3⟩⟩
def Ap (V : World) : World:=((((V.alloc (.cells #[.int .i64 1,.int .i64 1,.int .i64 1,.int .i64 0] 3)).alloc (.cells #[.int .i64 0,.int .i64 1,.int .i64 0,.int .i64 1] 3)).alloc (.cells #[.int .i64 1,.int .i64 1,.int .i64 1,.int .i64 0] 3)).alloc (.cells #[.int .i64 0,.int .i64 1,.int .i64 0,.int .i64 1] 3)).alloc
  (.cells #[.slice (some ⟨V.heap.size,0,none⟩) 4 4,.slice (some ⟨V.heap.size+1,0,none⟩) 4 4,.slice (some ⟨V.heap.size+1+1,0,none⟩) 4 4,.slice (some ⟨V.heap.size+1+1+1,0,none⟩) 4 4] 22)
theorem Bl (V : World) : bC (Ap V) (some ⟨V.heap.size+1+1+1+1,0,none⟩) 4 kt:=by
 have i1:=lits V [1,1,1,0] #[.int .i64 1,.int .i64 1,.int .i64 1,.int .i64 0] rfl (by decide) rfl;have i2:=lits (V.alloc (.cells #[.int .i64 1,.int .i64 1,.int .i64 1,.int .i64 0] 3)) [0,1,0,1] #[.int .i64 0,.int .i64 1,.int .i64 0,.int .i64 1] rfl (by decide) (g:=V.heap.size+1) (by simp);have i3:=lits ((V.alloc (.cells #[.int .i64 1,.int .i64 1,.int .i64 1,.int .i64 0] 3)).alloc (.cells #[.int .i64 0,.int .i64 1,.int .i64 0,.int .i64 1] 3)) [1,1,1,0] #[.int .i64 1,.int .i64 1,.int .i64 1,.int .i64 0] rfl (by decide) (g:=V.heap.size+1+1) (by simp);have i4:=lits (((V.alloc (.cells #[.int .i64 1,.int .i64 1,.int .i64 1,.int .i64 0] 3)).alloc (.cells #[.int .i64 0,.int .i64 1,.int .i64 0,.int .i64 1] 3)).alloc (.cells #[.int .i64 1,.int .i64 1,.int .i64 1,.int .i64 0] 3)) [0,1,0,1] #[.int .i64 0,.int .i64 1,.int .i64 0,.int .i64 1] rfl (by decide) (g:=V.heap.size+1+1+1) (by simp);unfold Ap;generalize hU : (((V.alloc (.cells #[.int .i64 1,.int .i64 1,.int .i64 1,.int .i64 0] 3)).alloc (.cells #[.int .i64 0,.int .i64 1,.int .i64 0,.int .i64 1] 3)).alloc (.cells #[.int .i64 1,.int .i64 1,.int .i64 1,.int .i64 0] 3)).alloc (.cells #[.int .i64 0,.int .i64 1,.int .i64 0,.int .i64 1] 3)=U at i4 ⊢;have k1 : Ints U (some ⟨V.heap.size,0,none⟩) 4 [1,1,1,0]:=by rw [<- hU];exact ((i1.af (an _ _)).af (an _ _)).af (an _ _)
 have k2 : Ints U (some ⟨V.heap.size+1,0,none⟩) 4 [0,1,0,1]:=by rw [<- hU];exact (i2.af (an _ _)).af (an _ _)
 have k3 : Ints U (some ⟨V.heap.size+1+1,0,none⟩) 4 [1,1,1,0]:=by rw [<- hU];exact i3.af (an _ _)
 have hs : V.heap.size+1+1+1+1=U.heap.size:=by rw [<- hU];simp
 exact Gh U k1 k2 k3 i4 hs
theorem od (V : World) : Mv V (Ap V):=F3 _ _ _ _ _ _
theorem mz {V : World} {gm : Nat} (hM : bC V (some ⟨gm,0,none⟩) 2 bN) (i : Int) (S D : LI) (h0 : gH 2 1 [] 4 bN i=0) (h1 : bW 2 1 [] 4 bN i=S) (h2 : gZ 2 1 [] 4 bN i=D) :
  Calls prog 15 #[.agg #[.int .i64 2,.int .i64 1,.slice none 0 0,.int .i64 4,.slice (some ⟨gm,0,none⟩) 2 2],.int .i64 i] V λe w'=>Mv V w'/\∃a c a2 c2,e = .returned (.tuple #[.slice a S.length c,.slice a2 S.length c2,.int .i64 0])/\Ints w' a S.length S/\Ints w' a2 S.length D:=by
 refine (lk 2 1 none 0 0 [] 4 (some ⟨gm,0,none⟩) 2 2 bN i V (L6 _ _) hM).mono ?_;rintro e w' ⟨b,⟨h,_⟩ | ⟨_,a,c,a2,c2,rfl,h3,h4⟩⟩
 ·exact absurd h0 h
 ·have e1 : bW 2 1 [] (4 : Int).toNat bN i=S:=h1;have e2 : gZ 2 1 [] (4 : Int).toNat bN i=D:=h2;rw [e1] at h3 h4;rw [e2] at h4;exact ⟨b,a,c,a2,c2,by rw [e1],h3,h4⟩
theorem tj {V : World} {gm : Nat} (hM : bC V (some ⟨gm,0,none⟩) 2 bN) : Calls prog 28 #[.agg #[.int .i64 2,.int .i64 1,.slice none 0 0,.int .i64 4,.slice (some ⟨gm,0,none⟩) 2 2]] V
  λe w'=>Mv V w'/\∃as' cs at' ct,e = .returned (.tuple #[.agg #[.slice as' 4 cs,.slice at' 4 ct],.int .i64 0])/\bC w' as' 4 kt/\jl w' at' 4 rW:=by
 refine (rD 2 1 none 0 0 [] 4 (some ⟨gm,0,none⟩) 2 2 bN V (L6 _ _) hM).mono ?_;rintro e w' ⟨b,⟨h0,_⟩ | ⟨_,as',cs,at',ct,rfl,h1,h2⟩⟩
 ·exact absurd EA h0
 ·have e1 : dy 2 1 [] (4 : Int).toNat bN=kt:=lO;have e2 : rF 2 1 [] (4 : Int).toNat bN (4 : Int).toNat=rW:=Ek;rw [e1] at h1;rw [e2] at h2;exact ⟨b,as',cs,at',ct,rfl,h1,h2⟩
theorem yV {V : World} {gm : Nat} {as' at' : OA} {cs ct : Nat} (hM : bC V (some ⟨gm,0,none⟩) 2 bN) (h1 : bC V as' 4 kt) (h2 : jl V at' 4 rW) :
  Calls prog 31 #[.agg #[.int .i64 2,.int .i64 1,.slice none 0 0,.int .i64 4,.slice (some ⟨gm,0,none⟩) 2 2],.agg #[.slice as' 4 cs,.slice at' 4 ct]] V λe w'=>Mv V w'/\∃a c,e = .returned (.tuple #[.slice a 4 c,.int .i64 0])/\Ints w' a 4 [2,1,2,1]:=by
 refine (vd 2 1 none 0 0 [] 4 (some ⟨gm,0,none⟩) 2 2 bN as' 4 cs _ at' 4 ct _ V (L6 _ _) hM h1 h2).mono ?_;rintro e w' ⟨b,⟨h0,_⟩ | ⟨_,a,c,rfl,h⟩⟩
 ·exact absurd DN h0
 ·have e1 : yd kt (4 : Int).toNat=[2,1,2,1]:=Eo;rw [e1] at h;exact ⟨b,a,c,rfl,h⟩
theorem rE {V : World} {gm : Nat} (hM : bC V (some ⟨gm,0,none⟩) 2 bN) : Calls prog 20 #[.agg #[.int .i64 2,.int .i64 1,.slice none 0 0,.int .i64 4,.slice (some ⟨gm,0,none⟩) 2 2]] V λe w'=>e = .returned (.tuple #[.int .i64 2,.int .i64 0])/\Mv V w':=by have h:=ql 2 1 none 0 0 [] 4 (some ⟨gm,0,none⟩) 2 2 bN V (L6 _ _) hM;rw [DB,zO] at h;exact h
theorem vw {V : World} {gm : Nat} {p : OA} (hM : bC V (some ⟨gm,0,none⟩) 2 bN) (hy : Ints V p 4 [0,1,0,1]) : Calls prog 17 #[.agg #[.int .i64 2,.int .i64 1,.slice none 0 0,.int .i64 4,.slice (some ⟨gm,0,none⟩) 2 2],.int .i64 0,.slice p 4 4] V λe w'=>e = .returned (.tuple #[.int .i64 1,.int .i64 0])/\Mv V w':=by have h:=me 2 1 none 0 0 [] 4 (some ⟨gm,0,none⟩) 2 2 bN 0 p 4 4 [0,1,0,1] V (L6 _ _) hM hy;rw [Eh,D7] at h;exact h
theorem yF (V : World) : Calls prog 22 #[.int .i64 6,.int .i64 3,.int .i64 2] V λe w'=>e = .returned (.tuple #[.int .i64 3,.int .i64 0])/\w'=V:=by have h:=vb 6 3 2 V;rw [Es,DM] at h;exact h
theorem Ei (V : World) : Calls prog 25 #[.agg #[.int .i64 7,.int .i64 1,.slice none 0 0],.int .i64 2,.int .i64 2,.int .i64 3] V λe w' =>
  ∃a1 c1 a2 c2,e = .returned (.tuple #[.agg #[.int .i64 7,.int .i64 1,.slice a1 0 c1,.int .i64 6,.slice a2 3 c2],.int .i64 0])/\Mv V w':=by
 refine (C7 7 1 none 0 0 [] 2 2 3 V (L6 _ _) (by omega)).mono ?_;rintro e w' ⟨b,⟨h0,_⟩ | ⟨_,a1,c1,a2,c2,rfl,_,_⟩⟩
 ·exact absurd Ea h0
 ·have e1 : (DA 7 1 [] (2 : Int).toNat (2 : Int).toNat (3 : Int).toNat).length=3:=ES;exact ⟨a1,c1,a2,c2,by rw [e1];rfl,b⟩
theorem kp (w : World) : Calls prog 13 #[] w λe w'=>e = .returned (.bool true)/\Mv w w':=by
 go_enter func13,ntmps13;go_upto_region 1 with fail;go_cut [1] (λv wx=>∃g gm,v = .pointer (some ⟨g,0,none⟩)/\aO wx g [.int .i64 2,.int .i64 1,.slice none 0 0,.int .i64 4,.slice (some ⟨gm,0,none⟩) 2 2]/\bC wx (some ⟨gm,0,none⟩) 2 bN/\Mv w wx);case first =>
  go_wp2_with fail
  go_meet
  have i1:=lits w [1,0,1,0] #[.int .i64 1,.int .i64 0,.int .i64 1,.int .i64 0] rfl (by decide) rfl
  have i2:=lits (w.alloc (.cells #[.int .i64 1,.int .i64 0,.int .i64 1,.int .i64 0] 3)) [0,1,1,1] #[.int .i64 0,.int .i64 1,.int .i64 1,.int .i64 1] rfl (by decide) (g:=w.heap.size+1) (by simp)
  have hm:=Gr (c1:=4) (c2:=4) _ (i1.af (an _ (.cells #[.int .i64 0,.int .i64 1,.int .i64 1,.int .i64 1] 3))) i2 (g:=w.heap.size+1+1) (by simp)
  have hm2:=hm.af (an _ (.cells #[.int .i64 2,.int .i64 1,.slice none 0 0,.int .i64 4,.slice (some ⟨w.heap.size+1+1,0,none⟩) 2 2] 27))
  exact ⟨_,w.heap.size+1+1,rfl,LZ _ [.int .i64 2,.int .i64 1,.slice none 0 0,.int .i64 4,.slice (some ⟨w.heap.size+1+1,0,none⟩) 2 2] _ (by simp),hm2,CP _ _ _ _ _⟩
 obtain ⟨g,gm,rfl,hx,hM,hbW⟩:=hcut;generalize wc=W at *;have HS : Hid (∀V,Mv W V->V.cell? ⟨g,0,none⟩=some (.int .i64 2)/\V.cell? ⟨g,1,none⟩=some (.int .i64 1)/\V.cell? ⟨g,2,none⟩=some (.slice none 0 0)/\V.cell? ⟨g,3,none⟩=some (.int .i64 4)/\V.cell? ⟨g,4,none⟩=some (.slice (some ⟨gm,0,none⟩) 2 2)):=λV hV=>by have h:=hx.af hV;exact ⟨h.cell 0 rfl,h.cell 1 rfl,h.cell 2 rfl,h.cell 3 rfl,h.cell 4 rfl⟩
 have HM : Hid (∀V,Mv W V->bC V (some ⟨gm,0,none⟩) 2 bN):=λV hV=>hM.af hV;have HW:=Z5 hbW;clear hx hM hbW;have e0:=GS W.heap.size W;obtain ⟨c0,c1,c2,c3,c4⟩:=HS.out _ e0;have Hc:=Z5 (mz (HM.out _ e0) 0 [1,2] [1,1] D6 EH DJ);go_wp2_with fail;refine Hc.out.mono ?_;rintro e V1 ⟨b1,a1,k1,d1,j1,rfl,hO1,hP1⟩;have e1:=LY e0 b1;have HO1:=Z5 (λV hV=>⟨hO1.af hV,hP1.af hV⟩ : ∀V,Mv V1 V->Ints V a1 2 [1,2]/\Ints V d1 2 [1,1]);clear c0 c1 c2 c3 c4 Hc hO1 hP1;obtain ⟨c0,c1,c2,c3,c4⟩:=HS.out _ e1;have Hc:=Z5 (mz (HM.out _ e1) 1 [3] [1] DS EB EY);go_wp2_with fail;refine Hc.out.mono ?_;rintro e V2 ⟨b2,a2,k2,d2,j2,rfl,hO2,hP2⟩;have e2:=LY e1 b2;have HO2:=Z5 (λV hV=>⟨hO2.af hV,hP2.af hV⟩ : ∀V,Mv V2 V->Ints V a2 1 [3]/\Ints V d2 1 [1]);clear c0 c1 c2 c3 c4 Hc hO2 hP2;obtain ⟨c0,c1,c2,c3,c4⟩:=HS.out _ e2;have Hc:=Z5 (rE (HM.out _ e2));go_wp2_with fail;refine Hc.out.mono ?_;rintro e V3 ⟨rfl,b3⟩;have e3:=LY e2 b3;clear c0 c1 c2 c3 c4 Hc;have n3:=an V3 (.cells #[.int .i64 0,.int .i64 1,.int .i64 0,.int .i64 1] 3);have Hc:=Z5 (vw (HM.out _ (LY e3 n3)) (lits V3 [0,1,0,1] #[.int .i64 0,.int .i64 1,.int .i64 0,.int .i64 1] rfl (by decide) rfl));obtain ⟨c0,c1,c2,c3,c4⟩:=HS.out _ e3;go_wp2_with fail;refine Hc.out.mono ?_;rintro e V4 ⟨rfl,b4⟩;have e4:=LY e3 (LY n3 b4);clear c0 c1 c2 c3 c4 Hc;have Hc:=Z5 (yF V4);go_wp2_with fail;refine Hc.out.mono ?_;rintro e V4 ⟨rfl,rfl⟩;clear Hc;have Hc:=Z5 (Ei V4);go_wp2_with fail;refine Hc.out.mono ?_;rintro e V5' ⟨p5,q5,a5,k5,rfl,b5⟩;clear Hc;have n5:=an V5' (.cells #[.int .i64 7,.int .i64 1,.slice p5 0 q5,.int .i64 6,.slice a5 3 k5] 27);have f5:=LY b5 n5;have e5:=LY e4 f5;have HO5:=Z5 (λV hV=>⟨((LZ V5' [.int .i64 7,.int .i64 1,.slice p5 0 q5,.int .i64 6,.slice a5 3 k5] 27 rfl).af hV).cell 3 rfl,((LZ V5' [.int .i64 7,.int .i64 1,.slice p5 0 q5,.int .i64 6,.slice a5 3 k5] 27 rfl).af hV).cell 4 rfl⟩ : ∀V,Below (V5'.alloc (.cells #[.int .i64 7,.int .i64 1,.slice p5 0 q5,.int .i64 6,.slice a5 3 k5] 27)).heap.size (V5'.alloc (.cells #[.int .i64 7,.int .i64 1,.slice p5 0 q5,.int .i64 6,.slice a5 3 k5] 27)) V ->
  V.cell? ⟨V5'.heap.size,3,none⟩=some (.int .i64 6)/\V.cell? ⟨V5'.heap.size,4,none⟩=some (.slice a5 3 k5))
 have Hc:=Z5 (tj (HM.out _ e5));obtain ⟨c0,c1,c2,c3,c4⟩:=HS.out _ e5;go_wp2_with fail;refine Hc.out.mono ?_;rintro e V6' ⟨b6,as',cs,at',ct,rfl,hA6,hT6⟩;clear c0 c1 c2 c3 c4 Hc;have n6:=an V6' (.cells #[.slice as' 4 cs,.slice at' 4 ct] 48);have f6:=LY b6 n6;have e6:=LY e5 f6;have HO6:=Z5 (λV hV=>⟨((LZ V6' [.slice as' 4 cs,.slice at' 4 ct] 48 rfl).af hV).cell 0 rfl,((LZ V6' [.slice as' 4 cs,.slice at' 4 ct] 48 rfl).af hV).cell 1 rfl,(hA6.af n6).af hV,(hT6.B3 n6).B3 hV⟩ : ∀V,Below (V6'.alloc (.cells #[.slice as' 4 cs,.slice at' 4 ct] 48)).heap.size (V6'.alloc (.cells #[.slice as' 4 cs,.slice at' 4 ct] 48)) V ->
  V.cell? ⟨V6'.heap.size,0,none⟩=some (.slice as' 4 cs)/\V.cell? ⟨V6'.heap.size,1,none⟩=some (.slice at' 4 ct)/\bC V as' 4 kt/\jl V at' 4 rW)
 clear hA6 hT6;have t6:=HO6.out _ (GS _ _);have Hc:=Z5 (yV (cs:=cs) (ct:=ct) (HM.out _ e6) t6.2.2.1 t6.2.2.2);obtain ⟨c0,c1,c2,c3,c4⟩:=HS.out _ e6;have x0:=t6.1;have x1:=t6.2.1;clear t6;go_wp2_with fail;refine Hc.out.mono ?_;rintro e V7 ⟨b7,a7,k7,rfl,hO7⟩;have e7:=LY e6 b7;have HO7:=Z5 (λV hV=>hO7.af hV : ∀V,Mv V7 V->Ints V a7 4 [2,1,2,1]);have G6:=Z5 b7;have G5:=Z5 (LY f6 b7);have G2:=Z5 (LY b3 (LY (LY n3 b4) (LY f5 (LY f6 b7))));have G1:=Z5 (LY b2 G2.out);have E7:=Z5 (LY HW.out e7);clear c0 c1 c2 c3 c4 x0 x1 Hc hO7 b1 b2 b3 b4 b5 b6 b7 n3 n5 n6 f5 f6 e0 e1 e2 e3 e4 e5 e6 e7;go_upto_region 12 with fail;have q1:=an V7 (.cells #[.int .i64 1,.int .i64 2] 3);have s1':=LY (GS V7.heap.size V7) q1;have Hc:=Z5 (dK a1 2 k1 [1,2] (some ⟨V7.heap.size,0,none⟩) 2 2 [1,2] (HO1.out _ (LY G1.out s1')).1 (lits V7 [1,2] #[.int .i64 1,.int .i64 2] rfl (by decide) rfl));rw [Ig rfl] at Hc;go_wp2_with fail;refine Hc.out.mono ?_;rintro e Y1 ⟨rfl,r1⟩;have s1:=LY s1' r1.below;clear Hc q1 s1' r1;have q2:=an Y1 (.cells #[.int .i64 1,.int .i64 1] 3);have s2':=LY s1 q2;have Hc:=Z5 (dK d1 2 j1 [1,1] (some ⟨Y1.heap.size,0,none⟩) 2 2 [1,1] (HO1.out _ (LY G1.out s2')).2 (lits Y1 [1,1] #[.int .i64 1,.int .i64 1] rfl (by decide) rfl));rw [Ig rfl] at Hc;go_wp2_with fail;refine Hc.out.mono ?_;rintro e Y2 ⟨rfl,r2⟩;have s2:=LY s2' r2.below;clear Hc q2 s2' r2;have q3:=an Y2 (.cells #[.int .i64 3] 3);have s3':=LY s2 q3;have Hc:=Z5 (dK a2 1 k2 [3] (some ⟨Y2.heap.size,0,none⟩) 1 1 [3] (HO2.out _ (LY G2.out s3')).1 (lits Y2 [3] #[.int .i64 3] rfl (by decide) rfl));rw [Ig rfl] at Hc;go_wp2_with fail;refine Hc.out.mono ?_;rintro e Y3 ⟨rfl,r3⟩;have s3:=LY s3' r3.below;clear Hc q3 s3' r3;have q4:=an Y3 (.cells #[.int .i64 1] 3);have s4':=LY s3 q4;have Hc:=Z5 (dK d2 1 j2 [1] (some ⟨Y3.heap.size,0,none⟩) 1 1 [1] (HO2.out _ (LY G2.out s4')).2 (lits Y3 [1] #[.int .i64 1] rfl (by decide) rfl));rw [Ig rfl] at Hc;go_wp2_with fail;refine Hc.out.mono ?_;rintro e Y4 ⟨rfl,r4⟩;have s4:=LY s4' r4.below;clear Hc q4 s4' r4;have q5:=an Y4 (.cells #[.int .i64 2,.int .i64 1,.int .i64 2,.int .i64 1] 3);have s5':=LY s4 q5;have Hc:=Z5 (dK a7 4 k7 [2,1,2,1] (some ⟨Y4.heap.size,0,none⟩) 4 4 [2,1,2,1] (HO7.out _ s5') (lits Y4 [2,1,2,1] #[.int .i64 2,.int .i64 1,.int .i64 2,.int .i64 1] rfl (by decide) rfl));rw [Ig rfl] at Hc;go_wp2_with fail;refine Hc.out.mono ?_;rintro e Y5 ⟨rfl,r5⟩;have s5:=LY s5' r5.below;clear Hc q5 s5' r5;obtain ⟨y3,y4⟩:=HO5.out _ (LY G5.out s5);obtain ⟨x0,_,hA,_⟩:=HO6.out _ (LY G6.out s5);have Hc:=Z5 (lj as' 4 cs kt _ 4 4 kt (hA.af (od Y5)) (Bl Y5));rw [Ig rfl] at Hc;unfold Ap at Hc;clear hA;go_wp2_with fail;refine Hc.out.mono ?_;rintro e Y6 ⟨rfl,r6⟩;have hF:=LY E7.out (LY (LY s5 (od Y5)) r6.below);go_wp2_with fail;go_ret;exact ⟨rfl,hF⟩
theorem uA (P M : Int) (am : OA) (mn cm : Nat) (mod : LI) (N : Int) (a : OA) (n c : Nat) (L : Ll) (w : World) (hmod : Ints w am mn mod) (hi : bC w a n L) :
  Calls prog 14 #[.agg #[.int .i64 P,.int .i64 M,.slice am mn cm,.int .i64 N,.slice a n c]] w (jY w):=by
 have HFw : Hid (∀V,Mv w V->Calls prog 32 #[.agg #[.int .i64 P,.int .i64 M,.slice am mn cm,.int .i64 N,.slice a n c],.int .i64 120] V (jY V)):=λV hV=>xu P M am mn cm N a n c 120 L V (hi.af hV) (by omega);have HDu : Hid (∀V,Mv w V->Calls prog 45 #[.agg #[.int .i64 P,.int .i64 M,.slice am mn cm,.int .i64 N,.slice a n c]] V (iK P M mod N L V)):=λV hV=>nQ P M am mn cm mod N a n c L V (hmod.af hV) (hi.af hV);have HSz : Hid (∀V a1 n1 c1 a2 n2 c2,Ints V a1 n1 mod->bC V a2 n2 (aZ (ah P M.toNat mod) L N.toNat)->Calls prog 46 #[.agg #[.int .i64 P,.int .i64 M,.slice a1 n1 c1,.int .i64 N,.slice a2 n2 c2]] V λe w'=>∃x y,e = .returned (.tuple #[.int .i64 x,.int .i64 y])/\Mv V w'):=λV a1 n1 c1 a2 n2 c2 h1 h2=>by refine (nZ P M a1 n1 c1 mod N a2 n2 c2 _ V h1 h2).mono ?_;rintro e w' ⟨h3,h4⟩;exact ⟨_,_,h3,h4⟩
 unfold iK at HDu;obtain ⟨D,hD⟩ : ∃D,aZ (ah P M.toNat mod) L N.toNat=D:=⟨_,rfl⟩
 obtain ⟨E,hE⟩ : ∃E,aG P M mod N L=E:=⟨_,rfl⟩
 rw [hD,hE] at HDu;rw [hD] at HSz;clear hmod hi hD hE;go_enter func14,ntmps14;go_upto_region 1 with fail;obtain ⟨W,hW⟩ : ∃W : World,W=(w.alloc (.cells #[.int .i64 P,.int .i64 M,.slice am mn cm,.int .i64 N,.slice a n c] 27)):=⟨_,rfl⟩
 rw [<- hW];have hbW : Mv w W:=by rw [hW];exact an _ _
 have x0 : aO W w.heap.size [.int .i64 P,.int .i64 M,.slice am mn cm,.int .i64 N,.slice a n c]:=by rw [hW];exact LZ _ _ _ rfl
 clear hW;have HX:=Z5 x0;have HbW:=Z5 hbW;have c0:=x0.cell 0 rfl;have c1:=x0.cell 1 rfl;have c2:=x0.cell 2 rfl;have c3:=x0.cell 3 rfl;have c4:=x0.cell 4 rfl;clear x0 hbW;go_wp2_with fail;refine (HFw.out W HbW.out).mono ?_;rintro e U ⟨z,rfl,hb1⟩;clear c0 c1 c2 c3 c4;cases z
 ·have HF:=Z5 (LY HbW.out hb1);clear hb1;go_wp2_with fail;go_ret;exact ⟨_,rfl,HF.out⟩
 have x1:=HX.out.af hb1;have c0:=x1.cell 0 rfl;have c1:=x1.cell 1 rfl;have c2:=x1.cell 2 rfl;have c3:=x1.cell 3 rfl;have c4:=x1.cell 4 rfl;have HbU:=Z5 (LY HbW.out hb1);clear x1;go_wp2_with fail;refine (HDu.out U HbU.out).mono ?_;rintro e V ⟨hb2,h⟩;have x2:=HX.out.af (LY hb1 hb2);have HX2:=Z5 x2;have HbV:=Z5 (LY HbU.out hb2);clear c0 c1 c2 c3 c4 x2 hb1 hb2;rcases h with ⟨h0,rfl⟩ | ⟨h0,a1,d1,a2,d2,rfl,hI,hM⟩
 ·have hEb : (E != 0)=true:=by simpa using h0
  have HF:=Z5 (LY HbV.out (an V (.cells #[.int .i64 0,.int .i64 0,.slice none 0 0,.int .i64 0,.slice none 0 0] 27)));clear h0;go_wp2_with fail;go_ret;exact ⟨_,rfl,HF.out⟩
 ·subst h0;obtain ⟨nm,hnm⟩ : ∃nm,mod.length=nm:=⟨_,rfl⟩
  obtain ⟨k,hk⟩ : ∃k,D.length=k:=⟨_,rfl⟩
  rw [hnm] at hI ⊢;rw [hk] at hM ⊢;clear hnm hk;go_upto_region 6 with fail;obtain ⟨V2,hV2⟩ : ∃V2 : World,V2=V.alloc (.cells #[.int .i64 P,.int .i64 M,.slice a1 nm d1,.int .i64 N,.slice a2 k d2] 27):=⟨_,rfl⟩
  rw [<- hV2];have hb3 : Mv V V2:=by rw [hV2];exact an _ _
  have y0 : aO V2 V.heap.size [.int .i64 P,.int .i64 M,.slice a1 nm d1,.int .i64 N,.slice a2 k d2]:=by rw [hV2];exact LZ _ _ _ rfl
  have c0:=y0.cell 0 rfl;have c1:=y0.cell 1 rfl;have c2:=y0.cell 2 rfl;have c3:=y0.cell 3 rfl;have c4:=y0.cell 4 rfl;have HS2:=Z5 (HSz.out V2 a1 nm d1 a2 k d2 (hI.af hb3) (hM.af hb3));have HX3:=Z5 (HX2.out.af hb3);have HbV2:=Z5 (LY HbV.out hb3);clear hV2 hb3 y0 hI hM;go_wp2_with fail;refine HS2.out.mono ?_;rintro e w4 ⟨x,y,rfl,hb4⟩;have q3:=(HX3.out.af hb4).cell 3 rfl;have HF:=Z5 (LY HbV2.out hb4);clear c0 c1 c2 c3 c4 hb4 HS2;obtain ⟨z1,hz1⟩ : ∃z,decide (N<=20)=z:=⟨_,rfl⟩
  obtain ⟨z2,hz2⟩ : ∃z,(y != 0)=z:=⟨_,rfl⟩
  obtain ⟨z3,hz3⟩ : ∃z,decide (N<=9)=z:=⟨_,rfl⟩
  obtain ⟨z4,hz4⟩ : ∃z,decide (x<=600)=z:=⟨_,rfl⟩
  cases z1 <;> cases z2 <;> cases z3 <;> cases z4
  all_goals (
   go_wp2_with fail
   go_ret
   exact ⟨_,rfl,HF.out⟩)
def qg (w0 : World) (xs : List Value) (A : Ll) : Prop:=(∀j,j<xs.length->∃b m c,xs[j]? = some (.slice b m c)/\Ints w0 b m (ai A j))/\xs.length<=A.length
theorem qg.push {w0 : World} {xs : List Value} {A : Ll} (h : qg w0 xs A) {b : OA} {m c : Nat} (hi : Ints w0 b m (ai A xs.length)) (hl : xs.length<A.length) : qg w0 (xs ++ [.slice b m c]) A:=by
 refine ⟨λj hj=>?_,by rw [H5];exact hl⟩;by_cases e : j=xs.length
 ·subst e;exact ⟨b,m,c,by rw [JP],hi⟩
 ·rw [Ie (by simp at hj;omega)];exact h.1 j (by simp at hj;omega)
theorem qg.jX {w0 V : World} {xs : List Value} {A : Ll} {B n : Nat} {a : OA} {c : Nat} (h : qg w0 xs A) (ho : V.ownsRow B 22 1 (.slice a n c) n xs) (hl : A.length=n) (hx : xs.length=n) (hb : Mv w0 V) (hm : n<=maxLen) : bC V a n A:=by
 obtain ⟨a',c',hv,hp⟩:=Me ho;cases hv
 refine ⟨hl,hp,hm,λj hj=>?_⟩;obtain ⟨b,m,c2,h1,h2⟩:=h.1 j (by omega);exact ⟨b,m,c2,by rw [(bu ho j hj).1];exact h1,h2.af hb⟩
theorem qm (a : OA) (n c : Nat) (l : LI) (a' : OA) (n' c' : Nat) {w : World} (h : Ints w a n l) (h' : Ints w a' n' l) :
  Calls prog 19 #[.slice a n c,.slice a' n' c'] w (fR w true):=by have h1:=dK a n c l a' n' c' l h h';rw [Ig rfl] at h1;exact h1
def DX (er : Int) (S D : LI) (w : World) (e : Ending) (w' : World) : Prop :=
 Mv w w'/\∃a n c a2 n2 c2,e = .returned (.tuple #[.slice a n c,.slice a2 n2 c2,.int .i64 er])/\Ints w' a n S/\Ints w' a2 n2 D
theorem Fa {er : Int} {S D : LI} {w : World} {e : Ending} {w' : World} (h : iN er S D w e w') : DX er (if er=0 then S else []) (if er=0 then D else []) w e w':=by
 obtain ⟨b,⟨h0,rfl⟩ | ⟨h0,a,c,a2,c2,rfl,h1,h2⟩⟩:=h
 ·rw [GU h0,GU h0];exact ⟨b,none,0,0,none,0,0,rfl,L6 _ _,L6 _ _⟩
 ·rw [GV h0,GV h0];exact ⟨b,a,_,c,a2,_,c2,by rw [h0],h1,h2⟩
theorem oJ (P M : Int) (am : OA) (mn cm : Nat) (mod : LI) (N : Int) (a : OA) (n c : Nat) (L : Ll) (i : Int) (ay : OA) (ny cy : Nat) (y : LI) (w : World) (hmod : Ints w am mn mod) (hi : bC w a n L) (hy : Ints w ay ny y) :
  Calls prog 3 #[.agg #[.int .i64 P,.int .i64 M,.slice am mn cm,.int .i64 N,.slice a n c],.int .i64 i,.slice ay ny cy] w λe w'=>e = .returned (.bool true)/\Mv w w':=by
 have HSm : Hid (∀V,Mv w V->Calls prog 14 #[.agg #[.int .i64 P,.int .i64 M,.slice am mn cm,.int .i64 N,.slice a n c]] V (jY V)):=λV hV=>uA P M am mn cm mod N a n c L V (hmod.af hV) (hi.af hV);have H1 : Hid (∀V,Mv w V->Calls prog 15 #[.agg #[.int .i64 P,.int .i64 M,.slice am mn cm,.int .i64 N,.slice a n c],.int .i64 i] V (DX (gH P M mod N L i) (if gH P M mod N L i=0 then bW P M mod N.toNat L i else []) (if gH P M mod N L i=0 then gZ P M mod N.toNat L i else []) V)):=λV hV=>(lk P M am mn cm mod N a n c L i V (hmod.af hV) (hi.af hV)).mono λe w' h=>Fa h;have H2 : Hid (∀V,Mv w V->Calls prog 16 #[.agg #[.int .i64 P,.int .i64 M,.slice am mn cm,.int .i64 N,.slice a n c],.int .i64 i] V (DX (gH P M mod N L i) (if gH P M mod N L i=0 then bW P M mod N.toNat L i else []) (if gH P M mod N L i=0 then gZ P M mod N.toNat L i else []) V)):=λV hV=>(kj P M am mn cm mod N a n c L i V (hmod.af hV) (hi.af hV)).mono λe w' h=>Fa h;have H3 : Hid (∀V,Mv w V->Calls prog 17 #[.agg #[.int .i64 P,.int .i64 M,.slice am mn cm,.int .i64 N,.slice a n c],.int .i64 i,.slice ay ny cy] V λe w'=>e = .returned (.tuple #[.int .i64 (rB P M mod N L i y),.int .i64 (lu P M mod N L i y)])/\Mv V w'):=λV hV=>me P M am mn cm mod N a n c L i ay ny cy y V (hmod.af hV) (hi.af hV) (hy.af hV);have H4 : Hid (∀V,Mv w V->Calls prog 18 #[.agg #[.int .i64 P,.int .i64 M,.slice am mn cm,.int .i64 N,.slice a n c],.int .i64 i,.slice ay ny cy] V λe w'=>e = .returned (.tuple #[.int .i64 (rB P M mod N L i y),.int .i64 (lu P M mod N L i y)])/\Mv V w'):=λV hV=>q8 P M am mn cm mod N a n c L i ay ny cy y V (hmod.af hV) (hi.af hV) (hy.af hV);clear hy;unfold DX at H1 H2;generalize (if gH P M mod N L i=0 then bW P M mod N.toNat L i else [])=S at *;generalize (if gH P M mod N L i=0 then gZ P M mod N.toNat L i else [])=D at *;generalize gH P M mod N L i=er at *;generalize rB P M mod N L i y=x at *;generalize lu P M mod N L i y=er2 at *;clear hmod hi;go_enter func3,ntmps3;go_wp2_with fail;obtain ⟨W,hW⟩ : ∃W : World,W=w.alloc (.cells #[.int .i64 P,.int .i64 M,.slice am mn cm,.int .i64 N,.slice a n c] 27):=⟨_,rfl⟩
 rw [<- hW];have hbW : Mv w W:=by rw [hW];exact an _ _
 have x0 : aO W w.heap.size [.int .i64 P,.int .i64 M,.slice am mn cm,.int .i64 N,.slice a n c]:=by rw [hW];exact LZ _ _ _ rfl
 have HS : Hid (∀V,Mv W V->V.cell? ⟨w.heap.size,0,none⟩=some (.int .i64 P)/\V.cell? ⟨w.heap.size,1,none⟩=some (.int .i64 M)/\V.cell? ⟨w.heap.size,2,none⟩=some (.slice am mn cm)/\V.cell? ⟨w.heap.size,3,none⟩=some (.int .i64 N)/\V.cell? ⟨w.heap.size,4,none⟩=some (.slice a n c)):=λV hV=>by have x1:=x0.af hV;exact ⟨x1.cell 0 rfl,x1.cell 1 rfl,x1.cell 2 rfl,x1.cell 3 rfl,x1.cell 4 rfl⟩
 have HbW:=Z5 hbW;clear hW x0 hbW;refine (kp W).mono ?_;rintro e w1 ⟨rfl,hb1⟩;obtain ⟨c0,c1,c2,c3,c4⟩:=HS.out w1 hb1;go_wp2_with fail;refine (HSm.out w1 (LY HbW.out hb1)).mono ?_;rintro e w2 ⟨z,rfl,hb2⟩;have hB2:=LY hb1 hb2;clear c0 c1 c2 c3 c4;cases z
 ·go_wp2_with fail;refine (kp w2).mono ?_;rintro e w3 ⟨rfl,hb3⟩;have hF:=LY HbW.out (LY hB2 hb3);go_wp2_with fail;go_ret;exact ⟨rfl,hF⟩
 by_cases h100 : 100<ny
 ·go_wp2_with fail;refine (kp w2).mono ?_;rintro e w3 ⟨rfl,hb3⟩;have hF:=LY HbW.out (LY hB2 hb3);go_wp2_with fail;go_ret;exact ⟨rfl,hF⟩
 obtain ⟨c0,c1,c2,c3,c4⟩:=HS.out w2 hB2;go_wp2_with fail;refine (H1.out w2 (LY HbW.out hB2)).mono ?_;rintro e w3 ⟨hb3,a1,n1,k1,a2,n2,k2,rfl,h1,h2⟩;have hB3:=LY hB2 hb3;clear c0 c1 c2 c3 c4;obtain ⟨c0,c1,c2,c3,c4⟩:=HS.out w3 hB3;go_wp2_with fail;refine (H2.out w3 (LY HbW.out hB3)).mono ?_;rintro e w4 ⟨hb4,a3,n3,k3,a4,n4,k4,rfl,h3,h4⟩;have hB4:=LY hB3 hb4;have h1:=h1.af hb4;have h2:=h2.af hb4;clear c0 c1 c2 c3 c4;obtain ⟨c0,c1,c2,c3,c4⟩:=HS.out w4 hB4;go_wp2_with fail;refine (H3.out w4 (LY HbW.out hB4)).mono ?_;rintro e w5 ⟨rfl,hb5⟩;have hB5:=LY hB4 hb5;clear c0 c1 c2 c3 c4;obtain ⟨c0,c1,c2,c3,c4⟩:=HS.out w5 hB5;go_wp2_with fail;refine (H4.out w5 (LY HbW.out hB5)).mono ?_;rintro e w6 ⟨rfl,hb6⟩;have hB6:=LY hB5 hb6;have hb46:=LY hb5 hb6;have HQ1 : Hid (∀V,Mv w6 V->Calls prog 19 #[.slice a1 n1 k1,.slice a3 n3 k3] V (fR V true)):=λV hV=>qm a1 n1 k1 _ a3 n3 k3 ((h1.af hb46).af hV) ((h3.af hb46).af hV);have HQ2 : Hid (∀V,Mv w6 V->Calls prog 19 #[.slice a2 n2 k2,.slice a4 n4 k4] V (fR V true)):=λV hV=>qm a2 n2 k2 _ a4 n4 k4 ((h2.af hb46).af hV) ((h4.af hb46).af hV);have hF:=LY HbW.out hB6;clear c0 c1 c2 c3 c4 h1 h2 h3 h4;go_wp2_with fail;refine (HQ1.out w6 (GS _ _)).mono ?_;rintro e w7 ⟨rfl,r7⟩;go_wp2_with fail;refine (HQ2.out w7 r7.below).mono ?_;rintro e w8 ⟨rfl,r8⟩;have hF2:=LY hF (LY r7.below r8.below);go_wp2_with fail;go_ret;exact ⟨by simp,hF2⟩
end Go.Proofs.YthglbncgemdcbaaGreat
