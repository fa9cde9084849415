import Derived.Test.YtcfmiocdlcapoaaGreatK19
import Derived.Test.YtcfmiocdlcapoaaGreatMMO5
import Derived.Test.YtcfmiocdlcapoaaGreatK21
import Derived.Test.YtcfmiocdlcapoaaGreatK22
import Derived.Test.YtcfmiocdlcapoaaGreatMMO2
import Derived.Test.YtcfmiocdlcapoaaGreatK28
import Derived.Test.YtcfmiocdlcapoaaGreatK12
import Derived.Test.YtcfmiocdlcapoaaGreatK25
import Derived.Test.YtcfmiocdlcapoaaGreatK26
import Derived.Test.YtcfmiocdlcapoaaGreatK29
import Derived.Test.YtcfmiocdlcapoaaGreatK31
import Derived.Test.YtcfmiocdlcapoaaGreatK27
import Derived.Test.YtcfmiocdlcapoaaGreatK9
import Derived.Test.YtcfmiocdlcapoaaGreatMMO1
import Derived.Test.YtcfmiocdlcapoaaGreatK30
namespace Go.Proofs.YtcfmiocdlcapoaaGreat
set_option linter.unusedVariables false
set_option linter.unusedSimpArgs false
set_option linter.unusedSectionVars false
set_option maxRecDepth 100000
set_option maxHeartbeats 4000000
open Go.RowKit
theorem A1 (N : Int) (ra : OA) (rn rc : Nat) (l : Lz) (w : World) (hrow : Ints w ra rn l) :
  Calls Tryz.prog 154 #[.slice ra rn rc,.int .i64 N] w λe w'=>e = .returned (.bool (bF N l))/\w=w':=by
 have Hrl:=Z5 hrow.len
 have hpr:=hrow.pl
 have hmr:=hrow.max
 unfold maxLen at hmr
 go_enter Tryz.func154,Tryz.ntmps154
 go_wp2_with fail
 go_loop [9] (λiv=>∃j : Nat,j<=rn/\iv = .int .i64 j/\Hid (mg N l j=true)) (λiv=>rn - (intOf iv).toNat)
 case atStart=>exact ⟨0,Nat.zero_le _,rfl,by show _=_;simp [mg]⟩
 case round =>
  obtain ⟨j,hj,rfl,hok⟩:=hrel
  by_cases hlt2 : j<rn
  ·have cj:=hrow.cell j hlt2
   have Hbad : Hid (dS N l j=false->bF N l=false):=λhb=>o7 (by rw [Hrl.out];exact hlt2) hb
   by_cases h0 : 0<=nth l j
   ·by_cases h1 : nth l j<N
    ·have d1 : decide (nth l j<0)=false:=by simp;omega
     have d2 : decide (N<=nth l j)=false:=by simp;omega
     by_cases hj0 : j=0
     ·subst hj0
      have Hgood : Hid (dS N l 0=true):=by show _=_;unfold dS;simp [h0,h1]
      rw [Nat.add_zero] at cj
      go_wp2_with fail
      go_round
      case rel=>exact ⟨1,by omega,by go_num,eE hok.out Hgood.out⟩
      case measure=>simp [intOf] <;> omega
     ·have cp:=hrow.cell (j - 1) (by omega)
      have e1 : ((j : Int) - 1).toNat=j - 1:=by omega
      have d3 : decide (0<(j : Int))=true:=by simp;omega
      have d4 : (0 : Int)<=(j : Int) - 1:=by omega
      have d5 : (1 : Int)<=(j : Int):=by omega
      have d6 : (j : Int) - 1<rn:=by omega
      by_cases h2 : nth l (j - 1)<nth l j
      ·have Hgood : Hid (dS N l j=true):=by show _=_;unfold dS;simp [h0,h1,h2]
       have h2' : decide (nth l j<=nth l (j - 1))=false:=by simp;omega
       clear hj0 e1
       go_wp2_with fail
       go_round
       case rel=>exact ⟨j+1,by omega,by go_num,eE hok.out Hgood.out⟩
       case measure=>simp [intOf] <;> omega
      ·have Hb : Hid (bF N l=false):=Hbad.out (by unfold dS;simp [h2,hj0])
       have h2' : decide (nth l j<=nth l (j - 1))=true:=by simp;omega
       clear hj0 e1
       go_wp2_with fail
       go_ret
       exact ⟨aY Hb.out.symm,rfl⟩
    ·have Hb : Hid (bF N l=false):=Hbad.out (by unfold dS;simp [h1])
     have d1 : decide (nth l j<0)=false:=by simp;omega
     have d2 : decide (N<=nth l j)=true:=by simp;omega
     go_wp2_with fail
     go_ret
     exact ⟨aY Hb.out.symm,rfl⟩
   ·have Hb : Hid (bF N l=false):=Hbad.out (by unfold dS;simp [h0])
    have d1 : decide (nth l j<0)=true:=by simp;omega
    go_wp2_with fail
    go_ret
    exact ⟨aY Hb.out.symm,rfl⟩
  ·obtain rfl : j=rn:=by omega
   have Hg : Hid (bF N l=true):=by show _=_;rw [bF,Hrl.out];exact hok.out
   go_wp2_with fail
   go_ret
   exact ⟨aY Hg.out.symm,rfl⟩
def fN (P M : Int) (mod : Lz) (m : Nat) (L : Ll) (w : World) (e : Ending) (w' : World) : Prop :=
 ∃a1 c1 a2 c2,e = .returned (.tuple #[.agg #[.int .i64 P,.int .i64 M,.slice a1 mod.length c1,.int .i64 m,.slice a2 (dr (aa P M.toNat mod) L m).length c2],.int .i64 0])/\dj w.heap.size w' a1 mod.length mod /\
  bN w.heap.size w' a2 (dr (aa P M.toNat mod) L m).length (dr (aa P M.toNat mod) L m)/\Below w.heap.size w w'
theorem rz (P M : Int) (am : OA) (mn cm : Nat) (mod : Lz) (m : Nat) (a : OA) (n c : Nat) (L : Ll) (w : World) (hmod : Ints w am mn mod) (hi : bZ w a n L)
  (hE : dM P M mod m L=0) (hm1 : 1<=m) (hm64 : m<=64) (hmn : mn<=1000000) :
  Calls Tryz.prog 90 #[.agg #[.int .i64 P,.int .i64 M,.slice am mn cm],.agg #[.int .i64 m,.slice a n c]] w (fN P M mod m L w):=by
 go_enter Tryz.func90,Tryz.ntmps90
 go_upto_region 1 with fail
 obtain ⟨W,hW⟩ : ∃W : World,W=((w.alloc (.cells #[.int .i64 P,.int .i64 M,.slice am mn cm] 24)).alloc (.cells #[.int .i64 m,.slice a n c] 82)).alloc (.cells #[.int .i64 0,.int .i64 0,.slice none 0 0,.int .i64 0,.slice none 0 0] 27):=⟨_,rfl⟩
 rw [<- hW]
 have hbW : Below w.heap.size w W:=by rw [hW];exact kO _ _ _ _
 have hsW : W.heap.size=w.heap.size+3:=by rw [hW];simp
 have x0 : aV W w.heap.size [.int .i64 P,.int .i64 M,.slice am mn cm]:=by rw [hW];exact ((aV.new _ _ _ rfl).alloc _).alloc _
 have y0 : aV W (w.heap.size+1) [.int .i64 m,.slice a n c]:=by rw [hW];exact (aV.new _ _ _ (by simp)).alloc _
 have z0 : aV W (w.heap.size+1+1) [.int .i64 0,.int .i64 0,.slice none 0 0,.int .i64 0,.slice none 0 0]:=by rw [hW];exact aV.new _ _ _ (by simp)
 clear hW
 have HC : Hid (Calls Tryz.prog 158 #[.agg #[.int .i64 P,.int .i64 M,.slice am mn cm],.agg #[.int .i64 m,.slice a n c]] W λe w'=>Below W.heap.size W w'/\∃a2 c2 ap cp,e = .returned (.tuple #[.agg #[.int .i64 m,.slice a2 (dr (aa P M.toNat mod) L m).length c2],.slice ap (dr (aa P M.toNat mod) L m).length cp,.int .i64 0]) /\
   bN W.heap.size w' a2 (dr (aa P M.toNat mod) L m).length (dr (aa P M.toNat mod) L m)):=by
  refine (kR P M am mn cm mod m a n c L W (hmod.ah hbW) (hi.ah hbW)).mono ?_
  rintro e w1 ⟨hb1,⟨h0,_⟩ | ⟨_,m',hm',a1,c1,ap,cp,rfl,hN1,_⟩⟩
  ·exact absurd hE h0
  ·obtain rfl : m=m':=by omega
   rw [<- iS] at hN1 ⊢
   exact ⟨hb1,a1,c1,ap,cp,rfl,hN1⟩
 have HO : Hid (∀V a5 k5 c5,Below W.heap.size W V->Calls Tryz.prog 78 #[.agg #[.int .i64 P,.int .i64 M,.slice am mn cm],.agg #[.int .i64 m,.slice a5 k5 c5],.int .i64 0] V (Bn P M mod m a5 k5 c5 V)):=λV a5 k5 c5 hV =>
  JE P M am mn cm mod m a5 k5 c5 V (hmod.ah (Below.next hbW hV)) hmn
 have HPost : Hid (∀a1 c1 a2 c2 w',dj w.heap.size w' a1 mod.length mod->bN w.heap.size w' a2 (dr (aa P M.toNat mod) L m).length (dr (aa P M.toNat mod) L m)->Below w.heap.size w w' ->
   fN P M mod m L w (.returned (.tuple #[.agg #[.int .i64 P,.int .i64 M,.slice a1 mod.length c1,.int .i64 m,.slice a2 (dr (aa P M.toNat mod) L m).length c2],.int .i64 0])) w'):=λa1 c1 a2 c2 w' h1 h2 h3=>⟨a1,c1,a2,c2,rfl,h1,h2,h3⟩
 have Hle : Hid (gJ (m : Int)=0):=pz (by omega) (by omega)
 obtain ⟨KM,hKM⟩ : ∃KM,dr (aa P M.toNat mod) L m=KM:=⟨_,rfl⟩
 rw [hKM] at HC HPost
 have hS : ∀V,Below W.heap.size W V->V.cell? ⟨w.heap.size,0,none⟩=some (.int .i64 P)/\V.cell? ⟨w.heap.size,1,none⟩=some (.int .i64 M)/\V.cell? ⟨w.heap.size,2,none⟩=some (.slice am mn cm)/\V.cell? ⟨w.heap.size+1,0,none⟩=some (.int .i64 m)/\V.cell? ⟨w.heap.size+1,1,none⟩=some (.slice a n c) /\
   aV V (w.heap.size+1+1) [.int .i64 0,.int .i64 0,.slice none 0 0,.int .i64 0,.slice none 0 0]:=λV hV=>by
  have x1:=x0.ah hV
  have y1:=y0.ah hV
  exact ⟨x1.cell 0 rfl,x1.cell 1 rfl,x1.cell 2 rfl,y1.cell 0 rfl,y1.cell 1 rfl,z0.ah hV⟩
 have HS:=Z5 hS
 have HbW:=Z5 hbW
 have HsW:=Z5 hsW
 obtain ⟨q,hq⟩ : ∃q,KM.length=q:=⟨_,rfl⟩
 rw [hq] at HC HPost
 clear hE hKM hS x0 y0 z0 hbW hsW hmod hi hq
 go_cut [6,7,8] (λv6 v7 v8 wx=>∃g a5 c5,v6 = .pointer (some ⟨g,0,none⟩)/\v8 = .int .i64 0/\wx.cell? ⟨g,0,none⟩=some (.int .i64 m)/\wx.cell? ⟨g,1,none⟩=some (.slice a5 q c5)/\bN W.heap.size wx a5 q KM/\Below W.heap.size W wx)
 case first =>
  obtain ⟨c0,c1,c2,c3,c4,_⟩:=HS.out W (Below.refl _ _)
  go_wp2_with fail
  refine HC.out.mono ?_
  rintro e w1 ⟨hb1,a5,c5,ap,cp,rfl,hN5⟩
  clear c0 c1 c2 c3 c4
  go_wp2_with fail
  go_meet
  exact ⟨w1.heap.size,a5,c5,rfl,rfl,aH _ _ _ rfl 0,aH _ _ _ rfl 1,hN5.ah (an _ _),Below.next hb1 (an _ _)⟩
 obtain ⟨g,a5,c5,rfl,rfl,g0,g1,hN5,hb5⟩:=hcut
 generalize wc=V at *
 obtain ⟨c0,c1,c2,c3,c4,zz⟩:=HS.out V hb5
 have HOV:=Z5 (HO.out V a5 q c5 hb5)
 clear HC HO
 go_wp2_with fail
 refine (ui m V).mono ?_
 rintro e w5 ⟨rfl,rfl⟩
 rw [Hle.out]
 go_wp2_with fail
 refine HOV.out.mono ?_
 rintro e w6 ⟨a6,c6,rfl,hN6,hb6⟩
 obtain ⟨_,_,_,_,_,zz6⟩:=HS.out w6 (Below.next hb5 hb6)
 have z0:=zz6.cell 0 rfl
 have z1:=zz6.cell 1 rfl
 have z2:=zz6.cell 2 rfl
 have z3:=zz6.cell 3 rfl
 have z4:=zz6.cell 4 rfl
 have f0:=zz6.frozen 0
 have f1:=zz6.frozen 1
 have f2:=zz6.frozen 2
 have f3:=zz6.frozen 3
 have f4:=zz6.frozen 4
 have hbF:=Below.next HbW.out (Below.next hb5 hb6)
 have hs:=HsW.out
 have hs2:=hb5.size
 have hM6:=hN5.ah hb6
 have hFin:=HPost.out a6 c6 a5 c5 (((((w6.setCell ⟨w.heap.size+1+1,0,none⟩ (.int .i64 P)).setCell ⟨w.heap.size+1+1,1,none⟩ (.int .i64 M)).setCell ⟨w.heap.size+1+1,2,none⟩ (.slice a6 mod.length c6)).setCell ⟨w.heap.size+1+1,3,none⟩ (.int .i64 m)).setCell ⟨w.heap.size+1+1,4,none⟩ (.slice a5 q c5))
  ((((((hN6.setCell (p:=⟨w.heap.size+1+1,0,none⟩) (by simp;omega) _).setCell (p:=⟨w.heap.size+1+1,1,none⟩) (by simp;omega) _).setCell (p:=⟨w.heap.size+1+1,2,none⟩) (by simp;omega) _).setCell (p:=⟨w.heap.size+1+1,3,none⟩) (by simp;omega) _).setCell (p:=⟨w.heap.size+1+1,4,none⟩) (by simp;omega) _).mono (by omega))
  ((((((hM6.setCell (p:=⟨w.heap.size+1+1,0,none⟩) (by simp;omega) _).setCell (p:=⟨w.heap.size+1+1,1,none⟩) (by simp;omega) _).setCell (p:=⟨w.heap.size+1+1,2,none⟩) (by simp;omega) _).setCell (p:=⟨w.heap.size+1+1,3,none⟩) (by simp;omega) _).setCell (p:=⟨w.heap.size+1+1,4,none⟩) (by simp;omega) _).mono (by omega))
  (((((hbF.setCell (p:=⟨w.heap.size+1+1,0,none⟩) (by simp;omega) _).setCell (p:=⟨w.heap.size+1+1,1,none⟩) (by simp;omega) _).setCell (p:=⟨w.heap.size+1+1,2,none⟩) (by simp;omega) _).setCell (p:=⟨w.heap.size+1+1,3,none⟩) (by simp;omega) _).setCell (p:=⟨w.heap.size+1+1,4,none⟩) (by simp;omega) _)
 have HFin:=Z5 hFin
 clear hFin hM6 hN5 hN6 HOV zz zz6
 go_wp2_with fail
 exact bodyPost_ret (v:=.tuple #[.agg #[.int .i64 P,.int .i64 M,.slice a6 mod.length c6,.int .i64 m,.slice a5 q c5],.int .i64 0]) (by simp [results,Tryz.results90,go_sem,z0,z1,z2,z3,z4]) rfl HFin.out
section
variable {O : aQ} {El : Int->Prop} {m : Nat} {L : Ll}
theorem mH {R : Ll} {r : Lz} (h : r ∈ R) : ∃j,j<R.length/\aj R j=r:=by
 obtain ⟨j,hj,e⟩:=List.mem_iff_getElem.1 h
 exact ⟨j,hj,by rw [aE hj];exact e⟩
theorem RS.el (F : cK O El) (hL : bH El m L) {f : Nat->Int} (h : RS O El m L f) {x : Nat} (hx : x<m) : El (f x):=by
 obtain ⟨e,he,h2⟩:=h
 rw [h2 x hx];exact he.el _ (dN hL F.zero x)
theorem RS.Kp (F : cK O El) (hL : bH El m L) {f : Nat->Int} (h : RS O El m L f) {x : Nat} (hx : x<m) (h0 : ∀r ∈ L,nth r x=0) : f x=0:=by
 obtain ⟨e,he,h2⟩:=h
 rw [h2 x hx,nc F he (dN hL F.zero x)]
 refine vu F _ λp hp=>?_
 show O.mul (e (ez L.length p)) (nth (bf L x) p)=0
 rw [cZ _ _ p hp,h0 _ (lh hp),F.dA (he.el _ (jR F _ p))]
end
section
variable {O : aQ} {El : Int->Prop} {m : Nat} {A B L : Ll}
theorem kc.GG (F : cK O El) (n : Nat) : kc O El n (λ_=>0) :=
 ⟨λ_ _=>F.zero,λ_ _ x _ _ hx=>by rw [F.dA hx,F.gF,F.add_zero _ F.zero],λ_ x _ hx=>by rw [F.dA hx]⟩
theorem kc.dot (F : cK O El) {n : Nat} {u : Nat->Int} : ∀ {k},k<=n->(∀j,j<k->El (u j))->kc O El n (λw=>dE O u (λj=>nth w j) k)
 | 0,_,_=>kc.GG F n
 | k+1,hk,hu=>by
  have h1:=kc.dot F (n:=n) (u:=u) (k:=k) (by omega) λj hj=>hu j (by omega)
  refine (h1.comb F (kc.zD F (i:=k) (by omega)) (F.cl.neg _ (hu k (by omega)))).congr F λv hv=>?_
  show O.add _ (O.mul (u k) (nth v k))=O.add _ (O.neg (O.mul (nth v k) (O.neg (u k))))
  have hvk:=hv.at (show k<n by omega)
  rw [F.mul_neg hvk (hu k (by omega)),F.neg_neg (F.cl.mul _ _ hvk (hu k (by omega))),F.mul_comm _ _ hvk (hu k (by omega))]
theorem FO (F : cK O El) (hA : bH El m A) {ι : Nat->Nat} (hι : ∀j,j<A.length->ι j<m) (h1 : ∀i j,i<A.length->j<A.length->nth (aj A i) (ι j)=if i=j then 1 else 0) {f : Nat->Int} (hf : ∀x,x<m->El (f x)) :
  ∀k,k<=A.length->∃g,RS O El m A g/\∀j,j<k->g (ι j)=f (ι j)
 | 0,_=>⟨λ_=>0,RS.GG F λ_ _=>rfl,λj hj=>by omega⟩
 | k+1,hk=>by
  obtain ⟨g,hg,h2⟩:=FO F hA hι h1 hf k (by omega)
  have hge:=λx (hx : x<m)=>RS.el F hA hg hx
  have hk1:=hge _ (hι k (by omega))
  have hk2:=hf _ (hι k (by omega))
  have hs : El (O.add (g (ι k)) (O.neg (f (ι k)))):=F.cl.add _ _ hk1 (F.cl.neg _ hk2)
  refine ⟨_,hg.comb F (RS.row F (show k<A.length by omega)) hs,λj hj=>?_⟩
  show O.add (g (ι j)) (O.neg (O.mul (nth (aj A k) (ι j)) (O.add (g (ι k)) (O.neg (f (ι k))))))=_
  rw [h1 k j (by omega) (by omega)]
  by_cases e : k=j
  ·subst e
   rw [if_pos rfl,F.one_mul _ hs,F.neg_add hk1 (F.cl.neg _ hk2),F.neg_neg hk2,<- F.add_assoc _ _ _ hk1 (F.cl.neg _ hk1) hk2,F.add_neg _ hk1,F.Aj hk2]
  ·rw [if_neg e,F.mO hs,F.gF,F.add_zero _ (hge _ (hι j (by omega)))]
   exact h2 j (by omega)
theorem vx (F : cK O El) {a b c : Nat->Int} : ∀t,(∀p,p<t->El (a p))->(∀p,p<t->El (b p))->(∀p,p<t->El (c p))->dE O (λp=>O.add (a p) (O.neg (b p))) c t=O.add (dE O a c t) (O.neg (dE O b c t))
 | 0,_,_,_=>by show (0 : Int)=O.add 0 (O.neg 0);rw [F.gF,F.add_zero _ F.zero]
 | t+1,ha,hb,hc=>by
  have ih:=vx F t (λp hp=>ha p (by omega)) (λp hp=>hb p (by omega)) (λp hp=>hc p (by omega))
  have h1:=ha t (by omega)
  have h2:=hb t (by omega)
  have h3:=hc t (by omega)
  have d1:=nL F t (λp hp=>ha p (by omega)) (λp hp=>hc p (by omega))
  have d2:=nL F t (λp hp=>hb p (by omega)) (λp hp=>hc p (by omega))
  have m1:=F.cl.mul _ _ h1 h3
  have m2:=F.cl.mul _ _ h2 h3
  show O.add (dE O (λp=>O.add (a p) (O.neg (b p))) c t) (O.mul (O.add (a t) (O.neg (b t))) (c t))=O.add (O.add (dE O a c t) (O.mul (a t) (c t))) (O.neg (O.add (dE O b c t) (O.mul (b t) (c t))))
  rw [ih,F.mul_comm _ _ (F.cl.add _ _ h1 (F.cl.neg _ h2)) h3,F.mul_add _ _ _ h3 h1 (F.cl.neg _ h2),F.mul_neg h3 h2,F.mul_comm _ _ h3 h1,F.mul_comm _ _ h3 h2,F.neg_add d2 m2,F.ET d1 (F.cl.neg _ d2) m1 (F.cl.neg _ m2)]
theorem RS.dot (F : cK O El) (hA : bH El m A) (hB : bH El m B) (ho : zq O m A B) {f : Nat->Int} (hf : RS O El m A f) {i : Nat} (hi : i<B.length) : dE O f (λp=>nth (aj B i) p) m=0:=by
 obtain ⟨e,he,h2⟩:=hf
 have hb : ∀p,p<m->El (nth (aj B i) p):=λp hp=>Vc.at (hB.row hi) hp
 rw [di (a':=λp=>e (bf A p)) (b':=λp=>nth (aj B i) p) m λp hp=>⟨h2 p hp,rfl⟩]
 rw [iE F m (λp _=>he.el _ (dN hA F.zero p)) hb]
 refine zl F hA he hb λj hj=>?_
 rw [iE F m hb λp hp=>Vc.at (hA.row hj) hp]
 exact ho j i hj hi
theorem sU (F : cK O El) (hA : bH El m A) (hB : bH El m B) {ι κ : Nat->Nat} (hι : ∀j,j<A.length->ι j<m) (h1 : ∀i j,i<A.length->j<A.length->nth (aj A i) (ι j)=if i=j then 1 else 0)
  (hκ : ∀i,i<B.length->κ i<m) (h2 : ∀i j,i<B.length->j<B.length->nth (aj B i) (κ j)=if i=j then 1 else 0)
  (hall : ∀x,x<m->(∃j,j<A.length/\ι j=x)\/∃i,i<B.length/\κ i=x) (ho : zq O m A B) {f : Nat->Int} (hf : ∀x,x<m->El (f x)) (hfo : ∀i,i<B.length->dE O f (λp=>nth (aj B i) p) m=0) : RS O El m A f:=by
 obtain ⟨g,hg,hgf⟩:=FO F hA hι h1 hf A.length (Nat.le_refl _)
 have hge:=λx (hx : x<m)=>RS.el F hA hg hx
 refine hg.congr λx hx=>?_
 rcases hall x hx with ⟨j,hj,rfl⟩ | ⟨i,hi,rfl⟩
 ·exact (hgf j hj).symm
 ·have hb : ∀p,p<m->El (nth (aj B i) p):=λp hp=>Vc.at (hB.row hi) hp
  have hd:=vx F m hf hge hb
  rw [hfo i hi,RS.dot F hA hB ho hg hi,F.gF,F.add_zero _ F.zero] at hd
  have hk:=hκ i hi
  have hde : El (O.add (f (κ i)) (O.neg (g (κ i)))):=F.cl.add _ _ (hf _ hk) (F.cl.neg _ (hge _ hk))
  have h3:=jO F (a:=λp=>O.add (f p) (O.neg (g p))) (b:=λp=>nth (aj B i) p) (x:=κ i) (F.cl.mul _ _ hde (hb _ hk)) m λp hp hne=>?_
  ·rw [hd,if_pos hk] at h3
   have h4 : O.mul (O.add (f (κ i)) (O.neg (g (κ i)))) (nth (aj B i) (κ i))=0:=h3.symm
   rw [h2 i i hi hi,if_pos rfl,F.je hde] at h4
   have h5:=F.oz (hf _ hk) (F.cl.neg _ (hge _ hk)) h4
   rw [<- F.neg_neg (hf _ hk),<- h5,F.neg_neg (hge _ hk)]
  ·show O.mul (O.add (f p) (O.neg (g p))) (nth (aj B i) p)=0
   rcases hall p hp with ⟨j,hj,rfl⟩ | ⟨j,hj,rfl⟩
   ·rw [hgf j hj,F.add_neg _ (hf _ hp),F.mO (hb _ hp)]
   ·rw [h2 i j hi hj,if_neg (λe=>hne (by rw [e])),F.dA (F.cl.add _ _ (hf _ hp) (F.cl.neg _ (hge _ hp)))]
theorem wS (P : Lz) : ∀k i j,i<j->j<(jk P k).length->(jk P k).getD i 0<(jk P k).getD j 0
 | 0,i,j,_,h=>by simp [jk] at h
 | k+1,i,j,hij,h=>by
  have ih:=wS P k i j hij
  rw [jk] at h ⊢
  split at h
  ·rename_i hc
   rw [if_pos hc];exact ih h
  ·rename_i hc
   rw [if_neg hc]
   rw [List.length_append,List.length_singleton] at h
   have e1 : (jk P k ++ [k]).getD i 0=(jk P k).getD i 0:=by simp only [List.getD_eq_getElem?_getD];rw [List.getElem?_append_left (by omega)]
   rw [e1]
   by_cases e : j<(jk P k).length
   ·have e2 : (jk P k ++ [k]).getD j 0=(jk P k).getD j 0:=by simp only [List.getD_eq_getElem?_getD];rw [List.getElem?_append_left e]
    rw [e2];exact ih e
   ·have e2 : (jk P k ++ [k]).getD j 0=k:=by
     have ej : j=(jk P k).length:=by omega
     simp only [List.getD_eq_getElem?_getD];rw [List.getElem?_append_right (by omega)];simp [ej]
    rw [e2]
    exact (qN (k:=k) (j:=i) (by omega)).1
theorem yR (F : cK O El) {R : Ll} {P : Lz} (hR : bH El m R) (hP : nw R P m) (hl : se R P) (hlen : R.length=P.length) {f : Nat->Int} (hf : ∀x,x<m->El (f x)) :
  ((∀i,i<R.length->dE O f (λp=>nth (aj R i) p) m=0)->RS O El m (gd O m R P m) f)/\((∀i,i<(gd O m R P m).length->dE O f (λp=>nth (aj (gd O m R P m) i) p) m=0)->RS O El m R f):=by
 have hK:=lD F hR hP hlen
 have hO:=zZ F hR hP hl hlen
 have hkl:=la O m R P m
 have hι : ∀j,j<R.length->(nth P j).toNat<m:=λj hj=>by have:=hP.lt j (by omega);omega
 have h1 : ∀i j,i<R.length->j<R.length->nth (aj R i) (nth P j).toNat=if i=j then 1 else 0:=λi j hi hj=>hP.one j i (by omega) hi
 have hκ : ∀i,i<(gd O m R P m).length->(jk P m).getD i 0<m:=λi hi=>(qN (by omega)).1
 have h2 : ∀i j,i<(gd O m R P m).length->j<(gd O m R P m).length->nth (aj (gd O m R P m) i) ((jk P m).getD j 0)=if i=j then 1 else 0:=λi j hi hj=>by
  rw [hkl] at hi hj
  obtain ⟨a1,a2⟩:=qN (P:=P) hi
  obtain ⟨b1,b2⟩:=qN (P:=P) hj
  rw [oV O m R P m hi]
  by_cases e : i=j
  ·subst e;rw [if_pos rfl];exact og hP a1 a2 _ (Nat.le_refl _)
  ·rw [if_neg e]
   refine mP hP b1 (λe2=>?_) _ (Nat.le_refl _) λq hq e2=>?_
   ·rcases Nat.lt_or_gt_of_ne e with h | h
    ·have:=wS P m i j h hj;omega
    ·have:=wS P m j i h hi;omega
   ·apply b2
    have hq2:=hP.lt q hq
    rw [<- e2,Int.toNat_of_nonneg hq2.1]
    exact aN hq
 have hall : ∀x,x<m->(∃j,j<R.length/\(nth P j).toNat=x)\/∃i,i<(gd O m R P m).length/\(jk P m).getD i 0=x:=λx hx=>by
  by_cases hc : (x : Int) ∈ P
  ·obtain ⟨j,hj,e⟩:=List.mem_iff_getElem.1 hc
   exact .inl ⟨j,by omega,by rw [ai hj,e];simp⟩
  ·obtain ⟨j,hj,e⟩:=List.mem_iff_getElem.1 ((sl (P:=P) m).2 ⟨hx,hc⟩)
   exact .inr ⟨j,by rw [hkl];exact hj,by rw [List.getD_eq_getElem?_getD,List.getElem?_eq_getElem hj];exact e⟩
 exact ⟨sU F hK hR hκ h2 hι h1 (λx hx=>(hall x hx).symm) (zq.symm F hR hK hO) hf,sU F hR hK hι h1 hκ h2 hall hO hf⟩
def iQ (O : aQ) (m : Nat) (L : Ll) : Ll:=dD O m (gd O m (dD O m L) (aA O L m).2 m)
theorem jA (F : cK O El) (hL : bH El m L) : bH El m (iQ O m L):=fh F (lD F (fh F hL) (du F hL).1 (cU F hL))
theorem xa (F : cK O El) (hA : bH El m A) {f : Nat->Int} (hf : ∀x,x<m->El (f x)) (h : ∀i,i<A.length->dE O f (λp=>nth (aj A i) p) m=0) {g : Nat->Int} (hg : RS O El m A g) : dE O f g m=0:=by
 obtain ⟨e,he,h2⟩:=hg
 rw [di (a':=f) (b':=λp=>e (bf A p)) m λp hp=>⟨rfl,h2 p hp⟩]
 exact zl F hA he hf h
theorem xp (F : cK O El) (hL : bH El m L) {f : Nat->Int} (hf : ∀x,x<m->El (f x)) : RS O El m (iQ O m L) f ↔ ∀i,i<L.length->dE O f (λp=>nth (aj L i) p) m=0:=by
 obtain ⟨hP,hl⟩:=du F hL
 have hlen:=cU F hL
 have hR:=fh F hL
 have hK:=lD F hR hP hlen
 obtain ⟨s1,s2⟩:=eF F hK
 obtain ⟨t1,t2⟩:=eF F hL
 have hO:=zq.symm F hR hK (zZ F hR hP hl hlen)
 constructor
 ·intro h i hi
  exact xa F hR hf (λj hj=>RS.dot F hK hR hO (s1.rs h) hj) (t2 i hi)
 ·intro h
  refine s2.rs ((yR F hR hP hl hlen hf).1 λi hi=>?_)
  exact xa F hL hf h (t1 i hi)
theorem Cl (F : cK O El) (hL : bH El m L) {f : Nat->Int} (hf : ∀x,x<m->El (f x)) : (∀i,i<(iQ O m L).length->dE O f (λp=>nth (aj (iQ O m L) i) p) m=0) ↔ RS O El m L f:=by
 obtain ⟨hP,hl⟩:=du F hL
 have hlen:=cU F hL
 have hR:=fh F hL
 have hK:=lD F hR hP hlen
 obtain ⟨s1,s2⟩:=eF F hK
 obtain ⟨t1,t2⟩:=eF F hL
 have hN:=jA F hL
 constructor
 ·intro h
  exact t1.rs ((yR F hR hP hl hlen hf).2 λi hi=>xa F hN hf h (s2 i hi))
 ·intro h i hi
  have hfn : ∀p,p<m->El (nth (aj (iQ O m L) i) p):=λp hp=>Vc.at (hN.row hi) hp
  rw [iE F m hf hfn]
  exact xa F hL hfn ((xp F hL hfn).1 (RS.row F hi)) h
def ku (m : Nat) (z : Int) : Lz:=(List.replicate m 0).set z.toNat 1
def vK (O : aQ) (m : Nat) (L : Ll) (Z : Lz) : Ll:=iQ O m (iQ O m L ++ Z.map (ku m))
def sP (O : aQ) (m : Nat) (L : Ll) (Z : Lz) : Ll:=dD O m (nS O m (iQ O L.length ((List.range Z.length).map (bf (L.map (aG Z))))) L)
theorem Am (F : cK O El) (m : Nat) (z : Int) : Vc El m (ku m z):=⟨by simp [ku],λy hy=>by
 rcases List.mem_or_eq_of_mem_set hy with h | rfl
 ·rw [List.eq_of_mem_replicate h];exact F.zero
 ·exact F.one⟩
theorem qQ {m : Nat} {z : Int} (hz : z.toNat<m) (i : Nat) : nth (ku m z) i=if i=z.toNat then 1 else 0:=by
 unfold ku
 rw [ff _ _ _ _ (by simpa using hz)]
 split
 ·rfl
 ·simp [nth,List.getD_eq_getElem?_getD,List.getElem?_replicate];split <;> rfl
theorem y7 (F : cK O El) {f : Nat->Int} (hf : ∀x,x<m->El (f x)) {z : Int} (hz : z.toNat<m) : dE O f (λp=>nth (ku m z) p) m=f z.toNat:=by
 have h1:=jO F (a:=f) (b:=λp=>nth (ku m z) p) (x:=z.toNat) (by
  show El (O.mul (f z.toNat) (nth (ku m z) z.toNat))
  rw [qQ hz,if_pos rfl,F.je (hf _ hz)];exact hf _ hz) m λp hp hne=>by
   show O.mul (f p) (nth (ku m z) p)=0
   rw [qQ hz,if_neg hne,F.dA (hf p hp)]
 rw [h1,if_pos hz]
 show O.mul (f z.toNat) (nth (ku m z) z.toNat)=_
 rw [qQ hz,if_pos rfl,F.je (hf _ hz)]
def JS (m : Nat) (Z : Lz) : Prop:=∀z ∈ Z,0<=z/\z<(m : Int)
theorem yw (F : cK O El) (hL : bH El m L) {Z : Lz} (hZ : JS m Z) {f : Nat->Int} (hf : ∀x,x<m->El (f x)) : RS O El m (vK O m L Z) f ↔ RS O El m L f/\∀z ∈ Z,f z.toNat=0:=by
 have hN:=jA F hL
 have hU : bH El m (iQ O m L ++ Z.map (ku m)):=λr hr=>by
  rcases List.mem_append.1 hr with h | h
  ·exact hN r h
  ·obtain ⟨z,_,rfl⟩:=List.mem_map.1 h;exact Am F m z
 have key : RS O El m (vK O m L Z) f ↔ ∀r ∈ iQ O m L ++ Z.map (ku m),dE O f (λp=>nth r p) m=0:=by
  refine (xp F hU hf).trans ⟨λh r hr=>?_,λh i hi=>h _ (lh hi)⟩
  obtain ⟨j,hj,rfl⟩:=mH hr
  exact h j hj
 rw [key]
 constructor
 ·intro h
  refine ⟨(Cl F hL hf).1 λi hi=>h _ (List.mem_append.2 (.inl (lh hi))),λz hz=>?_⟩
  have hzb:=hZ z hz
  rw [<- y7 F hf (z:=z) (by omega)]
  exact h _ (List.mem_append.2 (.inr (List.mem_map.2 ⟨z,hz,rfl⟩)))
 ·rintro ⟨h1,h2⟩ r hr
  rcases List.mem_append.1 hr with h | h
  ·obtain ⟨j,hj,rfl⟩:=mH h
   exact (Cl F hL hf).2 h1 j hj
  ·obtain ⟨z,hz,rfl⟩:=List.mem_map.1 h
   have hzb:=hZ z hz
   rw [y7 F hf (by omega)]
   exact h2 z hz
theorem RS.IZ (F : cK O El) (hL : bH El m L) {f : Nat->Int} (h : RS O El m L f) : ∃v,Vc El L.length v/\∀x,x<m->f x=nth (bj O m v L L.length) x:=by
 obtain ⟨e,he,h2⟩:=h
 obtain ⟨c,hc⟩ : ∃c,((List.range L.length).map λt=>e (ez L.length t))=c:=⟨_,rfl⟩
 have hcl : c.length=L.length:=by rw [<- hc];simp
 have hcn : ∀t,t<L.length->nth c t=e (ez L.length t):=λt ht=>by rw [<- hc,eR _ _ _ ht]
 have hcv : Vc El L.length c:=⟨hcl,λy hy=>by
  obtain ⟨t,ht,rfl⟩:=List.mem_iff_getElem.1 hy
  rw [<- ai ht,hcn t (by omega)]
  exact he.el _ (jR F _ _)⟩
 refine ⟨c,hcv,λx hx=>?_⟩
 rw [h2 x hx,nc F he (dN hL F.zero x),eS F hL (λk hk=>hcv.at hk) hx _ (Nat.le_refl _)]
 exact di _ λp hp=>⟨(hcn p hp).symm,cZ _ _ _ hp⟩
theorem CJ {Z : Lz} {k : Nat} (hk : k<Z.length) : aj ((List.range Z.length).map (bf (L.map (aG Z)))) k=bf L (nth Z k).toNat:=by
 rw [aE (by simpa using hk)]
 simp only [List.getElem_map,List.getElem_range,bf,List.map_map]
 refine List.map_congr_left λr _=>?_
 show nth (aG Z r) k=_
 rw [dx Z r hk]
theorem nj (F : cK O El) (hL : bH El m L) {Z : Lz} : bH El L.length ((List.range Z.length).map (bf (L.map (aG Z)))):=λr hr=>by
 obtain ⟨k,hk,rfl⟩:=mH hr
 rw [CJ (by simpa using hk)]
 exact dN hL F.zero _
theorem nP (F : cK O El) (hL : bH El m L) {K : Ll} (hK : bH El L.length K) : bH El m (nS O m K L):=λr hr=>by
 obtain ⟨v,hv,rfl⟩:=List.mem_map.1 hr
 exact (dO F hL (λk hk=>Vc.at (hK v hv) hk) _ (Nat.le_refl _)).1
theorem Fc (F : cK O El) (hL : bH El m L) {Z : Lz} : bH El m (sP O m L Z):=fh F (nP F hL (jA F (nj F hL)))
theorem qn (F : cK O El) (hL : bH El m L) {Z : Lz} (hZ : JS m Z) {f : Nat->Int} (hf : ∀x,x<m->El (f x)) : RS O El m (sP O m L Z) f ↔ RS O El m L f/\∀z ∈ Z,f z.toNat=0:=by
 have hT:=nj (Z:=Z) F hL
 obtain ⟨K,hK⟩ : ∃K,iQ O L.length ((List.range Z.length).map (bf (L.map (aG Z))))=K:=⟨_,rfl⟩
 have hKr : bH El L.length K:=by rw [<- hK];exact jA F hT
 have hM:=nP F hL hKr
 obtain ⟨s1,s2⟩:=eF F hM
 have hKi : ∀v,Vc El L.length v->(RS O El L.length K (λx=>nth v x) ↔ ∀z ∈ Z,nth (bj O m v L L.length) z.toNat=0):=λv hv=>by
  rw [<- hK]
  refine (xp F hT λx hx=>hv.at hx).trans ?_
  have hd : ∀k,k<Z.length->dE O (λx=>nth v x) (λp=>nth (aj ((List.range Z.length).map (bf (L.map (aG Z)))) k) p) L.length=nth (bj O m v L L.length) (nth Z k).toNat:=λk hk=>by
   have hzb:=hZ _ (aN hk)
   rw [CJ hk,eS F hL (λk hk=>hv.at hk) (show (nth Z k).toNat<m by omega) _ (Nat.le_refl _)]
   exact di _ λp hp=>⟨rfl,cZ _ _ _ hp⟩
  constructor
  ·intro h z hz
   obtain ⟨k,hk,e⟩:=List.mem_iff_getElem.1 hz
   have:=h k (by simpa using hk)
   rw [hd k hk,ai hk,e] at this
   exact this
  ·intro h k hk
   rw [hd k (by simpa using hk)]
   exact h _ (aN (by simpa using hk))
 unfold sP
 rw [hK]
 constructor
 ·intro h
  have hrow : ∀r ∈ nS O m K L,RS O El m L (λx=>nth r x)/\∀z ∈ Z,nth r z.toNat=0:=λr hr=>by
   obtain ⟨v,hv,rfl⟩:=List.mem_map.1 hr
   obtain ⟨j,hj,rfl⟩:=mH hv
   exact ⟨(dO F hL (λk hk=>Vc.at (hKr _ hv) hk) _ (Nat.le_refl _)).2,(hKi _ (hKr _ hv)).1 (RS.row F hj)⟩
  have h3:=s1.rs h
  refine ⟨iD.rs (λi hi=>(hrow _ (lh hi)).1) h3,λz hz=>?_⟩
  have hzb:=hZ z hz
  exact RS.Kp F hM h3 (by omega) λr hr=>(hrow r hr).2 z hz
 ·rintro ⟨h1,h2⟩
  obtain ⟨v,hv,hfv⟩:=RS.IZ F hL h1
  have hvK : RS O El L.length K (λx=>nth v x):=(hKi v hv).2 λz hz=>by
   have hzb:=hZ z hz
   rw [<- hfv _ (by omega)];exact h2 z hz
  obtain ⟨u,hu,hvu⟩:=RS.IZ F hKr hvK
  refine s2.rs ?_
  have hml : (nS O m K L).length=K.length:=by simp [nS]
  have hue : ∀k,k<(nS O m K L).length->El (nth u k):=λk hk=>hu.at (by omega)
  refine (dO F hM hue _ (Nat.le_refl _)).2.congr λx hx=>?_
  rw [hfv x hx,eS F hM hue hx _ (Nat.le_refl _),hml]
  have hx1 : nth (bj O m v L L.length) x=dE O (λt=>nth v t) (λt=>nth (aj L t) x) L.length:=eS F hL (λk hk=>hv.at hk) hx _ (Nat.le_refl _)
  have hc : Vc El L.length (bf L x):=dN hL F.zero x
  have h4 : dE O (λt=>nth v t) (λt=>nth (bf L x) t) L.length=dE O (λj=>nth u j) (λj=>dE O (λt=>nth (aj K j) t) (λt=>nth (bf L x) t) L.length) K.length:=by
   have hcol:=qy F (r:=λt=>nth (bf L x) t) (K:=K) hKr (φ:=λw=>dE O (λj=>nth u j) (λj=>nth w j) K.length) (by
    exact kc.dot F (Nat.le_refl _) λj hj=>hu.at hj) L.length (λp hp=>hc.at hp)
   rw [iE F _ (λp hp=>hv.at hp) λp hp=>hc.at hp]
   have e1 : dE O (λt=>nth (bf L x) t) (λt=>nth v t) L.length=dE O (λt=>nth (bf L x) t) (λp=>dE O (λj=>nth u j) (λj=>nth (bf K p) j) K.length) L.length:=di _ λp hp=>⟨rfl,by
    rw [hvu p hp,eS F hKr (λk hk=>hu.at hk) hp _ (Nat.le_refl _)]
    exact di _ λq hq=>⟨rfl,(cZ _ _ _ hq).symm⟩⟩
   rw [e1,<- hcol]
   refine di _ λj hj=>⟨rfl,?_⟩
   rw [wQ F hKr hj _ (Nat.le_refl _) (λp hp=>hc.at hp)]
   exact iE F _ (λp hp=>hc.at hp) λp hp=>Vc.at (hKr.row hj) hp
  rw [hx1,di (a':=λt=>nth v t) (b':=λt=>nth (bf L x) t) _ λp hp=>⟨rfl,(cZ _ _ _ hp).symm⟩,h4]
  refine di _ λj hj=>⟨rfl,?_⟩
  have e2 : aj (nS O m K L) j=bj O m (aj K j) L L.length:=by
   rw [aE (by omega),aE hj];simp [nS]
  rw [e2,eS F hL (λk hk=>Vc.at (hKr.row hj) hk) hx _ (Nat.le_refl _)]
  exact di _ λp hp=>⟨rfl,cZ _ _ _ hp⟩
theorem DG (F : cK O El) (hL : bH El m L) {Z : Lz} (hZ : JS m Z) : sP O m L Z=vK O m L Z:=by
 have hM:=nP (O:=O) F hL (jA F (nj (Z:=Z) F hL))
 have hU : bH El m (iQ O m L ++ Z.map (ku m)):=λr hr=>by
  rcases List.mem_append.1 hr with h | h
  ·exact jA F hL r h
  ·obtain ⟨z,_,rfl⟩:=List.mem_map.1 h;exact Am F m z
 have hU2:=lD F (fh F hU) (du F hU).1 (cU F hU)
 have r1 : bH El m (sP O m L Z):=fh F hM
 have r2 : bH El m (vK O m L Z):=fh F hU2
 refine yO F r1 r2 (du F hM).1 (du F hU2).1 (du F hM).2 (du F hU2).2 (cU F hM) (cU F hU2) (λi hi=>?_) (λi hi=>?_)
 ·have hel : ∀x,x<m->El (nth (aj (sP O m L Z) i) x):=λx hx=>Vc.at (r1.row hi) hx
  exact (yw F hL hZ hel).2 ((qn F hL hZ hel).1 (RS.row F hi))
 ·have hel : ∀x,x<m->El (nth (aj (vK O m L Z) i) x):=λx hx=>Vc.at (r2.row hi) hx
  exact (qn F hL hZ hel).2 ((yw F hL hZ hel).1 (RS.row F hi))
theorem CP {l : LN} {x : Nat} (hl : ∀y ∈ l,y<m) (hx : x<m) : nR O El A.length (bf A) l x ↔ ∀f,RS O El m A f->(∀y ∈ l,f y=0)->f x=0:=by
 constructor
 ·rintro h f ⟨e,he,h2⟩ h0
  rw [h2 x hx]
  exact h e he λy hy=>by rw [<- h2 y (hl y hy)];exact h0 y hy
 ·intro h φ hφ h0
  exact h (λx=>φ (bf A x)) ⟨φ,hφ,λ_ _=>rfl⟩ h0
end
def JI (m : Nat) (L : Ll) : Ll:=(List.range m).map (bf L)
theorem Cq (m : Nat) (L : Ll) : (JI m L).length=m:=by simp [JI]
theorem Gm {m k : Nat} (L : Ll) (h : k<m) : aj (JI m L) k=bf L k:=by
 rw [aE (by rw [Cq];exact h)];simp [JI]
def iZ (l : Lz) (i : Nat) : Lz:=(List.range l.length).map λj=>if j<i then nth l j else 0
theorem jT (l : Lz) (i : Nat) : (iZ l i).length=l.length:=by simp [iZ]
theorem FU {l : Lz} {i : Nat} (h : i<l.length) : (iZ l i).set i (nth l i)=iZ l (i+1):=by
 refine List.ext_getElem (by simp [iZ]) λj h1 h2=>?_
 simp only [iZ,List.getElem_set,List.getElem_map,List.getElem_range]
 by_cases e : i=j
 ·subst e;rw [if_pos rfl,if_pos (by omega)]
 ·rw [if_neg e]
  by_cases h : j<i
  ·rw [if_pos h,if_pos (by omega)]
  ·rw [if_neg h,if_neg (by omega)]
theorem Dl (l : Lz) : iZ l 0=List.replicate l.length 0:=by
 refine List.ext_getElem (by simp [iZ]) λj h1 h2=>?_
 simp [iZ]
theorem FF (l : Lz) : iZ l l.length=l:=by
 refine List.ext_getElem (by simp [iZ]) λj h1 h2=>?_
 simp only [iZ,List.getElem_map,List.getElem_range]
 rw [if_pos h2,ai h2]
def Ki (w1 : World) (n m g gs : Nat) (wx : World) : Prop :=
 aV wx g [.int .i64 n,.slice (some ⟨gs,0,none⟩) m m]/\wx.ownsRow w1.heap.size 22 1 (.slice (some ⟨gs,0,none⟩) m m) m (List.replicate m (.slice none 0 0))/\g ≠ gs/\w1.heap.size<=g/\Below w1.heap.size w1 wx
theorem Kh (w1 : World) (n m : Nat) (hm : m<=1000) : Ki w1 n m (w1.heap.size+1) w1.heap.size (((w1.alloc (.cells (Array.replicate m (Value.slice none 0 0)) 22)).alloc (.cells #[.int .i64 n,.slice (some ⟨w1.heap.size,0,none⟩) m m] 82)).drew):=by
 have ho:=uk w1 22 (.slice none 0 0) m (Nat.le_refl w1.heap.size) (by unfold maxLen;omega)
 rw [show (List.replicate m (Value.slice none 0 0)).toArray=Array.replicate m (Value.slice none 0 0) by simp] at ho
 have hb:=an (w1.alloc (.cells (Array.replicate m (Value.slice none 0 0)) 22)) (.cells #[.int .i64 n,.slice (some ⟨w1.heap.size,0,none⟩) m m] 82)
 refine ⟨aV.ah (aV.new _ _ _ (by simp)) (Below.refl _ _).drew,aW ho hb.drew,by omega,by omega,(Below.next (an _ _) hb).drew⟩
theorem Kb (w1 : World) (n m : Nat) (hm : m<=1000) : Ki w1 n m w1.heap.size (w1.heap.size+1) (((w1.alloc (.cells #[.int .i64 n,.slice (some ⟨w1.heap.size+1,0,none⟩) m m] 82)).alloc (.cells (Array.replicate m (Value.slice none 0 0)) 22)).drew):=by
 have ho:=uk (w1.alloc (.cells #[.int .i64 n,.slice (some ⟨w1.heap.size+1,0,none⟩) m m] 82)) 22 (.slice none 0 0) m (B:=w1.heap.size) (by simp) (by unfold maxLen;omega)
 rw [show (List.replicate m (Value.slice none 0 0)).toArray=Array.replicate m (Value.slice none 0 0) by simp,World.size_alloc] at ho
 have hb:=an (w1.alloc (.cells #[.int .i64 n,.slice (some ⟨w1.heap.size+1,0,none⟩) m m] 82)) (.cells (Array.replicate m (Value.slice none 0 0)) 22)
 refine ⟨((aV.new _ _ _ rfl).alloc _).ah (Below.refl _ _).drew,aW ho (Below.refl _ _).drew,by omega,by omega,(Below.next (an _ _) hb).drew⟩
def Ji (w1 : World) (gs g n m k bn : Nat) (L : Ll) (R2 : La) (wx : World) : Prop :=
 aU wx w1.heap.size (some ⟨gs,0,none⟩) m m R2 L/\¬ bL (some ⟨gs,0,none⟩) R2 g/\aM R2 k=(some ⟨bn,0,none⟩,n)/\Below w1.heap.size w1 wx/\aV wx g [.int .i64 n,.slice (some ⟨gs,0,none⟩) m m]
theorem Ji.drew {w1 : World} {gs g n m k bn : Nat} {L : Ll} {R2 : La} {wx : World} (h : Ji w1 gs g n m k bn L R2 wx) : Ji w1 gs g n m k bn L R2 wx.drew :=
 ⟨h.1.ah (Below.refl _ _).drew,h.2.1,h.2.2.1,h.2.2.2.1.drew,h.2.2.2.2.ah (Below.refl _ _).drew⟩
theorem Ju {w1 V : World} {gs g n m k : Nat} {L C : Ll} {R : La} {l : Lz} (hl : l.length=n) (hk : k<m) (hn : n<=1000) (hO : aU V w1.heap.size (some ⟨gs,0,none⟩) m m R L) (hgR : ¬ bL (some ⟨gs,0,none⟩) R g)
  (hBx : aV V g [.int .i64 n,.slice (some ⟨gs,0,none⟩) m m]) (hgg : g ≠ gs) (hbr : Below w1.heap.size w1 V) :
  ∃R2,Ji w1 gs g n m k V.heap.size (L.set k (iZ l 0)) R2 ((V.alloc (.cells (Array.replicate n (Value.int .i64 0)) 3)).setCell ⟨gs,k,none⟩ (.slice (some ⟨V.heap.size,0,none⟩) n n)):=by
 have e0' : (⟨ablk (some ⟨gs,0,none⟩),aJ (some ⟨gs,0,none⟩)+k,none⟩ : Addr)=⟨gs,k,none⟩:=by simp [ablk,aJ]
 have hgsV:=(aU.lt hO gs (.inl ⟨by simp,rfl⟩))
 have hown3:=uk V 3 (.int .i64 0) n (B:=w1.heap.size) hbr.size (by unfold maxLen;omega)
 rw [show (List.replicate n (Value.int .i64 0)).toArray=Array.replicate n (Value.int .i64 0) by simp] at hown3
 have hO3:=hO.ah (an V (.cells (Array.replicate n (Value.int .i64 0)) 3))
 have hmk0 : (iZ l 0).map (Value.int .i64)=List.replicate n (Value.int .i64 0):=by rw [Dl,List.map_replicate,hl]
 have hnew:=aU.setRow hO3 hk (r:=some ⟨V.heap.size,0,none⟩) (rc:=n) (l:=iZ l 0) (by rw [jT,hl,hmk0];exact hown3) (.inr (by
   show V.heap.size ≠ gs
   omega)) (λj hj hne=>by
  by_cases hn : (aM R j).1=none
  ·exact .inl hn
  ·refine .inr (.inr λe=>?_)
   have h9:=(aU.lt hO _ (aU.mw (by rw [hO.rl];exact hj) hn)).2
   have h8 : V.heap.size=ablk (aM R j).1:=e
   omega)
 rw [jT,hl,e0'] at hnew
 have hgV : g<V.heap.size:=hBx.1
 refine ⟨_,hnew,λh=>?_,by rw [gB _ _ _ _ (by rw [hO.rl];exact hk),if_pos rfl],(Below.next hbr (an _ _)).setCell hgsV.1 _,?_⟩
 ·rcases h with h | ⟨i,hi',h1,h2⟩
  ·exact hgR (.inl h)
  ·rw [List.length_set] at hi'
   rw [gB _ _ _ _ (by rw [hO.rl];exact hk)] at h1 h2
   split at h1
   ·rename_i e
    rw [if_pos e] at h2
    have h3 : g=V.heap.size:=h2
    omega
   ·rename_i e
    rw [if_neg e] at h2
    exact hgR (.inr ⟨i,hi',h1,h2⟩)
 ·have hb2 : ((V.alloc (.cells (Array.replicate n (Value.int .i64 0)) 3)).setCell ⟨gs,k,none⟩ (.slice (some ⟨V.heap.size,0,none⟩) n n)).heap[g]? = (V.alloc (.cells (Array.replicate n (Value.int .i64 0)) 3)).heap[g]?:=Below.heap_setCell _ _ _ _ (by show g ≠ gs;exact hgg)
  have hx:=hBx.alloc (.cells (Array.replicate n (Value.int .i64 0)) 3)
  exact ⟨by have:=hx.1;simpa using this,λi v hv=>(World.cell?_of_block (w:=V.alloc (.cells (Array.replicate n (Value.int .i64 0)) 3)) (a:=⟨g,i,none⟩) hb2).trans (hx.2.1 i v hv),λi=>(World.frozen?_of_block (w:=V.alloc (.cells (Array.replicate n (Value.int .i64 0)) 3)) (a:=⟨g,i,none⟩) hb2).trans (hx.2.2 i)⟩
theorem va (P M : Int) (am : OA) (mn cm : Nat) (mod : Lz) (m : Nat) (a : OA) (n c : Nat) (L : Ll) (w : World) (hmod : Ints w am mn mod) (hi : bZ w a n L) (h5 : dM P M mod m L=0) :
  Calls Tryz.prog 156 #[.agg #[.int .i64 P,.int .i64 M,.slice am mn cm],.agg #[.int .i64 m,.slice a n c]] w
   λe w'=>∃a1 c1,e = .returned (.tuple #[.agg #[.int .i64 n,.slice a1 m c1],.int .i64 0])/\bN w.heap.size w' a1 m (JI m L)/\Below w.heap.size w w':=by
 have Hlen:=Z5 hi.len
 have hpla:=hi.pl
 obtain ⟨hfB,h8⟩:=eg h5
 obtain ⟨m0,em0,hm256,hL256,hR0⟩:=gP h8
 obtain rfl : m=m0:=by omega
 have hn : n<=256:=by rw [<- hi.len];exact hL256
 have HLl : Hid (∀k,k<n->(aj L k).length=m):=λk hk=>(hR0.row (i:=k) (by rw [hi.len];exact hk)).1
 obtain ⟨T,hT⟩ : ∃T,JI m L=T:=⟨_,rfl⟩
 have HTl : Hid (T.length=m):=by show _=_;rw [<- hT];exact Cq _ _
 have HTk : Hid (∀k,k<m->aj T k=bf L k):=λk hk=>by rw [<- hT];exact Gm L hk
 rw [hT]
 clear h5 em0 hL256 hR0 hT
 go_enter Tryz.func156,Tryz.ntmps156
 go_wp2_with fail
 obtain ⟨W,hW⟩ : ∃W : World,W=((((w.alloc (.cells #[.int .i64 P,.int .i64 M,.slice am mn cm] 24)).alloc (.cells #[.int .i64 m,.slice a n c] 82)).alloc (.cells #[.int .i64 0,.slice none 0 0] 82)).alloc (.cells #[.int .i64 m,.slice a n c] 82)):=⟨_,rfl⟩
 rw [<- hW]
 have hbW : Below w.heap.size w W:=by rw [hW];exact ((((Below.refl _ _).alloc (Nat.le_refl _) _).alloc (by simp) _).alloc (by simp;omega) _).alloc (by simp;omega) _
 have hsW : W.heap.size=w.heap.size+4:=by rw [hW];simp
 have x1 : aV W (w.heap.size+1) [.int .i64 m,.slice a n c]:=by rw [hW];exact ((aV.new _ _ _ (by simp)).alloc _).alloc _
 have x2 : aV W (w.heap.size+1+1) [.int .i64 0,.slice none 0 0]:=by rw [hW];exact (aV.new _ _ _ (by simp)).alloc _
 have q3 : W.cell? ⟨w.heap.size+1+1+1,0,none⟩=some (.int .i64 m)/\W.cell? ⟨w.heap.size+1+1+1,1,none⟩=some (.slice a n c):=by rw [hW];exact ⟨aH _ _ _ (by simp) 0,aH _ _ _ (by simp) 1⟩
 have hMs : vd W (some ⟨w.heap.size+1+1+1,0,none⟩) 1 [((m : Int),L)]:=⟨rfl,λ_=>rfl,by unfold maxLen;omega,λi hi'=>by
  have : i=0:=by simp at hi';omega
  subst this
  exact ⟨a,n,c,by simpa using q3.1,by simpa using q3.2,hi.ah hbW⟩⟩
 have HX:=Z5 (And.intro x1 x2)
 have HsW:=Z5 hsW
 have HbW:=Z5 hbW
 clear hW hsW x1 x2 q3
 refine (lf P M am mn cm mod _ 1 1 _ W (hmod.ah hbW) hMs).mono ?_
 rintro e w1 ⟨hb1,hcase⟩
 rw [jH] at hcase
 rcases hcase with ⟨hB,_⟩ | ⟨_,er,h0,h1,_⟩ | ⟨_,_,b,rfl,hG,hbl⟩
 ·rw [hfB] at hB;exact absurd hB (by decide)
 ·rw [h8] at h1;exact absurd h1.symm h0
 have hbw1:=Below.next hbW hb1
 have r1:=HX.out.1.ah hb1
 have m0:=r1.cell 0 rfl
 have m1:=r1.cell 1 rfl
 clear hMs hfB h8 hbW r1 hG hbl
 have hmk:=run_mk (P:=Tryz.prog) 25 22 (.slice none 0 0) 24 Tryz.underlying25 ch rfl m (by omega) (by omega)
 go_upto_region 4 with fail
 go_cut [8] (λv wx=>∃g gs,v = .pointer (some ⟨g,0,none⟩)/\Ki w1 n m g gs wx)
 case first =>
  have u1:=aS m0 (.cells #[.int .i64 0,.slice none 0 0] 82)
  have u2:=aS m1 (.cells #[.int .i64 0,.slice none 0 0] 82)
  have u3:=aS m0 (.cells (Array.replicate m (Value.slice none 0 0)) 22)
  have u4:=aS m1 (.cells (Array.replicate m (Value.slice none 0 0)) 22)
  have u5:=aS u1 (.cells (Array.replicate m (Value.slice none 0 0)) 22)
  have u6:=aS u2 (.cells (Array.replicate m (Value.slice none 0 0)) 22)
  have u7:=aS u3 (.cells #[.int .i64 0,.slice none 0 0] 82)
  have u8:=aS u4 (.cells #[.int .i64 0,.slice none 0 0] 82)
  go_region_law (fail)
  all_goals (go_wp2_with fail;go_meet)
  all_goals (first | exact ⟨_,_,rfl,Kh w1 n m (by omega)⟩ | exact ⟨_,_,rfl,Kb w1 n m (by omega)⟩)
 obtain ⟨g,gs,rfl,hBx,hsp,hgg,hgl,hbc⟩:=hcut
 generalize wc=V0 at *
 have hO:=qL hsp
 have hO1 : ∃R,aU V0 w1.heap.size (some ⟨gs,0,none⟩) m m R (dL m 0 T)/\¬ bL (some ⟨gs,0,none⟩) R g:=⟨_,by simpa [dL] using hO,λh=>by
  rcases h with ⟨_,e⟩ | ⟨i,hi,h1,_⟩
  ·exact hgg e
  ·rw [ia] at h1;exact h1 rfl⟩
 have d1:=hBx.cell 1 rfl
 have HX1 : Hid (∀V,Below w1.heap.size w1 V->V.cell? ⟨w.heap.size+1,0,none⟩=some (.int .i64 m)/\V.cell? ⟨w.heap.size+1,1,none⟩=some (.slice a n c)):=λV hV=>by
  have r1:=(HX.out.1.ah hb1).ah hV
  exact ⟨r1.cell 0 rfl,r1.cell 1 rfl⟩
 clear hO hsp m0 m1
 go_wp2_with fail
 go_loopw [33] (λjv wr=>∃k : Nat,k<=m/\jv = .int .i64 k/\(∃R,aU wr w1.heap.size (some ⟨gs,0,none⟩) m m R (dL m k T)/\¬ bL (some ⟨gs,0,none⟩) R g)/\aV wr g [.int .i64 n,.slice (some ⟨gs,0,none⟩) m m]/\Below w1.heap.size w1 wr) (λjv _=>m - (intOf jv).toNat)
 case atStart=>exact ⟨0,Nat.zero_le _,rfl,hO1,hBx,hbc⟩
 case round =>
  clear hO1 hBx hbc d1
  obtain ⟨k,hk,rfl,⟨R,hO,hgR⟩,hBx,hbr⟩:=hrel
  by_cases hlt : k<m
  ·generalize wr=V at *
   have d1:=hBx.cell 1 rfl
   obtain ⟨e0,e1⟩:=HX1.out V hbr
   have hgc : V.cell? ⟨gs,k,none⟩=some (.slice (aM R k).1 (aj (dL m k T) k).length (aM R k).2):=by simpa [ablk,aJ] using hO.cell hlt
   have hgf : V.frozen? ⟨gs,k,none⟩=false:=by simpa [ablk,aJ] using hO.frozen hlt
   have u1:=aS d1 (.cells (Array.replicate n (Value.int .i64 0)) 3)
   have u2:=aS e1 (.cells (Array.replicate n (Value.int .i64 0)) 3)
   have u3:=aS hgc (.cells (Array.replicate n (Value.int .i64 0)) 3)
   have u4:=dG (World.block_lt_of_cell? _ _ hgc) hgf (.cells (Array.replicate n (Value.int .i64 0)) 3)
   have hmk2:=run_mk (P:=Tryz.prog) 22 3 (.int .i64 0) 8 Tryz.underlying22 aX rfl n (by omega) (by omega)
   obtain ⟨C,hC⟩ : ∃C,bf L k=C:=⟨_,rfl⟩
   have hCl : C.length=n:=by rw [<- hC,dc];exact Hlen.out
   have HCn : Hid (∀i,i<n->nth C i=nth (aj L i) k):=λi hi'=>by rw [<- hC];exact cZ _ _ _ (by rw [Hlen.out];exact hi')
   have HCl:=Z5 hCl
   have Hst : Hid ((dL m k T).set k C=dL m (k+1) T):=by
    show _=_
    rw [<- hC,<- HTk.out k hlt];exact ow hlt HTl.out
   obtain ⟨R2,hR2⟩:=Ju (L:=dL m k T) (C:=L) hCl hlt (by omega) hO hgR hBx hgg hbr
   obtain ⟨bn,hbn⟩ : ∃bn,V.heap.size=bn:=⟨_,rfl⟩
   have HR2 : Hid (Ji w1 gs g n m k bn ((dL m k T).set k (iZ C 0)) R2 ((V.alloc (.cells (Array.replicate n (Value.int .i64 0)) 3)).setCell ⟨gs,k,none⟩ (.slice (some ⟨V.heap.size,0,none⟩) n n))):=by
    have h:=hR2
    rw [hbn] at h
    first | exact h | (show Ji _ _ _ _ _ _ _ _ _ _;rw [hbn];exact h)
   have HbnV : Hid (V.heap.size=bn):=hbn
   clear hR2 hCl hC hbn
   go_upto_region 8 with fail
   go_cut [9] (λv wx=>v = .int .i64 k/\Ji w1 gs g n m k bn ((dL m k T).set k (iZ C 0)) R2 wx)
   case first =>
    go_region_law (fail)
    all_goals (go_wp2_with fail;go_meet;first | exact ⟨rfl,HR2.out⟩ | exact ⟨rfl,HR2.out.drew⟩)
   clear u1 u2 u3 u4 hmk2 d1 e0 e1 hgc hgf hBx HR2
   obtain ⟨rfl,hR2⟩:=hcut
   obtain ⟨hO2,hg2,hk2,hb2,hBx2⟩:=hR2
   generalize wc=Y at *
   have d1:=hBx2.cell 1 rfl
   obtain ⟨e0,e1⟩:=HX1.out Y hb2
   have HK2:=Z5 hk2
   have HbV:=Z5 hbr
   clear hk2 hO hbr hgR
   go_wp2_with fail
   go_loopw [47] (λiv wx=>∃i : Nat,i<=n/\iv = .int .i64 i/\aU wx w1.heap.size (some ⟨gs,0,none⟩) m m R2 ((dL m k T).set k (iZ C i))/\aV wx g [.int .i64 n,.slice (some ⟨gs,0,none⟩) m m]/\Below w1.heap.size w1 wx) (λiv _=>n - (intOf iv).toNat)
   case atStart=>exact ⟨0,Nat.zero_le _,rfl,hO2,hBx2,hb2⟩
   case round =>
    clear hO2 hBx2 hb2 d1 e0 e1
    obtain ⟨i,hi',rfl,hO2,hBx2,hb2⟩:=hrel
    by_cases hli : i<n
    ·have d1:=hBx2.cell 1 rfl
     obtain ⟨e0,e1⟩:=HX1.out wr hb2
     have hLk : aj ((dL m k T).set k (iZ C i)) k=iZ C i:=by rw [fP _ _ _ _ (by have h:=hO2.ll;rw [List.length_set] at h;omega),if_pos rfl]
     have hgc : wr.cell? ⟨gs,k,none⟩=some (.slice (some ⟨bn,0,none⟩) n n):=by
      have h:=hO2.cell hlt
      rw [HK2.out,hLk,jT,HCl.out] at h
      simpa [ablk,aJ] using h
     have hrow:=hO2.row k hlt
     rw [HK2.out,hLk,jT,HCl.out] at hrow
     obtain ⟨hi6,hm6⟩:=Ints.own hrow
     have cx : wr.cell? ⟨bn,i,none⟩=some (.int .i64 (nth (iZ C i) i)):=by
      have h:=hi6.cell i hli
      simpa [ablk,aJ] using h
     have fx : wr.frozen? ⟨bn,i,none⟩=false:=by
      have h:=(hm6 (by omega)).2 i hli
      simpa [ablk,aJ] using h
     have HB6 : Hid (w1.heap.size<=bn):=(hm6 (by omega)).1
     have hbw:=Below.next hbw1 hb2
     obtain ⟨ra,rn,rc,hcell,hrw⟩:=(hi.ah hbw).cell i hli
     have hrn : rn=m:=by rw [<- hrw.len];exact HLl.out i hli
     subst hrn
     have cr:=hrw.cell k hlt
     have hpr:=hrw.pl
     have hCi:=HCn.out i hli
     obtain ⟨x,hx⟩ : ∃x,nth (aj L i) k=x:=⟨_,rfl⟩
     rw [hx] at cr hCi
     have hown2:=bC hrow i hli (.int .i64 x)
     rw [<- List.map_set,<- hCi,FU (by rw [HCl.out];exact hli),hCi] at hown2
     have e7 : (⟨ablk (some ⟨bn,0,none⟩),aJ (some ⟨bn,0,none⟩)+i,none⟩ : Addr)=⟨bn,i,none⟩:=by simp [ablk,aJ]
     rw [e7] at hown2
     have hfin : aU (wr.setCell ⟨bn,i,none⟩ (.int .i64 x)) w1.heap.size (some ⟨gs,0,none⟩) rn rn R2 ((dL rn k T).set k (iZ C (i+1))):=by
      have h:=aU.Et hO2 hlt (l:=iZ C (i+1)) (by rw [hLk,jT,jT]) (by rw [HK2.out,hLk,jT,HCl.out];exact hown2) (λb hb hne=>Below.heap_setCell _ _ _ _ λe=>by
       rw [HK2.out] at hne
       rcases hne with h1 | h1
       ·cases h1
       ·exact h1 e)
      rw [List.set_set] at h;exact h
     have hgbn : g ≠ bn:=λe=>by
      refine hg2 (.inr ⟨k,by have:=hO2.rl;omega,?_,?_⟩)
      ·rw [HK2.out];simp
      ·rw [HK2.out];exact e
     have hBx3 : aV (wr.setCell ⟨bn,i,none⟩ (.int .i64 x)) g [.int .i64 n,.slice (some ⟨gs,0,none⟩) rn rn]:=by
      have hb9 : (wr.setCell ⟨bn,i,none⟩ (.int .i64 x)).heap[g]? = wr.heap[g]?:=Below.heap_setCell _ _ _ _ (by show g ≠ bn;exact hgbn)
      exact ⟨by have:=hBx2.1;simpa using this,λj v hv=>(World.cell?_of_block (w:=wr) (a:=⟨g,j,none⟩) hb9).trans (hBx2.2.1 j v hv),λj=>(World.frozen?_of_block (w:=wr) (a:=⟨g,j,none⟩) hb9).trans (hBx2.2.2 j)⟩
     have HF:=Z5 (And.intro hfin (And.intro hBx3 (hb2.setCell (p:=⟨bn,i,none⟩) HB6.out (.int .i64 x))))
     have HD : Hid (∀W : World,aU W w1.heap.size (some ⟨gs,0,none⟩) rn rn R2 ((dL rn k T).set k (iZ C (i+1)))/\aV W g [.int .i64 n,.slice (some ⟨gs,0,none⟩) rn rn]/\Below w1.heap.size w1 W->aU W.drew w1.heap.size (some ⟨gs,0,none⟩) rn rn R2 ((dL rn k T).set k (iZ C (i+1)))/\aV W.drew g [.int .i64 n,.slice (some ⟨gs,0,none⟩) rn rn]/\Below w1.heap.size w1 W.drew):=λW h =>
      ⟨h.1.ah (Below.refl _ _).drew,h.2.1.ah (Below.refl _ _).drew,h.2.2.drew⟩
     clear hfin hBx3 hown2 hrow hi6 hm6 hO2 hBx2 hb2 hbw hrw hCi hx hLk
     go_wp2_with fail
     go_region_law (fail)
     all_goals (
      go_wp2_with fail
      go_roundw
      case rel=>exact ⟨i+1,by omega,by go_num,by first | exact HF.out | exact HD.out _ HF.out⟩
      case measure=>simp [intOf] <;> omega)
    ·obtain rfl : i=n:=by omega
     rw [show iZ C i=C by have h:=FF C;rw [HCl.out] at h;exact h,Hst.out] at hO2
     have HO2:=Z5 hO2
     clear hO2
     go_wp2_with fail
     go_roundw
     case rel=>exact ⟨k+1,by omega,by go_num,⟨R2,HO2.out,hg2⟩,hBx2,hb2⟩
     case measure=>simp [intOf] <;> omega
  ·obtain rfl : k=m:=by omega
   rw [oL HTl.out] at hO
   have d0:=hBx.cell 0 rfl
   have d1:=hBx.cell 1 rfl
   have x2:=(HX.out.2.ah hb1).ah hbr
   have z3:=x2.cell 0 rfl
   have z4:=x2.cell 1 rfl
   have f3:=x2.frozen 0
   have f4:=x2.frozen 1
   have hs:=HsW.out
   have hs1:=hb1.size
   have hbw:=Below.next hbw1 hbr
   have hM:=hO.GU
   have HF : Hid (bN w.heap.size ((wr.setCell ⟨w.heap.size+1+1,0,none⟩ (.int .i64 n)).setCell ⟨w.heap.size+1+1,1,none⟩ (.slice (some ⟨gs,0,none⟩) k k)) (some ⟨gs,0,none⟩) k T/\Below w.heap.size w ((wr.setCell ⟨w.heap.size+1+1,0,none⟩ (.int .i64 n)).setCell ⟨w.heap.size+1+1,1,none⟩ (.slice (some ⟨gs,0,none⟩) k k))) :=
    ⟨((hM.setCell (p:=⟨w.heap.size+1+1,0,none⟩) (by simp;omega) _).setCell (p:=⟨w.heap.size+1+1,1,none⟩) (by simp;omega) _).mono (by omega),(hbw.setCell (by simp;omega) _).setCell (by simp;omega) _⟩
   clear hO hM hBx x2
   go_wp2_with fail
   exact bodyPost_ret (v:=.tuple #[.agg #[.int .i64 n,.slice (some ⟨gs,0,none⟩) k k],.int .i64 0]) (by simp [results,Tryz.results156,go_sem,z3,z4]) rfl ⟨_,_,rfl,HF.out.1,HF.out.2⟩
section
variable {O : aQ} {El : Int->Prop} {m : Nat} {L : Ll} {C : lB}
end
theorem uz {x : Lz} : bw x=0 ↔ ∀k,k<x.length->nth x k=0:=by
 unfold bw
 rw [List.countP_eq_zero]
 constructor
 ·intro h k hk
  have h1:=h _ (aN hk)
  simpa using h1
 ·intro h y hy
  obtain ⟨k,hk,rfl⟩:=List.mem_iff_getElem.1 hy
  have h1:=h k hk
  rw [ai hk] at h1
  simp [h1]
section
variable {P M : Int} {mod : Lz} {m : Nat} {L : Ll}
theorem Ez (hE : aL P M mod m L=0) : ∃p : Lz,nw L p m/\L.length=p.length:=by
 obtain ⟨N',e,hm1,hm64,F,hR⟩:=ba hE
 obtain rfl : m=N':=by omega
 have h6:=(dY (bh hE).2.2.2).2
 rw [Int.toNat_natCast] at h6
 have hcan : dD (aa P M.toNat mod).ops m L=L:=h6
 obtain ⟨hPv,hLd⟩:=du F hR
 have hcl:=cU F hR
 rw [hcan] at hPv hcl
 exact ⟨_,hPv,hcl⟩
theorem Il (hE : aL P M mod m L=0) {p : Lz} (hp : nw L p m) (hl : L.length=p.length) {v : Lz} (hv : ∀k,k<L.length->(aa P M.toNat mod).El (nth v k)) {k : Nat} (hk : k<L.length) :
  nth (bj (aa P M.toNat mod).ops m v L L.length) (nth p k).toNat=nth v k:=by
 obtain ⟨N',e,hm1,hm64,F,hR⟩:=ba hE
 obtain rfl : m=N':=by omega
 have hpk:=hp.lt k (by omega)
 rw [eS F hR hv (by omega) _ (Nat.le_refl _)]
 have hone : ∀t,t<L.length->nth (aj L t) (nth p k).toNat=if t=k then 1 else 0:=λt ht=>hp.one k t (by omega) ht
 have hvj:=hv k hk
 rw [jO F (x:=k) (by
  show (aa P M.toNat mod).El ((aa P M.toNat mod).ops.mul (nth v k) (nth (aj L k) (nth p k).toNat))
  rw [hone k hk,if_pos rfl,F.je hvj];exact hvj) L.length (λq hq hqk=>by
  show (aa P M.toNat mod).ops.mul (nth v q) (nth (aj L q) (nth p k).toNat)=0
  rw [hone q hq,if_neg hqk,F.dA (hv q hq)]),if_pos hk]
 show (aa P M.toNat mod).ops.mul (nth v k) (nth (aj L k) (nth p k).toNat)=_
 rw [hone k hk,if_pos rfl,F.je hvj]
end
def Kt (lo n : Nat) (t : Lz) : Prop:=t.Pairwise (· < ·)/\∀x ∈ t,(lo : Int)<=x/\x<n
theorem xF : ∀ {a b : Lz},a.Pairwise (· < ·)->b.Pairwise (· < ·)->(∀x,x ∈ a ↔ x ∈ b)->a=b
 | [],[],_,_,_=>rfl
 | [],y :: b,_,_,h=>by have:=(h y).2 (by simp);simp at this
 | x :: a,[],_,_,h=>by have:=(h x).1 (by simp);simp at this
 | x :: a,y :: b,ha,hb,h=>by
  obtain ⟨a1,a2⟩:=List.pairwise_cons.1 ha
  obtain ⟨b1,b2⟩:=List.pairwise_cons.1 hb
  have e : x=y:=by
   rcases List.mem_cons.1 ((h x).1 (by simp)) with e | e
   ·exact e
   ·rcases List.mem_cons.1 ((h y).2 (by simp)) with e2 | e2
    ·exact e2.symm
    ·have:=a1 _ e2;have:=b1 _ e;omega
  subst e
  rw [xF a2 b2 λz=>?_]
  constructor
  ·intro hz
   rcases List.mem_cons.1 ((h z).1 (by simp [hz])) with e | e
   ·have:=a1 z hz;omega
   ·exact e
  ·intro hz
   rcases List.mem_cons.1 ((h z).2 (by simp [hz])) with e | e
   ·have:=b1 z hz;omega
   ·exact e
section
def addAll (O : aQ) : Lz->Lz->Ll->Lz
 | u,a :: s,r :: R=>addAll O (gC O u a r) s R
 | u,_,_=>u
variable {O : aQ} {m : Nat}
theorem gH {v : Lz} {L : Ll} (h : v.length=L.length) : ∀(d j : Nat),j+d=L.length->addAll O (bj O m v L j) (v.drop j) (L.drop j)=bj O m v L L.length
 | 0,j,hj=>by
  obtain rfl : j=L.length:=by omega
  rw [List.drop_of_length_le (Nat.le_refl _),List.drop_of_length_le (by omega)]
  rfl
 | d+1,j,hj=>by
  rw [List.drop_eq_getElem_cons (show j<v.length by omega),List.drop_eq_getElem_cons (show j<L.length by omega),addAll]
  rw [<- gH h d (j+1) (by omega)]
  congr 1
  rw [bj,ai (show j<v.length by omega),aE (show j<L.length by omega)]
  rfl
end
theorem DF (w : World) (x : Int) (e : TypeId) {g : Nat} (hg : g=w.heap.size) : Ints (w.alloc (.cells #[.int .i64 x] e)) (some ⟨g,0,none⟩) 1 [x] :=
 ⟨rfl,λ_=>rfl,by unfold maxLen;omega,λi hi=>by
  obtain rfl : i=0:=by omega
  exact aH _ _ _ hg 0⟩
end Go.Proofs.YtcfmiocdlcapoaaGreat
