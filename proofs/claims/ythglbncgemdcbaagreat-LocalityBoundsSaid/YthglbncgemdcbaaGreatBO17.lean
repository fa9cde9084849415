import Derived.Test.YthglbncgemdcbaaGreatBO14
import Derived.OpenShut
import Derived.ShutString
import Derived.ChangeOld
import Derived.Deep.Matrix
namespace Go.Proofs.YthglbncgemdcbaaGreat
set_option linter.all false
set_option maxRecDepth 100000
set_option maxHeartbeats 16000000
open Go.RowKit Go.Proofs.Tryz
def ky (P M:Int) (mod:Lz) (m:Nat) (L:ZZ) (w:ej) (e:Ending) (w':ej):Prop :=
 ∃a1 c1 a2 c2,e = ec #[.agg #[cG P,cG M,.slice a1 mod.length c1,cG m,.slice a2 (bt (ah P M.toNat mod) L m).length c2],cG 0]/\bH w.heap.size w' a1 mod.length mod /\
  bJ w.heap.size w' a2 (bt (ah P M.toNat mod) L m).length (bt (ah P M.toNat mod) L m)/\SJ w w'
theorem rB {w:ej} {g:Nat} {x y u v:Value} (h0:w.cell? ⟨g,0,none⟩=some x) (h1:w.cell? ⟨g,1,none⟩=some y) :
  ((w.setCell ⟨g,0,none⟩ u).setCell ⟨g,1,none⟩ v).cell? ⟨g,0,none⟩=some u/\((w.setCell ⟨g,0,none⟩ u).setCell ⟨g,1,none⟩ v).cell? ⟨g,1,none⟩=some v:=by
 have e1:(w.setCell ⟨g,0,none⟩ u).cell? ⟨g,0,none⟩=some u:=Ns w _ _ h0;have Z:(w.setCell ⟨g,0,none⟩ u).cell? ⟨g,1,none⟩=some y:=by rw [Nr _ _ _ _ (by simp)];exact h1
 exact ⟨by rw [Nr _ _ _ _ (by simp)];exact e1,Ns _ _ _ Z⟩
theorem tu (P M:Int) (am:OA) (F A:Nat) (mod:Lz) (m:Nat) (a:OA) (n c:Nat) (L:ZZ) (w:ej) (K:Ints w am F mod) (hi:bP w a n L) (hE:aI P M mod m L=0) (hmn:F<=1000000) :
  Calls prog 80 #[.agg #[cG P,cG M,.slice am F A,cG m,.slice a n c]] w (ky P M mod m L w):=by
 go_enter func80,ntmps80;go_wp2_with fail;obtain ⟨W,hW⟩:∃W:ej,W=(w.alloc (.cells #[cG P,cG M,.slice am F A,cG m,.slice a n c] 27)).alloc (.cells #[cG 0,cG 0,ds,cG 0,ds] 27):=⟨_,rfl⟩
 rw [<- hW];have z:SJ w W:=by rw [hW];exact dP _ _ _
 have hsW:W.heap.size=w.heap.size+2:=by rw [hW];simp
 have x0:aQ W w.heap.size [cG P,cG M,.slice am F A,cG m,.slice a n c]:=by rw [hW];exact (RV _ _ _ rfl).alloc _
 have z0:aQ W (w.heap.size+1) [cG 0,cG 0,ds,cG 0,ds]:=by rw [hW];exact RV _ _ _ (by simp)
 clear hW;refine (cH P M am F A mod m a n c L W (K.ai z) (hi.ai z)).mono ?_;rintro e X ⟨rfl,E⟩;have S:=RU z E;have HK:Hid (∀V,SJ X V->Calls prog 133 #[.agg #[cG P,cG M,.slice am F A],.agg #[cG m,.slice a n c]] V (rE (ah P M.toNat mod) L m V)):=λV hV =>
  CY P M am F A mod m a n c L V (K.ai (RU S hV)) (hi.ai (RU S hV)) hE
 have HO:Hid (∀V a5 k5 O,SJ X V->Calls prog 120 #[.agg #[cG P,cG M,.slice am F A],.agg #[cG m,.slice a5 k5 O],cG 0] V (qd P M mod m a5 k5 O V)):=λV a5 k5 O hV =>
  B2 P M am F A mod m a5 k5 O V (K.ai (RU S hV)) hmn
 have N:Hid (∀a1 c1 a2 c2 w',bH w.heap.size w' a1 mod.length mod->bJ w.heap.size w' a2 (bt (ah P M.toNat mod) L m).length (bt (ah P M.toNat mod) L m)->SJ w w' ->
   ky P M mod m L w (ec #[.agg #[cG P,cG M,.slice a1 mod.length c1,cG m,.slice a2 (bt (ah P M.toNat mod) L m).length c2],cG 0]) w'):=λa1 c1 a2 c2 w' h1 h2 h3=>⟨a1,c1,a2,c2,rfl,h1,h2,h3⟩
 rw [hE];unfold rE at HK;obtain ⟨KM,hKM⟩:∃KM,bt (ah P M.toNat mod) L m=KM:=⟨_,rfl⟩
 rw [hKM] at HK N;have hS:∀V,SJ X V->V.cell? ⟨w.heap.size,0,none⟩=some (cG P)/\V.cell? ⟨w.heap.size,1,none⟩=some (cG M)/\V.cell? ⟨w.heap.size,2,none⟩=some (.slice am F A)/\V.cell? ⟨w.heap.size,3,none⟩=some (cG m)/\V.cell? ⟨w.heap.size,4,none⟩=some (.slice a n c) /\
   aQ V (w.heap.size+1) [cG 0,cG 0,ds,cG 0,ds]:=λV hV=>by have x1:=(x0.ai E).ai hV;exact ⟨x1.cell 0 rfl,x1.cell 1 rfl,x1.cell 2 rfl,x1.cell 3 rfl,x1.cell 4 rfl,(z0.ai E).ai hV⟩
 have HS:=Z5 hS;have Hbw1:=Z5 S;have HsW:Hid (w.heap.size+2<=X.heap.size):=by show _<=_;rw [<- hsW];exact E.size
 obtain ⟨c0,c1,c2,c3,c4,_⟩:=HS X (M5 _ _);obtain ⟨q,hq⟩:∃q,KM.length=q:=⟨_,rfl⟩
 rw [hq] at HK N;clear hE hKM hS x0 z0 z hsW K hi E S hq;go_wp2_with fail;go_cut [5,6] (λv5 v6 wx=>∃g a5 O,v5 = ea g 0/\v6 = cG 0/\wx.cell? ⟨g,0,none⟩=some (cG m)/\wx.cell? ⟨g,1,none⟩=some (.slice a5 q O)/\bJ X.heap.size wx a5 q KM/\SJ X wx);case first =>
  obtain ⟨b0,b1,b2,b3,b4,_⟩:=HS (X.alloc (.cells #[cG 0,ds] 94)) (aD _ _)
  go_region_law ((first
   | (go_simp;go_at_call 91;((with_reducible refine (oh P M am F A m a n c _).mono ?_);rintro e G ⟨rfl,Q⟩;have Z:SJ X G:=(by first|exact RU (M5 _ _).drew Q|exact RU (aD _ (.cells #[cG 0,ds] 94)).drew Q|exact RU (R6 (M5 _ _).drew _) Q);obtain ⟨c0,c1,c2,c3,c4,_⟩:=HS.out G Z;obtain ⟨d0,d1,d2,d3,d4,_⟩:=HS.out (G.alloc (.cells #[cG 0,ds] 94)) (R6 Z _);(first|(have j:=aC Q (aF (g:=X.heap.size) X #[cG 0,ds] 94 rfl 0);have gz1:=aC Q (aF (g:=X.heap.size) X #[cG 0,ds] 94 rfl 1);have gf0:=dR Q (by simp) (fQ (g:=X.heap.size) X #[cG 0,ds] 94 rfl 0);have gf1:=dR Q (by simp) (fQ (g:=X.heap.size) X #[cG 0,ds] 94 rfl 1))|skip)))
   | (go_simp;go_at_call 133;((with_reducible refine (HK.out _ (by first|exact Z|exact R6 Z _)).mono ?_);rintro e w5 ⟨a5,O,rfl,I,Y⟩;have B:SJ X w5:=(by first|exact RU Z Y|exact RU (R6 Z _) Y);(first|(have D:=aC Y j;have C:=aC Y gz1;have gh0:=dR Y (Nf _ _ j) gf0;have gh1:=dR Y (Nf _ _ gz1) gf1)|(have D:=aC Y (aF G #[cG 0,ds] 94 rfl 0);have C:=aC Y (aF G #[cG 0,ds] 94 rfl 1);have gh0:=dR Y (by simp) (fQ G #[cG 0,ds] 94 rfl 0);have gh1:=dR Y (by simp) (fQ G #[cG 0,ds] 94 rfl 1))|skip)))))
  all_goals (go_wp2_with fail;go_meet)
  all_goals (first
   | exact ⟨w5.heap.size,a5,O,rfl,rfl,aF _ _ _ rfl 0,aF _ _ _ rfl 1,(I.ai (aD _ _)).mono (by first|exact Z.size|exact (R6 Z _).size),R6 B _⟩
   | exact ⟨X.heap.size,a5,O,rfl,rfl,(rB D C).1,(rB D C).2,((I.setCell (p:=⟨X.heap.size,0,none⟩) (Nf _ _ j) _).setCell (p:=⟨X.heap.size,1,none⟩) (Nf _ _ gz1) _).mono Z.size,(B.setCell (p:=⟨X.heap.size,0,none⟩) (M4 _) _).setCell (p:=⟨X.heap.size,1,none⟩) (M4 _) _⟩
   | exact ⟨G.heap.size,a5,O,rfl,rfl,(rB D C).1,(rB D C).2,((I.setCell (p:=⟨G.heap.size,0,none⟩) (by simp) _).setCell (p:=⟨G.heap.size,1,none⟩) (by simp) _).mono (R6 Z _).size,(B.setCell (p:=⟨G.heap.size,0,none⟩) Z.size _).setCell (p:=⟨G.heap.size,1,none⟩) Z.size _⟩)
 obtain ⟨g,a5,O,rfl,rfl,g0,g1,I,Y⟩:=hcut;generalize wc=V at *;obtain ⟨c0,c1,c2,c3,c4,zz⟩:=HS V Y;have HOV:=Z5 (HO V a5 q O Y);clear HK HO;go_wp2_with fail;refine HOV.mono ?_;rintro e w6 ⟨a6,c6,rfl,hN6,hb6⟩;obtain ⟨_,_,_,_,_,U⟩:=HS w6 (RU Y hb6);have z0:=U.cell 0 rfl;have z1:=U.cell 1 rfl;have z2:=U.cell 2 rfl;have z3:=U.cell 3 rfl;have z4:=U.cell 4 rfl;have f0:=U.frozen 0;have f1:=U.frozen 1;have f2:=U.frozen 2;have f3:=U.frozen 3;have f4:=U.frozen 4;have hbF:=RU Hbw1.out (RU Y hb6);have hs:=HsW.out;have hs2:=Y.size;have hM6:=I.ai hb6;have r:=N a6 c6 a5 O (((((w6.setCell ⟨w.heap.size+1,0,none⟩ (cG P)).setCell ⟨w.heap.size+1,1,none⟩ (cG M)).setCell ⟨w.heap.size+1,2,none⟩ (.slice a6 mod.length c6)).setCell ⟨w.heap.size+1,3,none⟩ (cG m)).setCell ⟨w.heap.size+1,4,none⟩ (.slice a5 q O))
  ((((((hN6.setCell (p:=⟨w.heap.size+1,0,none⟩) (by simp;omega) _).setCell (p:=⟨w.heap.size+1,1,none⟩) (by simp;omega) _).setCell (p:=⟨w.heap.size+1,2,none⟩) (by simp;omega) _).setCell (p:=⟨w.heap.size+1,3,none⟩) (by simp;omega) _).setCell (p:=⟨w.heap.size+1,4,none⟩) (by simp;omega) _).mono (by omega))
  ((((((hM6.setCell (p:=⟨w.heap.size+1,0,none⟩) (by simp;omega) _).setCell (p:=⟨w.heap.size+1,1,none⟩) (by simp;omega) _).setCell (p:=⟨w.heap.size+1,2,none⟩) (by simp;omega) _).setCell (p:=⟨w.heap.size+1,3,none⟩) (by simp;omega) _).setCell (p:=⟨w.heap.size+1,4,none⟩) (by simp;omega) _).mono (by omega))
  (((((hbF.setCell (p:=⟨w.heap.size+1,0,none⟩) (by simp) _).setCell (p:=⟨w.heap.size+1,1,none⟩) (by simp) _).setCell (p:=⟨w.heap.size+1,2,none⟩) (by simp) _).setCell (p:=⟨w.heap.size+1,3,none⟩) (by simp) _).setCell (p:=⟨w.heap.size+1,4,none⟩) (by simp) _)
 have HFin:=Z5 r;clear r hM6 I hN6 HOV zz U;go_wp2_with fail;exact bodyPost_ret (v:=.tuple #[.agg #[cG P,cG M,.slice a6 mod.length c6,cG m,.slice a5 q O],cG 0]) (by simp [results,results80,go_sem,z0,z1,z2,z3,z4]) rfl HFin.out
theorem zU (x:Int) (w:ej) (Z:0<=x):Calls prog 248 #[cG x] w λe w'=>e = .returned (.bool false)/\w=w':=by have d1:decide (x<0)=false:=Nu (by omega);go_enter func248,ntmps248;go_wp2;go_ret;exact ⟨by first|rfl|simp [d1],rfl⟩
theorem Ck (a:OA) (n c:Nat) (l:Lz) (w:ej) (hi:Ints w a n l) (V:∀k,k<n->Calls prog 248 #[cG (nth l k)] w λe w'=>e = .returned (.bool false)/\w=w') :
  Calls prog 111 #[.slice a n c,.func (.func 248) #[] #[]] w λe w'=>e = .returned (cG (-1))/\w=w':=by
 have U:=hi.pl;have Z:=hi.max;have Q:=Z5 V;unfold maxLen at Z;clear V;go_enter func111,ntmps111;go_wp2_with fail;go_loop [8] (λX=>∃k:Nat,k<=n/\X = cG k) (λX=>n - (intOf X).toNat);case atStart=>exact ⟨0,Nb _,rfl⟩
 case round =>
  obtain ⟨k,N,rfl⟩:=hrel
  by_cases Y:k<n
  ·have O:=hi.cell k Y
   have S:=Z5 (Q k Y)
   go_wp2_with fail
   refine S.mono ?_
   rintro e w' ⟨rfl,rfl⟩
   go_wp2_with fail
   go_round
   case rel=>exact ⟨k+1,by omega,by go_num⟩
   case measure=>simp [intOf]<;>omega
  ·obtain rfl:k=n:=by omega
   go_wp2_with fail
   go_ret
   exact ⟨rfl,rfl⟩
theorem uu (a:OA) (n c:Nat) (l:Lz) (w:ej) (hi:Ints w a n l) (Z:∀k,k<n->Calls prog 248 #[cG (nth l k)] w λe w'=>e = .returned (.bool false)/\w=w') :
  Calls prog 53 #[.slice a n c,.func (.func 248) #[] #[]] w λe w'=>e = .returned (.bool false)/\w=w':=by have Y:=Z5 (Ck a n c l w hi Z);clear Z;go_enter func53,ntmps53;go_wp2_with fail;refine Y.mono ?_;rintro e w' ⟨rfl,rfl⟩;go_wp2_with fail;go_ret;exact ⟨rfl,rfl⟩
theorem A2 (most:Int) (a:OA) (n c:Nat) (l:Lz) (w:ej) (hm:0<=most/\most<=65536) (hi:Ints w a n l) (A:∀x ∈ l,1<=x/\x<=65536) :
  Calls prog 208 #[cG most,.slice a n c] w λe w'=>e = ec #[cG (EU most l),cG (B1 most l)]/\w=w':=by
 have hlen:=hi.len;have hpl:=hi.pl;have K:=hi.max;unfold maxLen at K;have S:∀k,k<n->1<=nth l k/\nth l k<=65536:=λk z=>A _ (aG (by omega));have Hx1:=Z5 S;have H1:=Z5 (λx C=>(A x C).1);have Hlen:=Z5 hlen;have E:=uu a n c l w hi λk z=>zU (nth l k) w (by have:=S k z;omega);have N:=bS a n c l 0 w hi;have B:decide ((0:Int) ∈ l)=false:=Nu λh=>by have:=(A _ h).1;omega
 rw [B] at N;have Hc0:=Z5 E;have Hc1:=Z5 N;have Hb:Hid (∀k,k<=n->most<dr l k->EU most l=0/\B1 most l=8):=λk z hb=>by have h1:=qj H1.out k (n - k) (by omega);rw [show k+(n - k)=l.length by omega] at h1;unfold EU B1;rw [M8 (by omega),M8 (by omega)];exact ⟨rfl,rfl⟩
 have Hg:Hid (dr l n<=most->EU most l=dr l n/\B1 most l=0):=λh=>by unfold EU B1;rw [hlen,M7 h,M7 h];exact ⟨rfl,rfl⟩
 have dm:decide (most<0)=false:=Nu (by omega);clear S A E N B hlen;go_enter func208,ntmps208;go_wp2_with fail;refine Hc0.mono ?_;rintro e w' ⟨rfl,rfl⟩;go_wp2_with fail;refine Hc1.mono ?_;rintro e w' ⟨rfl,j⟩;obtain rfl:=j.symm;go_wp2_with fail;go_loop [6,19] (λov iv=>∃k:Nat,k<=n/\iv = cG k/\ov = cG (dr l k)/\1<=dr l k/\dr l k<=65536) (λ_ iv=>n - (intOf iv).toNat);case atStart=>exact ⟨0,Nb _,rfl,rfl,by simp [dr],by simp [dr]⟩
 case round =>
  obtain ⟨k,z,rfl,rfl,I,hp2⟩:=hrel
  by_cases D:k<n
  ·have ck:=hi.cell k D
   have C:=Hx1 k D
   have Y:Hid (dr l (k+1)=dr l k * nth l k):=rfl
   obtain ⟨o,U⟩:∃o,dr l k=o:=⟨_,rfl⟩
   obtain ⟨x,G⟩:∃x,nth l k=x:=⟨_,rfl⟩
   rw [U] at I hp2 Y ⊢
   rw [G] at C Y ck
   have X:=div_lt_iff (most:=most) (x:=x) (o:=o) C.1 (by omega) hm.1
   have F:most.tdiv x=most / x:=OF hm.1
   obtain ⟨Q,hQ⟩:∃Q,most / x=Q:=⟨_,rfl⟩
   obtain ⟨L,O⟩:∃L,o * x=L:=⟨_,rfl⟩
   have hQ2:0<=Q/\Q<=65536:=by rw [<- hQ];have h1:=OC (a:=most) x hm.1;have h2:=Ox hm.1 (show 0<=x by omega);omega
   have r:x ≠ 0:=by omega
   have hxb:(x == 0)=false:=by simpa using r
   rw [hQ] at F
   rw [F,O] at X
   rw [O] at Y
   have kQ:wrap64 Q=Q:=Ma hQ2.1 (by omega)
   clear U G
   by_cases Z:Q<o
   ·have d1:decide (Q<o)=true:=Nv Z
    have V:=Z5 (Hb (k+1) (by omega) (by rw [Y.out];exact X.1 Z))
    clear X O Z
    go_wp2_with fail
    go_ret2
    exact ⟨gM V.1.symm V.2.symm,rfl⟩
   ·have d1:decide (Q<o)=false:=Nu Z
    have hP3:L<=most:=Int.not_lt.1 λh=>Z (X.2 h)
    have hP4:1<=L:=by have:=Ow I C.1 (by omega) (by omega);omega
    have kP:wrap64 L=L:=Ma (by omega) (by omega)
    clear X Z
    go_wp2_with fail
    go_round
    case rel=>exact ⟨k+1,by omega,by go_num,by rw [Y.out],by rw [Y.out];exact hP4,by rw [Y.out];omega⟩
    case measure=>simp [intOf]<;>omega
  ·obtain rfl:k=n:=by omega
   by_cases Z:most<dr l k
   ·have V:=Z5 (Hb k (M4 _) Z)
    obtain ⟨o,U⟩:∃o,dr l k=o:=⟨_,rfl⟩
    rw [U] at Z ⊢
    have d1:decide (most<o)=true:=Nv Z
    clear U Z
    go_wp2_with fail
    go_ret2
    exact ⟨gM V.1.symm V.2.symm,rfl⟩
   ·have V:=Z5 (Hg (by omega))
    obtain ⟨o,U⟩:∃o,dr l k=o:=⟨_,rfl⟩
    rw [U] at Z V ⊢
    have d1:decide (most<o)=false:=Nu Z
    clear U Z
    go_wp2_with fail
    go_ret2
    exact ⟨gM V.1.symm V.2.symm,rfl⟩
theorem I3 (n:Nat) (w:ej) (X:n<=1000000) :
  Calls prog 207 #[cG 1,cG n,cG 65536] w λe w'=>e = ec #[cG 1,cG 0]/\w=w':=by
 go_enter func207,ntmps207;go_wp2_with fail;go_loop [1,8] (λY Z=>Y = cG (n:Int)/\Z = cG 1) (λi _=>(intOf i).toNat);case atStart=>exact ⟨rfl,rfl⟩
 case round =>
  obtain ⟨rfl,rfl⟩:=hrel
  by_cases h0:0<n
  ·have d1:decide (0<n)=true:=Nv h0
   go_wp2_with fail
   go_ret2
   first|exact ⟨rfl,rfl⟩|rfl
  ·have d1:decide (0<n)=false:=Nu h0
   go_wp2_with fail
   go_ret2
   first|exact ⟨rfl,rfl⟩|rfl
theorem IX (q:Nat) (n:Nat) (w:ej) (h1:1<=q) (Y:q<=256) (Z:n<=1000000) :
  Calls prog 207 #[cG q,cG n,cG 65536] w λe w'=>e = ec #[cG (nD q n),cG (jU q n)]/\w=w':=by
 by_cases h:q=1
 ·subst h;have e1:nD ((1:Nat):Int) n=1:=by simp [nD,Int.one_pow]
  have X:jU ((1:Nat):Int) n=0:=by simp [jU,Int.one_pow]
  rw [e1,X];exact I3 n w Z
 ·exact Dz q n w (by omega) (by omega) Z
def Mo:Value->Nat
 | .slice _ n _=>n
 | _=>0
theorem Fg:(prog.info? 177).map (λi=>(i.zero,i.size,i.bytes))=some (some (.agg #[ds,cG 0]),2,32):=by kernel_rfl
def Gc (m:Nat) (U:Lz):Nat->Lz
 | 0=>[]
 | 1=>frTo false U m
 | _=>gC m U
theorem Im (m:Nat) (U:Lz) {r:Nat} (Z:r<2):Gc m U (r+1)=Gc m U r ++ frTo (decide (r=1)) U m:=by
 match r,Z with
 | 0,_=>simp [Gc]
 | 1,_=>simp [Gc,gC]
theorem aQ.ML {w:ej} {g:Nat} {x y:Value} (h:aQ w g [x,y]) (v:Value):aQ (w.setCell ⟨g,1,none⟩ v) g [x,v]:=by
 have Y:=h.cell 0 rfl;have Z:=h.cell 1 rfl;refine ⟨by simp;exact h.1,λi u hu=>?_,λi=>by rw [NY];exact h.frozen i⟩;match i,hu with
 | 0,hu =>
  obtain rfl:x=u:=by simpa using hu
  rw [Nr _ _ _ _ (by simp)]
  exact Y
 | 1,hu =>
  obtain rfl:v=u:=by simpa using hu
  exact Ns _ _ _ Z
 | i+2,hu=>simp at hu
theorem uf.mono {w:ej} {B B':Nat} {a:OA} {k c:Nat} {R:Z4} {T:List (Lz × Int)} (h:uf w B a k c R T) (Y:B'<=B):uf w B' a k c R T:=by
 refine ⟨h.rl,h.tl,⟨h.own.1,?_⟩,λp U=>?_⟩
 ·rcases h.own.2 with h2 | ⟨g,cap,cur,X,V,r⟩
  ·exact .inl h2
  ·exact .inr ⟨g,cap,cur,X,Np Y V,r⟩
 ·obtain ⟨h1,h2,h3⟩:=h.row p U;exact ⟨h1,λZ=>⟨Np Y (h2 Z).1,(h2 Z).2⟩,h3⟩
def wg (P M:Int) (mod:Lz) (N:Int) (L:ZZ) (w:ej) (e:Ending) (w':ej):Prop :=
 SJ w w'/\((aI P M mod N L ≠ 0/\e = ec #[ds,cG (aI P M mod N L)]) \/
  (aI P M mod N L=0/\∃m:Nat,N=m/\∃k a c R T,T=gD (ah P M.toNat mod).ops L m/\e = ec #[.slice a k c,cG 0]/\uf w' w.heap.size a k c R T))
theorem Cx (P M:Int) (am:OA) (mn cm:Nat) (mod:Lz) (N:Int) (a:OA) (n c:Nat) (L:ZZ) (w:ej) (hmod:Ints w am mn mod) (hi:bP w a n L) :
  Calls prog 152 #[.agg #[cG P,cG M,.slice am mn cm,cG N,.slice a n c]] w (wg P M mod N L w):=by
 have Hil:=Z5 hi.len;go_enter func152,ntmps152;go_wp2_with fail;obtain ⟨W,hW⟩:∃W:ej,W=w.alloc (.cells #[cG P,cG M,.slice am mn cm,cG N,.slice a n c] 27):=⟨_,rfl⟩
 rw [<- hW];have hbW:SJ w W:=by rw [hW];exact aD _ _
 have x0:aQ W w.heap.size [cG P,cG M,.slice am mn cm,cG N,.slice a n c]:=by rw [hW];exact RV _ _ _ rfl
 have HX:=Z5 x0;have HbW:=Z5 hbW;clear hW x0;refine (qI P M am mn cm mod N a n c L W (hmod.ai hbW) (hi.ai hbW)).mono ?_;rintro e w1 ⟨hb1,⟨hE,rfl⟩ | ⟨hE,b,rfl,hG⟩⟩
 ·have B:=RU hbW hb1;have HP:Hid (wg P M mod N L w (ec #[ds,cG (aI P M mod N L)]) w1):=⟨B,.inl ⟨hE,rfl⟩⟩
  have hE2:(aI P M mod N L != 0)=true:=by simpa using hE
  clear hE;generalize aI P M mod N L=er at *;go_wp2_with fail;go_ret2;exact HP
 have B:=RU hbW hb1;obtain ⟨m,hm,hm1,hm64,hL256,hR⟩:=eh hE;subst hm;have hn:n<=256:=by rw [<- Hil.out];exact hL256
 have HP:Hid (∀k a' c' R T w',T=gD (ah P M.toNat mod).ops L m->SJ w w'->uf w' w.heap.size a' k c' R T->wg P M mod m L w (ec #[.slice a' k c',cG 0]) w'):=λk a' c' R T w' h1 h2 h3 =>
  ⟨h2,.inr ⟨hE,m,rfl,k,a',c',R,T,h1,rfl,h3⟩⟩
 have Hgr:Hid (∀V C nq cq U,SJ w1 V->nq=(gC m U).length->Ints V C nq (gC m U)->Calls prog 94 #[ea b 0,.agg #[cG P,cG M,.slice am mn cm,cG m,.slice a n c],.slice C nq cq] V (cR V (fu (ah P M.toNat mod).ops L m U))):=λV C nq cq U hV hnq hq =>
  sx P M am mn cm m a n c L m C nq cq (gC m U) (hG.ai hV) (hi.ai (RU B hV)) hR hq (λk hk=>KK m U k (by omega)) (by omega) (by rw [hnq,zT];omega)
 have Hcl:Hid (∀U,(fu (ah P M.toNat mod).ops L m U).length<=m):=λU=>by have:=Kk (ah P M.toNat mod).ops L (gC m U);rw [zT] at this;exact this
 obtain ⟨O,hO⟩:∃O,(ah P M.toNat mod).ops=O:=⟨_,rfl⟩
 rw [hO] at HP Hgr Hcl;have HC:Hid (∀V,SJ w1 V->V.cell? ⟨w.heap.size,0,none⟩=some (cG P)/\V.cell? ⟨w.heap.size,1,none⟩=some (cG M)/\V.cell? ⟨w.heap.size,2,none⟩=some (.slice am mn cm)/\V.cell? ⟨w.heap.size,3,none⟩=some (cG m)/\V.cell? ⟨w.heap.size,4,none⟩=some (.slice a n c)):=λV hV=>by have x1:=HX.ai (RU hb1 hV);exact ⟨x1.cell 0 rfl,x1.cell 1 rfl,x1.cell 2 rfl,x1.cell 3 rfl,x1.cell 4 rfl⟩
 have Hbw1:=Z5 B;have hO0:=uf.start w1 w1.heap.size;clear hE hG hR hO hL256 hmod hi B hb1 hbW;go_wp2_with fail;go_loopw [6,7] (λov uv wr=>∃(k:Nat) (T:List (Lz × Int)) (ao:OA) (co:Nat) (R:Z4) (U:Lz) (au:OA) (cu:Nat),k<=m/\ov = .slice ao k co/\uv = .slice au U.length cu/\uf wr w1.heap.size ao k co R T /\
   wr.ownsRow w1.heap.size 3 1 (.slice au U.length cu) U.length (U.map (Value.int .i64))/\Hid ((ao ≠ none->dq au (ablk ao))/\(∀r ∈ R,r.1 ≠ none->dq au (ablk r.1)))/\SJ w1 wr/\Hid (gD O L m=famGo O L m (m+1 - k) U T) /\
   k+(frTo false U m).length<=m/\U.length<=64 * k) (λov _ _=>m+1 - Mo ov)
 case atStart=>exact ⟨0,[],none,0,[],[],none,0,Nb _,rfl,rfl,hO0,cJ,⟨λh=>absurd rfl h,λr hr=>by simp at hr⟩,M5 _ _,rfl,by have:=iG false [] m;omega,by simp⟩
 case round =>
  clear hO0
  obtain ⟨k,T,ao,co,R,U,au,cu,hk,rfl,rfl,hOS,hU,hsep,hbr,hfam,hfr,hUl⟩:=hrel
  generalize wr=V0 at *
  obtain ⟨Un,hUn⟩:∃Un,U.length=Un:=⟨_,rfl⟩
  have HUn:=Z5 hUn
  rw [hUn] at hU hUl ⊢
  clear hUn
  have hIU:=(RW hU).1
  obtain ⟨V1,hV1⟩:∃V1:ej,V1=V0.alloc (.cells #[.bool false,.bool true] 4):=⟨_,rfl⟩
  have hbV1:SJ V0 V1:=by rw [hV1];exact aD _ _
  have hsV1:V1.heap.size=V0.heap.size+1:=by rw [hV1];simp
  have xb:aQ V1 V0.heap.size [.bool false,.bool true]:=by rw [hV1];exact RV _ _ _ rfl
  have Hbl:Hid (∀V,SJ V1 V->∀r,r<2->V.cell? ⟨V0.heap.size,r,none⟩=some (.bool (decide (r=1)))):=λV hV r hr=>by
   have h:=xb.ai hV;match r,hr with
   | 0,_=>exact h.cell 0 rfl
   | 1,_=>exact h.cell 1 rfl
  have HsV1:=Z5 hsV1
  clear xb hsV1
  go_upto_region 8 with fail
  rw [<- hV1]
  clear hV1
  go_loopw [8,25] (λqv iv wx=>∃(r:Nat) (C:OA) (cq:Nat),r<=2/\iv = cG r/\qv = .slice C (Gc m U r).length cq/\wx.ownsRow V1.heap.size 3 1 (.slice C (Gc m U r).length cq) (Gc m U r).length ((Gc m U r).map (Value.int .i64))/\SJ V1 wx) (λ_ iv _=>2 - (intOf iv).toNat)
  case atStart=>exact ⟨0,none,0,by omega,rfl,rfl,cJ,M5 _ _⟩
  case round =>
   obtain ⟨r,C,cq,hr,rfl,rfl,G,hbx⟩:=hrel
   by_cases hlr:r<2
   ·have cb:=Hbl wr hbx r hlr
    obtain ⟨_,_,_,c3,_⟩:=HC wr (RU hbr (RU hbV1 hbx))
    have Hph:=Z5 (Im m U hlr)
    have hphl:(Gc m U r).length<=m:=by
     match r,hlr with
     | 0,_=>simp [Gc]
     | 1,_=>exact iG false U m
    obtain ⟨iO,hold⟩:∃iO,decide (r=1)=iO:=⟨_,rfl⟩
    rw [hold] at cb Hph
    obtain ⟨Ph,hPh⟩:∃Ph,Gc m U r=Ph:=⟨_,rfl⟩
    rw [hPh] at G Hph hphl
    rw [hPh]
    clear hold hPh
    have dr2:decide ((r:Int)<2)=true:=by simp;omega
    generalize wr=X1 at *
    go_wp2_with fail
    clear cb c3
    go_loopw [8,31] (λqv iv wy=>∃(i:Nat) (C:OA) (cq:Nat),i<=m/\iv = cG i/\qv = .slice C (Ph ++ frTo iO U i).length cq/\wy.ownsRow V1.heap.size 3 1 (.slice C (Ph ++ frTo iO U i).length cq) (Ph ++ frTo iO U i).length ((Ph ++ frTo iO U i).map (Value.int .i64))/\SJ V1 wy) (λ_ iv _=>m - (intOf iv).toNat)
    case atStart=>exact ⟨0,C,cq,Nb _,rfl,by simp [frTo],by simpa [frTo] using G,hbx⟩
    case round =>
     clear G hbx
     obtain ⟨i,C,cq,hi,rfl,rfl,G,Z⟩:=hrel
     by_cases hli:i<m
     ·have hIr:=hIU.ai (RU hbV1 Z)
      have I:=bS au Un cu U (i:Int) wr hIr
      have hql:(Ph ++ frTo iO U i).length<=200:=by have:=iG iO U i;rw [Ni];omega
      have hsy:=Z.size
      by_cases hd:decide ((i:Int) ∈ U)=iO
      ·have Hst:Hid (Ph ++ frTo iO U (i+1)=(Ph ++ frTo iO U i) ++ [(i:Int)]):=by show _=_;rw [frTo,M7 hd,Oa]
       rw [hd] at I
       have HcA:=Z5 I
       have hoo:(iO == iO)=true:=by simp
       clear hd I
       generalize Ph ++ frTo iO U i=q at *
       have hcn:=bh wr (cG i) 3
       have hbn:=aD wr (.cells #[cG i] 3)
       go_wp2_with fail
       refine HcA.mono ?_
       rintro e w5 ⟨rfl,rfl⟩
       go_wp2_with (at_builtin;refine bd rfl _ _ 22 3 rfl (cG 0) 8 underlying22 br rfl V1.heap.size C q.length cq _ rfl (G.alloc _) ⟨w5.heap.size,0,none⟩ 1 (cG i) rfl hcn rfl (by omega) (by unfold maxLen;omega) (by simp;omega) ?_;intro a5 c5 w6 D hgr5 hap5)
       go_roundw
       case rel =>
        refine ⟨i+1,a5,c5,by omega,by go_num,by rw [Hst.out];simp,?_,RY (NK Z (hbn.mono hsy)) (G.alloc _) hgr5 (M4 _) (Np hsy hbn.size)⟩
        rw [Hst.out];simpa using D
       case measure=>simp [intOf]<;>omega
      ·have Hst:Hid (Ph ++ frTo iO U (i+1)=Ph ++ frTo iO U i):=by show _=_;rw [frTo,M8 hd]
       have HcA:=Z5 I
       have hoo:(decide ((i:Int) ∈ U) == iO)=false:=by simpa using hd
       clear hd I
       generalize Ph ++ frTo iO U i=q at *
       go_wp2_with fail
       refine HcA.mono ?_
       rintro e w5 ⟨rfl,rfl⟩
       go_wp2_with fail
       go_roundw
       case rel =>
        exact ⟨i+1,C,cq,by omega,by go_num,by rw [Hst.out],by rw [Hst.out];exact G,Z⟩
       case measure=>simp [intOf]<;>omega
     ·obtain rfl:i=m:=by omega
      go_wp2_with fail
      go_roundw
      case rel =>
       exact ⟨r+1,C,cq,by omega,by go_num,by rw [Hph.out],by rw [Hph.out];exact G,Z⟩
      case measure=>simp [intOf]<;>omega
   ·obtain rfl:r=2:=by omega
    have h2o:Gc m U 2=gC m U:=rfl
    rw [h2o] at G ⊢
    have dr3:decide (((2:Nat):Int)<2)=false:=by decide
    generalize wr=V2 at *
    have hbV2:SJ V0 V2:=RU hbV1 hbx
    have hb12:SJ w1 V2:=RU hbr hbV2
    have Hg:=Z5 (Hgr V2 C (gC m U).length cq U hb12 rfl (RW G).1)
    obtain ⟨c0,c1,c2,c3,c4⟩:=HC V2 hb12
    have hSl:=Hcl U
    have Hfam:Hid (gD O L m=famGo O L m (m - k+1) U T):=by show _=_;rw [hfam.out,show m+1 - k=m - k+1 by omega]
    have Y:Hid (fE U (fu O L m U) (fu O L m U).length ≠ 0->(frTo false (U ++ bF (fu O L m U)) m).length<(frTo false U m).length):=λh=>zp h
    have X:Hid (fE U (fu O L m U) (fu O L m U).length=0->gD O L m=T):=λh=>by rw [Hfam.out,famGo,M7 h]
    have Q:Hid (fE U (fu O L m U) (fu O L m U).length ≠ 0->gD O L m=famGo O L m (m - k) (U ++ bF (fu O L m U)) (T ++ [(bF (fu O L m U),fE U (fu O L m U) (fu O L m U).length)])):=λh=>by rw [Hfam.out,famGo,M8 h]
    obtain ⟨S,hS⟩:∃S,fu O L m U=S:=⟨_,rfl⟩
    rw [hS] at Hg hSl Y X Q
    clear hS G Hgr Hfam hfam h2o
    go_wp2_with fail
    refine Hg.mono ?_
    rintro e V3 ⟨a4,E,rfl,K,hb3⟩
    obtain ⟨Sn,hSn⟩:∃Sn,S.length=Sn:=⟨_,rfl⟩
    rw [hSn] at K hSl Y X Q ⊢
    have HSn:=Z5 hSn
    have hbV3:SJ V0 V3:=RU hbV2 hb3
    have hIS:=(RW K).1
    have hplS:=hIS.pl
    clear c0 c1 c2 c3 c4 Hg hSn
    obtain ⟨V4,hV4⟩:∃V4:ej,V4=V3.alloc (.cells #[.slice a4 Sn E,cG 0] 177):=⟨_,rfl⟩
    have x4:aQ V4 V3.heap.size [.slice a4 Sn E,cG 0]:=by rw [hV4];exact RV _ _ _ rfl
    have hb4:SJ V3 V4:=by rw [hV4];exact aD _ _
    go_upto_region 18 with fail
    rw [<- hV4]
    have y0:=x4.cell 0 rfl
    clear hV4
    go_wp2_with fail
    clear y0
    go_loopw [53] (λiv wy=>∃i:Nat,i<=Sn/\iv = cG i/\aQ wy V3.heap.size [.slice a4 Sn E,cG (fE U S i)]/\SJ V3 wy) (λiv _=>Sn - (intOf iv).toNat)
    case atStart=>exact ⟨0,Nb _,rfl,x4,hb4⟩
    case round =>
     clear x4 hb4
     obtain ⟨i,hi,rfl,hx,Z⟩:=hrel
     by_cases hli:i<Sn
     ·have cS:=(hIS.ai Z).cell i hli
      have I:=bS au Un cu U (nth S i) wr (hIU.ai (RU hbV3 Z))
      by_cases hin:nth S i ∈ U
      ·have Hn:Hid (fE U S (i+1)=fE U S i):=by show _=_;rw [fE,M7 hin]
       have hd:decide (nth S i ∈ U)=true:=by simpa using hin
       rw [hd] at I
       have HcA:=Z5 I
       clear I hd hin
       go_wp2_with fail
       refine HcA.mono ?_
       rintro e w5 ⟨rfl,rfl⟩
       go_wp2_with fail
       go_roundw
       case rel=>exact ⟨i+1,by omega,by go_num,by rw [Hn.out];exact hx,Z⟩
       case measure=>simp [intOf]<;>omega
      ·have Hn:Hid (fE U S (i+1)=fE U S i+1):=by show _=_;rw [fE,M8 hin]
       have hd:decide (nth S i ∈ U)=false:=by simpa using hin
       rw [hd] at I
       have HcA:=Z5 I
       have hbd:=oB U S i
       have y1:=hx.cell 1 rfl
       have f1:=hx.frozen 1
       obtain ⟨z,hz⟩:∃z,fE U S i=z:=⟨_,rfl⟩
       rw [hz] at Hn hbd y1 hx
       have kz:IntKind.i64.wrap (z+1)=z+1:=Nn _ (by omega)
       have Hx:=Z5 (hx.ML (cG (z+1)))
       clear I hd hin hz hx
       go_wp2_with fail
       refine HcA.mono ?_
       rintro e w5 ⟨rfl,rfl⟩
       go_wp2_with fail
       go_roundw
       case rel=>exact ⟨i+1,by omega,by go_num,by rw [Hn.out];exact Hx.out,Z.setCell (M4 _) _⟩
       case measure=>simp [intOf]<;>omega
     ·obtain rfl:i=Sn:=by omega
      generalize wr=V5 at *
      have hbV5:SJ V0 V5:=RU hbV3 Z
      have y0:=hx.cell 0 rfl
      have y1:=hx.cell 1 rfl
      obtain ⟨rk,hrk⟩:∃rk,fE U S i=rk:=⟨_,rfl⟩
      rw [hrk] at y1 hx Y X Q
      by_cases hz:rk=0
      ·have hz':(rk == 0)=true:=by simpa using hz
       have HF:=Z5 (HP k ao co R T V5 (X hz).symm (RU Hbw1.out (RU hbr hbV5)) ((hOS.ai hbV5).mono Hbw1.size))
       clear hz hrk hOS hU K Y X Q
       go_wp2_with fail
       go_ret2
       exact HF
      ·have hz':(rk == 0)=false:=by simpa using hz
       have hls:=Y hz
       have hfam3:=Q hz
       have hipos:0<i:=by
        rcases Om i with h0 | h0
        ·subst h0;exact absurd hrk.symm hz
        ·exact h0
       have D:=bj K Z
       have hsz02:=hbV2.size
       have hsz03:=hbV3.size
       have hsz25:V2.heap.size<=V5.heap.size:=by have:=hb3.size;have:=Z.size;omega
       have HSo:=Z5 (oo V2.heap.size a4 i E S V5 D hsz25 (by omega))
       have hsz12:=hb12.size
       have hsz35:=Z.size
       have ha4:a4 ≠ none->V2.heap.size<=ablk a4/\ablk a4<V3.heap.size:=λh0=>aP K h0
       have hau:au ≠ none->ablk au<V0.heap.size:=λh0=>(aP hU h0).2
       have hap4g:dq a4 V3.heap.size:=by
        by_cases h0:a4=none
        ·exact .inl h0
        ·exact .inr (by have:=(ha4 h0).2;omega)
       have hapug:dq au V3.heap.size:=by
        by_cases h0:au=none
        ·exact .inl h0
        ·exact .inr (by have:=hau h0;omega)
       have hapu4:a4 ≠ none->dq au (ablk a4):=λh4=>by
        by_cases h0:au=none
        ·exact .inl h0
        ·exact .inr (by have:=hau h0;have:=(ha4 h4).1;omega)
       have hao:ao ≠ none->ablk ao<V0.heap.size:=λh0=>(hOS.Gy h0).2
       have hapo4:a4 ≠ none->dq ao (ablk a4):=λh4=>by
        by_cases h0:ao=none
        ·exact .inl h0
        ·exact .inr (by have:=hao h0;have:=(ha4 h4).1;omega)
       clear hrk hz K D Y X Q
       go_wp2_with fail
       refine HSo.mono ?_
       rintro e V6 ⟨rfl,hown6,hgr6,hb6⟩
       have z0:=bG hgr6 y0 hap4g
       have z1:=bG hgr6 y1 hap4g
       have hbV6:SJ V0 V6:=hbV5.trans (hb6.mono hsz02)
       have hU6:=bj hU hbV6
       have hOS6:=hOS.ai hbV6
       have hIS6:=(RW hown6).1
       have hSs:(bF S).length=i:=by rw [fb];exact HSn
       have hsz56:=hb6.size
       have hb16:=RU hbr hbV6
       have hsz16:=hb16.size
       clear y0 y1 hx hOS hU hown6 HSo
       go_wp2_with ((first
        | (at_builtin;refine fZ (by rfl) (.tmp 73) (.tmp 75) 22 3 (by rfl) (cG 0) 8 underlying22 br (by rfl) w1.heap.size au Un cu (U.map (Value.int .i64)) (by rfl) hU6 a4 i E ((bF S).map (Value.int .i64)) (by rfl) hplS (by simp [hSs]) (Sm hIS6) (ints_oneCell _ _) (by omega) (by unfold maxLen;omega) hsz16 ?_;intro a7 c7 V7 A F hap7;have k0:=bG F z0 hapug;have k1:=bG F z1 hapug;have hOS8:=(hOS6.grown F hsep.1 hsep.2).ai (aD V7 (.cells #[.slice a4 i E,cG rk] 177)))
        | (at_builtin;refine yr (by rfl) (.tmp 77) (.tmp 79) 169 177 (by rfl) (.agg #[ds,cG 0]) 32 underlying169 Fg (by rfl) w1.heap.size ao k co (I6 R T) (by rfl) hOS8.own V7.heap.size 1 (.slice a4 i E) (cG rk) (by rfl) (aF _ _ _ rfl 0) (aF _ _ _ rfl 1) (by rfl) (by rfl) (by omega) (by unfold maxLen;omega) (by have:=F.size;simp;omega) ?_;intro a9 c9 V9 hown9 hgr9 hap9)))
       go_roundw
       case rel =>
        have hUl2:(U ++ bF S).length=Un+i:=by rw [Ni,HUn.out,hSs]
        have hne7:a7 ≠ none:=λe=>by
         obtain ⟨a',c',hv,hp⟩:=Sf A;cases hv
         have:=hp (by omega);rw [e] at this;cases this
        have hsz67:=F.size
        have hb8:=aD V7 (.cells #[.slice a4 i E,cG rk] 177)
        have hsz78:=hb8.size
        have hapo7:dq ao (ablk a7):=by
         by_cases h0:ao=none
         ·exact .inl h0
         ·have h1:=hap7 (ablk ao) (by have:=hao h0;omega) (hsep.1 h0);rcases h1 with h1 | h1
          ·exact absurd h1 hne7
          ·exact .inr λe=>h1 e.symm
        have hown79:=gN (bj A hb8) hgr9 hapo7
        have hI8:Ints (V7.alloc (.cells #[.slice a4 i E,cG rk] 177)) a4 (bF S).length (bF S):=by rw [hSs];exact (hIS6.y5 F λh=>hapu4 λe=>by have:=hplS h;rw [e] at this;cases this).ai hb8
        have hb17:SJ w1 V7:=RY hb16 hU6 F (M4 _) hsz16
        have hb18:=RU hb17 hb8
        have hOS9:=hOS8.push hI8 (λh0=>⟨by have:=(ha4 h0).1;omega,by have:=(ha4 h0).2;omega⟩) hapo4 (by rw [hSs];exact hown9) hgr9 hap9
        have hb19:SJ w1 V9:=hb18.grown hgr9 (by omega) λj hj=>by
         cases ao with
         | none=>simp [Value.ownBlock] at hj
         | some y=>simp [Value.ownBlock] at hj;rw [<- hj];exact (hOS8.Gy (by simp)).1
        refine ⟨k+1,T ++ [(bF S,rk)],a9,c9,R ++ [(a4,E)],U ++ bF S,a7,c7,by omega,rfl,by rw [hUl2],hOS9,by rw [hUl2,NT];exact hown79,⟨λh0=>?_,λr hr h0=>?_⟩,hb19,by rw [show m+1 - (k+1)=m - k by omega];exact hfam3,by omega,by rw [hUl2];omega⟩
        ·have h1:=hap9 (ablk a7) (by have:=(aP A hne7).2;omega) hapo7
         rcases h1 with h1 | h1
         ·exact absurd h1 h0
         ·exact .inr λe=>h1 e.symm
        ·rcases List.mem_append.1 hr with hr | hr
         ·exact hap7 _ (hOS6.Gf hr h0).1.2 (hsep.2 r hr h0)
         ·rw [NR] at hr
          subst hr
          have h4:ablk a4<V3.heap.size:=(ha4 h0).2
          exact hap7 (ablk a4) (by omega) (hapu4 h0)
       case measure=>simp [Mo]<;>omega
def FM (P M:Int) (mod:Lz) (N:Int) (L:ZZ):Int:=if aI P M mod N L=0 then nD (ah P M.toNat mod).q L.length else 0
def Gd (P M:Int) (mod:Lz) (N:Int) (L:ZZ):Int:=if aI P M mod N L=0 then jU (ah P M.toNat mod).q L.length else aI P M mod N L
theorem Ks {P M:Int} {mod:Lz} {N:Int} {L:ZZ} (Z:aI P M mod N L=0):aO P M=((ah P M.toNat mod).q:Nat)/\(2:Int)<=(ah P M.toNat mod).q/\((ah P M.toNat mod).q:Int)<=256:=by
 obtain ⟨m,hm,_,X,_⟩:=kR (aX Z).1;subst hm;rw [M9];rw [X];have h0:aO P m ≠ 0:=by intro h0;have h1:=(aX Z).1;unfold bw cF at h1;simp [h0] at h1
 obtain ⟨h1,h2,h3,h4,h5,Y⟩:=gR h0;refine ⟨rfl,?_,by omega⟩;rw [Y];have:=dJ (show 1<=P by omega) (show 1<=(m:Int).toNat by omega);have e:P ^ 1=P:=by rw [N1,O4,PS]
 omega
theorem qJ (P M:Int) (am:OA) (Z U:Nat) (mod:Lz) (N:Int) (a:OA) (k c:Nat) (L:ZZ) (w:ej) (G:Ints w am Z mod) (hi:bP w a k L) :
  Calls prog 46 #[.agg #[cG P,cG M,.slice am Z U,cG N,.slice a k c]] w λe w' =>
   e = ec #[cG (FM P M mod N L),cG (Gd P M mod N L)]/\SJ w w':=by
 have Q:Hid (∀V,SJ w V->Calls prog 35 #[.agg #[cG P,cG M,.slice am Z U,cG N,.slice a k c]] V λe w'=>e = .returned (cG (aI P M mod N L))/\SJ V w'):=λV E=>by have h:=mf P M am Z U mod N a k c L V (G.ai E) (hi.ai E) λh=>nZ h;rw [uW] at h;exact h
 have I:L.length=k:=hi.len;go_enter func46,ntmps46;go_upto_region 1 with fail;obtain ⟨W,D⟩:∃W:ej,W=w.alloc (.cells #[cG P,cG M,.slice am Z U,cG N,.slice a k c] 27):=⟨_,rfl⟩
 rw [<- D];have X:SJ w W:=by rw [D];exact aD _ _
 have O:aQ W w.heap.size [cG P,cG M,.slice am Z U,cG N,.slice a k c]:=by rw [D];exact RV _ _ _ rfl
 have HX:=Z5 O;have c0:=O.cell 0 rfl;have c1:=O.cell 1 rfl;have c2:=O.cell 2 rfl;have j:=O.cell 3 rfl;have c4:=O.cell 4 rfl;clear D O;by_cases Y:aI P M mod N L=0
 ·have A:k<=256:=by rw [<- I];exact (eh Y).choose_spec.2.2.2.1
  obtain ⟨r,B,K⟩:=Ks Y;have F:Hid (FM P M mod N L=nD (ah P M.toNat mod).q k/\Gd P M mod N L=jU (ah P M.toNat mod).q k):=by show _/\_;unfold FM Gd;rw [M7 Y,M7 Y,I];exact ⟨rfl,rfl⟩
  rw [Y] at Q;have HOr:Hid (∀V,Calls prog 24 #[.agg #[cG P,cG M,.slice am Z U]] V λe w'=>e = .returned (cG ((ah P M.toNat mod).q:Nat))/\SJ V w'):=λV=>by have h:=lf P M am Z U V;rw [r] at h;exact h
  generalize (ah P M.toNat mod).q=q at *;clear r Y I;go_wp2_with (go_at_call 35;refine (Q _ X).mono ?_;rintro e w3 ⟨rfl,S⟩;clear c0 c1 c2 j c4);have HS:Hid (∀V,SJ w3 V->V.cell? ⟨w.heap.size,0,none⟩=some (cG P)/\V.cell? ⟨w.heap.size,1,none⟩=some (cG M)/\V.cell? ⟨w.heap.size,2,none⟩=some (.slice am Z U)/\V.cell? ⟨w.heap.size,4,none⟩=some (.slice a k c)/\SJ w3 V):=λV E=>by have C:=(HX.ai S).ai E;exact ⟨C.cell 0 rfl,C.cell 1 rfl,C.cell 2 rfl,C.cell 4 rfl,E⟩
  go_region_held3 (λV=>V.cell? ⟨w.heap.size,0,none⟩=some (cG P)/\V.cell? ⟨w.heap.size,1,none⟩=some (cG M)/\V.cell? ⟨w.heap.size,2,none⟩=some (.slice am Z U)/\V.cell? ⟨w.heap.size,4,none⟩=some (.slice a k c)/\SJ w3 V)
   ((refine HS _ ?_;first|exact (M5 _ _).drew|(go_split_ands;assumption)|(go_split_ands;exact RU (by assumption) (by assumption))))
   (first
    | (go_at_call 24;((with_reducible refine (HOr.out _).mono ?_);rintro e w4 ⟨rfl,hb4⟩))
    | (go_at_call 100;((with_reducible refine (GH (q:Int) k _ B K (by omega)).mono ?_);rintro e w5 ⟨rfl,rfl⟩)))
  all_goals go_wp2_with fail
  all_goals go_ret2
  all_goals exact ⟨gM F.1.symm F.2.symm,RU (RU X S) (by go_split_ands;assumption)⟩
 ·have F:Hid (FM P M mod N L=0/\Gd P M mod N L=aI P M mod N L):=by show _/\_;unfold FM Gd;rw [M8 Y,M8 Y];exact ⟨rfl,rfl⟩
  generalize aI P M mod N L=z at *;have hz:(z != 0)=true:=by simpa using Y
  clear Y;go_wp2_with (go_at_call 35;refine (Q _ X).mono ?_;rintro e w3 ⟨rfl,S⟩;clear c0 c1 c2 j c4);go_ret2;exact ⟨gM F.1.symm F.2.symm,RU X S⟩
def q9 (P M:Int) (mod:Lz) (N:Int) (L:ZZ):Int:=if Gd P M mod N L=0/\FM P M mod N L<=600 then FM P M mod N L else 0
theorem xC (P M:Int) (am:OA) (Q K:Nat) (mod:Lz) (N:Int) (a:OA) (k c:Nat) (L:ZZ) (w:ej) (O:Ints w am Q mod) (hi:bP w a k L) :
  Calls prog 42 #[.agg #[cG P,cG M,.slice am Q K,cG N,.slice a k c],cG 600] w λe w' =>
   e = .returned (cG (q9 P M mod N L))/\SJ w w':=by
 have X:Hid (∀V,SJ w V->Calls prog 46 #[.agg #[cG P,cG M,.slice am Q K,cG N,.slice a k c]] V λe w'=>e = ec #[cG (FM P M mod N L),cG (Gd P M mod N L)]/\SJ V w'):=λV B =>
  qJ P M am Q K mod N a k c L V (O.ai B) (hi.ai B)
 have C:Hid (q9 P M mod N L=if Gd P M mod N L=0/\FM P M mod N L<=600 then FM P M mod N L else 0):=rfl;generalize q9 P M mod N L=z at *;generalize FM P M mod N L=v at *;generalize Gd P M mod N L=f at *;go_enter func42,ntmps42;go_upto_region 1 with fail;obtain ⟨W,F⟩:∃W:ej,W=w.alloc (.cells #[cG P,cG M,.slice am Q K,cG N,.slice a k c] 27):=⟨_,rfl⟩
 rw [<- F];have Z:SJ w W:=by rw [F];exact aD _ _
 have S:aQ W w.heap.size [cG P,cG M,.slice am Q K,cG N,.slice a k c]:=by rw [F];exact RV _ _ _ rfl
 have c0:=S.cell 0 rfl;have c1:=S.cell 1 rfl;have c2:=S.cell 2 rfl;have E:=S.cell 3 rfl;have c4:=S.cell 4 rfl;clear F S;by_cases G:f=0
 ·subst G;by_cases U:v<=600
  ·have I:Hid (z=v):=by show _=_;rw [C.out,M7 ⟨rfl,U⟩]
   have D:decide (v > 600)=false:=by simpa using U
   clear U;go_wp2_with (go_at_call 46;refine (X _ Z).mono ?_;rintro e w3 ⟨rfl,Y⟩;clear c0 c1 c2 E c4);go_ret;exact ⟨aK I.symm,RU Z Y⟩
  ·have I:Hid (z=0):=by show _=_;rw [C.out,M8 λh=>U h.2]
   have D:decide (v > 600)=true:=by simpa using U
   clear U;go_wp2_with (go_at_call 46;refine (X _ Z).mono ?_;rintro e w3 ⟨rfl,Y⟩;clear c0 c1 c2 E c4);go_ret;exact ⟨aK I.symm,RU Z Y⟩
 ·have I:Hid (z=0):=by show _=_;rw [C.out,M8 λh=>G h.1]
  have A:(f != 0)=true:=by simpa using G
  clear G;go_wp2_with (go_at_call 46;refine (X _ Z).mono ?_;rintro e w3 ⟨rfl,Y⟩;clear c0 c1 c2 E c4);go_ret;exact ⟨aK I.symm,RU Z Y⟩
theorem KO {P M:Int} {mod:Lz} {N:Int} {L:ZZ} (h:q9 P M mod N L ≠ 0):aI P M mod N L=0/\(ah P M.toNat mod).q ^ L.length<=600/\q9 P M mod N L=(((ah P M.toNat mod).q ^ L.length:Nat):Int):=by
 unfold q9 at h ⊢;split at h
 ·rename_i h1;obtain ⟨h2,h3⟩:=h1;have Z:aI P M mod N L=0:=by
   unfold Gd at h2;split at h2
   ·assumption
   ·exact h2
  unfold Gd at h2;rw [M7 Z] at h2;unfold jU at h2;have hle:((ah P M.toNat mod).q:Int) ^ L.length<=65536:=by
   split at h2
   ·assumption
   ·omega
  have e:((ah P M.toNat mod).q:Int) ^ L.length=(((ah P M.toNat mod).q ^ L.length:Nat):Int):=by simp
  have Y:FM P M mod N L=(((ah P M.toNat mod).q ^ L.length:Nat):Int):=by unfold FM;rw [M7 Z,(od hle).1,e]
  rw [Y] at h3;refine ⟨Z,by omega,?_⟩;rw [M7 ⟨by unfold Gd;rw [M7 Z];exact (od hle).2,by rw [Y];omega⟩,Y]
 ·exact absurd rfl h
def mh (w:ej) (e:Ending) (w':ej):Prop:=∃z,e = .returned (.bool z)/\SJ w w'
theorem EK (a:OA) (n c K:Nat) (L:ZZ) (w:ej) (hi:bP w a n L) (r:K<=100000) :
  Calls prog 83 #[.agg #[cG 0,.slice a n c],cG K] w (mh w):=by
 have E:=Z5 hi.len;have C:=hi.pl;have V:=hi.max;unfold maxLen at V;go_enter func83,ntmps83;go_upto_region 1 with fail;obtain ⟨W,U⟩:∃W:ej,W=w.alloc (.cells #[cG 0,.slice a n c] 94):=⟨_,rfl⟩
 rw [<- U];have Z:SJ w W:=by rw [U];exact aD _ _
 have S:aQ W w.heap.size [cG 0,.slice a n c]:=by rw [U];exact RV _ _ _ rfl
 have c0:=S.cell 0 rfl;have c1:=S.cell 1 rfl;have F:=hi.ai Z;have Y:=Z5 Z;clear U S hi Z;by_cases h1:K<n
 ·have d1:decide (K<n)=true:=by simpa using h1
  have N:decide ((K:Int)<n)=true:=by simp;omega
  go_wp2_with fail;go_ret;exact ⟨_,rfl,Y⟩
 ·have d1:decide (K<n)=false:=by simpa using h1
  have N:decide ((K:Int)<n)=false:=by simp;omega
  go_wp2_with fail;go_loopw [5,6] (λB O wr=>∃k m:Nat,k<=n/\m<=K/\B = cG m/\O = cG k/\wr=W) (λ_ O _=>n - (intOf O).toNat);case atStart=>exact ⟨0,K - n,Nb _,by omega,by go_num,rfl,rfl⟩
  case round =>
   obtain ⟨k,m,A,hm,rfl,rfl,rfl⟩:=hrel
   by_cases I:k<n
   ·obtain ⟨z,X,rc,G,D⟩:=F.cell k I
    by_cases h2:m<X
    ·have d2:decide (m<X)=true:=by simpa using h2
     have Q:decide ((m:Int)<X)=true:=by simp;omega
     go_wp2_with fail
     go_ret
     exact ⟨_,rfl,Y⟩
    ·have d2:decide (m<X)=false:=by simpa using h2
     have Q:decide ((m:Int)<X)=false:=by simp;omega
     have d3:(X:Int)<=m:=by omega
     go_wp2_with fail
     go_roundw
     case rel=>exact ⟨k+1,m - X,by omega,by omega,by go_num,by go_num,by first|rfl|trivial⟩
     case measure=>simp [intOf]<;>omega
   ·obtain rfl:k=n:=by omega
    go_wp2_with fail
    go_ret
    exact ⟨_,rfl,Y⟩
theorem BA (P M:Int) (am:OA) (X U:Nat) (N:Int) (a:OA) (n c K:Nat) (L:ZZ) (w:ej) (hi:bP w a n L) (S:K<=100000) :
  Calls prog 32 #[.agg #[cG P,cG M,.slice am X U,cG N,.slice a n c],cG K] w (mh w):=by have H:=Z5 (λV Q=>EK a n c K L V (hi.ai Q) S:∀V,SJ w V->_);clear hi;go_enter func32,ntmps32;go_wp2_with fail;have Z:=aD w (.cells #[cG P,cG M,.slice am X U,cG N,.slice a n c] 27);refine (H _ Z).mono ?_;rintro e O ⟨z,rfl,Y⟩;have hF:=RU Z Y;go_wp2_with fail;go_ret;exact ⟨z,rfl,hF⟩
section
open Go.ChangeShapes Go.WideShapes Go.ChangeAt Go.RowKit
theorem Tryz.own:ownKnob prog.godebug=none:=by kernel_rfl
theorem Tryz.laid:laidOutB prog=true:=by kernel_rfl
section
variable {H:Type} {enc:TypeId × Value->H} {W:ej} {held:Bool} {fuel:Nat} {cs:List Value} {x:DataW H × List MemPlace}
theorem tq {a:Addr} {v:Value} {i:Nat} (h:W.cell? (a.add i)=some v):W.cell? ⟨a.block,a.off+i,none⟩=some v:=by
 have Z:=Ry h;obtain ⟨b,o,s⟩:=a;by_cases h0:i=0
 ·subst h0;simp only [Addr.add,if_true] at Z h;subst Z;exact h
 ·simpa [Addr.add,h0] using h
theorem td {a:Addr} {v:Value} (h:W.cell? (a.add 0)=some v):a=⟨a.block,a.off,none⟩:=by have Z:=Ry h;obtain ⟨b,o,s⟩:=a;simp only [Addr.add,if_true] at Z;subst Z;rfl
theorem mZ (l:Lz) (n i:Nat) (h:i<n):nth (l.take n) i=l.getD i 0:=by unfold nth;simp only [Na,Ol];rw [M7 h]
theorem zg (h:DataW.trod enc prog W 0 (λ_=>true) held fuel 22 cs=some x):∃a n c l,cs=[.slice a n c]/\Ints W a n l:=by
 rcases open_ints underlying22 underlying3 (by kernel_rfl) h with ⟨Y,_⟩ | ⟨a,len,cap,V,Y,_,U,hm,X,_,Z,_⟩
 ·exact ⟨none,0,0,[],Y,R9 _ _⟩
 ·simp only [if_true] at X;refine ⟨some a,len,cap,V.take len,Y,⟨by simp;omega,λh0=>?_,by omega,λi hi=>?_⟩⟩
  ·exact congrArg some (td (Z 0 (by omega)))
  ·rw [mZ _ _ _ hi];exact tq (Z i (by omega))
theorem Co (h:DataW.trod enc prog W 0 (λ_=>true) held fuel 25 cs=some x):∃a n c L,cs=[.slice a n c]/\bP W a n L:=by
 rcases Go.Deep.open_int_rows underlying25 underlying22 underlying3 (by kernel_rfl) (by kernel_rfl) h with ⟨X,_⟩ | ⟨a,len,cap,A,V,C,Z,X,_,N,hm,_,Y⟩
 ·exact ⟨none,0,0,[],X,⟨rfl,λh0=>by omega,by unfold maxLen;omega,λi hi=>by omega⟩⟩
 ·refine ⟨some a,len,cap,(List.range len).map (λr=>(Z r).take (V r)),X,⟨by simp,λh0=>congrArg some (td (Y 0 (by omega)).1),by omega,λr Q=>?_⟩⟩;obtain ⟨h1,h2,h3,h4,_,h5,U⟩:=Y r (by omega);refine ⟨A r,V r,C r,tq h1,?_⟩;have e:aj ((List.range len).map (λr=>(Z r).take (V r))) r=(Z r).take (V r):=by unfold aj;simp [Na,OQ,List.getElem?_range Q]
  rw [e];match O:A r,h5,U with
  | none,h5,_ =>
   have h0:V r=0:=by have:=h5 rfl;omega
   rw [h0]
   exact R9 _ _
  | some b,_,U =>
   obtain ⟨_,S⟩:=U b rfl
   exact ⟨by simp;omega,λh0=>congrArg some (td (S 0 (by omega))),by omega,λi hi=>by rw [mZ _ _ _ hi];exact tq (S i (by omega))⟩
end
section
variable {H:Type} {enc:TypeId × Value->H} {W:ej} {held:Bool} {b0:Nat} {v:Value} {d:DataW H} {p:List MemPlace}
theorem IT (hv:Value.okWide prog W .any b0 27 v) (h:DataW.Trod enc prog W 0 (λ_=>true) held 27 v d p) :
  ∃(P M:Int) (am:OA) (I D:Nat) (mod:Lz) (N:Int) (a:OA) (n c:Nat) (L:ZZ),v = .agg #[cG P,cG M,.slice am I D,cG N,.slice a n c]/\Ints W am I mod/\bP W a n L:=by
 obtain ⟨cs,rfl,S⟩:=okWide_struct underlying27 hv;rw [show prog.cellsOf 27 = 5 by kernel_rfl] at S;obtain ⟨l⟩:=cs;match l,S with
 | [v0,v1,v2,v3,v4],_ =>
 obtain ⟨fuel,hf⟩:=h;obtain ⟨xs,B,_,_,_,hlen,Y⟩:=Rt underlying27 hf;obtain ⟨U,O,Q,rfl⟩:∃U O Q,xs=[U,O,Q]:=by
  match xs,hlen with
  | [U,O,Q],_=>exact ⟨U,O,Q,rfl⟩
 have E:prog.cellsOf 24 = 3:=by kernel_rfl
 have F:prog.cellsOf 3 = 1:=by kernel_rfl
 have C:prog.cellsOf 22 = 1:=by kernel_rfl
 have A:prog.cellsOf 25 = 1:=by kernel_rfl
 have g0:DataW.trod enc prog W 0 (λ_=>true) held B 24 [v0,v1,v2]=some U:=by simpa [Value.cells,E] using Y 0 _ rfl
 have g1:DataW.trod enc prog W 0 (λ_=>true) held B 3 [v3]=some O:=by simpa [Value.cells,F] using Y 1 _ rfl
 have g2:DataW.trod enc prog W 0 (λ_=>true) held B 25 [v4]=some Q:=by simpa [Value.cells,A] using Y 2 _ rfl
 obtain ⟨V,G,_,_,_,X,Z⟩:=Rt underlying24 g0;obtain ⟨z0,K,z2,rfl⟩:∃z0 K z2,V=[z0,K,z2]:=by
  match V,X with
  | [z0,K,z2],_=>exact ⟨z0,K,z2,rfl⟩
 have q0:DataW.trod enc prog W 0 (λ_=>true) held G 3 [v0]=some z0:=by simpa [F] using Z 0 _ rfl
 have q1:DataW.trod enc prog W 0 (λ_=>true) held G 3 [v1]=some K:=by simpa [F] using Z 1 _ rfl
 have q2:DataW.trod enc prog W 0 (λ_=>true) held G 22 [v2]=some z2:=by simpa [C] using Z 2 _ rfl
 obtain ⟨P,eP,_,_⟩:=Q8 underlying3 q0;obtain ⟨M,e,_,_⟩:=Q8 underlying3 q1;obtain ⟨N,j,_,_⟩:=Q8 underlying3 g1;obtain ⟨am,I,D,mod,z,hI⟩:=zg q2;obtain ⟨a,n,c,L,r,hL⟩:=Co g2;simp at eP e j z r;subst eP e j z r;exact ⟨P,M,am,I,D,mod,N,a,n,c,L,rfl,hI,hL⟩
end
end
end Go.Proofs.YthglbncgemdcbaaGreat
