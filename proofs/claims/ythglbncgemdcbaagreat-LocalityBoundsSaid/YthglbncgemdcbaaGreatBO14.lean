import Derived.Test.YthglbncgemdcbaaGreatBO12
import Derived.Test.YthglbncgemdcbaaGreatBO13
namespace Go.Proofs.YthglbncgemdcbaaGreat
set_option linter.all false
set_option maxRecDepth 100000
set_option maxHeartbeats 8000000
open Go.RowKit Go.Proofs.Tryz
theorem sM (f:Int->Int):∀(n:Nat) (y z:Int),y<=z->z<y+n->f z=1->f (invTo f n y)=1/\y<=invTo f n y/\invTo f n y<y+n
 | 0,y,z,h1,h2,_=>by omega
 | n+1,y,z,h1,h2,Z=>by
  unfold invTo;split
  ·exact ⟨by assumption,by omega,by omega⟩
  ·rename_i Y;have hne:y ≠ z:=λe=>Y (e ▸ Z);have:=sM f n (y+1) z (by omega) (by omega) Z;exact ⟨this.1,by omega,by omega⟩
theorem kR {P M:Int} {mod:Lz} (h:bw P M mod=true):∃m:Nat,M=m/\fo P m=(ah P m mod).El/\((ah P m mod).q:Int)=aO P M/\bQ (ah P m mod).ops (fo P m)/\L5 (ah P m mod).ops (mV P m mod) (fo P m) /\
  ∀p,fo P m p->p ≠ 0->(gP P m mod p=1 ↔ p=1):=by
 have hF:=dY h;obtain ⟨m,y,rfl,j,S,r,F,g⟩:=kJ h;have V:RF P m:=by
  obtain ⟨D,e,h2,_⟩:=jt (by rw [eU];exact h);have:m=D:=by omega
  rw [this];exact h2
 rw [M9] at hF;have e:fo P m=(ah P m mod).El:=by funext x;simp only [bX.El,ah,fo];rw [F]
 rw [<- e] at hF;have I:=g.q2;have hmul:∀x z,fo P m x->fo P m z->(ah P m mod).ops.mul x z=mulR P m mod x z:=λx z Z B=>by rw [Kh V];exact g.rL Z B
 have U:((aO P m).toNat:Int)=aO P m:=by omega
 have hinv:∀x,fo P m x->x ≠ 0->(ah P m mod).ops.inv x=gP P m mod x:=by
  intro x Z h0;have hi:=hF.cl.inv x Z h0;have hm:=hF.mul_inv x Z h0;rw [hmul x _ Z hi] at hm;have A:(ah P m mod).ops.inv x ≠ 0:=by intro E;have h2:=hF.mul_inv x Z h0;rw [E,hF.df Z] at h2;exact absurd h2 (by decide)
  have H:=hi.1;have K:=hi.2;obtain ⟨h1,h2,h3⟩:=sM (mulR P m mod x) ((aO P m).toNat - 1) 1 _ (by omega) (by omega) hm;have Y:fo P m (gP P m mod x):=⟨by unfold gP;omega,by unfold gP;omega⟩
  have h4:(ah P m mod).ops.mul x (gP P m mod x)=1:=by rw [hmul x _ Z Y];exact h1
  have h5:=hF.mul_inv x Z h0;have e1:(ah P m mod).ops.mul ((ah P m mod).ops.inv x) ((ah P m mod).ops.mul x (gP P m mod x))=gP P m mod x:=by rw [<- hF.mul_assoc _ x _ hi Z Y,hF.mul_comm _ x hi Z,h5,hF.one_mul _ Y]
  rw [h4,hF.iH hi] at e1;exact e1
 refine ⟨m,rfl,e,U,hF,⟨λx z _ _=>rfl,hmul,λx _=>rfl,hinv⟩,λp X h0=>?_⟩;rw [<- hinv p X h0];have hi:=hF.cl.inv p X h0;have hm:=hF.mul_inv p X h0;constructor
 ·intro e1;rw [e1,hF.iH X] at hm;exact hm
 ·intro e1;rw [e1] at hm hi ⊢;rw [hF.one_mul _ hi] at hm;exact hm
theorem nZ {P M:Int} {mod:Lz} (h:bC P M mod=true):∀p,fo P M.toNat p->p ≠ 0->(gP P M.toNat mod p=1 ↔ p=1):=by obtain ⟨m,rfl,_,_,_,_,Z⟩:=kR (by rw [<- eU];exact h);exact Z
theorem Jb (P M:Int) (mod:Lz) (Z:Int) (L:ZZ):fR P M mod Z L=dK P M mod Z L:=by
 unfold fR dK;rw [eU];split
 ·rename_i h;obtain ⟨m,rfl,_,Y,_⟩:=kR h;rw [M9,Y]
 ·rfl
theorem DC {P M:Int} {mod:Lz} (h:bw P M mod=true) {L:ZZ} {m:Nat} (Z:bz (ah P M.toNat mod).El m L):xD (mV P M.toNat mod) L m=b8 (ah P M.toNat mod) L m:=by obtain ⟨k,rfl,he,_,hF,Y,_⟩:=kR h;rw [M9] at Z ⊢;rw [<- he] at Z;unfold xD b8;rw [(lk Y hF.cl Z m (M4 _)).1]
theorem CQ (P M:Int) (mod:Lz) (Z:Int) (L:ZZ):gj P M mod Z L=dI P M mod Z L:=by
 unfold gj dI;rw [Jb];split
 ·rename_i h0;obtain ⟨h1,h2⟩:=gk h0;obtain ⟨m,rfl,_,_,Y⟩:=mP h2;rw [M9,DC h1 Y]
 ·rfl
theorem uW (P M:Int) (mod:Lz) (N:Int) (L:ZZ):j4 P M mod N L=aI P M mod N L:=by unfold j4 aI;rw [eU,CQ]
theorem aT {P M:Int} {mod:Lz} {N:Int} {L:ZZ} (h:aI P M mod N L=0):∃n:Nat,N=n/\1<=n/\n<=64/\bQ (ah P M.toNat mod).ops (ah P M.toNat mod).El/\bz (ah P M.toNat mod).El n L:=by obtain ⟨m,rfl,h1,h2,_,Z⟩:=eh h;exact ⟨m,rfl,h1,h2,dY (aX h).1,Z⟩
theorem nF (x:Nat) (i:Int):∀k,i ∈ du x k ↔ ∃j:Nat,j<k/\i=j/\x.testBit j=true
 | 0=>by simp [du]
 | k+1=>by
  have Y:=nF x i k;unfold du;split
  ·rename_i Z;rw [NW,Y,NR];constructor
   ·rintro (⟨j,h1,h2,h3⟩ | rfl)
    ·exact ⟨j,by omega,h2,h3⟩
    ·exact ⟨k,by omega,rfl,Z⟩
   ·rintro ⟨j,h1,h2,h3⟩;by_cases e:j=k
    ·subst e;exact .inr h2
    ·exact .inl ⟨j,by omega,h2,h3⟩
  ·rename_i Z;rw [Y];constructor
   ·rintro ⟨j,h1,h2,h3⟩;exact ⟨j,by omega,h2,h3⟩
   ·rintro ⟨j,h1,h2,h3⟩;by_cases e:j=k
    ·subst e;exact absurd h3 Z
    ·exact ⟨j,by omega,h2,h3⟩
theorem ld (x N:Nat) (i:Nat):i ∈ lE (du x N) (du x N).length ↔ i<N/\x.testBit i=true:=by
 rw [gJ];constructor
 ·rintro ⟨j,Z,e⟩;have hm:nth (du x N) j ∈ du x N:=aG Z;obtain ⟨t,h1,h2,h3⟩:=(nF x _ N).1 hm;have:t=i:=by omega
  subst this;exact ⟨h1,h3⟩
 ·rintro ⟨h1,h2⟩;have hm:(i:Int) ∈ du x N:=(nF x _ N).2 ⟨i,h1,rfl,h2⟩;obtain ⟨j,Z,e⟩:=List.mem_iff_getElem.1 hm;exact ⟨j,Z,by rw [an Z,e];rfl⟩
section
variable {P M:Int} {mod:Lz} {n:Nat} {L:ZZ}
end
def Ga (n:Nat) (Q:Lz):Prop:=∀j,j<Q.length->0<=nth Q j/\nth Q j<n
theorem oT (f:Lz->Lz) (L:ZZ) {k:Nat} (Z:k<L.length):aj (L.map f) k=f (aj L k):=by rw [aH (by simpa using Z),aH Z];simp
section
open Go.RowKit
end
theorem tj (x:Nat):∀k,k<=64->(du x k).length+(du (tG x) k).length=k
 | 0,_=>rfl
 | k+1,V=>by have Y:=tj x k (by omega);have Z:=eL x k (by omega);rw [du,du,Z];cases X:x.testBit k<;>simp<;>omega
theorem Ez (a:OA) (n c:Nat) (l:Lz) (v:Int) (w:ej) (h:Ints w a n l) :
  Calls prog 238 #[.slice a n c,cG v] w λe w'=>∃z:Int,e = .returned (cG z)/\(0<=z ↔ v ∈ l)/\w'=w:=by
 have I:=Z5 h.len;have H:=h.pl;have Z:=h.max;unfold maxLen at Z;go_enter func238,ntmps238;go_wp2_with fail;go_loopw [8] (λF wr=>∃k:Nat,k<=n/\F = cG k/\Hid (∀j,j<k->nth l j ≠ v)/\wr=w) (λi _=>n - (intOf i).toNat);case atStart=>exact ⟨0,Nb _,rfl,λj S=>by omega,rfl⟩
 case round =>
  obtain ⟨k,E,rfl,X,rfl⟩:=hrel
  by_cases Y:k<n
  ·have c1:=h.cell k Y
   by_cases he:nth l k=v
   ·have K:(v == nth l k)=true:=by rw [he];simp
    have U:Hid (v ∈ l):=by show v ∈ l;rw [<- he];exact aG (by rw [I.out];exact Y)
    clear he
    go_wp2_with fail
    go_ret
    exact ⟨k,rfl,⟨λ_=>U.out,λ_=>Pj _⟩,rfl⟩
   ·have K:(v == nth l k)=false:=by simpa using λe=>he e.symm
    have V:Hid (∀j,j<k+1->nth l j ≠ v):=λj S=>by
     by_cases e:j=k
     ·subst e;exact he
     ·exact X j (by omega)
    clear he
    go_wp2_with fail
    go_roundw
    case rel=>exact ⟨k+1,by omega,by go_num,V,by simp⟩
    case measure=>simp [intOf]<;>omega
  ·obtain rfl:k=n:=by omega
   have U:Hid (¬ v ∈ l):=λhm=>by obtain ⟨j,S,e⟩:=List.mem_iff_getElem.1 hm;rw [<- an S] at e;exact X j (by have:=I.out;omega) e
   go_wp2_with fail
   go_ret
   exact ⟨-1,rfl,⟨λh=>absurd h (by omega),λh=>absurd h U.out⟩,rfl⟩
theorem bS (a:OA) (n c:Nat) (l:Lz) (v:Int) (w:ej) (h:Ints w a n l) :
  Calls prog 189 #[.slice a n c,cG v] w λe w'=>e = .returned (.bool (decide (v ∈ l)))/\w'=w:=by
 go_enter func189,ntmps189;go_wp2_with fail;refine (Ez a n c l v w h).mono ?_;rintro e V ⟨z,rfl,Z,rfl⟩;by_cases h0:0<=z
 ·have Y:Hid (decide (v ∈ l)=true):=by show _=_;simpa using Z.1 h0
  have X:decide (0<=z)=true:=by simpa using h0
  clear Z h0;go_wp2_with fail;go_ret;exact ⟨ba Y.symm,rfl⟩
 ·have Y:Hid (decide (v ∈ l)=false):=by show _=_;simpa using λh=>h0 (Z.2 h)
  have X:decide (0<=z)=false:=by simpa using h0
  clear Z h0;go_wp2_with fail;go_ret;exact ⟨ba Y.symm,rfl⟩
def bt (G:bX) (L:ZZ) (m:Nat):ZZ:=b8 G (dn G.ops m (b8 G L m) (bu G L m) m) m
def rE (G:bX) (L:ZZ) (m:Nat) (w:ej) (e:Ending) (w':ej):Prop :=
 ∃a c,e = ec #[.agg #[cG m,.slice a (bt G L m).length c],cG 0]/\bJ w.heap.size w' a (bt G L m).length (bt G L m)/\SJ w w'
theorem Cr (P:Lz):∀k,(eW P k).length<=k
 | 0=>M4 _
 | k+1=>by have:=Cr P k;rw [eW];split<;>simp<;>omega
theorem CY (P M:Int) (am:OA) (mn cm:Nat) (mod:Lz) (m:Nat) (a:OA) (n c:Nat) (L:ZZ) (w:ej) (hmod:Ints w am mn mod) (hi:bP w a n L) (hE:aI P M mod m L=0) :
  Calls prog 133 #[.agg #[cG P,cG M,.slice am mn cm],.agg #[cG m,.slice a n c]] w (rE (ah P M.toNat mod) L m w):=by
 have Hlen:=Z5 hi.len;obtain ⟨N',e,hm1,hm64,F,hR⟩:=aT hE;obtain rfl:m=N':=by omega
 have hL256:=(eh hE).choose_spec.2.2.2.1;have hn:n<=256:=by rw [<- hi.len];exact hL256
 obtain ⟨h5,h6⟩:=dF (aX hE).2.2.2;obtain ⟨hfB,h8⟩:=gk h5;have HR:=Z5 hR;have HF:=Z5 F;clear hE h5 h6 e hL256;go_enter func133,ntmps133;go_wp2_with fail;obtain ⟨W,hW⟩:∃W:ej,W=((((w.alloc (.cells #[cG P,cG M,.slice am mn cm] 24)).alloc (.cells #[cG m,.slice a n c] 94)).alloc (.cells #[cG 0,ds] 94)).alloc (.cells #[cG m,.slice a n c] 94)):=⟨_,rfl⟩
 rw [<- hW];have hbW:SJ w W:=by rw [hW];exact ((((M5 _ _).alloc (M4 _) _).alloc (by simp) _).alloc (by simp;omega) _).alloc (by simp;omega) _
 have hsW:W.heap.size=w.heap.size+4:=by rw [hW];simp
 have q1:W.cell? ⟨w.heap.size+1,0,none⟩=some (cG m)/\W.cell? ⟨w.heap.size+1,1,none⟩=some (.slice a n c):=by rw [hW];exact ⟨aU (aU (aF _ _ _ (by simp) 0) _) _,aU (aU (aF _ _ _ (by simp) 1) _) _⟩
 have q2:W.cell? ⟨w.heap.size+1+1,0,none⟩=some (cG 0)/\W.cell? ⟨w.heap.size+1+1,1,none⟩=some ds/\W.frozen? ⟨w.heap.size+1+1,0,none⟩=false/\W.frozen? ⟨w.heap.size+1+1,1,none⟩=false:=by rw [hW];exact ⟨aU (aF _ _ _ (by simp) 0) _,aU (aF _ _ _ (by simp) 1) _,dA (by simp) (fQ _ _ _ (by simp) 0) _,dA (by simp) (fQ _ _ _ (by simp) 1) _⟩
 have q3:W.cell? ⟨w.heap.size+1+1+1,0,none⟩=some (cG m)/\W.cell? ⟨w.heap.size+1+1+1,1,none⟩=some (.slice a n c):=by rw [hW];exact ⟨aF _ _ _ (by simp) 0,aF _ _ _ (by simp) 1⟩
 have hiW:=hi.ai hbW;have hMs:xz W (some ⟨w.heap.size+1+1+1,0,none⟩) 1 [((m:Int),L)]:=⟨rfl,λ_=>rfl,by unfold maxLen;omega,λi hi=>by
  have:i=0:=by simp at hi;omega
  subst this;exact ⟨a,n,c,by simpa using q3.1,by simpa using q3.2,hiW⟩⟩
 have HsW:=Z5 hsW;clear hW hsW;refine (l6 P M am mn cm mod _ 1 1 _ W (hmod.ai hbW) hMs).mono ?_;rintro e w1 ⟨hb1,hcase⟩;have hbw1:=RU hbW hb1;have hq:∀V,SJ W V->V.cell? ⟨w.heap.size+1,0,none⟩=some (cG m)/\V.cell? ⟨w.heap.size+1,1,none⟩=some (.slice a n c)/\V.cell? ⟨w.heap.size+1+1,0,none⟩=some (cG 0)/\V.cell? ⟨w.heap.size+1+1,1,none⟩=some ds/\V.frozen? ⟨w.heap.size+1+1,0,none⟩=false/\V.frozen? ⟨w.heap.size+1+1,1,none⟩=false:=by intro V hV;have hs:=HsW.out;exact ⟨aC hV q1.1,aC hV q1.2,aC hV q2.1,aC hV q2.2.1,(hV.frozen (p:=⟨w.heap.size+1+1,0,none⟩) (by simp [hs])).trans q2.2.2.1,(hV.frozen (p:=⟨w.heap.size+1+1,1,none⟩) (by simp [hs])).trans q2.2.2.2⟩
 have Hq:=Z5 hq;clear hq q1 q2 q3;rw [ku] at hcase;rcases hcase with ⟨hB,_⟩ | ⟨_,er,h0,h1,_⟩ | ⟨_,_,b,rfl,hG,hbl⟩
 ·rw [hfB] at hB;exact absurd hB (by decide)
 ·rw [h8] at h1;exact absurd h1.symm h0
 obtain ⟨r1,r2,r3,r4,r5,r6⟩:=Hq w1 hb1;have HPost:Hid (∀a c w',bJ w.heap.size w' a (bt (ah P M.toNat mod) L m).length (bt (ah P M.toNat mod) L m)->SJ w w'->rE (ah P M.toNat mod) L m w (ec #[.agg #[cG m,.slice a (bt (ah P M.toNat mod) L m).length c],cG 0]) w'):=λa c w' h1 h2=>⟨a,c,rfl,h1,h2⟩
 obtain ⟨G,hGG⟩:∃G,ah P M.toNat mod=G:=⟨_,rfl⟩
 have HGG:=Z5 hGG;rw [hGG] at hG HR HF HPost hR F;clear h8 hGG hfB;have I:=Z5 (vm a n c m L hG (hiW.ai hb1) hR (by omega) (by omega));have hRc:bz G.El m (b8 G L m):=dk F hR;obtain ⟨hPv,hLd⟩:=dc F hR;have A:(b8 G L m).length=(bu G L m).length:=ek G L m;have HPv:Hid (lK (b8 G L m) (bu G L m) m):=hPv;have hrws:∀k,k<=m->bz G.El m (dn G.ops m (b8 G L m) (bu G L m) k):=by
  intro k;induction k with
  | zero=>intro _ r hr;simp [dn] at hr
  | succ k ih =>
   intro hk r hr
   rw [dn] at hr
   split at hr
   ·exact ih (by omega) r hr
   ·rw [NW,NR] at hr
    rcases hr with hr | rfl
    ·exact ih (by omega) r hr
    ·exact kI F hRc hPv A (by omega) _ (M4 _)
 have Hrws:=Z5 hrws;have hdl:bt G L m=b8 G (dn G.ops m (b8 G L m) (bu G L m) m) m:=rfl;have Hdl:=Z5 hdl;have Hcp:Hid (∀c,c<m->∀i,i<(bu G L m).length->G.El (nth (aj (b8 G L m) i) c)):=λc hc i hi=>R0 (hRc.row (by rw [A];exact hi)) hc;have Hrl:Hid (∀i,i<(bu G L m).length->(aj (b8 G L m) i).length=m):=λi hi=>(hRc.row (by rw [A];exact hi)).1;clear hR F hPv hLd hrws hdl;go_wp2_with fail;refine I.mono ?_;rintro e w2 ⟨a2,c2,ap,cp,rfl,hM2,hp2,hb2⟩;have Hkp:Hid (∀c i,kerTo G.ops m (b8 G L m) (bu G L m) c (i+1)=(kerTo G.ops m (b8 G L m) (bu G L m) c i).set (nth (bu G L m) i).toNat (G.neg (nth (aj (b8 G L m) i) c))):=λc i=>rfl;have Hk0:Hid (∀c,kerTo G.ops m (b8 G L m) (bu G L m) c 0=(List.replicate m 0).set c 1):=λc=>rfl;have Hplt:Hid (∀j,j<(bu G L m).length->0<=nth (bu G L m) j/\nth (bu G L m) j<m):=HPv.lt;obtain ⟨R,hRR⟩:∃R,b8 G L m=R:=⟨_,rfl⟩
 obtain ⟨Z,hPP⟩:∃Z,bu G L m=Z:=⟨_,rfl⟩
 rw [hRR,hPP] at Hrws Hdl Hcp Hkp Hk0 Hrl;rw [hPP] at Hplt hp2 hM2 A;rw [hRR] at hM2 A;rw [hPP];clear hRR hPP HPv I;obtain ⟨t,ht⟩:∃t,Z.length=t:=⟨_,rfl⟩
 have Ht:=Z5 ht;rw [ht] at hM2 hp2 Hcp Hplt A Hrl;rw [ht];have hMM:=hM2.lL;have hII:=hp2.ints;have hplP:=hII.pl;have hplR:=hMM.pl;have hbw2:=RU hbw1 hb2;have K:=RU hb1 hb2;have hG2:=hG.ai hb2;have hmaxP:=hII.max;unfold maxLen at hmaxP;obtain ⟨z1,z2,z3,z4,z5,z6⟩:=Hq w2 K;clear ht hM2 hp2 hG r1 r2 r3 r4 r5 r6;go_wp2_with fail;go_loopw [10,37] (λov iv wr=>∃(k:Nat) (a1:OA) (c1:Nat),k<=m/\iv = cG k/\ov = .slice a1 (eW Z k).length c1/\(∃Rr,aS wr w2.heap.size a1 (eW Z k).length c1 Rr (dn G.ops m R Z k))/\SJ w2 wr) (λ_ iv _=>m - (intOf iv).toNat);case atStart=>exact ⟨0,none,0,Nb _,rfl,rfl,⟨[],aS.K8 w2 w2.heap.size⟩,M5 _ _⟩
 case round =>
  clear z1 z2 z3 z4 z5 z6
  obtain ⟨k,a1,c1,hk,rfl,rfl,⟨Rr,hO⟩,S⟩:=hrel
  have hnk:=Cr Z k
  by_cases hlt:k<m
  ·have Y:=bS ap t cp Z k wr (hII.ai S)
   obtain ⟨z1,_,_,_,_,_⟩:=Hq wr (RU K S)
   by_cases U:(k:Int) ∈ Z
   ·have hN:Hid (eW Z (k+1)=eW Z k):=by show _=_;rw [eW,M7 U]
    have hKk:Hid (dn G.ops m R Z (k+1)=dn G.ops m R Z k):=by show _=_;rw [dn,M7 U]
    rw [show decide ((k:Int) ∈ Z)=true by simpa using U] at Y
    have B:=Z5 Y
    clear U Y
    go_wp2_with fail
    refine B.mono ?_
    rintro e w3 ⟨rfl,rfl⟩
    go_wp2_with fail
    go_roundw
    case rel=>exact ⟨k+1,a1,c1,by omega,by go_num,by rw [hN.out],⟨Rr,by rw [hN.out,hKk.out];exact hO⟩,S⟩
    case measure=>simp [intOf]<;>omega
   ·have hN:Hid (eW Z (k+1)=eW Z k ++ [k]):=by show _=_;rw [eW,M8 U]
    have hKk:Hid (dn G.ops m R Z (k+1)=dn G.ops m R Z k ++ [kerTo G.ops m R Z k t]):=by show _=_;rw [dn,M8 U,Ht.out]
    rw [show decide ((k:Int) ∈ Z)=false by simpa using U] at Y
    have B:=Z5 Y
    clear U Y
    go_wp2_with fail
    refine B.mono ?_
    rintro e w3 ⟨rfl,rfl⟩
    go_wp2_with (at_make;refine bR rfl _ _ 22 3 rfl (cG 0) 8 underlying22 br rfl m rfl rfl (by omega) (by unfold maxLen;omega) ?_;intro a5 w5 E hbel5 hge5 hlt5;obtain ⟨hi5,hm5⟩:=RW (l:=List.replicate m 0) (by simpa using E);have hc5:=hi5.cell k hlt;have hf5:=(hm5 (by omega)).2 k hlt;have hpl5:=hi5.pl)
    have hx0:=bA E k hlt (cG 1)
    have hx0':(w5.setCell ⟨ablk a5,aN a5+k,none⟩ (cG 1)).ownsRow w3.heap.size 3 1 (.slice a5 m m) m ((kerTo G.ops m R Z k 0).map (Value.int .i64)):=by rw [Hk0.out,Ny,OB];exact hx0
    have hbx0:=hbel5.setCell (p:=⟨ablk a5,aN a5+k,none⟩) (hm5 (by omega)).1 (cG 1)
    clear hx0 E hbel5 hge5 hlt5 hi5 hm5 hc5 hf5 z1
    go_loopw [51] (λiv wx=>∃i:Nat,i<=t/\iv = cG i/\wx.ownsRow w3.heap.size 3 1 (.slice a5 m m) m ((kerTo G.ops m R Z k i).map (Value.int .i64))/\SJ w3 wx) (λiv _=>t - (intOf iv).toNat)
    case atStart=>exact ⟨0,Nb _,rfl,hx0',hbx0⟩
    case round =>
     clear hx0' hbx0
     obtain ⟨i,hi',rfl,H,hbx⟩:=hrel
     by_cases hli:i<t
     ·have hb2x:=RU S hbx
      have cpi:=(hII.ai hb2x).cell i hli
      have hpb:=Hplt i hli
      obtain ⟨z,hz⟩:∃z:Nat,nth Z i=z:=⟨(nth Z i).toNat,by omega⟩
      have hzm:z<m:=by omega
      obtain ⟨ra,rn,rc,hcell,hrow⟩:=(hMM.ai hb2x).cell i hli
      have hrn:rn=m:=by rw [<- hrow.len];exact Hrl i hli
      subst hrn
      have ck:=hrow.cell k hlt
      have hpr:=hrow.pl
      have hel:=Hcp k hlt i hli
      have hst:kerTo G.ops rn R Z k (i+1)=(kerTo G.ops rn R Z k i).set z (G.neg (nth (aj R i) k)):=by rw [Hkp.out,hz,M9]
      have Hst:=Z5 hst
      obtain ⟨x9,hx9⟩:∃x,nth (aj R i) k=x:=⟨_,rfl⟩
      rw [hx9] at ck hel Hst
      have Hng:=Z5 (Jo x9 (hG2.ai hb2x) hel)
      rw [hz] at cpi
      obtain ⟨hints,hmine⟩:=RW H
      have hpl5':=hints.pl
      have cz:=hints.cell z hzm
      have fz:=(hmine (by omega)).2 z hzm
      have hB:=(hmine (by omega)).1
      clear hz hpb hst hx9 hel
      go_wp2_with fail
      refine Hng.mono ?_
      rintro e w6 ⟨nd,rfl,rfl⟩
      go_wp2_with fail
      go_roundw
      case rel =>
       have h:=bA (w:=wr.drewN nd) H z hzm (cG (G.neg x9))
       rw [<- Ny,<- Hst.out] at h
       exact ⟨i+1,by omega,by go_num,h,(below_drewN hbx nd).setCell hB _⟩
      case measure=>simp [intOf]<;>omega
     ·obtain rfl:i=t:=by omega
      obtain ⟨X,hX⟩:∃X,kerTo G.ops m R Z k i=X:=⟨_,rfl⟩
      have hXl:X.length=m:=by rw [<- hX];exact gz _ _ _ _ _ _
      rw [hX] at H hKk
      have HXl:=Z5 hXl
      have hO3:=hO.ai (RU hbx (aD wr (.cells #[.slice a5 m m] 22)))
      have hsz:=S.size
      have hsx:=hbx.size
      have hs3:w2.heap.size<=(wr.alloc (.cells #[.slice a5 m m] 22)).heap.size:=by simp;omega
      have hcn:=bh wr (.slice a5 m m) 22
      clear hX hXl
      go_wp2_with (at_builtin;refine bd rfl _ _ 25 22 rfl ds 24 underlying25 ed rfl w2.heap.size a1 (eW Z k).length c1 _ rfl hO3.own ⟨wr.heap.size,0,none⟩ 1 (.slice a5 m m) rfl hcn rfl (by omega) (by unfold maxLen;omega) hs3 ?_;intro a7 c7 w7 hown7 hgr7 hap7)
      go_roundw
      case rel =>
       have hb4:SJ w3 (wr.alloc (.cells #[.slice a5 m m] 22)):=RU hbx (aD _ _)
       have hown4:(wr.alloc (.cells #[.slice a5 m m] 22)).ownsRow w2.heap.size 3 1 (.slice a5 X.length m) X.length (X.map (Value.int .i64)):=by rw [HXl.out];exact bq (bj H (aD _ _)) hsz
       have hra:a5 ≠ none->¬ bN a1 Rr (ablk a5):=λh0 hI=>by have h1:=(aP H h0).1;have h2:=(hO.lt _ hI).2;omega
       have hP:=Ss hO3 hown4 hra (by rw [HXl.out];exact hown7) hgr7 hap7
       have hb5:SJ w2 w7:=RY (RU S hb4) hO3.own hgr7 (M4 _) (Np hsz hb4.size)
       exact ⟨k+1,a7,c7,by omega,by go_num,by rw [hN.out];simp,⟨_,by rw [hN.out,hKk.out,Ni];exact hP⟩,hb5⟩
      case measure=>simp [intOf]<;>omega
  ·obtain rfl:k=m:=by omega
   have hbw:=RU hbw2 S
   have hcan:=vm a1 (eW Z k).length c1 k (dn G.ops k R Z k) (hG2.ai S) hO.lL (Hrws k (M4 _)) (by omega) (by omega)
   have I:=Z5 hcan
   obtain ⟨z1,z2,z3,z4,z5,z6⟩:=Hq wr (RU K S)
   clear hcan hO
   go_wp2_with fail
   refine I.mono ?_
   rintro e w8 ⟨a8,c8,ap8,cp8,rfl,hM8,hp8,hb8⟩
   have D:(bu G (dn G.ops k R Z k) k).length=(bt G L k).length:=by rw [Hdl.out,ek]
   have hM8':bJ wr.heap.size w8 a8 (bt G L k).length (bt G L k):=by rw [<- D,Hdl.out];exact hM8
   rw [D]
   have hbw8:=RU hbw hb8
   have hF:=HPost a8 c8 ((w8.setCell ⟨w.heap.size+1+1,0,none⟩ (cG k)).setCell ⟨w.heap.size+1+1,1,none⟩ (.slice a8 (bt G L k).length c8)) (by have hs:=HsW.out;have hs1:=(RU K S).size;exact ((hM8'.setCell (p:=⟨w.heap.size+1+1,0,none⟩) (by simp;omega) _).setCell (p:=⟨w.heap.size+1+1,1,none⟩) (by simp;omega) _).mono (by omega)) ((hbw8.setCell (by simp;omega) _).setCell (by simp;omega) _)
   have HF2:=Z5 hF
   clear hF hM8 hp8 hM8' I z1 z2 z3 z4 z5 z6 D
   obtain ⟨z1,z2,z3,z4,z5,z6⟩:=Hq w8 (RU (RU K S) hb8)
   generalize (bt G L k).length=q at *
   go_wp2_with fail
   exact bodyPost_ret (v:=.tuple #[.agg #[cG k,.slice a8 q c8],cG 0]) (by simp [results,results133,go_sem,z3,z4]) rfl (by rw [HGG.out];exact HF2)
theorem mB {P M:Int} {mod:Lz} (h:bw P M mod=true):mod.length<=8:=by
 unfold bw cF at h;simp only [Nx,bne_iff_ne,ne_eq] at h;obtain ⟨⟨⟨h1,_⟩,h3⟩,_⟩:=h;have h2:=gR h1;by_cases Z:M=1
 ·rw [M7 Z] at h3;have:mod.length=0:=by simpa using h3
  omega
 ·rw [M8 Z] at h3;simp only [Nx,NM] at h3;omega
theorem pD {P M:Int} {mod:Lz} {m:Nat} {L:ZZ} (hE:aI P M mod m L=0) :
  aI P M mod m (bt (ah P M.toNat mod) L m)=0/\∀x,LK (ah P M.toNat mod).ops (bt (ah P M.toNat mod) L m) m x=LK (ah P M.toNat mod).ops L m x:=by
 obtain ⟨N',e,hm1,z,F,V⟩:=aT hE;obtain rfl:m=N':=by omega
 obtain ⟨A,h1,h64,h4⟩:=aX hE;obtain ⟨h5,h6⟩:=dF h4;rw [M9] at h6;have U:bI (ah P M.toNat mod).ops m L=L:=h6;obtain ⟨K,B⟩:=dc F V;have H:=cU F V;rw [U] at K B H;have hK:=jA F V K H;have hdl:bt (ah P M.toNat mod) L m=bI (ah P M.toNat mod).ops m (dn (ah P M.toNat mod).ops m L (aE (ah P M.toNat mod).ops L m).2 m):=by unfold bt bu;rw [h6];rfl
 obtain ⟨k1,k2⟩:=Fh F V K B H;have Z:=dk F hK;have Y:=qb F hK;have I:=rJ F hK;have S:=rJ F V;rw [U] at S;rw [<- hdl] at k1 k2 Z Y I;generalize bt (ah P M.toNat mod) L m=D at *;constructor
 ·have hq:((ah P M.toNat mod).q:Int)=aO P M\/True:=.inr trivial;have hm:e9 (ah P M.toNat mod).q m D=0:=by
   unfold e9;rw [M8 (by omega)];have hsh:jr (m:Int) D=true:=by unfold jr;rw [NZ];intro r hr;have:=(Z r hr).1;simp;omega
   rw [M8 (by rw [hsh];decide),M7];rw [NZ];intro r hr;unfold fC jx;rw [NZ];intro x hx;have:=(Z r hr).2 x hx;unfold bX.El at this;simp;exact this
  have hf:dK P M mod m D=0:=by unfold dK;rw [M7 A];exact hm
  have hsp:dI P M mod m D=0:=by unfold dI;rw [M7 hf,M9,M7];exact Y
  have hle:jf (m:Int)=0:=rN (by omega) (by omega);unfold aI;rw [M7 A,M7 hle];exact hsp
 ·intro x;have hs:=pI F Z (du x m);have hc:=pI F Z (du (tG x) m);have gs:=pI F V (du x m);have gc:=pI F V (du (tG x) m);have hb:=tj x m z;have X:∀Q:Lz,∀k,(lE Q k).length=k:=λQ k=>by
   induction k with
   | zero=>rfl
   | succ k ih=>rw [lE,NO,ih]
  have hS:∀i ∈ lE (du x m) (du x m).length,i<m:=λi hi=>((ld x m i).1 hi).1;have hC:∀i ∈ lE (du (tG x) m) (du (tG x) m).length,i<m:=λi hi=>((ld (tG x) m i).1 hi).1;have E:∀p,p<m->p ∈ lE (du x m) (du x m).length\/p ∈ lE (du (tG x) m) (du (tG x) m).length:=λp j=>by
   rw [ld,ld,eL _ _ (by omega)];cases hx:x.testBit p
   ·exact .inr ⟨j,rfl⟩
   ·exact .inl ⟨j,rfl⟩
  have r1:=DN F V Z k2 k1 S I hS hC E (by rw [X,X];exact hb) gc hs;have r2:=DN F V Z k2 k1 S I hC hS (λp j=>(E p j).symm) (by rw [X,X];omega) gs hc;rw [X] at r1 r2;unfold LK;omega
theorem Av {l:Lz} {x:Int} {i:Nat} (h:i<l.length):nth (l ++ [x]) i=nth l i:=by simp only [nth,Na];rw [NA h]
theorem Gl (l:Lz) (x:Int):nth (l ++ [x]) l.length=x:=by simp [nth]
theorem yP (l:Lz) (x:Int):∀k,k<=l.length->lE (l ++ [x]) k=lE l k
 | 0,_=>rfl
 | k+1,h=>by rw [lE,lE,Av (by omega),yP l x k (by omega)]
theorem xE (l:Lz) (x:Int):lE (l ++ [x]) (l ++ [x]).length=x.toNat :: lE l l.length:=by rw [Ni,ND,lE,Gl,yP l x l.length (M4 _)]
def gA (Q:Lz):Z6:=lE Q Q.length
theorem Eb (l:Lz) (x:Int):gA (l ++ [x])=x.toNat :: gA l:=xE l x
theorem tV {Q:Lz} {x:Nat}:x ∈ gA Q ↔ ∃y ∈ Q,y.toNat=x:=by
 unfold gA;rw [gJ];constructor
 ·rintro ⟨j,Z,e⟩;exact ⟨nth Q j,aG Z,e⟩
 ·rintro ⟨y,hy,e⟩;obtain ⟨j,Z,rfl⟩:=List.mem_iff_getElem.1 hy;exact ⟨j,Z,by rw [an Z];exact e⟩
section
variable {O:aL} {El:Int->Prop} {m:Nat} {L:ZZ}
def EP (O:aL) (L:ZZ) (Q:Lz):Nat:=(jm O L Q).length
theorem nK (F:bQ O El) (Z:bz El m L) (Q:Lz):Rk (lu O El L.length (bp L)) (gA Q) (EP O L Q):=pI F Z Q
theorem Cy (F:bQ O El) (U:bz El m L) (Q:Lz):∀k,Rk (lu O El L.length (bp L)) (gA (grTo O L Q k).2) (grTo O L Q k).2.length /\
  (∀x ∈ gA (grTo O L Q k).2,x ∈ lE Q k)/\(∀x ∈ lE Q k,lu O El L.length (bp L) (gA (grTo O L Q k).2) x)
 | 0=>⟨.nil,λx Z=>by simp [gA,grTo,lE] at Z,λx Z=>by simp [lE] at Z⟩
 | k+1=>by
  obtain ⟨h1,h2,h3⟩:=Cy F U Q k;obtain ⟨g1,g2,_⟩:=B4 F U Q k;have K:=gd F U;have H:=dw U F.zero;have I:=lT F g1 (H (nth Q k).toNat);have V:lu O El L.length (bp L) (lE Q k) (nth Q k).toNat ↔ (grTo O L Q k).1.ei O (bp L (nth Q k).toNat)=false:=by rw [I];exact ⟨λh X Y h0=>h X Y ((g2 X Y).2 h0),λh X Y h0=>h X Y ((g2 X Y).1 h0)⟩
  rw [grTo];by_cases S:(grTo O L Q k).1.ei O (bp L (nth Q k).toNat)=true
  ·simp only [M7 S];rw [Eb,Ni,ND];refine ⟨.ind _ (λh=>?_) h1,λx Z=>?_,λx Z=>?_⟩
   ·have:=V.1 (K.sub h2 h);rw [S] at this;exact absurd this (by decide)
   ·rw [lE];rcases List.mem_cons.1 Z with rfl | Z
    ·exact Og ..
    ·exact NC _ (h2 x Z)
   ·rw [lE] at Z;rcases List.mem_cons.1 Z with rfl | Z
    ·exact K.mem _ _ (Og ..)
    ·exact K.sub (λy hy=>NC _ hy) (h3 x Z)
  ·simp only [M8 S];have hf:(grTo O L Q k).1.ei O (bp L (nth Q k).toNat)=false:=by simpa using S
   refine ⟨h1,λx Z=>?_,λx Z=>?_⟩
   ·rw [lE];exact NC _ (h2 x Z)
   ·rw [lE] at Z;rcases List.mem_cons.1 Z with rfl | Z
    ·exact K.mono _ _ h3 _ (V.2 hf)
    ·exact h3 x Z
theorem Gz (F:bQ O El) (Y:bz El m L) {Q Z:Lz} (h:∀x,x ∈ gA Q ↔ x ∈ gA Z):EP O L Q=EP O L Z:=Sv (gd F Y) (nK F Y Q) (nK F Y Z) h
theorem H9 (F:bQ O El) (Y:bz El m L) {Q Z:Lz} (h:Q.Perm Z):EP O L Q=EP O L Z :=
 Gz F Y λx=>by rw [tV,tV];exact ⟨λ⟨y,hy,e⟩=>⟨y,h.mem_iff.1 hy,e⟩,λ⟨y,hy,e⟩=>⟨y,h.mem_iff.2 hy,e⟩⟩
end
def frTo (b:Bool) (U:Lz):Nat->Lz
 | 0=>[]
 | k+1=>if decide ((k:Int) ∈ U)=b then frTo b U k ++ [(k:Int)] else frTo b U k
theorem eE {b:Bool} {U:Lz} {x:Int}:∀k,x ∈ frTo b U k ↔ ∃j:Nat,j<k/\x=j/\decide ((j:Int) ∈ U)=b
 | 0=>by simp [frTo]
 | k+1=>by
  rw [frTo];by_cases h:decide ((k:Int) ∈ U)=b
  ·rw [M7 h,NW,eE k,NR];constructor
   ·rintro (⟨j,Y,e,hb⟩ | e)
    ·exact ⟨j,by omega,e,hb⟩
    ·exact ⟨k,by omega,e,h⟩
   ·rintro ⟨j,Y,e,hb⟩;by_cases Z:j=k
    ·subst Z;exact .inr e
    ·exact .inl ⟨j,by omega,e,hb⟩
  ·rw [M8 h,eE k];constructor
   ·rintro ⟨j,Y,e,hb⟩;exact ⟨j,by omega,e,hb⟩
   ·rintro ⟨j,Y,e,hb⟩;by_cases Z:j=k
    ·subst Z;exact absurd hb h
    ·exact ⟨j,by omega,e,hb⟩
theorem iG (b:Bool) (U:Lz):∀k,(frTo b U k).length<=k
 | 0=>M4 _
 | k+1=>by have:=iG b U k;rw [frTo];split<;>simp<;>omega
theorem zM (U:Lz):∀k,(frTo false U k).length+(frTo true U k).length=k
 | 0=>rfl
 | k+1=>by
  have:=zM U k;rw [frTo,frTo];by_cases h:(k:Int) ∈ U
  ·simp [h];omega
  ·simp [h];omega
def gC (m:Nat) (U:Lz):Lz:=frTo false U m ++ frTo true U m
theorem zT (m:Nat) (U:Lz):(gC m U).length=m:=by rw [gC,Ni,zM]
theorem sq {m:Nat} {U:Lz} {x:Int}:x ∈ gC m U ↔ ∃j:Nat,j<m/\x=j:=by
 rw [gC,NW,eE,eE];constructor
 ·rintro (⟨j,Z,e,_⟩ | ⟨j,Z,e,_⟩)<;>exact ⟨j,Z,e⟩
 ·rintro ⟨j,Z,e⟩;by_cases h:(j:Int) ∈ U
  ·exact .inr ⟨j,Z,e,by simpa using h⟩
  ·exact .inl ⟨j,Z,e,by simpa using h⟩
theorem KK (m:Nat) (U:Lz):Ga m (gC m U):=λj Z=>by obtain ⟨i,hi,e⟩:=sq.1 (aG Z);omega
def fE (U S:Lz):Nat->Int
 | 0=>0
 | k+1=>if nth S k ∈ U then fE U S k else fE U S k+1
theorem oB (U S:Lz):∀k,0<=fE U S k/\fE U S k<=k
 | 0=>by simp [fE]
 | k+1=>by have:=oB U S k;rw [fE];split<;>omega
theorem Ad {U S:Lz}:∀k,k<=S.length->fE U S k ≠ 0->∃x ∈ S,¬ x ∈ U
 | 0,_,h=>absurd rfl h
 | k+1,Z,h=>by
  rw [fE] at h;split at h
  ·exact Ad k (by omega) h
  ·rename_i h1;exact ⟨_,aG (by omega),h1⟩
def fu (O:aL) (L:ZZ) (m:Nat) (U:Lz):Lz:=jm O L (gC m U)
def famGo (O:aL) (L:ZZ) (m:Nat):Nat->Lz->List (Lz × Int)->List (Lz × Int)
 | 0,_,T=>T
 | f+1,U,T=>if fE U (fu O L m U) (fu O L m U).length=0 then T else famGo O L m f (U ++ bF (fu O L m U)) (T ++ [(bF (fu O L m U),fE U (fu O L m U) (fu O L m U).length)])
def gD (O:aL) (L:ZZ) (m:Nat):List (Lz × Int):=famGo O L m (m+1) [] []
theorem vl {U V:Lz} (h:∀x ∈ U,x ∈ V):∀k,(frTo false V k).length<=(frTo false U k).length
 | 0=>M4 _
 | k+1=>by
  have Z:=vl h k;rw [frTo,frTo];by_cases h1:(k:Int) ∈ U
  ·simp [h1,h _ h1];exact Z
  ·by_cases h2:(k:Int) ∈ V
   ·simp [h1,h2];omega
   ·simp [h1,h2];exact Z
theorem vH {U V:Lz} (h:∀x ∈ U,x ∈ V) {x:Nat} (X:¬ (x:Int) ∈ U) (Y:(x:Int) ∈ V):∀k,x<k->(frTo false V k).length<(frTo false U k).length
 | 0,S=>by omega
 | k+1,S=>by
  by_cases e:x=k
  ·subst e;have Z:=vl h x;rw [frTo,frTo];simp [X,Y];omega
  ·have Z:=vH h X Y k (by omega);rw [frTo,frTo];by_cases h1:(k:Int) ∈ U
   ·simp [h1,h _ h1];exact Z
   ·by_cases h2:(k:Int) ∈ V
    ·simp [h1,h2];omega
    ·simp [h1,h2];exact Z
theorem lZ (O:aL) (L:ZZ) (Q:Lz):∀k,k<=Q.length->∀x ∈ (grTo O L Q k).2,x ∈ Q
 | 0,_,x,Z=>by simp [grTo] at Z
 | k+1,Y,x,Z=>by
  rw [grTo] at Z;split at Z
  ·rcases List.mem_append.1 Z with Z | Z
   ·exact lZ O L Q k (by omega) x Z
   ·rw [NR] at Z;rw [Z];exact aG (by omega)
  ·exact lZ O L Q k (by omega) x Z
theorem KA {O:aL} {L:ZZ} {m:Nat} {U:Lz} {x:Int} (Z:x ∈ fu O L m U):∃j:Nat,j<m/\x=j:=sq.1 (lZ O L (gC m U) _ (M4 _) x Z)
theorem zp {O:aL} {L:ZZ} {m:Nat} {U:Lz} (h:fE U (fu O L m U) (fu O L m U).length ≠ 0):(frTo false (U ++ bF (fu O L m U)) m).length<(frTo false U m).length:=by obtain ⟨x,Z,Y⟩:=Ad _ (M4 _) h;obtain ⟨j,X,rfl⟩:=KA Z;exact vH (λy hy=>List.mem_append.2 (.inl hy)) Y (List.mem_append.2 (.inr ((cB _).mem_iff.2 Z))) m X
def yH (O:aL) (L:ZZ) (Q:Lz) (most:Nat):Lz:=(jm O L Q).take most
def i9 (m:Nat) (s z:Lz):Lz:=bF z ++ frTo false (s ++ z) m
structure kW where
 M:Nat
 W:Nat
 cos:Bool
 y:Lz
def vi (m:Nat) (s t:Lz):Bool:=dZ m t && t.all λx=>decide (¬ x ∈ s)
structure LS where
 rows:ZZ
 sum:Lz
 top:Nat
def kg (O:aL) (v:Lz) (i:Nat) (r:Lz):Lz :=
 if nth v i=0 then v else List.zipWith (λa y=>if y=0 then a else O.add a (O.neg (O.mul (nth v i) y))) v r
def eC (O:aL) (t i:Nat) (L:ZZ):Nat->ZZ
 | 0=>L
 | l+1=>if t<l then (eC O t i L l).set l (kg O (aj (eC O t i L l) l) i (aj (eC O t i L l) t)) else eC O t i L l
def nA (O:aL) (L:ZZ) (t k i:Nat):ZZ :=
 eC O t i ((aY L t k).set t ((aj (aY L t k) t).map (O.mul (O.inv (nth (aj (aY L t k) t) i))))) L.length
def nQ (O:aL) (st:LS) (i:Nat):LS :=
 if aZ st.rows i st.top=st.rows.length then st
 else ⟨nA O st.rows st.top (aZ st.rows i st.top) i,kg O st.sum i (aj (nA O st.rows st.top (aZ st.rows i st.top) i) st.top),st.top+1⟩
def js (O:aL) (L:ZZ) (y t:Lz):Nat->LS
 | 0=>⟨L,y,0⟩
 | k+1=>nQ O (js O L y t k) (nth t k).toNat
def kd (s v:Lz):Nat->Nat
 | 0=>0
 | k+1=>if nth v k ≠ 0/\¬ (k:Int) ∈ s then kd s v k+1 else kd s v k
def lr (O:aL) (L:ZZ) (y s t:Lz):Nat:=kd s (js O L y t t.length).sum (js O L y t t.length).sum.length
def eB (O:aL) (L:ZZ) (m:Nat) (C:kW) (s t:Lz):Bool :=
 vi m s t && (decide ((jm O L t).length=t.length) &&
  if C.cos=true then decide ((jm O L (frTo false s m)).length=t.length) && decide (C.W<s.length+lr O L C.y s t) else decide (t.length=C.M))
def AZ (C:kW) (s z t:Lz):Lz:=if s.length<C.W then t.filter λx=>decide (¬ x ∈ z) else []
def kfol (F:Lz->Lz->ZZ->Option ZZ) (s:Lz):Lz->Lz->ZZ->Option ZZ
 | _,[],Z=>some Z
 | z,k :: X,Z=>match F (s ++ [k]) z Z with
  | none=>none
  | some Y=>kfol F s (z ++ [k]) X Y
def folS (O:aL) (L:ZZ) (m:Nat) (C:kW):Nat->Lz->Lz->ZZ->Option ZZ
 | 0,s,_,Z=>match Z with
  | []=>none
  | t :: Z=>if eB O L m C s t=true then some Z else none
 | d+1,s,z,Z=>match Z with
  | []=>none
  | t :: Z=>if eB O L m C s t=true then kfol (folS O L m C d) s z (AZ C s z t) Z else none
def provS (O:aL) (L:ZZ) (m:Nat) (C:kW) (T:ZZ):Int :=
 match folS O L m C C.W [] [] T with
 | some []=>0
 | _=>13
def e8 (O:aL) (L:ZZ) (m:Nat) (C:kW) (s z:Lz):Lz:=bF (yH O L (i9 m s z) (if C.cos=true then m else C.M))
def gT (F:Lz->Lz->ZZ->Int × ZZ) (s:Lz):Lz->Lz->ZZ->Int × ZZ
 | _,[],T=>(0,T)
 | z,k :: Z,T=>if (F (s ++ [k]) z T).1=0 then gT F s (z ++ [k]) Z (F (s ++ [k]) z T).2 else ((F (s ++ [k]) z T).1,[])
def jX (O:aL) (L:ZZ) (m:Nat) (C:kW):Nat->Lz->Lz->ZZ->Int × ZZ
 | 0,s,z,T=>if eB O L m C s (e8 O L m C s z)=true then if T.length=65536 then (8,[]) else (0,T ++ [e8 O L m C s z]) else (11,[])
 | d+1,s,z,T=>if eB O L m C s (e8 O L m C s z)=true then if T.length=65536 then (8,[]) else gT (jX O L m C d) s z (AZ C s z (e8 O L m C s z)) (T ++ [e8 O L m C s z]) else (11,[])
def vW (O:aL) (L:ZZ) (m:Nat) (C:kW):Int × ZZ:=jX O L m C C.W [] [] []
theorem zR (O:aL) (L:ZZ) (Q:Lz) {k:Nat}:∀j,k<=j->(grTo O L Q k).2 <+: (grTo O L Q j).2
 | 0,h=>by
   obtain rfl:k=0:=by omega
   exact OJ
 | j+1,h=>by
  by_cases e:k=j+1
  ·subst e;exact OJ
  ·refine (zR O L Q j (by omega)).trans ?_;rw [grTo];split
   ·exact Qr _ _
   ·exact OJ
theorem G0 {O:aL} {L:ZZ} {Q:Lz} {k most:Nat} (Y:k<=Q.length) (h:(grTo O L Q k).2.length=most):yH O L Q most=(grTo O L Q k).2:=by obtain ⟨l,Z⟩:=zR O L Q Q.length Y;rw [yH,jm,<- Z,<- h,List.take_left]
theorem Kv {O:aL} {L:ZZ} {Q:Lz} {most:Nat} (h:(grTo O L Q Q.length).2.length<=most):yH O L Q most=(grTo O L Q Q.length).2:=by rw [yH,jm,Nj h]
theorem Dv (O:aL) (L:ZZ) (Q:Lz):∀k,(grTo O L Q k).2.length<=k
 | 0=>M4 _
 | k+1=>by
  have Z:=Dv O L Q k;rw [grTo];split
  ·simp;omega
  ·dsimp only;omega
theorem H4 (O:aL) (L:ZZ) (Q:Lz):(jm O L Q).length<=Q.length:=Dv O L Q _
theorem AQ {O:aL} {L:ZZ} {Q:Lz} {most:Nat} (h:Q.length<=most):yH O L Q most=jm O L Q :=
 Nj (Np (H4 O L Q) h)
theorem Db {O:aL} {L:ZZ} {Q:Lz} {most:Nat}:∀x ∈ yH O L Q most,x ∈ Q:=λx Z =>
 lZ O L Q Q.length (M4 _) x (N9 Z)
theorem Ih (m:Nat) (s z:Lz):(i9 m s z).length<=z.length+m:=by unfold i9;have:=iG false (s ++ z) m;rw [Ni,fb];omega
theorem zy {m:Nat} {s z:Lz} {x:Int} (h:x ∈ i9 m s z):x ∈ z\/(0<=x/\x<m/\¬ x ∈ s/\¬ x ∈ z):=by
 unfold i9 at h;rcases List.mem_append.1 h with h | h
 ·exact .inl ((cB z).mem_iff.1 h)
 ·obtain ⟨j,Z,rfl,hd⟩:=(eE m).1 h;have:¬ (j:Int) ∈ s ++ z:=by simpa using hd
  rw [NW] at this;exact .inr ⟨by omega,by omega,λh=>this (.inl h),λh=>this (.inr h)⟩
theorem Ic {m:Nat} {s t:Lz} (h:vi m s t=true):dZ m t=true/\∀x ∈ t,¬ x ∈ s:=by unfold vi at h;rw [Nx,NZ] at h;exact ⟨h.1,λx Z=>by simpa using h.2 x Z⟩
theorem IP {O:aL} {L:ZZ} {m:Nat} {C:kW} {s t:Lz} (h:eB O L m C s t=true):dZ m t=true/\∀x ∈ t,¬ x ∈ s:=by unfold eB at h;rw [Nx] at h;exact Ic h.1
section
theorem fH (O:aL) (v:Lz) (i:Nat) (r:Lz) (h:r.length=v.length):(kg O v i r).length=v.length:=by unfold kg;split<;>simp [h]
theorem AN (O:aL) (v:Lz) (i:Nat) (r:Lz) (j:Nat) (h:r.length=v.length) (Z:j<v.length) (h0:nth v i ≠ 0) :
  nth (kg O v i r) j=if nth r j=0 then nth v j else O.add (nth v j) (O.neg (O.mul (nth v i) (nth r j))):=by unfold kg;rw [M8 h0,an (show j<_ by simp [h];omega),an Z,an (show j<r.length by omega)];simp
theorem wu {O:aL} {El:Int->Prop} (X:qV O El) {v r:Lz} {i:Nat} (V:∀x ∈ v,El x) (I:∀x ∈ r,El x) (U:r.length=v.length) (hi:i<v.length):∀x ∈ kg O v i r,El x:=by
 intro x Y;by_cases h0:nth v i=0
 ·unfold kg at Y;rw [M7 h0] at Y;exact V x Y
 ·obtain ⟨j,Z,rfl⟩:=List.mem_iff_getElem.1 Y;rw [fH O v i r U] at Z;have h1:=AN O v i r j U Z h0;rw [an (show j<(kg O v i r).length by rw [fH O v i r U];exact Z)] at h1;rw [h1];have e1:El (nth v j):=V _ (aG Z);have K:El (nth r j):=I _ (aG (by omega));have S:El (nth v i):=V _ (aG hi);split
  ·exact e1
  ·exact X.add _ _ e1 (X.neg _ (X.mul _ _ S K))
variable {w:ej} {b:Nat} {G:bX}
theorem qS (D:ej) (pb:Nat) (E:OA) (cv n:Nat) (v:Lz) (i:Nat) (au:OA) (cu:Nat) (u:Lz) (h:dg D b G) (hb:SJ D w)
  (p0:D.cell? ⟨pb,0,none⟩=some (ea b 0))
  (hv:w.ownsRow D.heap.size 3 1 (.slice E n cv) n (v.map (Value.int .i64))) (hu:Ints w au n u) (hap:E=none\/au=none\/ablk au ≠ ablk E)
  (hve:∀x ∈ v,G.El x) (hue:∀x ∈ u,G.El x) (hin:i<n) :
  Calls prog 270 #[ea pb 0,.slice E n cv,cG i,.slice au n cu] w
   λe w'=>e = .returned (.tuple #[])/\w'.ownsRow D.heap.size 3 1 (.slice E n cv) n ((kg G.ops v i u).map (Value.int .i64))/\ch E w w':=by
 have z:=hu.len;have r:v.length=n:=by simpa using jd hv
 have hmax:=hu.max;unfold maxLen at hmax;have hpu:=hu.pl;obtain ⟨iv0,mv0⟩:=RW hv;have hpv:=iv0.pl;have ci:=iv0.cell i hin;have hav:0<n->E ≠ none:=λhn e=>by have:=hpv hn;rw [e] at this;cases this
 have hxe:G.El (nth v i):=hve _ (aG (by omega));have Hul:=Z5 z;have B:=Z5 r;have Hav:=Z5 hav;have Hve:=Z5 hve;have Hue:=Z5 hue;have HP:=Z5 (λ(V:ej) (hV:SJ D V)=>aC hV p0);clear hav hve hue;by_cases hx:nth v i=0
 ·have Hn:Hid (kg G.ops v i u=v):=by show _=_;rw [kg,M7 hx]
  have hx':(nth v i != 0)=false:=by simpa using hx
  clear hx z r;go_enter func270,ntmps270;go_wp2_with fail;go_end0;exact ⟨rfl,by rw [Hn.out];exact hv,Sg _ _⟩
 have hx':(nth v i != 0)=true:=by simpa using hx
 have Hnl:=Z5 (fH G.ops v i u (by omega));have Hnth:=Z5 (λj hj=>AN G.ops v i u j (by omega) hj hx);clear hx z r;generalize kg G.ops v i u=N at *;go_enter func270,ntmps270;go_wp2_with fail;generalize nth v i=x at *;go_loopw [19] (λiv wr=>∃k:Nat,k<=n/\iv = cG k/\wr.ownsRow D.heap.size 3 1 (.slice E n cv) n ((eJ N v k).map (Value.int .i64))/\ch E w wr) (λiv _=>n - (intOf iv).toNat);case atStart=>exact ⟨0,Nb _,rfl,by rw [dX];exact hv,Sg _ _⟩
 case round =>
  obtain ⟨k,hk,rfl,X,Z⟩:=hrel
  by_cases K:k<n
  ·have hiu:=Z.ints hu hap
   have cu1:=hiu.cell k K
   have I:N.length=v.length:=Hnl.out
   have S:k<v.length:=by rw [B.out];exact K
   have Y:=Hnth k S
   have U:=dS N v k k I (by omega)
   rw [M8 (by omega)] at U
   by_cases hz:nth u k=0
   ·rw [M7 hz] at Y
    have F:=la N v k I S Y
    have A:=Z5 F
    have hz':(nth u k != 0)=false:=by simpa using hz
    clear Y U F I S hz
    go_wp2_with fail
    go_roundw
    case rel=>exact ⟨k+1,by omega,by go_num,by rw [A.out];exact X,Z⟩
    case measure=>simp [intOf]<;>omega
   ·rw [M8 hz] at Y
    have H:=dU N v k I S
    obtain ⟨hiv,hmv⟩:=RW X
    have cv1:=hiv.cell k K
    have fv1:=(hmv (by omega)).2 k K
    rw [U] at cv1
    have elv:G.El (nth v k):=Hve _ (aG S)
    have elu:G.El (nth u k):=Hue _ (aG (by rw [Hul.out];exact K))
    have hbr:SJ D wr:=NK hb (Z.below (λha=>(aP hv ha).1) hb.size)
    have p0r:=HP wr hbr
    have hGr:dg wr b G:=h.ai hbr
    have elm:∀x y,G.El (G.mul x y):=λx y=>Sr h x y
    have HG:Hid (dg wr.drew b G/\∀n,dg (wr.drewN n) b G):=⟨hGr.ai (M5 _ _).drew,λn=>hGr.drewN n⟩
    rw [Y] at H
    have Hset:=Z5 H
    have hz':(nth u k != 0)=true:=by simpa using hz
    clear Y U H I S hz
    go_wp2_with fail
    go_region_law ((first
     | (go_simp;go_at_call 57;((with_reducible refine (lp x (nth u k) HG.out.1 hxe elu).mono ?_);rintro e w4 ⟨m4,rfl,rfl⟩))
     | (go_simp;go_at_call 57;((with_reducible refine (lp x (nth u k) (HG.out.2 _) hxe elu).mono ?_);rintro e w4 ⟨m4,rfl,rfl⟩))
     | (go_simp;go_at_call 199;((with_reducible refine (JR (nth v k) (G.mul x (nth u k)) (HG.out.2 _) elv (elm _ _)).mono ?_);rintro e w4 ⟨m5,rfl,rfl⟩))))
    all_goals (
     go_wp2_with fail
     go_roundw
     case rel =>
      have hdr:bm wr (wr.drewN (1+m4+m5)):=⟨_,rfl⟩
      refine ⟨k+1,by omega,by go_num,?_,Z.trans ((Sc hdr).trans (Sl _ k _ (Hav (by omega))))⟩
      have h1:=bA (w:=wr.drewN (1+m4+m5)) X k K (cG (G.sub (nth v k) (G.mul x (nth u k))))
      rw [<- Ny,show G.sub (nth v k) (G.mul x (nth u k))=G.ops.add (nth v k) (G.ops.neg (G.ops.mul x (nth u k))) from rfl,Hset.out] at h1
      exact h1
     case measure=>simp [intOf]<;>omega)
  ·obtain rfl:k=n:=by omega
   rw [eD N v k (by rw [Hnl.out,B.out]) B.out] at X
   go_wp2_with fail
   go_end0
   exact ⟨rfl,X,Z⟩
end
section
theorem gH (O:aL) (t i:Nat) (L:ZZ):∀l,(eC O t i L l).length=L.length
 | 0=>rfl
 | l+1=>by
  rw [eC];split
  ·rw [N8];exact gH O t i L l
  ·exact gH O t i L l
theorem mX (O:aL) (L:ZZ) (t k i:Nat):(nA O L t k i).length=L.length:=by unfold nA;rw [gH,N8,bU]
theorem bz.MN {O:aL} {El:Int->Prop} {m:Nat} (Y:qV O El) {L:ZZ} {t i:Nat} (X:bz El m L) (V:t<L.length) (hi:i<m):∀l,l<=L.length->bz El m (eC O t i L l)
 | 0,_=>X
 | l+1,U=>by
  have Z:=bz.MN Y X V hi l (by omega);rw [eC];split
  ·have h1:=Z.row (i:=l) (by rw [gH];omega);have h2:=Z.row (i:=t) (by rw [gH];omega);exact Z.set l ⟨by rw [fH _ _ _ _ (by rw [h1.1,h2.1])];exact h1.1,wu Y h1.2 h2.2 (by rw [h1.1,h2.1]) (by rw [h1.1];exact hi)⟩
  ·exact Z
theorem tf (s v:Lz):∀k,kd s v k<=k
 | 0=>M4 _
 | k+1=>by have:=tf s v k;rw [kd];split<;>omega
variable {w:ej} {b:Nat} {G:bX}
theorem BI (S:ej) (F:Nat) (a:OA) (n c:Nat) (R:Z4) (L:ZZ) (m i l t:Nat) (Y:aS w S.heap.size a n c R L)
  (h:dg S b G) (hb:SJ S w) (r:S.cell? ⟨F,0,none⟩=some (ea b 0)) (U:l<n) (I:t<n) (D:l ≠ t) (hi:i<m) (A:bz G.El m L) (V:ej) (hd:bm w V) :
  Calls prog 270 #[ea F 0,.slice (aM R l).1 m (aM R l).2,cG i,.slice (aM R t).1 m (aM R t).2] V
   λe w'=>e = .returned (.tuple #[])/\(w'.cell? ⟨ablk a,aN a+l,none⟩=some (.slice (aM R l).1 m (aM R l).2)/\w'.cell? ⟨ablk a,aN a+t,none⟩=some (.slice (aM R t).1 m (aM R t).2)) /\
    aS w' S.heap.size a n c R (L.set l (kg G.ops (aj L l) i (aj L t)))/\aB w w' (bN a R) (bN a R):=by
 have rl:=A.row (i:=l) (by rw [Y.ll];exact U);have rt:=A.row (i:=t) (by rw [Y.ll];exact I);have cl:=Y.cell U;have ct:=Y.cell I;have ol:=Y.row l U;have it:=Y.ints I;rw [rl.1] at cl ol;rw [rt.1] at ct it;have B:(aM R l).1=none\/(aM R t).1=none\/ablk (aM R t).1 ≠ ablk (aM R l).1:=Y.sep l t U I D;refine (qS S F _ _ m (aj L l) i _ _ (aj L t) h (hd.tO hb) r (bj ol hd.below) (it.ai hd.below) B rl.2 rt.2 hi).mono ?_;rintro e w' ⟨rfl,K,Z⟩;have E:aB w w' (bN a R) (bN a R):=(RZ hd.below _).trans (Z.cQ (λz=>aS.jS (by rw [Y.rl];exact U) z));have X:¬ ((aM R l).1 ≠ none/\ablk a=ablk (aM R l).1):=by
  rintro ⟨h1,h2⟩;rcases Y.ue l U with h3 | h3
  ·exact h1 h3
  ·exact h3 h2.symm
 refine ⟨rfl,⟨Sw (Sj (RZ hd.below _) Z) cl X,Sw (Sj (RZ hd.below _) Z) ct X⟩,?_,E⟩;have hOr:=Y.ai hd.below;have H:(kg G.ops (aj L l) i (aj L t)).length=(aj L l).length:=fH _ _ _ _ (by rw [rl.1,rt.1]);refine hOr.IU U H (by rw [rl.1];exact K) λb hb hne=>Z.block b hb λ⟨h1,h2⟩=>?_;rcases hne with h3 | h3
 ·exact h1 h3
 ·exact h3 h2
theorem Be (S V:ej) (a:OA) (n c:Nat) (R:Z4) (L:ZZ) (t m:Nat) (r:Lz) (X:aS w S.heap.size a n c R L) (hb:SJ S w) (I:t<n) (D:r.length=m)
  (F:SJ w V) {a4:OA} {c4:Nat} (Z:V.ownsRow w.heap.size 3 1 (.slice a4 m c4) m (r.map (Value.int .i64))) :
  ∃H,aS (V.setCell ⟨ablk a,aN a+t,none⟩ (.slice a4 m c4)) S.heap.size a n c H (L.set t r)/\aB w (V.setCell ⟨ablk a,aN a+t,none⟩ (.slice a4 m c4)) (bN a R) (bN a H):=by
 subst D;have U:=X.ai F;have Y:∀b,b<w.heap.size->dq a4 b:=λb hb=>jb Z hb;have h1:=U.setRow I (bq Z hb.size) (Y _ (X.lt _ (.inl ⟨X.ne (by omega),rfl⟩)).2) (λj E _=>by
  by_cases K:(aM R j).1=none
  ·exact .inl K
  ·exact .inr (Y _ (X.lt _ (aS.jS (by rw [X.rl];exact E) K)).2))
 have h2:=X.jW F I (r:=a4) (rc:=c4) (.slice a4 r.length c4) (λha=>.inr (aP Z ha).1);exact ⟨_,h1,h2⟩
end
def Dn (P M:Int) (mod:Lz) (w:ej) (e:Ending) (w':ej):Prop :=
 ∃a c,e = .returned (.agg #[cG P,cG M,.slice a mod.length c])/\bH w.heap.size w' a mod.length mod/\SJ w w'
theorem Km (P M:Int) (am:OA) (V H:Nat) (mod:Lz) (w:ej) (K:Ints w am V mod) (E:V<=1000000) :
  Calls prog 178 #[.agg #[cG P,cG M,.slice am V H]] w (Dn P M mod w):=by
 go_enter func178,ntmps178;go_wp2_with fail;obtain ⟨W,U⟩:∃W:ej,W=(w.alloc (.cells #[cG P,cG M,.slice am V H] 24)).alloc (.cells #[cG 0,cG 0,ds] 24):=⟨_,rfl⟩
 rw [<- U];have I:SJ w W:=by rw [U];exact dP _ _ _
 have hsW:W.heap.size=w.heap.size+2:=by rw [U];simp
 have D:aQ W w.heap.size [cG P,cG M,.slice am V H]:=by rw [U];exact (RV _ _ _ rfl).alloc _
 have A:aQ W (w.heap.size+1) [cG 0,cG 0,ds]:=by rw [U];exact RV _ _ _ (by simp)
 clear U;refine (cZ am V H mod (K.ai I) E).mono ?_;rintro e B ⟨a1,c1,rfl,Z,X⟩;have F:=D.ai X;have S:=A.ai X;have d0:=F.cell 0 rfl;have d1:=F.cell 1 rfl;have d2:=F.cell 2 rfl;have e0:=S.cell 0 rfl;have e1:=S.cell 1 rfl;have e2:=S.cell 2 rfl;have fx:=F.frozen 2;have f0:=S.frozen 0;have f1:=S.frozen 1;have f2:=S.frozen 2;have Y:=RU I X;have r:=Z5 (SF Z);have hN:bH w.heap.size ((((B.setCell ⟨w.heap.size,2,none⟩ (.slice a1 mod.length c1)).setCell ⟨w.heap.size+1,0,none⟩ (cG P)).setCell ⟨w.heap.size+1,1,none⟩ (cG M)).setCell ⟨w.heap.size+1,2,none⟩ (.slice a1 mod.length c1)) a1 mod.length mod :=
  ((((r.setCell (p:=⟨w.heap.size,2,none⟩) (by simp;omega) _).setCell (p:=⟨w.heap.size+1,0,none⟩) (by simp;omega) _).setCell (p:=⟨w.heap.size+1,1,none⟩) (by simp;omega) _).setCell (p:=⟨w.heap.size+1,2,none⟩) (by simp;omega) _).mono (by omega)
 have j:SJ w ((((B.setCell ⟨w.heap.size,2,none⟩ (.slice a1 mod.length c1)).setCell ⟨w.heap.size+1,0,none⟩ (cG P)).setCell ⟨w.heap.size+1,1,none⟩ (cG M)).setCell ⟨w.heap.size+1,2,none⟩ (.slice a1 mod.length c1)) :=
  (((Y.setCell (p:=⟨w.heap.size,2,none⟩) (by simp) _).setCell (p:=⟨w.heap.size+1,0,none⟩) (by simp) _).setCell (p:=⟨w.heap.size+1,1,none⟩) (by simp) _).setCell (p:=⟨w.heap.size+1,2,none⟩) (by simp) _
 have z:=Z5 (Ng hN j);clear hN j Z r D A Y;go_wp2_with fail;exact bodyPost_ret (v:=.agg #[cG P,cG M,.slice a1 mod.length c1]) (by simp [results,results178,go_sem,e0,e1,e2]) rfl ⟨a1,c1,rfl,z.1,z.2⟩
def qd (P M:Int) (mod:Lz) (m:Int) (a:OA) (k c:Nat) (w:ej) (e:Ending) (w':ej):Prop :=
 ∃a1 c1,e = ec #[.agg #[cG P,cG M,.slice a1 mod.length c1,cG m,.slice a k c],cG 0]/\bH w.heap.size w' a1 mod.length mod/\SJ w w'
theorem B2 (P M:Int) (am:OA) (K E:Nat) (mod:Lz) (m:Int) (a:OA) (k c:Nat) (w:ej) (S:Ints w am K mod) (hmn:K<=1000000) :
  Calls prog 120 #[.agg #[cG P,cG M,.slice am K E],.agg #[cG m,.slice a k c],cG 0] w (qd P M mod m a k c w):=by
 go_enter func120,ntmps120;go_wp2_with fail;obtain ⟨W,F⟩:∃W:ej,W=((w.alloc (.cells #[cG P,cG M,.slice am K E] 24)).alloc (.cells #[cG m,.slice a k c] 94)).alloc (.cells #[cG 0,cG 0,ds,cG 0,ds] 27):=⟨_,rfl⟩
 rw [<- F];have X:SJ w W:=by rw [F];exact kY _ _ _ _
 have B:W.heap.size=w.heap.size+3:=by rw [F];simp
 have x0:aQ W w.heap.size [cG P,cG M,.slice am K E]:=by rw [F];exact ((RV _ _ _ rfl).alloc _).alloc _
 have y0:aQ W (w.heap.size+1) [cG m,.slice a k c]:=by rw [F];exact (RV _ _ _ (by simp)).alloc _
 have z0:aQ W (w.heap.size+1+1) [cG 0,cG 0,ds,cG 0,ds]:=by rw [F];exact RV _ _ _ (by simp)
 have U:Hid (∀V,SJ W V->Calls prog 178 #[.agg #[cG P,cG M,.slice am K E]] V (Dn P M mod V)):=λV A=>Km P M am K E mod V (S.ai (RU X A)) hmn;have hS:∀V,SJ W V->V.cell? ⟨w.heap.size,0,none⟩=some (cG P)/\V.cell? ⟨w.heap.size,1,none⟩=some (cG M)/\V.cell? ⟨w.heap.size,2,none⟩=some (.slice am K E)/\V.cell? ⟨w.heap.size+1,0,none⟩=some (cG m)/\V.cell? ⟨w.heap.size+1,1,none⟩=some (.slice a k c) /\
   aQ V (w.heap.size+1+1) [cG 0,cG 0,ds,cG 0,ds]:=λV A=>by have j:=x0.ai A;have y1:=y0.ai A;exact ⟨j.cell 0 rfl,j.cell 1 rfl,j.cell 2 rfl,y1.cell 0 rfl,y1.cell 1 rfl,z0.ai A⟩
 have r:=Z5 hS;have HbW:=Z5 X;have HsW:=Z5 B;obtain ⟨c0,c1,c2,c3,c4,_⟩:=r W (M5 _ _);have HP:Hid (∀(I:ej) (a4:OA) (Z:Nat),bH W.drew.heap.size I a4 mod.length mod->Below W.drew.heap.size W.drew I ->
   qd P M mod m a k c w (ec #[.agg #[cG P,cG M,.slice a4 mod.length Z,cG m,.slice a k c],cG 0])
    (((((I.setCell ⟨w.heap.size+1+1,0,none⟩ (cG P)).setCell ⟨w.heap.size+1+1,1,none⟩ (cG M)).setCell ⟨w.heap.size+1+1,2,none⟩ (.slice a4 mod.length Z)).setCell ⟨w.heap.size+1+1,3,none⟩ (cG m)).setCell ⟨w.heap.size+1+1,4,none⟩ (.slice a k c))):=λI a4 Z h1 h2=>by
  have z:bH W.heap.size I a4 mod.length mod:=h1;have hb:=RU X (RU (M5 _ _).drew h2);have hs:=HsW.out;refine ⟨a4,Z,rfl,?_,?_⟩
  ·exact (((((z.setCell (p:=⟨w.heap.size+1+1,0,none⟩) (by simp;omega) _).setCell (p:=⟨w.heap.size+1+1,1,none⟩) (by simp;omega) _).setCell (p:=⟨w.heap.size+1+1,2,none⟩) (by simp;omega) _).setCell (p:=⟨w.heap.size+1+1,3,none⟩) (by simp;omega) _).setCell (p:=⟨w.heap.size+1+1,4,none⟩) (by simp;omega) _).mono (by omega)
  ·exact ((((hb.setCell (p:=⟨w.heap.size+1+1,0,none⟩) (by simp;omega) _).setCell (p:=⟨w.heap.size+1+1,1,none⟩) (by simp;omega) _).setCell (p:=⟨w.heap.size+1+1,2,none⟩) (by simp;omega) _).setCell (p:=⟨w.heap.size+1+1,3,none⟩) (by simp;omega) _).setCell (p:=⟨w.heap.size+1+1,4,none⟩) (by simp;omega) _
 clear F x0 y0 z0 hS S X B;go_wp2_with fail;go_region_law (
  (go_simp;go_at_call 178;((with_reducible refine (U.out _ (M5 _ _).drew).mono ?_);rintro e I ⟨a4,Z,rfl,D,H⟩;obtain ⟨c0,c1,c2,c3,c4,Y⟩:=r.out I (RU (M5 _ _).drew H);have z0:=Y.cell 0 rfl;have z1:=Y.cell 1 rfl;have z2:=Y.cell 2 rfl;have z3:=Y.cell 3 rfl;have z4:=Y.cell 4 rfl;have f0:=Y.frozen 0;have f1:=Y.frozen 1;have f2:=Y.frozen 2;have f3:=Y.frozen 3;have f4:=Y.frozen 4)))
 all_goals (
  have HP4:=Z5 (HP I a4 Z D H)
  clear D H U r HP
  go_wp2_with fail
  exact bodyPost_ret (v:=.tuple #[.agg #[cG P,cG M,.slice a4 mod.length Z,cG m,.slice a k c],cG 0]) (by simp [results,results120,go_sem,z0,z1,z2,z3,z4]) rfl HP4.out)
section
variable {f:Nat->Int} {N:Nat} (hf:∀y,f y<=N)
include hf
end

section
variable {O:aL} {El:Int->Prop} {m:Nat}
end
section
variable {P M:Int} {mod:Lz} {m:Nat} {L:ZZ} {Q:Lz}
end
section
variable {O:aL} {El:Int->Prop} {m:Nat} {R:ZZ} {P:Lz}
theorem rD (hR:bz El m R) (hP:lK R P m) (hlen:R.length=P.length):BS.Inv El m ⟨R,P⟩ where
 ok:=⟨hR,hlen.symm,λi hi=>hP.lt i (by rw [<- hlen];exact hi)⟩
 one:=λi hi=>by show nth (aj R i) (nth P i).toNat=1;rw [hP.one i i (by rw [<- hlen];exact hi) hi,M7 rfl]
 zero:=λj i hj hi=>by have hi':i<R.length:=hi;show nth (aj R i) (nth P j).toNat=0;rw [hP.one j i (by omega) hi',M8 (by omega)]
theorem GY (F:bQ O El) (hI:BS.Inv El m ⟨R,P⟩) {v:Lz} (Y:Vc El m v) (U:RS O El m R (λx=>nth v x)):∀k,k<=R.length->RS O El m R (λx=>nth (redTo O R P v k) x)
 | 0,_=>U
 | k+1,S=>by have hu:Vc El m (redTo O R P v k):=SD F hI.ok Y k (show k<=R.length by omega);have Z:(nth P k).toNat<m:=hI.ok.pl (show k<R.length by omega);have V:Vc El m (aj R k):=hI.ok.row (show k<R.length by omega);refine ((GY F hI Y U k (by omega)).comb F (.row F (i:=k) (by omega)) (hu.at Z)).congr λx X=>?_;rw [redTo,gy F hu V Z X,F.mul_comm _ _ (hu.at Z) (V.at X)]
theorem Jp (F:bQ O El) (X:bz El m R) (Z:lK R P m) (hlen:R.length=P.length) {v:Lz} (Y:Vc El m v) (U:RS O El m R (λx=>nth v x)):∀x,x<m->nth (redTo O R P v R.length) x=0:=by have hI:=rD X Z hlen;obtain ⟨e,he,h⟩:=GY F hI Y U R.length (M4 _);intro x V;have h1:nth (redTo O R P v R.length) x=e (bp R x):=h x V;rw [h1];refine Z.all F X V e he λy hy=>?_;obtain ⟨j,S,rfl⟩:=(gJ P _ _).1 hy;rw [<- h _ (by have:=Z.lt j S;omega)];exact hI.place F Y R.length (M4 _) j (by omega)
def cmbTo (O:aL) (m:Nat) (x:Lz) (L:ZZ):Nat->Lz
 | 0=>List.replicate m 0
 | k+1=>if nth x k=0 then cmbTo O m x L k else bZ O (cmbTo O m x L k) (nth x k) (aj L k)
theorem RS.add (F:bQ O El) {L:ZZ} {f g:Nat->Int} (V:bz El m L) (hf:RS O El m L f) (Y:RS O El m L g) {s:Int} (Z:El s):RS O El m L (λx=>O.add (f x) (O.mul (g x) s)):=by
 refine (hf.comb F Y (F.cl.neg s Z)).congr λx X=>?_;obtain ⟨e,he,h⟩:=Y;have hgx:El (g x):=by rw [h x X];exact he.el _ (dw V F.zero x)
 rw [F.mul_neg hgx Z,F.neg_neg (F.cl.mul _ _ hgx Z)]
theorem iZ (F:bQ O El) {L:ZZ} (Y:bz El m L) {x:Lz} (S:∀k,k<L.length->El (nth x k)):∀k,k<=L.length->Vc El m (cmbTo O m x L k)/\RS O El m L (λi=>nth (cmbTo O m x L k) i)
 | 0,_=>by
  have h0:∀i,nth (List.replicate m (0:Int)) i=0:=λi=>by unfold nth;simp only [Na,NP];split<;>rfl
  exact ⟨⟨by simp [cmbTo],λy hy=>by rw [N3 hy];exact F.zero⟩,RS.K8 F λi _=>h0 i⟩
 | k+1,I=>by
  obtain ⟨h1,h2⟩:=iZ F Y S k (by omega);have X:=Y.row (i:=k) (by omega);have Z:=S k (by omega);rw [cmbTo];split
  ·exact ⟨h1,h2⟩
  ·have U:(aj L k).length=(cmbTo O m x L k).length:=by rw [X.1,h1.1]
   refine ⟨⟨by rw [fg _ _ _ _ U];exact h1.1,vO F.cl h1.2 X.2 Z⟩,(RS.add F Y h2 (.row F (i:=k) (by omega)) Z).congr λi hi=>?_⟩;have V:El (nth (aj L k) i):=R0 X hi;rw [gY O _ _ _ i U (by rw [h1.1];exact hi)];split
   ·rename_i K;rw [K,F.lI Z,F.add_zero _ (h1.at hi)]
   ·rw [F.mul_comm _ _ Z V]
end
section
variable {m:Nat} {Q:Lz}
end
def tX (P M:Int) (mod:Lz) (m:Nat) (L:ZZ) (w:ej) (e:Ending) (w':ej):Prop :=
 ∃a1 c1 a2 c2,e = ec #[.agg #[cG P,cG M,.slice a1 mod.length c1,cG m,.slice a2 (b8 (ah P M.toNat mod) L m).length c2],cG 0]/\bH w.heap.size w' a1 mod.length mod /\
  bJ w.heap.size w' a2 (b8 (ah P M.toNat mod) L m).length (b8 (ah P M.toNat mod) L m)/\SJ w w'
theorem qn (P M:Int) (am:OA) (I E:Nat) (mod:Lz) (m:Nat) (a:OA) (n c:Nat) (L:ZZ) (w:ej) (K:Ints w am I mod) (hi:bP w a n L)
  (hE:dK P M mod m L=0) (hm1:1<=m) (hm64:m<=64) (hmn:I<=1000000) :
  Calls prog 68 #[.agg #[cG P,cG M,.slice am I E],.agg #[cG m,.slice a n c]] w (tX P M mod m L w):=by
 go_enter func68,ntmps68;go_upto_region 1 with fail;obtain ⟨W,A⟩:∃W:ej,W=((w.alloc (.cells #[cG P,cG M,.slice am I E] 24)).alloc (.cells #[cG m,.slice a n c] 94)).alloc (.cells #[cG 0,cG 0,ds,cG 0,ds] 27):=⟨_,rfl⟩
 rw [<- A];have U:SJ w W:=by rw [A];exact kY _ _ _ _
 have hsW:W.heap.size=w.heap.size+3:=by rw [A];simp
 have x0:aQ W w.heap.size [cG P,cG M,.slice am I E]:=by rw [A];exact ((RV _ _ _ rfl).alloc _).alloc _
 have y0:aQ W (w.heap.size+1) [cG m,.slice a n c]:=by rw [A];exact (RV _ _ _ (by simp)).alloc _
 have z0:aQ W (w.heap.size+1+1) [cG 0,cG 0,ds,cG 0,ds]:=by rw [A];exact RV _ _ _ (by simp)
 clear A;have HC:Hid (Calls prog 118 #[.agg #[cG P,cG M,.slice am I E],.agg #[cG m,.slice a n c]] W λe w'=>SJ W w'/\∃a2 c2 ap cp,e = ec #[.agg #[cG m,.slice a2 (b8 (ah P M.toNat mod) L m).length c2],.slice ap (b8 (ah P M.toNat mod) L m).length cp,cG 0] /\
   bJ W.heap.size w' a2 (b8 (ah P M.toNat mod) L m).length (b8 (ah P M.toNat mod) L m)):=by
  refine (na P M am I E mod m a n c L W (K.ai U) (hi.ai U)).mono ?_;rintro e w1 ⟨B,⟨h0,_⟩ | ⟨_,m',hm',a1,c1,ap,cp,rfl,hN1,_⟩⟩
  ·exact absurd hE h0
  ·obtain rfl:m=m':=by omega
   rw [<- ek] at hN1 ⊢;exact ⟨B,a1,c1,ap,cp,rfl,hN1⟩
 have HO:Hid (∀V a5 k5 X,SJ W V->Calls prog 120 #[.agg #[cG P,cG M,.slice am I E],.agg #[cG m,.slice a5 k5 X],cG 0] V (qd P M mod m a5 k5 X V)):=λV a5 k5 X hV =>
  B2 P M am I E mod m a5 k5 X V (K.ai (RU U hV)) hmn
 have Y:Hid (∀a1 c1 a2 c2 w',bH w.heap.size w' a1 mod.length mod->bJ w.heap.size w' a2 (b8 (ah P M.toNat mod) L m).length (b8 (ah P M.toNat mod) L m)->SJ w w' ->
   tX P M mod m L w (ec #[.agg #[cG P,cG M,.slice a1 mod.length c1,cG m,.slice a2 (b8 (ah P M.toNat mod) L m).length c2],cG 0]) w'):=λa1 c1 a2 c2 w' h1 h2 h3=>⟨a1,c1,a2,c2,rfl,h1,h2,h3⟩
 have Hle:Hid (jf (m:Int)=0):=rN (by omega) (by omega);obtain ⟨KM,r⟩:∃KM,b8 (ah P M.toNat mod) L m=KM:=⟨_,rfl⟩
 rw [r] at HC Y;have hS:∀V,SJ W V->V.cell? ⟨w.heap.size,0,none⟩=some (cG P)/\V.cell? ⟨w.heap.size,1,none⟩=some (cG M)/\V.cell? ⟨w.heap.size,2,none⟩=some (.slice am I E)/\V.cell? ⟨w.heap.size+1,0,none⟩=some (cG m)/\V.cell? ⟨w.heap.size+1,1,none⟩=some (.slice a n c) /\
   aQ V (w.heap.size+1+1) [cG 0,cG 0,ds,cG 0,ds]:=λV hV=>by have x1:=x0.ai hV;have y1:=y0.ai hV;exact ⟨x1.cell 0 rfl,x1.cell 1 rfl,x1.cell 2 rfl,y1.cell 0 rfl,y1.cell 1 rfl,z0.ai hV⟩
 have HS:=Z5 hS;have HbW:=Z5 U;have HsW:=Z5 hsW;obtain ⟨q,hq⟩:∃q,KM.length=q:=⟨_,rfl⟩
 rw [hq] at HC Y;clear hE r hS x0 y0 z0 U hsW K hi hq;go_cut [6,7,8] (λv6 v7 v8 wx=>∃g a5 X,v6 = ea g 0/\v8 = cG 0/\wx.cell? ⟨g,0,none⟩=some (cG m)/\wx.cell? ⟨g,1,none⟩=some (.slice a5 q X)/\bJ W.heap.size wx a5 q KM/\SJ W wx);case first =>
  obtain ⟨c0,c1,c2,c3,c4,_⟩:=HS W (M5 _ _)
  go_wp2_with fail
  refine HC.mono ?_
  rintro e w1 ⟨B,a5,X,ap,cp,rfl,H⟩
  clear c0 c1 c2 c3 c4
  go_wp2_with fail
  go_meet
  exact ⟨w1.heap.size,a5,X,rfl,rfl,aF _ _ _ rfl 0,aF _ _ _ rfl 1,H.ai (aD _ _),RU B (aD _ _)⟩
 obtain ⟨g,a5,X,rfl,rfl,g0,g1,H,S⟩:=hcut;generalize wc=V at *;obtain ⟨c0,c1,c2,c3,c4,zz⟩:=HS V S;have j:=Z5 (HO V a5 q X S);clear HC HO;go_wp2_with fail;refine (tI m V).mono ?_;rintro e w5 ⟨rfl,rfl⟩;rw [Hle.out];go_wp2_with fail;refine j.mono ?_;rintro e w6 ⟨a6,c6,rfl,z,D⟩;obtain ⟨_,_,_,_,_,Z⟩:=HS w6 (RU S D);have z0:=Z.cell 0 rfl;have z1:=Z.cell 1 rfl;have z2:=Z.cell 2 rfl;have z3:=Z.cell 3 rfl;have z4:=Z.cell 4 rfl;have f0:=Z.frozen 0;have f1:=Z.frozen 1;have f2:=Z.frozen 2;have f3:=Z.frozen 3;have f4:=Z.frozen 4;have hbF:=RU HbW.out (RU S D);have hs:=HsW.out;have hs2:=S.size;have hM6:=H.ai D;have F:=Y a6 c6 a5 X (((((w6.setCell ⟨w.heap.size+1+1,0,none⟩ (cG P)).setCell ⟨w.heap.size+1+1,1,none⟩ (cG M)).setCell ⟨w.heap.size+1+1,2,none⟩ (.slice a6 mod.length c6)).setCell ⟨w.heap.size+1+1,3,none⟩ (cG m)).setCell ⟨w.heap.size+1+1,4,none⟩ (.slice a5 q X))
  ((((((z.setCell (p:=⟨w.heap.size+1+1,0,none⟩) (by simp;omega) _).setCell (p:=⟨w.heap.size+1+1,1,none⟩) (by simp;omega) _).setCell (p:=⟨w.heap.size+1+1,2,none⟩) (by simp;omega) _).setCell (p:=⟨w.heap.size+1+1,3,none⟩) (by simp;omega) _).setCell (p:=⟨w.heap.size+1+1,4,none⟩) (by simp;omega) _).mono (by omega))
  ((((((hM6.setCell (p:=⟨w.heap.size+1+1,0,none⟩) (by simp;omega) _).setCell (p:=⟨w.heap.size+1+1,1,none⟩) (by simp;omega) _).setCell (p:=⟨w.heap.size+1+1,2,none⟩) (by simp;omega) _).setCell (p:=⟨w.heap.size+1+1,3,none⟩) (by simp;omega) _).setCell (p:=⟨w.heap.size+1+1,4,none⟩) (by simp;omega) _).mono (by omega))
  (((((hbF.setCell (p:=⟨w.heap.size+1+1,0,none⟩) (by simp;omega) _).setCell (p:=⟨w.heap.size+1+1,1,none⟩) (by simp;omega) _).setCell (p:=⟨w.heap.size+1+1,2,none⟩) (by simp;omega) _).setCell (p:=⟨w.heap.size+1+1,3,none⟩) (by simp;omega) _).setCell (p:=⟨w.heap.size+1+1,4,none⟩) (by simp;omega) _)
 have HFin:=Z5 F;clear F hM6 H z j zz Z;go_wp2_with fail;exact bodyPost_ret (v:=.tuple #[.agg #[cG P,cG M,.slice a6 mod.length c6,cG m,.slice a5 q X],cG 0]) (by simp [results,results68,go_sem,z0,z1,z2,z3,z4]) rfl HFin.out
section
def gQ (n k:Nat):Lz:=(List.replicate n 0).set k 1
def fF (n:Nat):ZZ:=(List.range n).map (gQ n)
theorem da (n:Nat):(fF n).length=n:=by simp [fF]
theorem ka (n k:Nat):(gQ n k).length=n:=by simp [gQ]
theorem pH {n k:Nat} (h:k<n):aj (fF n) k=gQ n k:=by rw [aH (by rw [da];exact h)];simp [fF]
theorem GD (L:ZZ) (k:Nat) (x y:Lz):(L.set k x).set k y=L.set k y:=by simp
theorem Jn (n:Nat) (w:ej) (hn:n<=1000000):Calls prog 245 #[cG n] w (Cj w (fF n)):=by
 go_enter func245,ntmps245;go_wp2_with (at_make;refine bR rfl _ _ 25 22 rfl ds 24 underlying25 ed rfl n rfl rfl (by omega) (by unfold maxLen;omega) ?_;intro a1 w1 r hbel hge Z);have F:=qe r;have hO1:∃R,aS w1 w.heap.size a1 n n R (gn n 0 (fF n)):=⟨_,by simpa [gn] using F⟩
 clear F r;go_loopw [9] (λiv wr=>∃k:Nat,k<=n/\iv = cG k/\(∃R,aS wr w.heap.size a1 n n R (gn n k (fF n)))/\SJ w wr) (λiv _=>n - (intOf iv).toNat);case atStart=>exact ⟨0,Nb _,rfl,hO1,hbel⟩
 case round =>
  obtain ⟨k,hk,rfl,⟨R,F⟩,hbr⟩:=hrel
  by_cases Z:k<n
  ·have B:=nJ Z (da n)
   rw [pH Z] at B
   have Hset:=Z5 B
   clear B
   have hpl1:=F.pl
   have hsz:=hbr.size
   generalize wr=V at *
   go_upto_region 6 with (at_make;refine bR rfl _ _ 22 3 rfl (cG 0) 8 underlying22 br rfl n rfl rfl (by omega) (by unfold maxLen;omega) ?_;intro a3 w3 U hb3 hge3 hlt3;have E:=aS.ai F hb3;have hf:=E.frozen Z;have hc:=E.cell Z)
   have H:w3.ownsRow V.heap.size 3 1 (.slice a3 (List.replicate n (0:Int)).length n) (List.replicate n (0:Int)).length ((List.replicate n (0:Int)).map (Value.int .i64)):=by rw [Oi,OB];exact U
   have hB:=(aS.lt E (ablk a1) (.inl ⟨E.ne (by omega),rfl⟩)).1
   have X:=aS.setRow E Z (bq H hsz) (jb U (aS.lt F (ablk a1) (.inl ⟨F.ne (by omega),rfl⟩)).2) (λj hj _=>by
    by_cases hn:(aM R j).1=none
    ·exact .inl hn
    ·exact .inr (jb U (aS.lt F _ (aS.jS (by rw [F.rl];exact hj) hn)).2))
   rw [Oi] at X
   obtain ⟨Y,hY⟩:∃Y,w3.setCell ⟨ablk a1,aN a1+k,none⟩ (.slice a3 n n)=Y:=⟨_,rfl⟩
   rw [hY] at X ⊢
   have hbY:SJ w Y:=by rw [<- hY];exact (RU hbr hb3).setCell hB _
   have z:aM (R.set k (a3,n)) k=(a3,n):=by rw [iP _ _ _ _ (by rw [F.rl];exact Z),M7 rfl]
   have A:aj ((gn n k (fF n)).set k (List.replicate n 0)) k=List.replicate n 0:=by rw [fI _ _ _ _ (by rw [F.ll];exact Z),M7 rfl]
   have hcr:=X.cell Z
   have I:=X.row k Z
   rw [z,A,Oi] at hcr I
   obtain ⟨hints,S⟩:=RW I
   have cz:=hints.cell k Z
   have fz:=(S (by omega)).2 k Z
   have hBz:=(S (by omega)).1
   have hpl3:=hints.pl
   have K:=bA I k Z (cG 1)
   rw [<- Ny] at K
   have hne3:a3 ≠ none:=λe=>by have:=hpl3 (by omega);rw [e] at this;cases this
   have D:=aS.IU X Z (l:=gQ n k) (by rw [A,Oi,ka]) (by rw [z,A,Oi];exact K) (λb hb hne=>Nt _ _ _ _ λe=>by
    rw [z] at hne;rcases hne with h1 | h1
    ·exact hne3 h1
    ·exact h1 e)
   rw [GD,Hset.out] at D
   have Hfin:=Z5 D
   clear D X I hints S K z A hY hf hc U H E
   go_wp2_with fail
   go_roundw
   case rel=>exact ⟨k+1,by omega,by go_num,⟨_,Hfin⟩,hbY.setCell hBz _⟩
   case measure=>simp [intOf]<;>omega
  ·obtain rfl:k=n:=by omega
   rw [nN (da k)] at F
   go_wp2_with fail
   go_ret
   exact ⟨a1,k,R,by rw [da];rfl,by rw [da];exact F,hbr⟩
variable {w:ej} {b:Nat} {G:bX}
theorem JT (ax:OA) (cx:Nat) (x:Lz) (a:OA) (n c:Nat) (L:ZZ) (Z:Nat) (h:dg w b G) (F:bQ G.ops G.El) (hx:Ints w ax n x) (hi:bP w a n L) (z:∀k,k<n->G.El (nth x k)) (hR:bz G.El Z L) (hc1:1<=Z) (hc:Z<=1000000) (hn:n<=1000000) :
  Calls prog 147 #[ea b 0,.slice ax n cx,.slice a n c,cG Z] w λe w' =>
   ∃a1 c1,e = .returned (.slice a1 Z c1)/\w'.ownsRow w.heap.size 3 1 (.slice a1 Z c1) Z ((cmbTo G.ops Z x L n).map (Value.int .i64))/\SJ w w':=by
 have B:=Z5 hi.len;have hplx:=hx.pl;have hpla:=hi.pl;have j:=iZ F hR (x:=x) (by rw [hi.len];exact z);have Hcm:=Z5 j;have HR:=Z5 hR;have hz:(cmbTo G.ops Z x L 0).map (Value.int .i64)=List.replicate Z (Value.int .i64 0):=by simp [cmbTo]
 have Hz:=Z5 hz;clear j hR hz F;go_enter func147,ntmps147;go_wp2_with (at_make;refine bR rfl _ _ 22 3 rfl (cG 0) 8 underlying22 br rfl Z rfl rfl (by omega) (by unfold maxLen;omega) ?_;intro a5 w5 Y I hge V);have K:w5.ownsRow w.heap.size 3 1 (.slice a5 Z Z) Z ((cmbTo G.ops Z x L 0).map (Value.int .i64)):=by rw [Hz.out];exact Y
 clear Y V;go_loopw [16] (λiv wr=>∃k:Nat,k<=n/\iv = cG k/\wr.ownsRow w.heap.size 3 1 (.slice a5 Z Z) Z ((cmbTo G.ops Z x L k).map (Value.int .i64))/\SJ w wr) (λiv _=>n - (intOf iv).toNat);case atStart=>exact ⟨0,Nb _,rfl,K,I⟩
 case round =>
  clear K I
  obtain ⟨k,hk,rfl,Y,X⟩:=hrel
  by_cases V:k<n
  ·have cxk:=(hx.ai X).cell k V
   have U:=HR.row (i:=k) (by rw [B.out];exact V)
   obtain ⟨ra,rn,rc,D,S⟩:=hi.cell k V
   have r:rn=Z:=by rw [<- S.len];exact U.1
   rw [r] at D S
   have er:=aC X D
   have hra:ablk ra<w.heap.size:=Nf w _ (S.cell 0 (by omega))
   clear r D
   by_cases h0:nth x k=0
   ·have h0':(nth x k != 0)=false:=by simpa using h0
    have Hn:Hid (cmbTo G.ops Z x L (k+1)=cmbTo G.ops Z x L k):=by show _=_;rw [cmbTo,M7 h0]
    clear h0
    go_wp2_with fail
    go_roundw
    case rel=>exact ⟨k+1,by omega,by go_num,by rw [Hn.out];exact Y,X⟩
    case measure=>simp [intOf]<;>omega
   ·have h0':(nth x k != 0)=true:=by simpa using h0
    have Hn:Hid (cmbTo G.ops Z x L (k+1)=bZ G.ops (cmbTo G.ops Z x L k) (nth x k) (aj L k)):=by show _=_;rw [cmbTo,M8 h0]
    have A:=(Hcm k (by rw [B.out];exact hk)).1
    have Ha:=Z5 (DQ w a5 Z Z (cmbTo G.ops Z x L k) (nth x k) ra rc (aj L k) h X Y (S.ai X) (.inr (.inr (by omega))) A.2 U.2 (z k V))
    clear h0 Y S U A
    go_wp2_with fail
    refine Ha.mono ?_
    rintro e w4 ⟨rfl,E,H⟩
    have hb4:SJ w w4:=X.trans (H.below (λ_=>hge) X.size)
    go_wp2_with fail
    go_roundw
    case rel=>exact ⟨k+1,by omega,by go_num,by rw [Hn.out];exact E,hb4⟩
    case measure=>simp [intOf]<;>omega
  ·obtain rfl:k=n:=by omega
   have HF:=Z5 Y
   clear Y
   go_wp2_with fail
   go_ret
   exact ⟨a5,Z,rfl,HF,X⟩
end
theorem wj (H:Nat) (a:OA) (n c:Nat) (L:ZZ) (i:Nat) (w:ej) (p5:w.cell? ⟨H,5,none⟩=some (.slice a n c)) (hi:bP w a n L) (j:∀r ∈ L,i<r.length) (hn:n<=1000000) :
  Calls prog 258 #[ea H 0,cG i] w (cR w (bp L i)):=by
 have S:=Z5 hi.len;have hpl:=hi.pl;have HL:=Z5 j;clear j;go_enter func258,ntmps258;go_wp2_with (at_make;refine bR rfl _ _ 22 3 rfl (cG 0) 8 underlying22 br rfl n rfl rfl (by omega) (by unfold maxLen;omega) ?_;intro a1 F Y Z hge X;have c5:F.cell? ⟨H,5,none⟩=some (.slice a n c):=aC Z p5);have E:SJ w F:=Z;have I:F.ownsRow w.heap.size 3 1 (.slice a1 n n) n (List.replicate n (cG 0)):=Y;clear Y Z;go_loopw [21] (λiv wr=>∃k:Nat,k<=n/\iv = cG k /\
   wr.ownsRow w.heap.size 3 1 (.slice a1 n n) n ((dz ((bp L i).take k) k n).map (Value.int .i64))/\SJ w wr)
  (λi _=>n - (intOf i).toNat)
 case atStart=>exact ⟨0,Nb _,rfl,by simpa [dz] using I,E⟩
 case round =>
  obtain ⟨k,hk,rfl,Y,Z⟩:=hrel
  obtain ⟨hints,V⟩:=RW Y
  have e:=hints.pl
  by_cases X:k<n
  ·obtain ⟨ra,rn,rc,D,U⟩:=(hi.ai Z).cell k X
   have K:k<L.length:=by rw [S.out];exact X
   have B:i<rn:=by rw [<- U.len,aH K];exact HL _ (NL K)
   have ci:=U.cell i B
   have hpr:=U.pl
   have hf:=(V (by omega)).2 k X
   have hc2:=hints.cell k X
   have hB:=(V (by omega)).1
   have Hv:=Z5 (dx L i k K)
   go_wp2_with fail
   go_roundw
   case rel =>
    refine ⟨k+1,by omega,by go_num,?_,Z.setCell hB _⟩
    have h:=bA Y k X (cG (nth (aj L k) i))
    rw [<- Ny,fJ _ _ _ _ (by rw [NH,db];omega) X] at h
    rw [Nh (by rw [db];omega),<- an,Hv.out]
    exact h
   case measure=>simp [intOf]<;>omega
  ·obtain rfl:k=n:=by omega
   have z:(bp L i).length=k:=by rw [db];exact S
   rw [gr,Nj (by omega)] at Y
   have A:=Z5 z
   clear z
   go_wp2_with fail
   go_ret
   exact ⟨a1,k,by rw [A.out];rfl,by rw [A.out];exact Y,Z⟩
theorem kX {w:ej} {b:Nat} {G:bX} (pb:Nat) (a:OA) (n c:Nat) (L:ZZ) (m:Nat) (ao:OA) (no co:Nat) (Q:Lz) (most:Nat)
  (p0:w.cell? ⟨pb,0,none⟩=some (ea b 0)) (p5:w.cell? ⟨pb,5,none⟩=some (.slice a n c))
  (h:dg w b G) (hi:bP w a n L) (hR:bz G.El m L) (hq:Ints w ao no Q) (hQ:∀k,k<no->0<=nth Q k/\nth Q k<m) (hn:n<=1000000) (hno:no<=1000000) :
  Calls prog 231 #[ea pb 0,.slice ao no co,cG most] w (cR w (yH G.ops L Q most)):=by
 have Hlen:=Z5 hi.len;have HR:=Z5 hR;have HQ:=Z5 hQ;have Hql:=Z5 hq.len;have hplq:=hq.pl;have hcl:=Z5 (Sk h);have HP:=Z5 (λ(V:ej) (hV:SJ w V)=>aC hV p5);clear hR hQ;go_enter func231,ntmps231;go_wp2_with fail;obtain ⟨V,hV⟩:∃V:ej,V=w.alloc (.cells #[ea b 0,ds,ds] 259):=⟨_,rfl⟩
 rw [<- hV];have hbV:SJ w V:=by rw [hV];exact aD _ _
 have hB0:nP V w.heap.size w.heap.size b none 0 [] none 0 ⟨[],[]⟩:=nP.start (M4 _) (by rw [hV];exact RV _ _ _ rfl);clear hV p0 p5;go_loopw [8,19] (λqv iv wr=>∃(k:Nat) (X:OA) (cq:Nat) (out:Lz) (s:BS) (ar:OA) (cr:Nat) (R:Z4) (ap:OA) (cp:Nat),k<=no/\iv = cG k/\qv = .slice X out.length cq /\
   Hid (grTo G.ops L Q k=(s,out))/\nP wr w.heap.size w.heap.size b ar cr R ap cp s/\wr.ownsRow w.heap.size 3 1 (.slice X out.length cq) out.length (out.map (Value.int .i64))/\Hid (X ≠ none->¬ sK w.heap.size ar R ap (ablk X)) /\
   SJ w wr/\Hid (s.Ok G.El n)/\s.rows.length<=k/\out.length<=k/\Hid (out.length<=most))
  (λ_ iv _=>no - (intOf iv).toNat)
 case atStart=>exact ⟨0,none,0,[],⟨[],[]⟩,none,0,[],none,0,Nb _,rfl,rfl,rfl,hB0,cJ,λh0=>absurd rfl h0,hbV,⟨λr hr=>by simp at hr,rfl,λi hi=>by simp at hi⟩,Nb _,Nb _,Nb _⟩
 case round =>
  obtain ⟨k,X,cq,out,s,ar,cr,R,ap,cp,hk,rfl,rfl,I,hBr,j,hdq,Y,hok,hsk,hok2,hom⟩:=hrel
  generalize wr=U at *
  by_cases hlt:k<no
  ·have cq1:=(hq.ai Y).cell k hlt
   have hQk:=HQ k hlt
   obtain ⟨i,hik⟩:∃i:Nat,nth Q k=i:=⟨(nth Q k).toNat,by omega⟩
   rw [hik] at cq1 hQk
   by_cases hmo:out.length=most
   ·have Ho:Hid (yH G.ops L Q most=out):=by show _=_;have h1:=G0 (O:=G.ops) (L:=L) (Q:=Q) (k:=k) (most:=most) (by rw [Hql.out];exact hk) (by rw [I.out];exact hmo);rw [h1,I.out]
    have hd:((out.length:Int) == (most:Int))=true:=by simp;omega
    clear hmo
    go_wp2_with fail
    go_ret
    exact ⟨X,cq,by rw [Ho.out];rfl,by rw [Ho.out];exact j,Y⟩
   have hd:((out.length:Int) == (most:Int))=false:=by simp;omega
   have Hom:Hid (out.length+1<=most):=by have:=hom.out;show _<=_;omega
   have him:i<m:=by omega
   have p5:=HP U Y
   have B:=DK HR.out him
   rw [Hlen.out] at B
   have A:grTo G.ops L Q (k+1)=(s.next G.ops (bp L i),if s.ei G.ops (bp L i)=true then out ++ [(i:Int)] else out):=by rw [grTo,I.out,hik,M9]
   have D:=Z5 A
   have S:=Z5 B
   clear A B hik hmo
   go_wp2_with fail
   refine (wj pb a n c L i U p5 (hi.ai Y) (λr hr=>by rw [(HR r hr).1];exact him) hn).mono ?_
   rintro e w3 ⟨a3,c3,rfl,Z,hb3⟩
   rw [S.1] at Z
   rw [S.1]
   have hB3:=hBr.ai hb3
   have z:=RU Y hb3
   have hn3:a3 ≠ none->¬ sK w.heap.size ar R ap (ablk a3):=λh0 hI=>by have h1:=(aP Z h0).1;have h2:=(hBr.lt _ hI).2;omega
   clear p5
   go_wp2_with fail
   refine (FI w.heap.size ar cr R ap cp s a3 c3 n (bp L i) h z hB3 hok.out (bq Z Y.size) hn3 S.2 hn (by omega)).mono ?_
   rintro e w4 ⟨F,cr',R',K,cp',rfl,hB4,hM4⟩
   have E:SJ w w4:=z.trans (hM4.below (λx hx=>by
    rcases hx with h1 | ⟨h1,h2⟩
    ·exact (hB3.lt x h1).1
    ·rw [h2];exact Np Y.size (aP Z h1).1) z.size)
   have hop3:=bj j hb3
   have hnI:X ≠ none->¬ (sK w.heap.size ar R ap (ablk X)\/(a3 ≠ none/\ablk X=ablk a3)):=λh0 hI=>by
    rcases hI with h1 | ⟨h1,h2⟩
    ·exact hdq h0 h1
    ·have e1:=(aP j h0).2;have e2:=(aP Z h1).1;omega
   have H:=hM4.own hop3 hnI
   have hdq4:X ≠ none->¬ sK w.heap.size F R' K (ablk X):=λh0=>hM4.not (aP hop3 h0).2 (hnI h0)
   have hok4:(s.next G.ops (bp L i)).Ok G.El n:=BS.Ok.next hcl.out hok.out S.out
   have hlen4:=BS.y6 G.ops s (bp L i)
   have Hok4:=Z5 hok4
   have Hdq4:=Z5 hdq4
   clear hnI hdq4 hok4
   by_cases ht:s.ei G.ops (bp L i)=true
   ·rw [ht]
    have Hst:Hid (grTo G.ops L Q (k+1)=(s.next G.ops (bp L i),out ++ [(i:Int)])):=by show _=_;rw [D.out,M7 ht]
    clear ht
    generalize s.next G.ops (bp L i)=s' at *
    have hcn:=bh w4 (cG i) 3
    have hbn:=aD w4 (.cells #[cG i] 3)
    have hsz4:=E.size
    go_wp2_with (at_builtin;refine bd rfl _ _ 22 3 rfl (cG 0) 8 underlying22 br rfl w.heap.size X out.length cq _ rfl (H.alloc _) ⟨w4.heap.size,0,none⟩ 1 (cG i) rfl hcn rfl (by omega) (by unfold maxLen;omega) (by simp;omega) ?_;intro a5 c5 w5 hown5 hgr5 hap5)
    go_roundw
    case rel =>
     have hBn:=hB4.ai hbn
     have haq:∀x,sK w.heap.size F R' K x->dq X x:=λx hx=>by
      by_cases h0:X=none
      ·exact .inl h0
      ·exact .inr λe=>Hdq4 h0 (e ▸ hx)
     have hB5:nP w5 w.heap.size w.heap.size b F cr' R' K cp' s':=hBn.bf λx hx=>hgr5.block x (hBn.lt x hx).2 λe=>(haq x hx).own _ _ e.symm
     have hb5:SJ w w5:=RY (NK E (hbn.mono hsz4)) (H.alloc _) hgr5 (M4 _) (Np hsz4 hbn.size)
     refine ⟨k+1,a5,c5,out ++ [(i:Int)],s',F,cr',R',K,cp',by omega,by go_num,by simp,Hst,hB5,?_,?_,hb5,Hok4,by omega,by simp;omega,?_⟩
     ·simpa using hown5
     ·show a5 ≠ none->_
      intro h0 hI
      rcases hap5 _ (hBn.lt _ hI).2 (haq _ hI) with h1 | h1
      ·exact h0 h1
      ·exact h1 rfl
     ·show _<=_
      rw [Ni];exact Hom
    case measure=>simp [intOf]<;>omega
   ·have ht':s.ei G.ops (bp L i)=false:=by simpa using ht
    rw [ht']
    have Hst:Hid (grTo G.ops L Q (k+1)=(s.next G.ops (bp L i),out)):=by show _=_;rw [D.out,M8 ht]
    clear ht ht'
    generalize s.next G.ops (bp L i)=s' at *
    go_wp2_with fail
    go_roundw
    case rel=>exact ⟨k+1,X,cq,out,s',F,cr',R',K,cp',by omega,by go_num,rfl,Hst,hB4,H,Hdq4,E,Hok4,by omega,by omega,hom⟩
    case measure=>simp [intOf]<;>omega
  ·obtain rfl:k=no:=by omega
   have Ho:Hid (yH G.ops L Q most=out):=by show _=_;have h1:=Kv (O:=G.ops) (L:=L) (Q:=Q) (most:=most) (by rw [Hql.out,I.out];exact hom);rw [h1,Hql.out,I.out]
   go_wp2_with fail
   go_ret
   exact ⟨X,cq,by rw [Ho.out];rfl,by rw [Ho.out];exact j,Y⟩

section
open Go.RowKit
end
section
open Go.RowKit
end
theorem Bk (t d:Int):(if t<d then d else t)=max t d:=by split<;>omega
def BF (P M:Int) (mod:Lz) (N:Int) (L:ZZ) (Q:Lz):Bool :=
 decide (fw P M mod N L Q=0) && (decide ((jm (ah P M.toNat mod).ops L Q).length=Q.length) && decide ((jm (ah P M.toNat mod).ops L Q).length=L.length))
theorem Es (P M:Int) (am:OA) (F D:Nat) (mod:Lz) (N:Int) (a:OA) (n c:Nat) (L:ZZ) (z:OA) (no co:Nat) (Q:Lz) (w:ej)
  (H:Ints w am F mod) (hi:bP w a n L) (hq:Ints w z no Q) :
  Calls prog 202 #[.agg #[cG P,cG M,.slice am F D,cG N,.slice a n c],.slice z no co] w
   λe w'=>e = ec #[.bool (BF P M mod N L Q),cG (fw P M mod N L Q)]/\SJ w w':=by
 have S:=hq.len;have K:=hi.len;go_enter func202,ntmps202;go_wp2_with fail;obtain ⟨W,E⟩:∃W:ej,W=w.alloc (.cells #[cG P,cG M,.slice am F D,cG N,.slice a n c] 27):=⟨_,rfl⟩
 rw [<- E];have Y:SJ w W:=by rw [E];exact aD _ _
 have j:aQ W w.heap.size [cG P,cG M,.slice am F D,cG N,.slice a n c]:=by rw [E];exact RV _ _ _ rfl
 have HX:=Z5 j;clear E j;refine (Iy P M am F D mod N a n c L z no co Q W (H.ai Y) (hi.ai Y) (hq.ai Y)).mono ?_;rintro e w1 ⟨U,⟨I,rfl⟩ | ⟨I,rfl⟩⟩
 ·have V:Hid (BF P M mod N L Q=false):=by show _=_;unfold BF;rw [Nu I];rfl
  have hE1:(fw P M mod N L Q == 0)=false:=by simpa using I
  have Z:=RU Y U;clear I S K;go_wp2_with fail;go_ret2;exact ⟨by rw [V.out];rfl,Z⟩
 ·have V:Hid (BF P M mod N L Q=(decide ((jm (ah P M.toNat mod).ops L Q).length=no) && decide ((jm (ah P M.toNat mod).ops L Q).length=n))):=by show _=_;unfold BF;rw [Nv I,S,K];rfl
  have Z:=RU Y U;have xU:=HX.ai U;have b4:=xU.cell 4 rfl;have B:=Z5 I;clear I S K xU;obtain ⟨r,hr⟩:∃r,(jm (ah P M.toNat mod).ops L Q).length=r:=⟨_,rfl⟩
  rw [hr] at V ⊢;clear hr;by_cases h1:r=no
  ·subst h1;have A:((r:Int) == r)=true:=by simp
   by_cases h2:r=n
   ·subst h2;have X:Hid (BF P M mod N L Q=true):=by show _=_;rw [V.out];simp
    clear V;go_wp2_with fail;go_ret2;exact ⟨by rw [X.out,B.out];rfl,Z⟩
   ·have h2':((r:Int) == n)=false:=by simp only [beq_eq_false_iff_ne,ne_eq];omega
    have X:Hid (BF P M mod N L Q=false):=by show _=_;rw [V.out];simp [h2]
    clear h2 V;go_wp2_with fail;go_ret2;exact ⟨by rw [X.out,B.out];rfl,Z⟩
  ·have A:((r:Int) == no)=false:=by simp only [beq_eq_false_iff_ne,ne_eq];omega
   have X:Hid (BF P M mod N L Q=false):=by show _=_;rw [V.out];simp [h1]
   clear h1 V;go_wp2_with fail;go_ret2;exact ⟨by rw [X.out,B.out];rfl,Z⟩
theorem iR {P M:Int} {mod:Lz} {m:Nat} {D:ZZ} (Z:bw P M mod=true) (hm:m<=256) (S:D.length<=256) (V:bz (ah P M.toNat mod).El m D):dK P M mod m D=0:=by
 unfold dK;rw [M7 Z];unfold e9;rw [M8 (by omega)];have X:jr (m:Int) D=true:=by unfold jr;rw [NZ];intro r Y;have:=(V r Y).1;simp;omega
 rw [M8 (by rw [X];decide),M7];rw [NZ];intro r Y;unfold fC jx;rw [NZ];intro x U;have:=(V r Y).2 x U;unfold bX.El at this;simp;exact this
def iD (D U:ZZ):ZZ:=List.zipWith (λr s=>r ++ s) D U
theorem kK {k:Nat}:∀ {D U:ZZ},D.length=U.length->(∀r ∈ D,r.length=k)->(iD D U).map (List.take k)=D
 | [],[],_,_=>rfl
 | [],_ :: _,h,_=>by simp at h
 | _ :: _,[],h,_=>by simp at h
 | r :: D,u :: U,h,Y=>by have Z:=kK (k:=k) (D:=D) (U:=U) (by simpa using h) λx X=>Y x (NC _ X);unfold iD at Z ⊢;rw [OX,Oq,Z];have:=Y r (Og ..);rw [<- this,RO];rfl
theorem nM {k:Nat}:∀ {D U:ZZ},D.length=U.length->(∀r ∈ D,r.length=k)->(iD D U).map (List.drop k)=U
 | [],[],_,_=>rfl
 | [],_ :: _,h,_=>by simp at h
 | _ :: _,[],h,_=>by simp at h
 | r :: D,u :: U,h,Y=>by have Z:=nM (k:=k) (D:=D) (U:=U) (by simpa using h) λx X=>Y x (NC _ X);unfold iD at Z ⊢;rw [OX,Oq,Z];have:=Y r (Og ..);rw [<- this,List.drop_left'];rfl
theorem mN {El:Int->Prop} {k m:Nat}:∀ {D U:ZZ},bz El k D->bz El m U->bz El (k+m) (iD D U)
 | [],_,_,_=>λr Z=>by simp [iD] at Z
 | _ :: _,[],_,_=>λr Z=>by simp [iD] at Z
 | d :: D,u :: U,S,X=>by
  have V:=mN (D:=D) (U:=U) (λr Z=>S r (NC _ Z)) (λr Z=>X r (NC _ Z));intro r Z;unfold iD at Z V;rw [OX] at Z;rcases List.mem_cons.1 Z with rfl | Z
  ·have h1:=S d (Og ..);have h2:=X u (Og ..);refine ⟨by rw [Ni,h1.1,h2.1],λx Y=>?_⟩;rcases List.mem_append.1 Y with Y | Y
   ·exact h1.2 x Y
   ·exact h2.2 x Y
  ·exact V r Z
theorem sL {El:Int->Prop} (h0:El 0) (h1:El 1) (n:Nat):bz El n (fF n):=λr Y=>by
 unfold fF at Y;obtain ⟨i,_,rfl⟩:=List.mem_map.1 Y;refine ⟨ka n i,λx Z=>?_⟩;unfold gQ at Z;rcases Oe Z with Z | rfl
 ·rw [N3 Z];exact h0
 ·exact h1
def pE (O:aL) (D:ZZ) (k:Nat):ZZ:=(aE O (iD D (fF k)) k).1.map (List.drop k)
theorem Jh (O:aL) {D:ZZ} {k:Nat} (h:D.length=k):(pE O D k).length=k:=by unfold pE;rw [No,bW];simp [iD,da,h]
theorem zF (P M:Int) (am:OA) (mn cm:Nat) (mod:Lz) (k:Nat) (a:OA) (c:Nat) (D:ZZ) (w:ej) (hmod:Ints w am mn mod) (hi:bP w a k D)
  (hB:bw P M mod=true) (hR:bz (ah P M.toNat mod).El k D) (hk:k<=64) (hpv:(aE (ah P M.toNat mod).ops (iD D (fF k)) k).2.length=k) :
  Calls prog 204 #[.agg #[cG P,cG M,.slice am mn cm],.agg #[cG k,.slice a k c]] w
   λe w'=>∃a1 c1,e = ec #[.agg #[cG k,.slice a1 k c1],cG 0]/\bJ w.heap.size w' a1 k (pE (ah P M.toNat mod).ops D k)/\SJ w w':=by
 have B:=hi.len;have F:=dY hB;have hmE:e9 (ah P M.toNat mod).q k D=0:=by have h:=iR hB (show k<=256 by omega) (show D.length<=256 by omega) hR;exact (gk h).2
 have hJr:=mN hR (sL F.zero F.one k);have hJt:=kK (U:=fF k) (by rw [da];exact B) (λr hr=>(hR r hr).1);have hJd:=nM (U:=fF k) (by rw [da];exact B) (λr hr=>(hR r hr).1);have hpla:=hi.pl;have HDr:Hid (∀l ∈ D,l.length<=1000000):=λl hl=>by rw [(hR l hl).1];omega
 obtain ⟨G,A⟩:∃G,ah P M.toNat mod=G:=⟨_,rfl⟩
 unfold pE;obtain ⟨J,hJ⟩:∃J,iD D (fF k)=J:=⟨_,rfl⟩
 rw [A,hJ] at hpv hJr;rw [hJ] at hJt hJd;rw [A,hJ];have HJ:=Z5 (Ng hJr (Ng hJt hJd));have Hpv:=Z5 hpv;have HDl:=Z5 B;have HGG:=Z5 A;have HB:=Z5 hB;have HmE:=Z5 hmE;clear hJr hJt hJd hpv B A F hR hJ hB hmE;go_enter func204,ntmps204;go_wp2_with fail;obtain ⟨W,hW⟩:∃W:ej,W=((((w.alloc (.cells #[cG P,cG M,.slice am mn cm] 24)).alloc (.cells #[cG k,.slice a k c] 94)).alloc (.cells #[cG 0,ds] 94)).alloc (.cells #[cG k,.slice a k c] 94)):=⟨_,rfl⟩
 rw [<- hW];have X:SJ w W:=by rw [hW];exact ((((M5 _ _).alloc (M4 _) _).alloc (by simp) _).alloc (by simp;omega) _).alloc (by simp;omega) _
 have hsW:W.heap.size=w.heap.size+4:=by rw [hW];simp
 have x1:aQ W (w.heap.size+1) [cG k,.slice a k c]:=by rw [hW];exact ((RV _ _ _ (by simp)).alloc _).alloc _
 have x2:aQ W (w.heap.size+1+1) [cG 0,ds]:=by rw [hW];exact (RV _ _ _ (by simp)).alloc _
 have q3:W.cell? ⟨w.heap.size+1+1+1,0,none⟩=some (cG k)/\W.cell? ⟨w.heap.size+1+1+1,1,none⟩=some (.slice a k c):=by rw [hW];exact ⟨aF _ _ _ (by simp) 0,aF _ _ _ (by simp) 1⟩
 have hMs:xz W (some ⟨w.heap.size+1+1+1,0,none⟩) 1 [((k:Int),D)]:=⟨rfl,λ_=>rfl,by unfold maxLen;omega,λi hi'=>by
  have:i=0:=by simp at hi';omega
  subst this;exact ⟨a,k,c,by simpa using q3.1,by simpa using q3.2,hi.ai X⟩⟩
 have HX:=Z5 (Ng x1 x2);have HsW:=Z5 hsW;have HbW:=Z5 X;clear hW hsW x1 x2 q3;refine (l6 P M am mn cm mod _ 1 1 _ W (hmod.ai X) hMs).mono ?_;rintro e E ⟨K,Y⟩;rw [ku] at Y;rcases Y with ⟨hB,_⟩ | ⟨_,er,h0,h1,_⟩ | ⟨_,_,b,rfl,hG,hbl⟩
 ·rw [HB.out] at hB;exact absurd hB (by decide)
 ·rw [HmE.out] at h1;exact absurd h1.symm h0
 rw [HGG.out] at hG;have I:=RU X K;have r1:=HX.1.ai K;have m0:=r1.cell 0 rfl;have m1:=r1.cell 1 rfl;have hkk:((k:Int) != k)=false:=by simp
 have hi1:=hi.ai I;clear hMs X r1 hbl hmod hi;go_wp2_with fail;refine (Jn k E (by omega)).mono ?_;rintro e w2 ⟨j,ce,S,rfl,z,H⟩;rw [da] at z ⊢;have HS:Hid (∀V,SJ w2 V->V.cell? ⟨w.heap.size+1,0,none⟩=some (cG k)/\V.cell? ⟨w.heap.size+1,1,none⟩=some (.slice a k c)):=λV hV=>by have r2:=HX.1.ai (RU (RU K H) hV);exact ⟨r2.cell 0 rfl,r2.cell 1 rfl⟩
 have Hcl:Hid (∀V,SJ w2 V->Calls prog 222 #[.slice a k c] V λe w'=>∃a1 c1 R,e = .returned (.slice a1 k c1)/\aS w' V.heap.size a1 k c1 R D/\SJ V w'):=λV hV=>by refine (vN a k c D (hi1.ai (RU H hV)) (by omega) HDr.out).mono ?_;rintro e w' ⟨a1,c1,R,rfl,h1,h2⟩;rw [HDl.out] at h1 ⊢;exact ⟨a1,c1,R,rfl,h1,h2⟩
 have Hel:Hid (∀V V2 a1 c1 R,SJ w2 V->aS V2 V.heap.size a1 k c1 R D->SJ V V2->∀V3,SJ V2 V3 ->
   Calls prog 223 #[ea b 0,.slice a1 k c1,cG k,.slice j k ce] V3 λe w'=>∃ap cp d,e = ec #[.slice ap k cp,cG d] /\
    bJ E.heap.size w' j k ((aE G.ops J k).1.map (List.drop k))/\SJ E w'):=λV V2 a1 c1 R hV hO hV2 V3 hV3=>by
  have hb13:SJ E V3:=RU (RU H hV) (RU hV2 hV3);have hsz2:=H.size;have hszV:=hV.size;have hO2:ef V3 E.heap.size a1 k c1 R j ce S k J:=by refine ⟨by rw [HJ.2.1];exact (hO.ai hV3).mono (by omega),by rw [HJ.2.2];exact (z.ai (RU hV (RU hV2 hV3))),λx hx hx2=>?_⟩;have h1:=(hO.lt x hx).1;have h2:=(z.lt x hx2).2;omega
  refine (rU E a1 k c1 k k (k+k) R j ce S J hG hb13 hO2 HJ.1 (M4 _) (by omega) (by omega) (by omega)).mono ?_;rintro e w' ⟨R',S',ap,cp,d,rfl,hO',_,_,hb'⟩;exact ⟨ap,cp,d,by rw [Hpv.out],Sq hO'.om2,hb'⟩
 obtain ⟨k0,k1⟩:=HS w2 (M5 _ _);have Z:=Z5 (Ng K I);clear z hi1 hG m0 m1 K I;go_wp2_with fail;go_cut [9] (λv wx=>∃ap cp,v = .slice ap k cp/\bJ E.heap.size wx j k ((aE G.ops J k).1.map (List.drop k))/\SJ E wx);case first =>
  go_region_law ((first
   | (go_simp;go_at_call 222;((with_reducible refine (Hcl.out _ (M5 _ _).drew).mono ?_);rintro e w4 ⟨a4,c4,R4,rfl,hO4,hb4⟩;obtain ⟨k0,k1⟩:=HS.out w4 (RU (M5 _ _).drew hb4)))
   | (go_simp;go_at_call 223;((with_reducible refine (Hel.out _ w4 a4 c4 R4 (M5 _ _).drew hO4 hb4 _ (by first|exact M5 _ _|exact (M5 _ _).drew)).mono ?_);rintro e w5 ⟨ap,cp,d,rfl,hM5,hb5⟩))))
  all_goals (
   go_wp2_with fail
   go_meet
   exact ⟨ap,cp,rfl,hM5,hb5⟩)
 obtain ⟨ap,cp,rfl,hM,hbc⟩:=hcut;generalize wc=U at *;have r2:=HX.1.ai (RU Z.1 hbc);have k0':=r2.cell 0 rfl;have z6:=HX.2.ai (RU Z.1 hbc);have z0:=z6.cell 0 rfl;have z1:=z6.cell 1 rfl;have f0:=z6.frozen 0;have f1:=z6.frozen 1;have hs:=HsW.out;have hs1:=Z.1.size;have HF:=Z5 (Ng (((hM.setCell (p:=⟨w.heap.size+1+1,0,none⟩) (by simp;omega) (cG k)).setCell (p:=⟨w.heap.size+1+1,1,none⟩) (by simp;omega) (.slice j k ce)).mono (show w.heap.size<=E.heap.size by omega))
  (((RU Z.2 hbc).setCell (p:=⟨w.heap.size+1+1,0,none⟩) (by simp;omega) (cG k)).setCell (p:=⟨w.heap.size+1+1,1,none⟩) (by simp;omega) (.slice j k ce)))
 clear hM z6 r2 k0 k1 HS Hcl Hel;go_wp2_with fail;exact bodyPost_ret (v:=.tuple #[.agg #[cG k,.slice j k ce],cG 0]) (by simp [results,results204,go_sem,z0,z1]) rfl ⟨j,ce,rfl,HF.1,HF.2⟩
theorem vU (U:Lz) (k:Nat):frTo false U (k+1)=if decide ((k:Int) ∈ U)=false then frTo false U k ++ [(k:Int)] else frTo false U k:=rfl
theorem nj (pb m:Nat) (sa:OA) (ns cs:Nat) (s:Lz) (B:OA) (nz A:Nat) (z:Lz) (w:ej) (p4:w.cell? ⟨pb,4,none⟩=some (cG m)) (hs:Ints w sa ns s) (hz:Ints w B nz z)
  (hnz:nz<=1000000) (hm:m<=1000) :
  Calls prog 232 #[ea pb 0,.slice sa ns cs,.slice B nz A] w (cR w (i9 m s z)):=by
 have Hzl:=Z5 hz.len;have HP:=Z5 (λ(V:ej) (hV:SJ w V)=>aC hV p4);go_enter func232,ntmps232;go_wp2_with fail;refine (Cb B nz A w).mono ?_;rintro e w1 ⟨rfl,rfl⟩;have hb1:SJ w (w.alloc (.cells #[.slice B nz A] 22)):=aD _ _;have HSo:=Z5 (BJ w.heap.size B nz A z hnz (w.alloc (.cells #[.slice B nz A] 22)) (by simp) (aF _ _ _ rfl 0) (hz.ai hb1));have hsz1:w.heap.size<=(w.alloc (.cells #[.slice B nz A] 22)).heap.size:=hb1.size;generalize w.alloc (.cells #[.slice B nz A] 22)=w1 at *;go_wp2_with fail;refine HSo.mono ?_;rintro e w2 ⟨a2,c2,rfl,H,hb2⟩;have r:=RU hb1 hb2;have p4':=HP w2 r;have hO2:w2.ownsRow w.heap.size 3 1 (.slice a2 nz c2) nz ((bF z).map (Value.int .i64)):=bq H hsz1;clear H p4;go_wp2_with fail;go_loopw [7,17] (λqv iv wr=>∃(k:Nat) (aq:OA) (cq:Nat) (out:Lz),k<=m/\iv = cG k/\qv = .slice aq out.length cq/\Hid (out=bF z ++ frTo false (s ++ z) k)/\Hid (out.length<=nz+k) /\
   wr.ownsRow w.heap.size 3 1 (.slice aq out.length cq) out.length (out.map (Value.int .i64))/\SJ w wr)
  (λ_ iv _=>m - (intOf iv).toNat)
 case atStart =>
  refine ⟨0,a2,c2,bF z,Nb _,rfl,?_,?_,?_,?_,r⟩
  ·rw [fb,Hzl.out]
  ·show _=_;simp [frTo]
  ·show _<=_;rw [fb,Hzl.out];omega
  ·rw [fb,Hzl.out];exact hO2
 case round =>
  obtain ⟨k,aq,cq,out,hk,rfl,rfl,hst,hln,E,Y⟩:=hrel
  generalize wr=U at *
  by_cases hlt:k<m
  ·have hsU:=hs.ai Y
   have hzU:=hz.ai Y
   have hlen:=hln.out
   have D:Hid (((k:Int) ∈ s ++ z)->out=bF z ++ frTo false (s ++ z) (k+1)):=λF=>by rw [vU,M8 (by rw [Nv F];decide)];exact hst
   have Htake:Hid (¬ ((k:Int) ∈ s ++ z)->out ++ [(k:Int)]=bF z ++ frTo false (s ++ z) (k+1)):=λF=>by rw [vU,M7 (by rw [Nu F]),<- Oa,<- hst.out]
   by_cases h1:(k:Int) ∈ s
   ·have X:decide ((k:Int) ∈ s)=true:=by simpa using h1
    have S:=Z5 (bS sa ns cs s k U hsU)
    rw [X] at S
    have K:Hid (out=bF z ++ frTo false (s ++ z) (k+1)):=D (List.mem_append.2 (.inl h1))
    clear h1 X
    go_wp2_with fail
    refine S.mono ?_
    rintro e w6 ⟨rfl,rfl⟩
    go_wp2_with fail
    go_roundw
    case rel=>exact ⟨k+1,aq,cq,out,by omega,by go_num,rfl,K,(show _<=_ by omega),E,Y⟩
    case measure=>simp [intOf]<;>omega
   ·have X:decide ((k:Int) ∈ s)=false:=by simpa using h1
    have S:=Z5 (bS sa ns cs s k U hsU)
    rw [X] at S
    by_cases h2:(k:Int) ∈ z
    ·have Z:decide ((k:Int) ∈ z)=true:=by simpa using h2
     have I:=Z5 (bS B nz A z k U hzU)
     rw [Z] at I
     have K:Hid (out=bF z ++ frTo false (s ++ z) (k+1)):=D (List.mem_append.2 (.inr h2))
     clear h1 X h2 Z
     go_wp2_with fail
     refine S.mono ?_
     rintro e w6 ⟨rfl,rfl⟩
     go_wp2_with fail
     refine I.mono ?_
     rintro e w7 ⟨rfl,rfl⟩
     go_wp2_with fail
     go_roundw
     case rel=>exact ⟨k+1,aq,cq,out,by omega,by go_num,rfl,K,(show _<=_ by omega),E,Y⟩
     case measure=>simp [intOf]<;>omega
    ·have Z:decide ((k:Int) ∈ z)=false:=by simpa using h2
     have I:=Z5 (bS B nz A z k U hzU)
     rw [Z] at I
     have K:Hid (out ++ [(k:Int)]=bF z ++ frTo false (s ++ z) (k+1)):=Htake λh=>by
      rcases List.mem_append.1 h with h | h
      ·exact h1 h
      ·exact h2 h
     have hcn:=bh U (cG k) 3
     have hbn:=aD U (.cells #[cG k] 3)
     have j:=Y.size
     clear h1 X h2 Z
     go_wp2_with fail
     refine S.mono ?_
     rintro e w6 ⟨rfl,rfl⟩
     go_wp2_with fail
     refine I.mono ?_
     rintro e w7 ⟨rfl,rfl⟩
     go_wp2_with (at_builtin;refine bd rfl _ _ 22 3 rfl (cG 0) 8 underlying22 br rfl w.heap.size aq out.length cq _ rfl (E.alloc _) ⟨w7.heap.size,0,none⟩ 1 (cG k) rfl hcn rfl (by omega) (by unfold maxLen;omega) (by simp;omega) ?_;intro a5 c5 w5 hown5 hgr5 hap5)
     go_roundw
     case rel =>
      have hb5:SJ w w5:=RY (NK Y (hbn.mono j)) (E.alloc _) hgr5 (M4 _) (Np j hbn.size)
      refine ⟨k+1,a5,c5,out ++ [(k:Int)],by omega,by go_num,by simp,K,(show _<=_ by rw [Ni,ND];omega),?_,hb5⟩
      simpa using hown5
     case measure=>simp [intOf]<;>omega
  ·obtain rfl:k=m:=by omega
   have Ho:Hid (i9 k s z=out):=by show _=_;rw [i9,hst.out]
   go_wp2_with fail
   go_ret
   exact ⟨aq,cq,by rw [Ho.out];rfl,by rw [Ho.out];exact E,Y⟩
section
open Go.RowKit
end
def yE (O:aL) (L:ZZ) (Q:Lz):Bool:=decide (Q.length=L.length) && decide ((jm O L Q).length=Q.length)
theorem jq (U S:Lz):∀k,k<=S.length->fE U S k=((S.take k).countP λx=>decide (¬ x ∈ U):Nat)
 | 0,_=>by simp [fE]
 | k+1,h=>by
  rw [fE,jq U S k (by omega),Nh (by omega),PN,an (by omega)];by_cases h1:S[k] ∈ U
  ·simp [h1]
  ·simp [h1]
theorem En {U S Z:Lz} (h:S.Perm Z):fE U S S.length=fE U Z Z.length:=by rw [jq _ _ _ (M4 _),jq _ _ _ (M4 _),Nj (M4 _),Nj (M4 _),h.countP_eq]
theorem kF (b:Bool) (U:Lz):∀k,(frTo b U k).Pairwise (λx y=>x<y)
 | 0=>List.Pairwise.nil
 | k+1=>by
  have Z:=kF b U k;rw [frTo];split
  ·rw [Py];refine ⟨Z,by simp,λx Y y hy=>?_⟩;rw [NR] at hy;obtain ⟨j,X,rfl,_⟩:=(eE k).1 Y;omega
  ·exact Z
theorem F5 {m:Nat} {U:Lz} (X:U.Nodup) (Y:∀x ∈ U,0<=x/\x<(m:Int)):bF U=frTo true U m:=by
 have h:=kF true U m;refine (oc (h.imp λh=>by omega) ((Pz (h.imp λh=>by omega) X).2 λx=>?_)).symm;rw [eE];constructor
 ·rintro ⟨j,_,rfl,h1⟩;simpa using h1
 ·intro Z;have h1:=Y x Z;exact ⟨x.toNat,by omega,by omega,by rw [show ((x.toNat:Nat):Int)=x by omega];simpa using Z⟩
theorem sQ {m:Nat} {U:Lz} (Y:U.Nodup) (Z:∀x ∈ U,0<=x/\x<(m:Int)):U.length<=m:=by rw [<- fb,F5 Y Z];exact iG _ _ _
theorem qp {N:Int} {A:Lz} (h:dZ N A=true):A.Nodup:=by
 refine uK λi j Z X=>?_;have key:∀d i,i+d<A.length->0<d->nth A i<nth A (i+d):=λd=>by
  induction d with
  | zero=>intro i _ h0;omega
  | succ d Y =>
   intro i hi _
   have h1:=(gL h hi).2.2 (by omega)
   rw [show i+(d+1) - 1=i+d by omega] at h1
   by_cases h0:d=0
   ·subst h0;exact h1
   ·have:=Y i (by omega) (by omega);omega
 have:=key (j - i) i (by omega) (by omega);rw [show i+(j - i)=j by omega] at this;omega
section
variable {O:aL} {El:Int->Prop} {m:Nat} {L:ZZ}
theorem Jq (F:bQ O El) (Y:bz El m L) {Q Z:Lz} (h:Q.Perm Z):yE O L Q=yE O L Z:=by have h1:=H9 F Y h;unfold EP at h1;rw [yE,yE,h1,h.length_eq]
end
section
theorem iw:∀ {s T:Lz},s.Nodup->(∀x ∈ s,x ∈ T)->s.length<=T.length
 | [],_,_,_=>Nb _
 | x :: s,T,X,h=>by have Y:x ∈ T:=h x (by simp);have Z:=List.nodup_cons.1 X;have h1:∀y ∈ s,y ∈ T.erase x:=λy hy=>(List.mem_erase_of_ne (λ(e:y=x)=>Z.1 (by rw [<- e];exact hy))).2 (h y (by simp [hy]));have h2:=iw Z.2 h1;rw [List.length_erase_of_mem Y] at h2;have:0<T.length:=List.length_pos_of_mem Y;simp only [NO];omega
variable {O:aL} {L:ZZ} {m:Nat} {C:kW}
end
section
variable {O:aL} {El:Int->Prop} {m:Nat} {L:ZZ}
variable {C:kW}
structure MJ (O:aL) (L:ZZ) (m:Nat) (C:kW) (s z:Lz):Prop where
 sn:s.Nodup
 sb:∀x ∈ s,0<=x/\x<(m:Int)
 zn:z.Nodup
 zb:∀x ∈ z,0<=x/\x<(m:Int)
 sz:∀x ∈ z,¬ x ∈ s
 zi:EP O L z=z.length
 zk:¬ C.cos=true->z.length<=C.M
theorem E6 {s z:Lz} (Z:z.Nodup):(i9 m s z).Nodup:=by
 unfold i9;rw [Oj];refine ⟨(cB z).nodup_iff.2 Z,(kF false (s ++ z) m).imp λh=>by omega,λa ha b hb e=>?_⟩;obtain ⟨j,X,rfl,hd⟩:=(eE m).1 hb;have Y:¬ (j:Int) ∈ s ++ z:=by simpa using hd
 exact Y (List.mem_append.2 (.inr ((cB z).mem_iff.1 (e ▸ ha))))
theorem It {s z:Lz} {x:Int}:x ∈ e8 O L m C s z ↔ x ∈ yH O L (i9 m s z) (if C.cos=true then m else C.M):=(cB _).mem_iff
theorem B8 {s z:Lz} (hz:z.Nodup):(e8 O L m C s z).Nodup:=by unfold e8;refine (cB _).nodup_iff.2 ?_;unfold yH;refine PO (PY _ _) ?_;exact gr_nodup (E6 hz)
where gr_nodup {Q : Lz} (hQ : Q.Nodup) : (jm O L Q).Nodup := PO (gr_sub Q Q.length (M4 _)) (by rw [Qz]; exact hQ)
      gr_sub (Q:Lz):∀k,k<=Q.length->((grTo O L Q k).2).Sublist (Q.take k)
 | 0,_=>by simp [grTo]
 | k+1,h=>by
  have ih:=gr_sub Q k (by omega);rw [grTo,Nh (by omega)];split
  ·rw [an (show k<Q.length by omega)];exact ih.append (List.Sublist.refl _)
  ·exact ih.trans (List.sublist_append_left _ _)
end
theorem aB.oH {w V Z:ej} {I I':Nat->Prop} (h:aB w V I I') (g:Below w.heap.size V Z):aB w Z I I' :=
 ⟨g.os.trans h.os,g.tape.trans h.tape,g.output.trans h.output,Np h.size g.size,λb hb hi=>(g.block b hb).trans (h.block b hb hi),h.grow⟩
theorem aB.grown {w w':ej} {K:Nat->Prop} {a:OA} {n c:Nat} (Z:w.grownBy w' (Value.slice a n c).ownBlock) (Y:a ≠ none->K (ablk a)):aB w w' K K :=
 ⟨Z.os,Z.tape,Z.output,Z.size,λb hb hi=>Z.block b hb λe=>by
  cases a with
  | none=>cases e
  | some ad =>
   have h1:b=ad.block:=by simpa [Value.ownBlock] using e
   exact hi (h1 ▸ Y (by simp)),λb hb=>.inl hb⟩
theorem Ints.cQ {w w':ej} {I I':Nat->Prop} {a:OA} {n:Nat} {l:Lz} (h:Ints w a n l) (Y:aB w w' I I') (hI:0<n->¬ I (ablk a)):Ints w' a n l :=
 h.of_block λZ=>Y.block _ (h.lt Z) (hI Z)
theorem aQ.cQ {w w':ej} {I I':Nat->Prop} {b:Nat} {cs:List Value} (h:aQ w b cs) (Z:aB w w' I I') (hI:¬ I b):aQ w' b cs:=by have hb:=Z.block b h.1 hI;refine ⟨Nz h.1 Z.size,λi v Y=>(NG (w:=w) (a:=⟨b,i,none⟩) hb).trans (h.2.1 i v Y),λi=>?_⟩;rw [<- h.2.2 i];unfold World.frozen?;simp only [hb]
theorem aB.put (w:ej) (b i:Nat) (v:Value):aB w (w.setCell ⟨b,i,none⟩ v) (λx=>x=b) (λx=>x=b):=by have Z:Below 0 w (w.setCell ⟨b,i,none⟩ v):=(M5 0 w).setCell (Nb _) v;exact ⟨Z.os,Z.tape,Z.output,Z.size,λx Y hI=>Nt _ _ _ _ λe=>hI e,λx Y=>.inl Y⟩
theorem Je {L:ZZ} {t q i:Nat} (X:t<L.length) (Y:q<L.length) (Z:nth (aj L q) i ≠ 0):nth (aj (aY L t q) t) i ≠ 0:=by
 rw [kB _ _ _ _ X Y,jQ];by_cases e:t=q
 ·rw [M7 e,e];exact Z
 ·rw [M8 e,M7 rfl];exact Z
theorem JE {L:ZZ} {i t:Nat} (Z:t<=L.length) (h:aZ L i t ≠ L.length):t<=aZ L i t/\aZ L i t<L.length/\nth (aj L (aZ L i t)) i ≠ 0:=by
 have h1:=kN (c:=i) Z;refine ⟨h1.1,by omega,?_⟩;unfold aZ;refine iE L i _ _ ?_;have:aZ L i t<L.length:=by omega
 unfold aZ at this;omega
theorem CX {O:aL} {El:Int->Prop} {m:Nat} (X:qV O El) {L:ZZ} (I:bz El m L) {t q i:Nat} (Z:t<L.length) (U:q<L.length) (hi:i<m) (H:nth (aj L q) i ≠ 0):bz El m (nA O L t q i):=by unfold nA;have S:=I.swap Z U;have Y:=S.row (i:=t) (by rw [bU];exact Z);have K:=Je Z U H;refine bz.MN X (S.set t ⟨by rw [No];exact Y.1,λx F=>?_⟩) (by rw [N8,bU];exact Z) hi _ (by rw [N8,bU];exact M4 _);obtain ⟨E,V,rfl⟩:=List.mem_map.1 F;exact X.mul _ _ (X.inv _ (Y.2 _ (aG (by rw [Y.1];exact hi))) K) (Y.2 _ V)
theorem Jm {O:aL} {El:Int->Prop} {m:Nat} (Z:qV O El) {L:ZZ} (V:bz El m L) {y t:Lz} (hy:y.length=m/\∀x ∈ y,El x) (X:∀j,j<t.length->(nth t j).toNat<m) :
  ∀k,k<=t.length->bz El m (js O L y t k).rows/\((js O L y t k).sum.length=m/\∀x ∈ (js O L y t k).sum,El x)/\(js O L y t k).top<=(js O L y t k).rows.length
 | 0,_=>⟨V,hy,Nb _⟩
 | k+1,S=>by
  obtain ⟨h1,h2,h3⟩:=Jm Z V hy X k (by omega);have hi:=X k (by omega);rw [js,nQ];generalize js O L y t k=st at *;split
  ·exact ⟨h1,h2,h3⟩
  ·rename_i hne;obtain ⟨a1,a2,a3⟩:=JE h3 hne;have U:=CX Z h1 (t:=st.top) (by omega) a2 hi a3;have Y:=U.row (i:=st.top) (by rw [mX];omega);refine ⟨U,⟨?_,?_⟩,?_⟩
   ·dsimp only;rw [fH _ _ _ _ (by rw [Y.1,h2.1])];exact h2.1
   ·exact wu Z h2.2 Y.2 (by rw [Y.1,h2.1]) (by rw [h2.1];exact hi)
   ·dsimp only;rw [mX];omega
def mT (b:Nat) (P M:Int) (am:OA) (Y V:Nat) (m:Nat) (a:OA) (n c:Nat) (Z:OA) (X cy:Nat) (C:kW) (U:Value) (k:Nat):List Value :=
 [ea b 0,cG P,cG M,.slice am Y V,cG m,.slice a n c,.slice Z X cy,.bool C.cos,cG C.M,cG C.W,U,cG k]
structure Ce (w0:ej) (b:Nat) (G:bX) (a:OA) (n:Nat) (L:ZZ) (m:Nat) (ay:OA) (ny:Nat) (C:kW):Prop where
 g:dg w0 b G
 lL:bP w0 a n L
 rws:bz G.El m L
 n6:n<=1000000
 m6:m<=64
 w6:C.W<=64
 yl:C.cos=true->ny=m
 y:C.cos=true->Ints w0 ay m C.y
 ye:C.cos=true->G.vn C.y
theorem IV (m:Nat) (s:Lz):i9 m s []=frTo false s m:=by unfold i9;rw [OS,show bF []=[] by unfold bF;simp];rfl
theorem aQ.setCell {w:ej} {b:Nat} {cs:List Value} (h:aQ w b cs) (i:Nat) (v:Value):aQ (w.setCell ⟨b,i,none⟩ v) b (cs.set i v):=by
 refine ⟨by simpa using h.1,λj u hu=>?_,λj=>by rw [NY];exact h.2.2 j⟩;by_cases e:j=i
 ·subst e;by_cases Z:j<cs.length
  ·rw [QJ Z] at hu;cases hu
   exact Ns _ _ _ (h.2.1 j cs[j] (NJ Z))
  ·rw [OL (by omega),N5 (by omega)] at hu;cases hu
 ·rw [Q6 (by omega)] at hu;rw [Nr _ _ _ _ (by simp<;>omega)];exact h.2.1 j u hu
theorem pL {m:Nat} {t:Lz} (h:dZ m t=true):∀k,k<t.length->0<=nth t k/\nth t k<m:=λ_ Z=>⟨(gL h Z).1,(gL h Z).2.1⟩
def AV (n:Nat) (Q:Lz) (L:ZZ) (w:ej) (e:Ending) (w':ej):Prop :=
 ∃a1 c1,e = ec #[.agg #[cG Q.length,.slice a1 n c1],cG 0]/\bJ w.heap.size w' a1 n (L.map (bg Q))/\SJ w w'
theorem AU (P M:Int) (am:OA) (mn cm:Nat) (mod:Lz) (m:Nat) (a:OA) (n c:Nat) (L:ZZ) (ao:OA) (no co:Nat) (Q:Lz) (w:ej) (hmod:Ints w am mn mod) (hi:bP w a n L) (hq:Ints w ao no Q)
  (hE:aI P M mod m L=0) (hQ:Ga m Q) (hno:no<=256) :
  Calls prog 203 #[.agg #[cG P,cG M,.slice am mn cm],.agg #[cG m,.slice a n c],.slice ao no co] w (AV n Q L w):=by
 have Hlen:=Z5 hi.len;have r:=Z5 hq.len;have hplq:=hq.pl;have hpla:=hi.pl;obtain ⟨N',e,hm1,hm64,F,hR⟩:=aT hE;obtain rfl:m=N':=by omega
 have H:=(eh hE).choose_spec.2.2.2.1;have hn:n<=256:=by rw [<- hi.len];exact H
 obtain ⟨h5,h6⟩:=dF (aX hE).2.2.2;obtain ⟨hfB,h8⟩:=gk h5;have HLl:Hid (∀k,k<n->(aj L k).length=m):=λk hk=>(hR.row (i:=k) (by rw [hi.len];exact hk)).1;have HQ:=Z5 hQ;obtain ⟨L2,hL2⟩:∃L2,L.map (bg Q)=L2:=⟨_,rfl⟩
 have HL2l:Hid (L2.length=n):=by show _=_;rw [<- hL2,No];exact Hlen
 have HLk:Hid (∀k,k<n->L2.take (k+1)=L2.take k ++ [bg Q (aj L k)]):=λk hk=>by
  have hk':k<L2.length:=by rw [HL2l.out];exact hk
  rw [Nh hk',<- aH hk',<- hL2,oT _ L (by rw [Hlen.out];exact hk)]
 unfold AV;rw [hL2,r.out];clear hE h5 h6 e H F hR hQ hL2;go_enter func203,ntmps203;go_wp2_with fail;obtain ⟨W,hW⟩:∃W:ej,W=((((w.alloc (.cells #[cG P,cG M,.slice am mn cm] 24)).alloc (.cells #[cG m,.slice a n c] 94)).alloc (.cells #[cG 0,ds] 94)).alloc (.cells #[cG m,.slice a n c] 94)):=⟨_,rfl⟩
 rw [<- hW];have B:SJ w W:=by rw [hW];exact ((((M5 _ _).alloc (M4 _) _).alloc (by simp) _).alloc (by simp;omega) _).alloc (by simp;omega) _
 have hsW:W.heap.size=w.heap.size+4:=by rw [hW];simp
 have x1:aQ W (w.heap.size+1) [cG m,.slice a n c]:=by rw [hW];exact ((RV _ _ _ (by simp)).alloc _).alloc _
 have x2:aQ W (w.heap.size+1+1) [cG 0,ds]:=by rw [hW];exact (RV _ _ _ (by simp)).alloc _
 have q3:W.cell? ⟨w.heap.size+1+1+1,0,none⟩=some (cG m)/\W.cell? ⟨w.heap.size+1+1+1,1,none⟩=some (.slice a n c):=by rw [hW];exact ⟨aF _ _ _ (by simp) 0,aF _ _ _ (by simp) 1⟩
 have hMs:xz W (some ⟨w.heap.size+1+1+1,0,none⟩) 1 [((m:Int),L)]:=⟨rfl,λ_=>rfl,by unfold maxLen;omega,λi hi'=>by
  have:i=0:=by simp at hi';omega
  subst this;exact ⟨a,n,c,by simpa using q3.1,by simpa using q3.2,hi.ai B⟩⟩
 have HX:=Z5 (Ng x1 x2);have HsW:=Z5 hsW;have HbW:=Z5 B;clear hW hsW x1 x2 q3;refine (l6 P M am mn cm mod _ 1 1 _ W (hmod.ai B) hMs).mono ?_;rintro e w1 ⟨hb1,V⟩;rw [ku] at V;rcases V with ⟨hB,_⟩ | ⟨_,er,h0,h1,_⟩ | ⟨_,_,b,rfl,hG,hbl⟩
 ·rw [hfB] at hB;exact absurd hB (by decide)
 ·rw [h8] at h1;exact absurd h1.symm h0
 have hbw1:=RU B hb1;have r1:=HX.1.ai hb1;have m0:=r1.cell 0 rfl;have m1:=r1.cell 1 rfl;have hq1:=hq.ai hbw1;have d256:decide ((256:Int)<no)=false:=by simp;omega
 clear hMs hfB h8 B r1 hG hbl;go_wp2_with fail;go_loop [35] (λiv=>∃k:Nat,k<=no/\iv = cG k) (λiv=>no - (intOf iv).toNat);case atStart=>exact ⟨0,Nb _,rfl⟩
 case round =>
  obtain ⟨k,hk,rfl⟩:=hrel
  by_cases hlt:k<no
  ·have cq:=hq1.cell k hlt
   have hb:=HQ k (by rw [r.out];exact hlt)
   have e1:decide (nth Q k<0)=false:=by simp;omega
   have e2:decide ((m:Int)<=nth Q k)=false:=by simp;omega
   clear hb
   go_wp2_with fail
   go_round
   case rel=>exact ⟨k+1,by omega,by go_num⟩
   case measure=>simp [intOf]<;>omega
  ·obtain rfl:k=no:=by omega
   go_upto_region 12 with fail
   obtain ⟨g,hg⟩:∃g,w1.heap.size=g:=⟨_,rfl⟩
   have HG:=Z5 hg
   clear hg
   go_cut [12] (λv wx=>v = ea w1.heap.size 0/\jF wx w1.heap.size (cG k) none 0 0 [] []/\SJ w1 wx)
   case first =>
    go_wp2_with fail
    go_meet
    exact ⟨rfl,jF.start (RV w1 [cG k,ds] _ rfl),aD _ _⟩
   obtain ⟨rfl,hO0,hbc⟩:=hcut
   generalize wc=U at *
   have hs3:=HG.out
   rw [hs3] at hO0 ⊢
   have HbU:=Z5 (RU hb1 hbc)
   have r1:=HX.1.ai HbU.out
   clear m0 m1
   have m0:=r1.cell 0 rfl
   have m1:=r1.cell 1 rfl
   have hgU:=hO0.lt
   have hgW:W.heap.size<=g:=by have:=hb1.size;omega
   have hqU:=hq1.ai hbc
   clear r1 hbc hs3 hq1
   go_wp2_with fail
   clear m0 m1
   go_loopw [55] (λiv wr=>∃(j:Nat) (a1:OA) (c1:Nat) (Rr:Z4),j<=n/\iv = cG j/\jF wr g (cG k) a1 j c1 Rr (L2.take j)/\Below g U wr) (λiv _=>n - (intOf iv).toNat)
   case atStart=>exact ⟨0,none,0,[],Nb _,rfl,by simpa using hO0,M5 _ _⟩
   case round =>
    clear hO0
    obtain ⟨j,a1,c1,Rr,hj,rfl,hO,hbr⟩:=hrel
    have hbWr:=NK HbU.out (hbr.mono hgW)
    have I:=RU HbW.out hbWr
    have hgr:=hO.lt
    by_cases K:j<n
    ·obtain ⟨ra,rn,rc,D,X⟩:=(hi.ai I).cell j K
     have hrn:rn=m:=by rw [<- X.len];exact HLl j K
     rw [hrn] at D X
     have Htk:=Z5 (HLk j K)
     obtain ⟨l,hl⟩:∃l,aj L j=l:=⟨_,rfl⟩
     rw [hl] at Htk X
     have hplr:=X.pl
     obtain ⟨pk,hpk⟩:∃pk,bg Q l=pk:=⟨_,rfl⟩
     have Hpk:=Z5 hpk
     have hpl:pk.length=k:=by rw [<- hpk];simp [bg];exact r
     have Hpl:=Z5 hpl
     clear hl hrn hpk hpl
     go_wp2_with (at_make;refine bR rfl _ _ 22 3 rfl (cG 0) 8 underlying22 br rfl k rfl rfl (by omega) (by unfold maxLen;omega) ?_;intro a5 w5 Z hbel hge hlt5)
     have S:w5.ownsRow wr.heap.size 3 1 (.slice a5 k k) k ((eJ pk (List.replicate k 0) 0).map (Value.int .i64)):=by rw [dX,OB];exact Z
     clear Z hge hlt5 D
     generalize wr=X1 at *
     go_loopw [64] (λjv ws=>∃t:Nat,t<=k/\jv = cG t/\ws.ownsRow X1.heap.size 3 1 (.slice a5 k k) k ((eJ pk (List.replicate k 0) t).map (Value.int .i64))/\SJ X1 ws) (λjv _=>k - (intOf jv).toNat)
     case atStart=>exact ⟨0,Nb _,rfl,S,hbel⟩
     case round =>
      clear S hbel
      obtain ⟨t,ht,rfl,Z,E⟩:=hrel
      by_cases Y:t<k
      ·have hbU1:SJ w wr:=RU I E
       have cq:=(hq.ai hbU1).cell t Y
       have hqb:=HQ t (by rw [r.out];exact Y)
       obtain ⟨z,hz⟩:∃z:Nat,nth Q t=z:=⟨(nth Q t).toNat,by omega⟩
       have hzm:z<m:=by omega
       have cr:=(X.ai E).cell z hzm
       have Hst:Hid ((eJ pk (List.replicate k 0) t).set t (nth l z)=eJ pk (List.replicate k 0) (t+1)):=by show _=_;have h1:=dU pk (List.replicate k 0) t (by rw [Hpl.out,Oi]) (by rw [Oi];exact Y);rw [<- Hpk.out,fM Q l (by rw [r.out];exact Y),hz,M9] at h1;rw [<- Hpk.out];exact h1
       rw [hz] at cq
       obtain ⟨hints,A⟩:=RW Z
       have hpl5:=hints.pl
       have cz:=hints.cell t Y
       have fz:=(A (by omega)).2 t Y
       have hB:=(A (by omega)).1
       clear hz hqb
       go_wp2_with fail
       go_roundw
       case rel =>
        have h:=bA Z t Y (cG (nth l z))
        rw [<- Ny,Hst.out] at h
        exact ⟨t+1,by omega,by go_num,h,E.setCell hB _⟩
       case measure=>simp [intOf]<;>omega
      ·obtain rfl:t=k:=by omega
       rw [eD pk (List.replicate t 0) t (by simp [Hpl.out]) (by simp)] at Z
       have hs:=hO.ai E
       have hOk:=hs.om.ai (aD wr (.cells #[.slice a5 t t] 22))
       have hcp:=hs.c1
       have hgs:=hs.lt
       go_wp2_with (at_builtin;refine bd rfl _ _ 25 22 rfl ds 24 underlying25 ed rfl (g+1) a1 j c1 _ rfl hOk.own ⟨wr.heap.size,0,none⟩ 1 (.slice a5 t t) rfl (bh wr _ _) rfl (by omega) (by unfold maxLen;omega) (by simp;omega) ?_;intro a6 c6 w6 hown6 hgr6 hap6;have hk6:=(hs.lO hgr6).2.1;have hf6:=(hs.lO hgr6).2.2)
       go_roundw
       case rel =>
        have hra:a5 ≠ none->¬ bN a1 Rr (ablk a5):=λh0 hI=>by have h1:=(aP Z h0).1;have h2:=(hO.om.lt _ hI).2;omega
        obtain ⟨hP,hbP⟩:=hs.push Hpl.out (bq Z (by omega)) hra hown6 hgr6 hap6
        exact ⟨j+1,a6,c6,_,by omega,by go_num,by rw [Htk.out,Hpk.out];exact hP,NK hbr ((E.mono (by omega)).trans hbP)⟩
       case measure=>simp [intOf]<;>omega
    ·obtain rfl:j=n:=by omega
     rw [Nj (by rw [HL2l.out];exact M4 _)] at hO
     have g0:=hO.c0
     have g1:=hO.c1
     have z6:=HX.2.ai hbWr
     have z0:=z6.cell 0 rfl
     have z1:=z6.cell 1 rfl
     have f0:=z6.frozen 0
     have f1:=z6.frozen 1
     have hs:=HsW.out
     have hMN:bJ (g+1) wr a1 j L2:=Sq hO.om
     have HF:=Z5 (Ng (((hMN.setCell (p:=⟨w.heap.size+1+1,0,none⟩) (by simp;omega) (cG k)).setCell (p:=⟨w.heap.size+1+1,1,none⟩) (by simp;omega) (.slice a1 j c1)).mono (show w.heap.size<=g+1 by omega))
      ((I.setCell (p:=⟨w.heap.size+1+1,0,none⟩) (by simp;omega) (cG k)).setCell (p:=⟨w.heap.size+1+1,1,none⟩) (by simp;omega) (.slice a1 j c1)))
     clear hMN z6 hO
     go_wp2_with fail
     exact bodyPost_ret (v:=.tuple #[.agg #[cG k,.slice a1 j c1],cG 0]) (by simp [results,results203,go_sem,z0,z1]) rfl ⟨a1,c1,rfl,HF.1,HF.2⟩
theorem gU (f:Lz->Lz) (hf:f []=[]) (L:ZZ) (i:Nat):aj (L.map f) i=f (aj L i):=by
 by_cases h:i<L.length
 ·exact bK f L h
 ·rw [lN (by simpa using h),lN (by omega),hf]
section
variable {O:aL} {k:Nat}
theorem qB {J:ZZ} {c:Nat} (Z:c<k):∀f i,findTo (J.map (List.take k)) c i f=findTo J c i f
 | 0,i=>rfl
 | f+1,i=>by rw [findTo,findTo,gU _ PM,ji _ Z,qB Z f (i+1)]
theorem yw {J:ZZ} {c:Nat} (Z:c<k) (i:Nat):aZ (J.map (List.take k)) c i=aZ J c i:=by unfold aZ;rw [No,qB Z]
theorem uD {Z r:Lz} {c:Nat} (Y:c<k):bT O (Z.take k) c (r.take k)=(bT O Z c r).take k:=by
 unfold bT;rw [ji _ Y];split
 ·rfl
 ·rw [qN]
theorem oS {J:ZZ} {t c:Nat} (Z:c<k):∀i,clearTo O t c (J.map (List.take k)) i=(clearTo O t c J i).map (List.take k)
 | 0=>rfl
 | i+1=>by
  rw [clearTo,clearTo,oS Z i];split
  ·rfl
  ·rw [gU _ PM,gU _ PM,uD Z,Ny]
theorem xc {J:ZZ} {t c:Nat} (Z:c<k):bs O (J.map (List.take k)) t c=(bs O J t c).map (List.take k):=by
 unfold bs;rw [gU _ PM,ji _ Z];split
 ·rfl
 ·rw [Ny,List.map_take]
theorem wN {J:ZZ} {t i:Nat}:aY (J.map (List.take k)) t i=(aY J t i).map (List.take k):=by unfold aY;rw [gU _ PM,gU _ PM,Ny,Ny]
theorem AJ {J:ZZ} {t i c:Nat} (Z:c<k):eo O (J.map (List.take k)) t i c=(eo O J t i c).map (List.take k):=by
 have h:∀J:ZZ,clearTo O t c (bs O (J.map (List.take k)) t c) (bs O (J.map (List.take k)) t c).length=(clearTo O t c (bs O J t c) (bs O J t c).length).map (List.take k):=λJ=>by rw [xc Z,No,oS Z]
 unfold eo;split
 ·exact h J
 ·rw [wN];exact h _
theorem qE {J:ZZ}:∀c,c<=k->(aE O (J.map (List.take k)) c).1=(aE O J c).1.map (List.take k)/\(aE O (J.map (List.take k)) c).2=(aE O J c).2
 | 0,_=>⟨rfl,rfl⟩
 | c+1,h=>by
  obtain ⟨h1,h2⟩:=qE (J:=J) c (by omega);simp only [aE];rw [h1,h2,No,yw (by omega)];split
  ·split
   ·exact ⟨h1,h2⟩
   ·exact ⟨AJ (by omega),rfl⟩
  ·exact ⟨h1,h2⟩
end
section
variable {O:aL} {El:Int->Prop} {m:Nat}
theorem JL (F:bQ O El) {L:ZZ} (Y:bz El m L) {Q:Lz} (X:Ga m Q):(aE O (L.map (bg Q)) Q.length).2.length=(jm O L Q).length:=by
 refine Sv (gd F Y) (JX F Y X) (pI F Y Q) λx=>?_;rw [gJ,OW];constructor
 ·rintro ⟨j,Z,rfl⟩;exact ⟨j,List.mem_range.1 Z,rfl⟩
 ·rintro ⟨j,Z,e⟩;exact ⟨j,List.mem_range.2 Z,e⟩
theorem Jt (F:bQ O El) {L:ZZ} (S:bz El m L) {Q:Lz} (Z:Ga m Q) (K:Q.length=L.length) (X:(jm O L Q).length=Q.length) :
  (aE O (iD (L.map (bg Q)) (fF Q.length)) Q.length).2.length=Q.length:=by have Y:=kK (k:=Q.length) (D:=L.map (bg Q)) (U:=fF Q.length) (by rw [No,da];omega) (λr V=>by obtain ⟨s,_,rfl⟩:=List.mem_map.1 V;simp [bg]);have h:=(qE (O:=O) (k:=Q.length) (J:=iD (L.map (bg Q)) (fF Q.length)) Q.length (M4 _)).2;rw [Y] at h;rw [<- h,JL F S Z,X]
end
section
open Go.RowKit
end
def uz (q:Int) (l:Lz) (n:Nat):Int:=if l.length=n then lJ q l else 4
section
open Go.RowKit
end
theorem Cn (P M:Int) (am:OA) (Y X:Nat) (mod:Lz) (N:Int) (a:OA) (n c:Nat) (L:ZZ) (w:ej) (Z:Ints w am Y mod) (hi:bP w a n L) :
  Calls prog 35 #[.agg #[cG P,cG M,.slice am Y X,cG N,.slice a n c]] w λe w'=>e = .returned (cG (aI P M mod N L))/\SJ w w':=by rw [<- uW];exact mf P M am Y X mod N a n c L w Z hi nZ
section
open Go.RowKit
end
section
open Go.RowKit
end
def Se:=@aB.grown
def SG:=@aB.put
end Go.Proofs.YthglbncgemdcbaaGreat
