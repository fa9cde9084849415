import Derived.Test.YthglbncgemdcbaaGreatHE26
import Derived.Test.YthglbncgemdcbaaGreatHE27
namespace Go.Proofs.YthglbncgemdcbaaGreat
set_option linter.all false
set_option maxRecDepth 100000
set_option maxHeartbeats 8000000
open Go.RowKit Go.Proofs.Tryz
section
variable {O : aM} {El : Int->Prop}
def eG (O : aM) (x : Int) : Nat->Int
 | 0=>1
 | k+1=>O.mul (eG O x k) x
theorem ed (F : bZ O El) {x : Int} (hx : El x) : ∀k,El (eG O x k)
 | 0=>F.one
 | k+1=>F.cl.mul _ _ (ed F hx k) hx
theorem ua (F : bZ O El) {x : Int} (hx : El x) (a : Nat) : ∀b,eG O x (a+b)=O.mul (eG O x a) (eG O x b)
 | 0=>by rw [Lw];exact (F.kz (ed F hx a)).symm
 | b+1=>by rw [<- Nat.add_assoc];show O.mul (eG O x (a+b)) x=O.mul _ (O.mul (eG O x b) x);rw [ua F hx a b,F.mul_assoc _ _ _ (ed F hx a) (ed F hx b) hx]
theorem mx (F : bZ O El) {x : Int} (hx : El x) (a : Nat) : ∀b,eG O x (a * b)=eG O (eG O x a) b
 | 0=>rfl
 | b+1=>by rw [JU,ua F hx,mx F hx a b];rfl
def iB (n : Nat) (c : Int) (e : Nat) : LI:=(List.replicate n 0).set e c
def jV (O : aM) (a b : LI) : LI:=List.zipWith O.add a b
theorem iH (F : bZ O El) {n e : Nat} {c : Int} (hc : El c) : ∀y ∈ iB n c e,El y:=λy hy=>by
 rcases IX hy with h | rfl
 ·rw [IL h];exact F.zero
 ·exact hc
theorem Cl (F : bZ O El) (n : Nat) : ∀y ∈ List.replicate n (0 : Int),El y:=λy hy=>by rw [IL hy];exact F.zero
theorem uW (F : bZ O El) {x : Int} (hx : El x) (n : Nat) : gy O (List.replicate n 0) x=0:=i9 F hx λy hy=>IL hy
theorem mO (F : bZ O El) {x c : Int} (hx : El x) (hc : El c) : ∀(n e : Nat),e<n->gy O (iB n c e) x=O.mul c (eG O x e)
 | 0,e,h=>by omega
 | n+1,0,_=>by show O.add c (O.mul x (gy O (List.replicate n 0) x))=O.mul c 1;rw [uW F hx,F.dh hx,F.add_zero _ hc,F.kz hc]
 | n+1,e+1,h=>by show O.add 0 (O.mul x (gy O (iB n c e) x))=O.mul c (O.mul (eG O x e) x);rw [mO F hx hc n e (by omega),F.tR (F.cl.mul _ _ hx (F.cl.mul _ _ hc (ed F hx e))),F.mul_comm _ _ hx (F.cl.mul _ _ hc (ed F hx e)),F.mul_assoc _ _ _ hc (ed F hx e) hx]
theorem oX (F : bZ O El) : ∀ {a b : LI},(∀y ∈ a,El y)->(∀y ∈ b,El y)->∀y ∈ jV O a b,El y
 | [],b,_,_,y,hy=>by simp [jV] at hy
 | x :: a,[],_,_,y,hy=>by simp [jV] at hy
 | x :: a,z :: b,ha,hb,y,hy=>by
  rcases List.mem_cons.1 (show y ∈ O.add x z :: jV O a b from hy) with rfl | hy
  ·exact F.cl.add _ _ (ha x (by simp)) (hb z (by simp))
  ·exact oX F (λw hw=>ha w (Iz _ hw)) (λw hw=>hb w (Iz _ hw)) y hy
theorem oU (F : bZ O El) {x : Int} (hx : El x) : ∀ {a b : LI},a.length=b.length->(∀y ∈ a,El y)->(∀y ∈ b,El y)->gy O (jV O a b) x=O.add (gy O a x) (gy O b x)
 | [],[],_,_,_=>by show (0 : Int)=O.add 0 0;rw [F.add_zero 0 F.zero]
 | [],_ :: _,h,_,_=>by simp at h
 | _ :: _,[],h,_,_=>by simp at h
 | c :: a,d :: b,h,ha,hb=>by have hc:=ha c (by simp);have hd:=hb d (by simp);have ha' : ∀y ∈ a,El y:=λw hw=>ha w (Iz _ hw);have hb' : ∀y ∈ b,El y:=λw hw=>hb w (Iz _ hw);have hA:=ka F hx ha';have hB:=ka F hx hb';show O.add (O.add c d) (O.mul x (gy O (jV O a b) x))=O.add (O.add c (O.mul x (gy O a x))) (O.add d (O.mul x (gy O b x)));rw [oU F hx (by simpa using h) ha' hb',F.mul_add _ _ _ hx hA hB,F.Da hc hd (F.cl.mul _ _ hx hA) (F.cl.mul _ _ hx hB)]
theorem qP {a b : LI} {i : Nat} (ha : i<a.length) (hb : i<b.length) : nth (jV O a b) i=O.add (nth a i) (nth b i):=by
 have hl : i<(List.zipWith O.add a b).length:=by rw [IY];omega
 show nth (List.zipWith O.add a b) i=_;rw [aj hl,aj ha,aj hb,JT]
theorem mi {n e i : Nat} {c : Int} (he : e<n) : nth (iB n c e) i=if i=e then c else 0:=by
 unfold iB;rw [ei _ _ _ _ (by simpa using he)];split
 ·rfl
 ·simp [nth,GY,Ik];split <;> rfl
def Bw (O : aM) (v : LI) (E : Nat->Nat) (x : Int) : Nat->Int
 | 0=>0
 | k+1=>O.add (Bw O v E x k) (O.mul (nth v k) (eG O x (E k)))
theorem vN (F : bZ O El) {v : LI} {E : Nat->Nat} {n : Nat} : ∀k,(∀j,j<k->El (nth v j)/\E j<n)->(∀i j,i<j->j<k->E i<E j) ->
  ∃a : LI,a.length=n/\(∀y ∈ a,El y)/\(∀x,El x->gy O a x=Bw O v E x k)/\(∀j,j<k->nth a (E j)=nth v j)/\∀i,(∀j,j<k->i ≠ E j)->nth a i=0
 | 0,_,_=>⟨List.replicate n 0,by simp,Cl F n,λx hx=>uW F hx n,λj hj=>by omega,λi _=>by simp [nth,GY,Ik];split <;> rfl⟩
 | k+1,h,hE=>by
  obtain ⟨a,h1,h2,h3,h4,h5⟩:=vN F k (λj hj=>h j (by omega)) λi j hi hj=>hE i j hi (by omega);obtain ⟨hv,hn⟩:=h k (by omega);have hl : (iB n (nth v k) (E k)).length=n:=by simp [iB]
  have hak : nth a (E k)=0:=h5 _ λj hj=>by have:=hE j k hj (by omega);omega
  refine ⟨jV O a (iB n (nth v k) (E k)),by unfold jV;rw [IY,h1,hl,Nat.min_self],oX F h2 (iH F hv),λx hx=>?_,λj hj=>?_,λi hi=>?_⟩
  ·rw [oU F hx (by rw [h1,hl]) h2 (iH F hv),h3 x hx,mO F hx hv n _ hn];rfl
  ·have hjn:=(h j hj).2;rw [qP (by rw [h1];exact hjn) (by rw [hl];exact hjn),mi hn];rcases ID j k with hjk | hjk
   ·have:=hE j k hjk (by omega);rw [GU (by omega),h4 j hjk,F.add_zero _ (h j hj).1]
   ·obtain rfl : j=k:=by omega
    rw [GV rfl,hak,F.tR hv]
  ·by_cases hin : i<n
   ·rw [qP (by rw [h1];exact hin) (by rw [hl];exact hin),mi hn,GU (hi k (by omega)),h5 i λj hj=>hi j (by omega),F.add_zero 0 F.zero]
   ·have hz : (jV O a (iB n (nth v k) (E k))).length<=i:=by unfold jV;rw [IY,h1,hl];omega
    generalize jV O a (iB n (nth v k) (E k))=z at hz ⊢;unfold nth;rw [GY,I0 hz];rfl
theorem vg (F : bZ O El) {v : LI} {E : Nat->Nat} {r : Nat} {c : Int} (hc : El c) : ∀k,(∀j,j<k->El (nth v j)/\E j % (r+1)<r) ->
  ∃b : LI,b.length=r/\(∀y ∈ b,El y)/\∀x,El x->eG O x (r+1)=c->gy O b x=Bw O v E x k
 | 0,_=>⟨List.replicate r 0,by simp,Cl F r,λx hx _=>uW F hx r⟩
 | k+1,h=>by
  obtain ⟨b,h1,h2,h3⟩:=vg F hc k λj hj=>h j (by omega);obtain ⟨hv,hn⟩:=h k (by omega);have hcc:=F.cl.mul _ _ hv (ed F hc (E k / (r+1)));have hl : (iB r (O.mul (nth v k) (eG O c (E k / (r+1)))) (E k % (r+1))).length=r:=by simp [iB]
  refine ⟨jV O b (iB r (O.mul (nth v k) (eG O c (E k / (r+1)))) (E k % (r+1))),by unfold jV;rw [IY,h1,hl,Nat.min_self],oX F h2 (iH F hcc),λx hx hxc=>?_⟩;rw [oU F hx (by rw [h1,hl]) h2 (iH F hcc),h3 x hx hxc,mO F hx hcc r _ hn];show _=O.add _ (O.mul (nth v k) (eG O x (E k)));have e : eG O x (E k)=O.mul (eG O c (E k / (r+1))) (eG O x (E k % (r+1))):=by have h4 : E k=(r+1) * (E k / (r+1))+E k % (r+1):=(Jq _ _).symm;rw [<- hxc,<- mx F hx,<- ua F hx,<- h4]
  rw [e,F.mul_assoc _ _ _ hv (ed F hc _) (ed F hx _)]
def gz (O : aM) (X : LI) (E : Nat->Nat) (k : Nat) : Ll:=(List.range k).map λj=>X.map λx=>eG O x (E j)
theorem vh {X : LI} {E : Nat->Nat} {k j : Nat} (hj : j<k) : ai (gz O X E k) j=X.map λx=>eG O x (E j):=by
 unfold gz;have hl : j<((List.range k).map λj=>X.map λx=>eG O x (E j)).length:=by simpa using hj
 rw [aD hl,IF,JJ]
theorem lX (F : bZ O El) {X : LI} (hX : ∀x ∈ X,El x) {E : Nat->Nat} {k : Nat} : bG El X.length (gz O X E k):=λr hr=>by obtain ⟨j,hj,rfl⟩:=kr hr;rw [vh (by simpa [gz] using hj)];exact ⟨by simp,λy hy=>by obtain ⟨x,hx,rfl⟩:=List.mem_map.1 hy;exact ed F (hX x hx) _⟩
theorem l0 {X : LI} {f : Int->Int} {p : Nat} (hp : p<X.length) : nth (X.map f) p=f (nth X p):=by rw [aj (by simpa using hp),IF,aj hp]
theorem tZ (F : bZ O El) {X : LI} (hX : ∀x ∈ X,El x) {E : Nat->Nat} {n : Nat} {v : LI} (hv : ∀j,j<n->El (nth v j)) {p : Nat} (hp : p<X.length) : ∀k,k<=n->nth (cmbTo O X.length v (gz O X E n) k) p=Bw O v E (nth X p) k
 | 0,_=>by show nth (List.replicate X.length 0) p=0;simp [nth,GY,Ik];split <;> rfl
 | k+1,hk=>by
  have hvk:=hv k (by omega);have hxp:=hX (nth X p) (aH hp);have hpw:=ed F hxp (E k);have ih:=tZ F hX (E:=E) hv hp k (by omega);have hR:=lX F hX (E:=E) (k:=n);have hln : (gz O X E n).length=n:=by simp [gz]
  obtain ⟨⟨c1,c2⟩,_⟩:=jN F hR (x:=v) (λj hj=>hv j (by rw [hln] at hj;exact hj)) k (by rw [hln];omega);have hpse : El (Bw O v E (nth X p) k):=by rw [<- ih];exact L8 ⟨c1,c2⟩ hp
  rw [cmbTo];show _=O.add (Bw O v E (nth X p) k) (O.mul (nth v k) (eG O (nth X p) (E k)));split
  ·rename_i h0;rw [ih,h0,F.lC hpw,F.add_zero _ hpse]
  ·have hrow : ai (gz O X E n) k=X.map λx=>eG O x (E k):=vh (by omega);rw [fX _ _ _ _ _ (by rw [hrow,c1];simp) (by rw [c1];exact hp),ih,hrow,l0 hp];split
   ·rename_i h0;rw [h0,F.dh hvk,F.add_zero _ hpse]
   ·rfl
end
section
variable {O : aM} {El : Int->Prop} {m : Nat} {L : Ll}
theorem xV (F : bZ O El) (hL : bG El m L) (h : ∀v,Vc El L.length v->(∀p,p<m->nth (cmbTo O m v L L.length) p=0)->∀j,j<L.length->nth v j=0) : (aC O L m).2.length=L.length:=by
 obtain ⟨hP,hs1,hs2⟩:=gU F hL m (GQ _);have hRr:=ke F hL m (GQ _);obtain ⟨R,hR⟩ : ∃R,(aC O L m).1=R:=⟨_,rfl⟩
 obtain ⟨P,hPe⟩ : ∃P,(aC O L m).2=P:=⟨_,rfl⟩
 have hRl : R.length=L.length:=by rw [<- hR];exact bV O L m
 rw [hR,hPe] at hP;rw [hR] at hs1 hs2 hRr;rw [hPe];have hle:=hP.le;rw [hRl] at hle;refine Iv λhne=>?_;have hn : P.length<L.length:=by omega
 obtain ⟨A,hA⟩ : ∃A,(P.map λq=>bF L q.toNat)=A:=⟨_,rfl⟩
 have hAl : A.length=P.length:=by rw [<- hA,H8]
 have hAr : bG El L.length A:=λr hr=>by rw [<- hA] at hr;obtain ⟨q,_,rfl⟩:=List.mem_map.1 hr;exact dE hL F.zero q.toNat
 have hAi : ∀i,i<P.length->ai A i=bF L (nth P i).toNat:=λi hi=>by rw [aD (by omega),aj hi];simp [<- hA]
 obtain ⟨hP',hl'⟩:=dI F hAr;have hlen':=dw F hAr;have hRA:=di F hAr;have hPA : (aC O A L.length).2.length<=P.length:=by have:=(ef O A L.length).2;rw [hAl] at this;exact this
 obtain ⟨Q,hQ⟩ : ∃Q,(aC O A L.length).2=Q:=⟨_,rfl⟩
 obtain ⟨B,hB⟩ : ∃B,bz O L.length A=B:=⟨_,rfl⟩
 have hsub:=(fB F hAr).2;rw [hB] at hP' hl' hlen' hRA hsub;rw [hQ] at hP' hl' hlen' hPA;have hcnt:=sq (m:=L.length) Q (λj hj=>hP'.lt j hj) hl'.asc;have h0 : 0<(fu Q L.length).length:=by omega
 obtain ⟨c,hc⟩ : ∃c,(fu Q L.length).getD 0 0=c:=⟨_,rfl⟩
 obtain ⟨hcl,hcn⟩:=tO h0;rw [hc] at hcl hcn;obtain ⟨v,hv⟩ : ∃v,kerTo O L.length B Q c Q.length=v:=⟨_,rfl⟩
 have hvv : Vc El L.length v:=by rw [<- hv];exact jk F hRA hP' hlen' hcl _ (GQ _)
 have hvc : nth v c=1:=by rw [<- hv];exact jo hP' hcl hcn _ (GQ _)
 have hve : ∀p,p<L.length->El (nth v p):=λp hp=>hvv.at hp;have horth : ∀i,i<B.length->dotN O (λp=>nth v p) (λp=>nth (ai B i) p) L.length=0:=λi hi=>by have h1:=wF F hRA hP' hl' hlen' i 0 hi (by rw [gD];exact h0);rw [jE O L.length B Q L.length h0,hc,hv] at h1;rw [kK F L.length hve (λp hp=>L8 (hRA.row hi) hp)];exact h1
 have hz : ∀p,p<m->nth (cmbTo O m v L L.length) p=0:=by
  obtain ⟨c1,c2⟩:=jN F hL hve L.length (GQ _);refine vD F hRr hP (hs2.rs c2) λj hj=>?_;have hpl:=(hP.lt j hj)
  rw [uC F hL hve (show (nth P j).toNat<m by omega) _ (GQ _)];have h2 : dotN O (λp=>nth v p) (λp=>nth (ai A j) p) L.length=0:=FC F hRA hve horth (hsub j (by omega));rw [hAi j hj] at h2;rw [<- h2];exact iA L.length λp hp=>⟨rfl,(dH _ _ p hp).symm⟩
 have h3:=h v hvv hz c hcl;rw [hvc] at h3;exact absurd h3 (by decide)
end
section
variable {O : aM} {El : Int->Prop} {X : LI} {E : Nat->Nat} {k D : Nat}
theorem F0 (X : LI) (a : LI) : oB (X.map (gy O a))+(X.filter λy=>decide (gy O a y=0)).length=X.length:=by
 unfold oB;rw [LO];induction X with
 | nil=>rfl
 | cons y X ih =>
  have e1 : ((λy : Int=>decide (y ≠ 0)) ∘ gy O a) y=decide (gy O a y ≠ 0):=rfl
  rw [List.countP_cons,Kd,Io,e1]
  by_cases h : gy O a y=0
  ·rw [GU (show ¬ decide (gy O a y ≠ 0)=true by simpa using h),GV (show decide (gy O a y=0)=true by simpa using h),Io]
   omega
  ·rw [GV (show decide (gy O a y ≠ 0)=true by simpa using h),GU (show ¬ decide (gy O a y=0)=true by simpa using h)]
   omega
theorem zp (F : bZ O El) (hX : ∀x ∈ X,El x) (hE : ∀i j,i<j->j<k->E i<E j) (hD : ∀j,j<k->E j<=D) {v : LI} (hv : ∀j,j<k->El (nth v j)) :
  ∃a : LI,a.length=D+1/\(∀y ∈ a,El y)/\(∀p,p<X.length->nth (cmbTo O X.length v (gz O X E k) k) p=gy O a (nth X p))/\∀j,j<k->nth a (E j)=nth v j:=by obtain ⟨a,h1,h2,h3,h4,_⟩:=vN F (v:=v) (E:=E) (n:=D+1) k (λj hj=>⟨hv j hj,by have:=hD j hj;omega⟩) hE;exact ⟨a,h1,h2,λp hp=>by rw [tZ F hX hv hp k (GQ _),h3 _ (hX _ (aH hp))],h4⟩
theorem Ae (F : bZ O El) (hn : X.Nodup) (hX : ∀x ∈ X,El x) {a : LI} (hl : a.length=D+1) (ha : ∀y ∈ a,El y) (h : oB (X.map (gy O a))+D<X.length) : ∀c ∈ a,c=0:=by have h1:=F0 (O:=O) X a;refine ju F (X:=X.filter λy=>decide (gy O a y=0)) (Kh _ hn) (λx hx=>hX x (List.mem_filter.1 hx).1) ha (λx hx=>by simpa using (List.mem_filter.1 hx).2) (by omega)
theorem mf : (gz O X E k).length=k:=by simp [gz]
theorem yB (F : bZ O El) (hn : X.Nodup) (hX : ∀x ∈ X,El x) (hE : ∀i j,i<j->j<k->E i<E j) (hD : ∀j,j<k->E j<=D) {w : LI} (hw : Vc El X.length w)
  (hr : RS O El X.length (bz O X.length (gz O X E k)) (λi=>nth w i)) (h0 : oB w ≠ 0) : X.length<=oB w+D:=by
 have hR:=lX F hX (E:=E) (k:=k);obtain ⟨v,hv,h1⟩:=RS.GC F hR ((fB F hR).1.rs hr);rw [mf] at hv h1;obtain ⟨a,a1,a2,a3,_⟩:=zp F hX hE hD (v:=v) λj hj=>hv.at hj;have hwe : w=X.map (gy O a):=gd (by rw [hw.1,H8]) λp hp=>by rw [hw.1] at hp;rw [l0 hp,<- a3 p hp];exact h1 p hp
 refine Jp λhc=>h0 ?_;have h2:=Ae F hn hX a1 a2 (by rw [<- hwe];omega);rw [hwe];exact vF.2 λp hp=>by rw [H8] at hp;rw [l0 hp];exact i9 F (hX _ (aH hp)) h2
theorem Dt (F : bZ O El) (hn : X.Nodup) (hX : ∀x ∈ X,El x) (hE : ∀i j,i<j->j<k->E i<E j) (hD : ∀j,j<k->E j<=D) (hDX : D<X.length) : (bz O X.length (gz O X E k)).length=k:=by
 have hR:=lX F hX (E:=E) (k:=k);rw [dw F hR,xV F hR,mf];intro v hv h0 j hj;rw [mf] at hv h0 hj;obtain ⟨a,a1,a2,a3,a4⟩:=zp F hX hE hD (v:=v) λj hj=>hv.at hj;have hz : oB (X.map (gy O a))=0:=vF.2 λp hp=>by rw [H8] at hp;rw [l0 hp,<- a3 p hp];exact h0 p hp
 have h2:=Ae F hn hX a1 a2 (by omega);rw [<- a4 j hj];exact h2 _ (aH (by rw [a1];have:=hD j hj;omega))
theorem BO (F : bZ O El) (hn : X.Nodup) (hX : ∀x ∈ X,El x) {r : Nat} (hr : ∀j,j<k->E j % (r+1)<r) {c : Int} (hc : El c) {l : LN} (hl : ∀p ∈ l,p<X.length/\eG O (nth X p) (r+1)=c) (hln : l.Nodup) (hlr : r<=l.length)
  {q : Nat} (hq : q<X.length) (hqc : eG O (nth X q) (r+1)=c) : oY O El (bz O X.length (gz O X E k)).length (bF (bz O X.length (gz O X E k))) l q:=by
 have hR:=lX F hX (E:=E) (k:=k);refine (EV (λp hp=>(hl p hp).1) hq).2 λf hf h0=>?_;obtain ⟨v,hv,h1⟩:=RS.GC F hR ((fB F hR).1.rs hf);rw [mf] at hv h1;have hve : ∀j,j<k->El (nth v j):=λj hj=>hv.at hj;obtain ⟨b,b1,b2,b3⟩:=vg F (v:=v) (E:=E) (r:=r) hc k λj hj=>⟨hve j hj,hr j hj⟩
 have hfp : ∀p,p<X.length->eG O (nth X p) (r+1)=c->f p=gy O b (nth X p):=λp hp hpc=>by rw [h1 p hp,tZ F hX hve hp k (GQ _),b3 _ (hX _ (aH hp)) hpc]
 have hz:=ju F (X:=l.map (nth X)) (a:=b) (by
  unfold List.Nodup;rw [J7];refine hln.imp_of_mem λ{p p'} hp hp' hne e=>hne ?_;rw [aj (hl p hp).1,aj (hl p' hp').1] at e;exact (LB hn).1 e) (λx hx=>by
   obtain ⟨p,hp,rfl⟩:=List.mem_map.1 hx;exact hX _ (aH (hl p hp).1)) b2 (λx hx=>by
   obtain ⟨p,hp,rfl⟩:=List.mem_map.1 hx;rw [<- hfp p (hl p hp).1 (hl p hp).2];exact h0 p hp) (by rw [b1,H8];exact hlr)
 rw [hfp q hq hqc];exact i9 F (hX _ (aH hq)) hz
end
def oD (P M : Int) (mod : LI) (m : Nat) (L : Ll) (i : Int) : Int:=if qE P M mod m L=0 then (if dX P M mod m L i=[] then 11 else 0) else qE P M mod m L
def bW (P M : Int) (mod : LI) (m : Nat) (L : Ll) (i : Int) : LI:=bH (dX P M mod m L i) m i
def gZ (P M : Int) (mod : LI) (m : Nat) (L : Ll) (i : Int) : LI:=(bW P M mod m L i).map λj=>(ah P M.toNat mod).neg (nth (dX P M mod m L i) j.toNat)
def iN (er : Int) (S C : LI) (w : World) (e : Ending) (w' : World) : Prop :=
 Mv w w'/\((er ≠ 0/\e = .returned (.tuple #[.slice none 0 0,.slice none 0 0,.int .i64 er])) \/
  (er=0/\∃a c a2 c2,e = .returned (.tuple #[.slice a S.length c,.slice a2 S.length c2,.int .i64 0])/\Ints w' a S.length S/\Ints w' a2 S.length C))
theorem nM (P M : Int) (am : OA) (mn cm : Nat) (mod : LI) (m i : Nat) (a : OA) (n c : Nat) (L : Ll) (w : World) (hmod : Ints w am mn mod) (hi : bC w a n L) (hE : aG P M mod m L=0) (him : i<m) :
  Calls prog 48 #[.agg #[.int .i64 P,.int .i64 M,.slice am mn cm,.int .i64 m,.slice a n c],.int .i64 i] w (iN (oD P M mod m L i) (bW P M mod m L i) (gZ P M mod m L i) w):=by
 have hm64 : m<=64:=by obtain ⟨N',e,hm1,hm64,F,hR⟩:=bf hE;omega
 have HD : Hid (∀V,Mv w V->Calls prog 101 #[.agg #[.int .i64 P,.int .i64 M,.slice am mn cm,.int .i64 m,.slice a n c]] V (kC P M mod m L V)):=λV hV=>pO P M am mn cm mod m a n c L V (hmod.af hV) (hi.af hV) hE;have HNw : Hid (∀V,Mv w V->Calls prog 52 #[.agg #[.int .i64 P,.int .i64 M,.slice am mn cm]] V λe w'=>∃b,e = .returned (.tuple #[.pointer (some ⟨b,0,none⟩),.int .i64 0])/\dz w' b (ah P M.toNat mod)/\Mv V w'):=λV hV=>by
  refine (dn P M am mn cm mod V (hmod.af hV)).mono ?_;rintro e w' (⟨h1,_⟩ | ⟨_,b,h2,h3,_,h4⟩)
  ·rw [(aQ hE).1] at h1;cases h1
  ·exact ⟨b,h2,h3.gf,h4⟩
 have HH : Hid (∀V aW nW cW,bC V aW nW (mS P M mod m L)->Calls prog 102 #[.slice aW nW cW,.int .i64 i] V λe w'=>Mv V w'/\∃ar nr cr,e = .returned (.slice ar nr cr)/\jU w' ar nr (dX P M mod m L i)):=λV aW nW cW hW=>by
  have h:=mF aW nW cW (mS P M mod m L) m i V hW (λr hr=>((lL hE).1 hr).1.1) him hm64;have e : dX P M mod m L (i : Nat)=bstL m (i : Nat) (mS P M mod m L) nW:=by rw [dX,hW.len]
  rw [e];exact h
 have hhel:=mA hE (i : Int);have HEl : Hid (dX P M mod m L i ≠ []->(ah P M.toNat mod).va (dX P M mod m L i)/\(dX P M mod m L i).length=m):=λhne=>by
  rcases hhel with ⟨h,_⟩ | ⟨h,_,_⟩
  ·exact absurd h hne
  ·obtain ⟨h1,_⟩:=(lL hE).1 h;exact ⟨h1.2,h1.1⟩
 have HEr : Hid (oD P M mod m L i=if qE P M mod m L=0 then (if dX P M mod m L i=[] then 11 else 0) else qE P M mod m L):=rfl;obtain ⟨x,hx⟩ : ∃x,dX P M mod m L i=x:=⟨_,rfl⟩
 have HC : Hid (gZ P M mod m L i=(bW P M mod m L i).map λj=>(ah P M.toNat mod).neg (nth x j.toNat)):=by rw [<- hx];rfl
 have HS : Hid (bW P M mod m L i=bH x m i):=by rw [<- hx];rfl
 rw [hx] at HH HEl HEr;unfold kC at HD;generalize oD P M mod m L i=er at *;generalize gZ P M mod m L i=C at *;generalize bW P M mod m L i=S at *;generalize qE P M mod m L=f at *;generalize mS P M mod m L=Dw at *;generalize ah P M.toNat mod=G at *;clear hmod hi hE hx hhel;go_enter func48,ntmps48;go_upto_region 1 with fail;obtain ⟨W,hW⟩ : ∃W : World,W=w.alloc (.cells #[.int .i64 P,.int .i64 M,.slice am mn cm,.int .i64 m,.slice a n c] 27):=⟨_,rfl⟩
 rw [<- hW];have hbW : Mv w W:=by rw [hW];exact an _ _
 have x0 : aO W w.heap.size [.int .i64 P,.int .i64 M,.slice am mn cm,.int .i64 m,.slice a n c]:=by rw [hW];exact LZ _ _ _ rfl
 have HX:=Z5 x0;have HbW:=Z5 hbW;have c0:=x0.cell 0 rfl;have c1:=x0.cell 1 rfl;have c2:=x0.cell 2 rfl;have c3:=x0.cell 3 rfl;have c4:=x0.cell 4 rfl;clear hW x0 hbW;go_wp2_with fail;refine (HD.out W HbW.out).mono ?_;rintro e w1 ⟨hb1,⟨h1,rfl⟩ | ⟨h1,aW,nW,cW,rfl,hM⟩⟩
 ·have hF:=LY HbW.out hb1;have d0 : (f != 0)=true:=by simpa using h1
  have HR : Hid (er=f):=by show _=_;rw [HEr.out,GU h1]
  have H1:=Z5 h1;clear c0 c1 c2 c3 c4 h1;go_wp2_with fail;go_ret3;exact ⟨hF,.inl ⟨by rw [HR.out];exact H1.out,by rw [HR.out] <;> rfl⟩⟩
 have HM:=Z5 hM;have hF1:=LY HbW.out hb1;have H1:=Z5 h1;clear c0 c1 c2 c3 c4 hM h1;have y1:=HX.out.af hb1;have c0:=y1.cell 0 rfl;have c1:=y1.cell 1 rfl;have c2:=y1.cell 2 rfl;clear y1;go_wp2_with fail;refine (HNw.out w1 hF1).mono ?_;rintro e w2 ⟨b,rfl,hG2,hb2⟩;have hF2:=LY hF1 hb2;have HG:=Z5 hG2;have HH2:=Z5 (HH.out w2 aW nW cW (HM.out.af hb2));clear c0 c1 c2 hG2;go_wp2_with fail;refine HH2.out.mono ?_;rintro e w3 ⟨hb3,ax,nx,cx,rfl,hx3⟩;have hF3:=LY hF2 hb3;have heq:=λ(w : World) (a : OA) (l c : Nat)=>Go.run_eql_slice_nil (P:=prog) w 22 3 a l c underlying22;by_cases h0 : x=[]
 ·have hin : ax.isNone=true:=by rw [hx3.2];exact Ig h0
  have HR : Hid (er=11):=by show _=_;rw [HEr.out,GV H1.out,GV h0]
  clear h0 hx3;go_wp2_with fail;go_ret3;exact ⟨hF3,.inl ⟨by rw [HR.out];decide,by rw [HR.out] <;> rfl⟩⟩
 have hin : ax.isNone=false:=by rw [hx3.2];exact Ic h0
 have HR : Hid (er=0):=by show _=_;rw [HEr.out,GV H1.out,GU h0]
 obtain ⟨hxe,hxl⟩:=HEl.out h0;have hnx : nx=m:=by rw [<- hx3.1.len];exact hxl
 subst hnx;have HX3:=Z5 hx3.1;have HSu:=Z5 (gj ax nx cx x i w3 hx3.1 (by omega));rw [<- HS.out] at HSu;have Hxe:=Z5 hxe;have Hxl:=Z5 hxl;have HSb : Hid (∀j,j<S.length->0<=nth S j/\nth S j<nx):=λj hj=>by have h:=aH hj;rw [HS.out] at h;exact oR (by rw [HS.out];exact h)
 clear h0 hx3 hxe hxl;go_wp2_with fail;refine HSu.out.mono ?_;rintro e w4 ⟨a4,k4,rfl,hown4,hb4⟩;have hF4:=LY hF3 hb4;have HI4:=Z5 (L0 hown4).1;have hpl4:=(L0 hown4).1.pl;obtain ⟨q,hq⟩ : ∃q,S.length=q:=⟨_,rfl⟩
 have hq64 : q<=64:=by rw [<- hq,HS.out];exact H7 (eT _ _ _) hm64
 rw [hq] at HI4 hpl4 HSb ⊢;have Hq:=Z5 hq;have HG4 : Hid (∀V,Mv w4 V->dz V b G/\Ints V ax nx x/\Ints V a4 q S):=λV hV=>⟨HG.out.af (LY hb3 (LY hb4 hV)),HX3.out.af (LY hb4 hV),HI4.out.af hV⟩
 have hplx:=HX3.out.pl;clear hown4 hq;go_wp2_with fail;go_loopw [12,42] (λcv iv wr=>∃(k : Nat) (a5 : OA) (c5 : Nat),k<=q/\iv = .int .i64 k/\cv = .slice a5 k c5/\wr.ownsRow w4.heap.size 3 1 (.slice a5 k c5) k (((S.take k).map λj=>G.neg (nth x j.toNat)).map (Value.int .i64))/\Mv w4 wr) (λ_ iv _=>q - (intOf iv).toNat);case atStart=>exact ⟨0,none,0,G0 _,rfl,rfl,cF,GS _ _⟩
 case round =>
  obtain ⟨k,a5,c5,hk,rfl,rfl,hown,hbr⟩:=hrel
  generalize wr=V at *
  by_cases hlt : k<q
  ·obtain ⟨hG,hIx,hIs⟩:=HG4.out V hbr
   have ck:=hIs.cell k hlt
   obtain ⟨hs0,hs1⟩:=HSb.out k hlt
   have Htk : Hid (S.take (k+1)=S.take k ++ [nth S k]):=by show _=_;rw [Hj (by rw [Hq.out];exact hlt),aj (by rw [Hq.out];exact hlt)]
   obtain ⟨j,hj⟩ : ∃j : Nat,nth S k=j:=⟨(nth S k).toNat,by omega⟩
   rw [hj] at ck hs1 Htk
   have hjn : j<nx:=by omega
   have cx:=hIx.cell j hjn
   have hye:=Hxe.out.nth (i:=j) (by rw [Hxl.out];exact hjn)
   have HNg:=Z5 (EK (nth x j) hG hye)
   have Hown:=Z5 hown
   obtain ⟨y,hy⟩ : ∃y,nth x j=y:=⟨_,rfl⟩
   rw [hy] at cx HNg
   obtain ⟨z,hz⟩ : ∃z,G.neg y=z:=⟨_,rfl⟩
   rw [hz] at HNg
   have Hz : Hid (G.neg (nth x j)=z):=by rw [hy];exact hz
   clear hG hIx hIs hs0 hj hye hown hy hz
   have hsz:=hbr.size
   go_wp2_with fail
   refine HNg.out.mono ?_
   rintro e w6 ⟨m6,rfl,rfl⟩
   have hown6:=bj Hown.out (Mc ⟨m6,rfl⟩)
   have hbr6:=LY hbr (Mc ⟨m6,rfl⟩)
   have hcn:=bm (V.drewN m6) (.int .i64 z) 3
   go_wp2_with (at_builtin;refine aU rfl _ _ 22 3 rfl (.int .i64 0) 8 underlying22 bg rfl w4.heap.size a5 k c5 _ rfl (hown6.alloc _) ⟨(V.drewN m6).heap.size,0,none⟩ 1 (.int .i64 z) rfl hcn rfl (by omega) (by unfold maxLen;omega) (by simp;omega) ?_;intro a7 c7 w7 hown7 hgr7 hap7)
   go_roundw
   case rel=>exact ⟨k+1,a7,c7,by omega,by go_num,rfl,by rw [Htk.out,II,II];simpa [Hz.out] using hown7,L3 (L5 hbr6 _) (hown6.alloc _) hgr7 (GQ _) (L5 hbr6 _).size⟩
   case measure=>simp [intOf] <;> omega
  ·obtain rfl : k=q:=by omega
   have hIC : Ints V a5 k C:=by have h:=(L0 hown).1;rw [<- Hq.out,KJ] at h;rw [HC.out];rw [Hq.out] at h;exact h
   have HP : Hid (iN er S C w (.returned (.tuple #[.slice a4 k k4,.slice a5 k c5,.int .i64 0])) V):=⟨LY hF4 hbr,.inr ⟨HR.out,a4,k4,a5,c5,by rw [Hq.out],by rw [Hq.out];exact HI4.out.af hbr,by rw [Hq.out];exact hIC⟩⟩
   clear hown hIC
   go_wp2_with fail
   go_ret3
   exact HP.out
def gH (P M : Int) (mod : LI) (N : Int) (L : Ll) (i : Int) : Int:=if ie P M mod N L i=0 then oD P M mod N.toNat L i else ie P M mod N L i
theorem lk (P M : Int) (am : OA) (mn cm : Nat) (mod : LI) (N : Int) (a : OA) (n c : Nat) (L : Ll) (i : Int) (w : World) (hmod : Ints w am mn mod) (hi : bC w a n L) :
  Calls prog 15 #[.agg #[.int .i64 P,.int .i64 M,.slice am mn cm,.int .i64 N,.slice a n c],.int .i64 i] w (iN (gH P M mod N L i) (bW P M mod N.toNat L i) (gZ P M mod N.toNat L i) w):=by
 have HP : Hid (∀V,Mv w V->Calls prog 47 #[.agg #[.int .i64 P,.int .i64 M,.slice am mn cm,.int .i64 N,.slice a n c],.int .i64 i] V λe w'=>e = .returned (.int .i64 (ie P M mod N L i))/\Mv V w'):=λV hV=>kE P M am mn cm mod N a n c L i V (hmod.af hV) (hi.af hV);have HH : Hid (ie P M mod N L i=0->∀V,Mv w V->Calls prog 48 #[.agg #[.int .i64 P,.int .i64 M,.slice am mn cm,.int .i64 N,.slice a n c],.int .i64 i] V (iN (oD P M mod N.toNat L i) (bW P M mod N.toNat L i) (gZ P M mod N.toNat L i) V)):=λh V hV=>by
  unfold ie at h;split at h
  ·rename_i hE;split at h
   ·cases h
   ·obtain ⟨m,rfl,_⟩:=bf hE;obtain ⟨j,rfl⟩ : ∃j : Nat,i=j:=⟨i.toNat,by omega⟩
    rw [GW];exact nM P M am mn cm mod m j a n c L V (hmod.af hV) (hi.af hV) hE (by omega)
  ·rename_i hE;exact absurd h hE
 have HE : Hid (gH P M mod N L i=if ie P M mod N L i=0 then oD P M mod N.toNat L i else ie P M mod N L i):=rfl;generalize gH P M mod N L i=er at *;generalize ie P M mod N L i=pe at *;generalize oD P M mod N.toNat L i=he at *;generalize bW P M mod N.toNat L i=S at *;generalize gZ P M mod N.toNat L i=C at *;clear hmod hi;go_enter func15,ntmps15;go_upto_region 1 with fail;obtain ⟨W,hW⟩ : ∃W : World,W=w.alloc (.cells #[.int .i64 P,.int .i64 M,.slice am mn cm,.int .i64 N,.slice a n c] 27):=⟨_,rfl⟩
 rw [<- hW];have hbW : Mv w W:=by rw [hW];exact an _ _
 have x0 : aO W w.heap.size [.int .i64 P,.int .i64 M,.slice am mn cm,.int .i64 N,.slice a n c]:=by rw [hW];exact LZ _ _ _ rfl
 have HX:=Z5 x0;have HbW:=Z5 hbW;have c0:=x0.cell 0 rfl;have c1:=x0.cell 1 rfl;have c2:=x0.cell 2 rfl;have c3:=x0.cell 3 rfl;have c4:=x0.cell 4 rfl;clear hW x0 hbW;go_wp2_with fail;refine (HP.out W HbW.out).mono ?_;rintro e w1 ⟨rfl,hb1⟩;have hF1:=LY HbW.out hb1;clear c0 c1 c2 c3 c4;by_cases h0 : pe=0;rotate_left
 ·have d0 : (pe != 0)=true:=by simpa using h0
  have HR : Hid (er=pe):=by show _=_;rw [HE.out,GU h0]
  have H0:=Z5 h0;clear h0 HH;go_wp2_with fail;go_ret3;exact ⟨hF1,.inl ⟨by rw [HR.out];exact H0.out,by rw [HR.out] <;> rfl⟩⟩
 have d0 : (pe != 0)=false:=by simpa using h0
 have HR : Hid (er=he):=by show _=_;rw [HE.out,GV h0]
 have HC:=Z5 (HH.out h0 w1 hF1);have y1:=HX.out.af hb1;have c0:=y1.cell 0 rfl;have c1:=y1.cell 1 rfl;have c2:=y1.cell 2 rfl;have c3:=y1.cell 3 rfl;have c4:=y1.cell 4 rfl;clear y1 h0 HH;go_wp2_with fail;refine HC.out.mono ?_;rintro e w2 ⟨hb2,⟨h1,rfl⟩ | ⟨h1,a2,k2,a3,k3,rfl,hI2,hI3⟩⟩
 ·have hF2:=LY hF1 hb2;have H1:=Z5 h1;clear c0 c1 c2 c3 c4 h1;go_wp2_with fail;go_ret3;exact ⟨hF2,.inl ⟨by rw [HR.out];exact H1.out,by rw [HR.out] <;> rfl⟩⟩
 ·have hF2:=LY hF1 hb2;have H1:=Z5 (Hi h1 (Hi hI2 hI3));clear c0 c1 c2 c3 c4 h1 hI2 hI3;go_wp2_with fail;go_ret3;exact ⟨hF2,.inr ⟨by rw [HR.out];exact H1.out.1,a2,k2,a3,k3,rfl,H1.out.2.1,H1.out.2.2⟩⟩
def qf (P M : Int) (mod : LI) (m : Nat) (S : Ll) (w : World) (e : Ending) (w' : World) : Prop :=
 ∃a1 c1 a2 c2,e = .returned (.tuple #[.agg #[.int .i64 P,.int .i64 M,.slice a1 mod.length c1,.int .i64 m,.slice a2 S.length c2],.int .i64 0])/\bA w.heap.size w' a1 mod.length mod /\
  bQ w.heap.size w' a2 S.length S/\Mv w w'
theorem u2 (P M : Int) (am : OA) (mn cm : Nat) (mod : LI) (m : Nat) (a : OA) (n c : Nat) (L : Ll) (am' : OA) (mn' cm' : Nat) (a' : OA) (n' c' : Nat) (L' : Ll) (w : World)
  (hmod : Ints w am mn mod) (hi : bC w a n L) (hmod' : Ints w am' mn' mod) (hi' : bC w a' n' L') (hE : aG P M mod m L=0) (hE' : aG P M mod m L'=0) (hmn : mn<=1000000) :
  Calls prog 126 #[.agg #[.int .i64 P,.int .i64 M,.slice am mn cm,.int .i64 m,.slice a n c],.agg #[.int .i64 P,.int .i64 M,.slice am' mn' cm',.int .i64 m,.slice a' n' c']] w (qf P M mod m (bz (ah P M.toNat mod).ops m (L ++ L')) w):=by
 have HTw : Hid (∀V,Mv w V->Calls prog 180 #[.agg #[.int .i64 P,.int .i64 M,.slice am mn cm,.int .i64 m,.slice a n c],.agg #[.int .i64 P,.int .i64 M,.slice am' mn' cm',.int .i64 m,.slice a' n' c']] V λe w'=>e = .returned (.int .i64 0)/\Mv V w'):=λV hV =>
  DD P M am mn cm mod m a n c L am' mn' cm' a' n' c' L' V (hmod.af hV) (hi.af hV) (hmod'.af hV) (hi'.af hV) hE hE'
 have HSu : Hid (∀V,Mv w V->Calls prog 181 #[.agg #[.int .i64 P,.int .i64 M,.slice am mn cm],.agg #[.int .i64 m,.slice a n c],.agg #[.int .i64 m,.slice a' n' c']] V (mE (bz (ah P M.toNat mod).ops m (L ++ L')) m V)):=λV hV =>
  tU P M am mn cm mod m a n c L a' n' c' L' V (hmod.af hV) (hi.af hV) (hi'.af hV) hE hE'
 have HOf : Hid (∀V a5 k5 c5,Mv w V->Calls prog 120 #[.agg #[.int .i64 P,.int .i64 M,.slice am mn cm],.agg #[.int .i64 m,.slice a5 k5 c5],.int .i64 0] V (nf P M mod m a5 k5 c5 V)):=λV a5 k5 c5 hV =>
  y5 P M am mn cm mod m a5 k5 c5 V (hmod.af hV) hmn
 obtain ⟨S,hS⟩ : ∃S,bz (ah P M.toNat mod).ops m (L ++ L')=S:=⟨_,rfl⟩
 rw [hS] at HSu ⊢;have HPost : Hid (∀a1 c1 a2 c2 w',bA w.heap.size w' a1 mod.length mod->bQ w.heap.size w' a2 S.length S->Mv w w' ->
   qf P M mod m S w (.returned (.tuple #[.agg #[.int .i64 P,.int .i64 M,.slice a1 mod.length c1,.int .i64 m,.slice a2 S.length c2],.int .i64 0])) w'):=λa1 c1 a2 c2 w' h1 h2 h3=>⟨a1,c1,a2,c2,rfl,h1,h2,h3⟩
 generalize qf P M mod m S w=Post at *;unfold mE at HSu;unfold nf at HOf;obtain ⟨q,hq⟩ : ∃q,S.length=q:=⟨_,rfl⟩
 obtain ⟨nm,hnm⟩ : ∃nm,mod.length=nm:=⟨_,rfl⟩
 rw [hq] at HSu HPost;rw [hnm] at HOf HPost;clear hmod hi hmod' hi' hE hE' hS hq hnm;go_enter func126,ntmps126;go_upto_region 1 with fail;obtain ⟨W,hW⟩ : ∃W : World,W=((w.alloc (.cells #[.int .i64 P,.int .i64 M,.slice am mn cm,.int .i64 m,.slice a n c] 27)).alloc (.cells #[.int .i64 P,.int .i64 M,.slice am' mn' cm',.int .i64 m,.slice a' n' c'] 27)).alloc (.cells #[.int .i64 0,.int .i64 0,.slice none 0 0,.int .i64 0,.slice none 0 0] 27):=⟨_,rfl⟩
 rw [<- hW];have hbW : Mv w W:=by rw [hW];exact jI _ _ _ _
 have hsW : W.heap.size=w.heap.size+3:=by rw [hW];simp
 have x0 : aO W w.heap.size [.int .i64 P,.int .i64 M,.slice am mn cm,.int .i64 m,.slice a n c]:=by rw [hW];exact ((LZ _ _ _ rfl).alloc _).alloc _
 have y0 : aO W (w.heap.size+1) [.int .i64 P,.int .i64 M,.slice am' mn' cm',.int .i64 m,.slice a' n' c']:=by rw [hW];exact (LZ _ _ _ (by simp)).alloc _
 have z0 : aO W (w.heap.size+1+1) [.int .i64 0,.int .i64 0,.slice none 0 0,.int .i64 0,.slice none 0 0]:=by rw [hW];exact LZ _ _ _ (by simp)
 clear hW;have HX : Hid (∀V,Mv W V->V.cell? ⟨w.heap.size,0,none⟩=some (.int .i64 P)/\V.cell? ⟨w.heap.size,1,none⟩=some (.int .i64 M)/\V.cell? ⟨w.heap.size,2,none⟩=some (.slice am mn cm)/\V.cell? ⟨w.heap.size,3,none⟩=some (.int .i64 m)/\V.cell? ⟨w.heap.size,4,none⟩=some (.slice a n c) /\
   V.cell? ⟨w.heap.size+1,0,none⟩=some (.int .i64 P)/\V.cell? ⟨w.heap.size+1,1,none⟩=some (.int .i64 M)/\V.cell? ⟨w.heap.size+1,2,none⟩=some (.slice am' mn' cm')/\V.cell? ⟨w.heap.size+1,3,none⟩=some (.int .i64 m)/\V.cell? ⟨w.heap.size+1,4,none⟩=some (.slice a' n' c')):=λV hV=>by have x1:=x0.af hV;have y1:=y0.af hV;exact ⟨x1.cell 0 rfl,x1.cell 1 rfl,x1.cell 2 rfl,x1.cell 3 rfl,x1.cell 4 rfl,y1.cell 0 rfl,y1.cell 1 rfl,y1.cell 2 rfl,y1.cell 3 rfl,y1.cell 4 rfl⟩
 have HZ:=Z5 z0;have HbW:=Z5 hbW;have HsW:=Z5 hsW;clear x0 y0 z0 hbW hsW;obtain ⟨c0,c1,c2,c3,c4,d0,d1,d2,d3,d4⟩:=HX.out W (GS _ _);go_wp2_with fail;refine (HTw.out W HbW.out).mono ?_;rintro e U ⟨rfl,hb1⟩;have hF1:=LY HbW.out hb1;clear c0 c1 c2 c3 c4 d0 d1 d2 d3 d4;have HS5 : Hid (∀V,Mv U V->V.cell? ⟨w.heap.size,0,none⟩=some (.int .i64 P)/\V.cell? ⟨w.heap.size,1,none⟩=some (.int .i64 M)/\V.cell? ⟨w.heap.size,2,none⟩=some (.slice am mn cm)/\V.cell? ⟨w.heap.size,3,none⟩=some (.int .i64 m)/\V.cell? ⟨w.heap.size,4,none⟩=some (.slice a n c) /\
   V.cell? ⟨w.heap.size+1,0,none⟩=some (.int .i64 P)/\V.cell? ⟨w.heap.size+1,1,none⟩=some (.int .i64 M)/\V.cell? ⟨w.heap.size+1,2,none⟩=some (.slice am' mn' cm')/\V.cell? ⟨w.heap.size+1,3,none⟩=some (.int .i64 m)/\V.cell? ⟨w.heap.size+1,4,none⟩=some (.slice a' n' c')/\Mv U V):=λV hV=>by obtain ⟨q0,q1,q2,q3,q4,r0,r1,r2,r3,r4⟩:=HX.out V (LY hb1 hV);exact ⟨q0,q1,q2,q3,q4,r0,r1,r2,r3,r4,hV⟩
 have HS1:=Z5 (λV (hV : Mv U V)=>HSu.out V (LY hF1 hV));have HwU : Hid (w.heap.size<=U.heap.size):=hF1.size;obtain ⟨c0,c1,c2,c3,c4,d0,d1,d2,d3,d4,_⟩:=HS5.out U (GS _ _);go_upto_region 4 with fail;go_cut [7,8] (λv7 v8 wx=>v8 = .int .i64 0/\∃g a5 k5,v7 = .pointer (some ⟨g,0,none⟩)/\Hid (aO wx g [.int .i64 m,.slice a5 q k5])/\Hid (bQ U.heap.size wx a5 q S)/\Mv U wx);case first =>
  go_region_held3 (λV=>V.cell? ⟨w.heap.size,0,none⟩=some (.int .i64 P)/\V.cell? ⟨w.heap.size,1,none⟩=some (.int .i64 M)/\V.cell? ⟨w.heap.size,2,none⟩=some (.slice am mn cm)/\V.cell? ⟨w.heap.size,3,none⟩=some (.int .i64 m)/\V.cell? ⟨w.heap.size,4,none⟩=some (.slice a n c) /\
   V.cell? ⟨w.heap.size+1,0,none⟩=some (.int .i64 P)/\V.cell? ⟨w.heap.size+1,1,none⟩=some (.int .i64 M)/\V.cell? ⟨w.heap.size+1,2,none⟩=some (.slice am' mn' cm')/\V.cell? ⟨w.heap.size+1,3,none⟩=some (.int .i64 m)/\V.cell? ⟨w.heap.size+1,4,none⟩=some (.slice a' n' c')/\Mv U V)
   ((refine HS5.out _ ?_;first | exact (GS _ _).drew | assumption | (go_split_ands;first | assumption | exact LY (by assumption) (an _ _) | exact (LY (by assumption) (an _ _)).drew | exact LY (by assumption) (by assumption) | exact Kf (Kf (by assumption) (by first | exact hB5.size | exact hB3.size | exact hB2.size | simp) _) (by first | exact hB5.size | exact hB3.size | exact hB2.size | simp) _)))
   (first
    | (go_at_call 91;((with_reducible refine (mL P M am mn cm m a n c _).mono ?_);rintro e w2 ⟨rfl,hb2⟩;have hB2 : Mv U w2:=(by go_split_ands;exact LY (by assumption) hb2);(first | (have HB2:=Z5 (jb hb2)) | (have HB2:=Z5 (iy hb2)) | (have HB2:=Z5 (HB3.out.af hb2)) | skip)))
    | (go_at_call 91;((with_reducible refine (mL P M am' mn' cm' m a' n' c' _).mono ?_);rintro e w3 ⟨rfl,hb3⟩;have hB3 : Mv U w3:=(by go_split_ands;exact LY (by assumption) hb3);(first | (have HB3:=Z5 (jb hb3)) | (have HB3:=Z5 (iy hb3)) | (have HB3:=Z5 (HB2.out.af hb3)) | skip)))
    | (go_at_call 181;((with_reducible refine (HS1.out _ (by go_split_ands;assumption)).mono ?_);rintro e w5 ⟨a5,k5,rfl,hM5,hb5⟩;have hB5 : Mv U w5:=(by go_split_ands;exact LY (by assumption) hb5);have HM5:=Z5 hM5;clear hM5;(first | (have HB5:=Z5 (jb hb5)) | (have HB5:=Z5 (iy hb5)) | (have HB5:=Z5 (HB3.out.af hb5)) | (have HB5:=Z5 (HB2.out.af hb5)) | skip);(first | (have z0:=HB5.out.cell 0 rfl;have z1:=HB5.out.cell 1 rfl;have f0:=HB5.out.frozen 0;have f1:=HB5.out.frozen 1) | skip))))
  all_goals (
   go_wp2_with fail
   go_meet
   first
    | exact ⟨rfl,_,a5,k5,rfl,LZ w5 [.int .i64 m,.slice a5 q k5] _ rfl,(HM5.out.af (an _ _)).mono ((by first | exact hB3.size | exact hB2.size | exact (LY hB3 (an _ _)).size | exact (LY hB2 (an _ _)).size)),by go_split_ands;assumption⟩
    | exact ⟨rfl,_,a5,k5,rfl,(HB5.out.setCell 0 (.int .i64 m)).setCell 1 (.slice a5 q k5),((HM5.out.setCell (by first | exact HB3.out.1 | exact HB2.out.1 | simp) _).setCell (by first | exact HB3.out.1 | exact HB2.out.1 | simp) _).mono ((by first | exact hB3.size | exact hB2.size | exact (LY hB3 (an _ _)).size | exact (LY hB2 (an _ _)).size)),by go_split_ands;assumption⟩)
 obtain ⟨rfl,g,a5,k5,rfl,HB,HM,hbV⟩:=hcut;generalize wc=V at *;have hF2:=LY hF1 hbV;clear c0 c1 c2 c3 c4 d0 d1 d2 d3 d4;obtain ⟨c0,c1,c2,_⟩:=HX.out V (LY hb1 hbV);have g0:=HB.out.cell 0 rfl;have g1:=HB.out.cell 1 rfl;have HOV:=Z5 (HOf.out V a5 q k5 hF2);clear HOf HSu HTw;go_wp2_with fail;refine HOV.out.mono ?_;rintro e w6 ⟨a6,c6,rfl,hN6,hb6⟩;have zz6:=HZ.out.af (LY (LY hb1 hbV) hb6);have z0:=zz6.cell 0 rfl;have z1:=zz6.cell 1 rfl;have z2:=zz6.cell 2 rfl;have z3:=zz6.cell 3 rfl;have z4:=zz6.cell 4 rfl;have f0:=zz6.frozen 0;have f1:=zz6.frozen 1;have f2:=zz6.frozen 2;have f3:=zz6.frozen 3;have f4:=zz6.frozen 4;have hbF:=LY hF2 hb6;have hs:=HsW.out;have hs1:=hb1.size;have hs2:=hbV.size;have hM6 : bQ w.heap.size (((((w6.setCell ⟨w.heap.size+1+1,0,none⟩ (.int .i64 P)).setCell ⟨w.heap.size+1+1,1,none⟩ (.int .i64 M)).setCell ⟨w.heap.size+1+1,2,none⟩ (.slice a6 nm c6)).setCell ⟨w.heap.size+1+1,3,none⟩ (.int .i64 m)).setCell ⟨w.heap.size+1+1,4,none⟩ (.slice a5 q k5)) a5 q S :=
  ((((((HM.out.af hb6).setCell (p:=⟨w.heap.size+1+1,0,none⟩) (by simp;omega) _).setCell (p:=⟨w.heap.size+1+1,1,none⟩) (by simp;omega) _).setCell (p:=⟨w.heap.size+1+1,2,none⟩) (by simp;omega) _).setCell (p:=⟨w.heap.size+1+1,3,none⟩) (by simp;omega) _).setCell (p:=⟨w.heap.size+1+1,4,none⟩) (by simp;omega) _).mono HwU.out
 have hFin:=HPost.out a6 c6 a5 k5 (((((w6.setCell ⟨w.heap.size+1+1,0,none⟩ (.int .i64 P)).setCell ⟨w.heap.size+1+1,1,none⟩ (.int .i64 M)).setCell ⟨w.heap.size+1+1,2,none⟩ (.slice a6 nm c6)).setCell ⟨w.heap.size+1+1,3,none⟩ (.int .i64 m)).setCell ⟨w.heap.size+1+1,4,none⟩ (.slice a5 q k5))
  ((((((hN6.setCell (p:=⟨w.heap.size+1+1,0,none⟩) (by simp;omega) _).setCell (p:=⟨w.heap.size+1+1,1,none⟩) (by simp;omega) _).setCell (p:=⟨w.heap.size+1+1,2,none⟩) (by simp;omega) _).setCell (p:=⟨w.heap.size+1+1,3,none⟩) (by simp;omega) _).setCell (p:=⟨w.heap.size+1+1,4,none⟩) (by simp;omega) _).mono (by omega))
  hM6
  (((((hbF.setCell (p:=⟨w.heap.size+1+1,0,none⟩) (by simp;omega) _).setCell (p:=⟨w.heap.size+1+1,1,none⟩) (by simp;omega) _).setCell (p:=⟨w.heap.size+1+1,2,none⟩) (by simp;omega) _).setCell (p:=⟨w.heap.size+1+1,3,none⟩) (by simp;omega) _).setCell (p:=⟨w.heap.size+1+1,4,none⟩) (by simp;omega) _)
 have HFin:=Z5 hFin;clear hFin hM6 hN6 HOV zz6 g0 g1 c0 c1 c2;go_wp2_with fail;exact bodyPost_ret (v:=.tuple #[.agg #[.int .i64 P,.int .i64 M,.slice a6 nm c6,.int .i64 m,.slice a5 q k5],.int .i64 0]) (by simp [results,results126,go_sem,z0,z1,z2,z3,z4]) rfl HFin.out
section
variable {O : aM} {El : Int->Prop} {q : Nat} {g : Int}
structure EW (O : aM) (El : Int->Prop) (q : Nat) (g : Int) : Prop where
 el : El g
 rng : ∀x,El x ↔ 0<=x/\x<(q : Int)
 q2 : 2<=q
 all : ∀x,El x->x ≠ 0->∃k,k<q - 1/\x=eG O g k
 inj : ∀i j,i<q - 1->j<q - 1->eG O g i=eG O g j->i=j
 last : eG O g (q - 1)=1
 ne : ∀k,eG O g k ≠ 0
theorem oW (F : bZ O El) : ∀k,eG O 1 k=1
 | 0=>rfl
 | k+1=>by show O.mul (eG O 1 k) 1=1;rw [oW F k,F.one_mul 1 F.one]
theorem mb (F : bZ O El) {x y : Int} (hx : El x) (hy : El y) : ∀k,eG O (O.mul x y) k=O.mul (eG O x k) (eG O y k)
 | 0=>(F.one_mul 1 F.one).symm
 | k+1=>by have a:=ed F hx k;have b:=ed F hy k;show O.mul (eG O (O.mul x y) k) (O.mul x y)=O.mul (O.mul (eG O x k) x) (O.mul (eG O y k) y);rw [mb F hx hy k,F.mul_assoc _ _ _ a b (F.cl.mul _ _ hx hy),F.mul_assoc _ _ _ a hx (F.cl.mul _ _ b hy),<- F.mul_assoc _ _ _ b hx hy,F.mul_comm _ _ b hx,F.mul_assoc _ _ _ hx b hy]
def rtTo (O : aM) (n : Nat) : Nat->LI
 | 0=>[]
 | k+1=>if eG O ((k : Int)+1) n=1 then rtTo O n k ++ [(k : Int)+1] else rtTo O n k
theorem gx {n : Nat} {x : Int} : ∀ {k : Nat},x ∈ rtTo O n k ↔ 1<=x/\x<=(k : Int)/\eG O x n=1
 | 0=>by simp only [rtTo,List.not_mem_nil,false_iff];intro h;have h1:=h.1;have h2:=h.2.1;omega
 | k+1=>by
  rw [rtTo];by_cases h : eG O ((k : Int)+1) n=1
  ·rw [GV h,IS,gx,IB];constructor
   ·rintro (⟨a,b,c⟩ | rfl)
    ·exact ⟨a,by omega,c⟩
    ·exact ⟨by omega,by omega,h⟩
   ·rintro ⟨a,b,c⟩;by_cases e : x=(k : Int)+1
    ·exact .inr e
    ·exact .inl ⟨a,by omega,c⟩
  ·rw [GU h,gx];constructor
   ·rintro ⟨a,b,c⟩;exact ⟨a,by omega,c⟩
   ·rintro ⟨a,b,c⟩;refine ⟨a,?_,c⟩;have e : x ≠ (k : Int)+1:=λe=>h (by rw [<- e];exact c);omega
theorem jr (n : Nat) : ∀k,(rtTo O n k).Nodup
 | 0=>K7
 | k+1=>by
  rw [rtTo];split
  ·unfold List.Nodup;rw [Kg];refine ⟨jr n k,List.pairwise_singleton _ _,λa ha b hb e=>?_⟩;rw [IB] at hb;have:=(gx.1 ha).2.1;omega
  ·exact jr n k
theorem Ad (F : bZ O El) (h : EW O El q g) {n : Nat} (hn : 1<=n) (hd : n ∣ q - 1) : (rtTo O n (q - 1)).length=n:=by
 obtain ⟨s,hs⟩:=hd;have hq:=h.q2;have hs1 : 1<=s:=Nat.one_le_iff_ne_zero.2 λe=>by rw [e,Nat.mul_zero] at hs;omega
 have hel : ∀x ∈ rtTo O n (q - 1),El x:=λx hx=>by obtain ⟨a,b,_⟩:=gx.1 hx;exact (h.rng x).2 ⟨by omega,by omega⟩
 refine LK (Jp λhc=>?_) ?_
 ·have hm1:=F.cl.neg _ F.one;have h1:=ju F (X:=rtTo O n (q - 1)) (a:=jV O (iB (n+1) 1 n) (iB (n+1) (O.neg 1) 0)) (jr n _) hel (oX F (iH F F.one) (iH F hm1)) (λx hx=>by have hx':=hel x hx;rw [oU F hx' (by simp [iB]) (iH F F.one) (iH F hm1),mO F hx' F.one _ _ (by omega),mO F hx' hm1 _ _ (by omega),(gx.1 hx).2.2];show O.add (O.mul 1 1) (O.mul (O.neg 1) 1)=0;rw [F.one_mul 1 F.one,F.kz hm1,F.add_neg 1 F.one]) (by unfold jV;rw [IY];simp [iB];omega);have h2:=h1 (nth (jV O (iB (n+1) 1 n) (iB (n+1) (O.neg 1) 0)) n) (aH (by unfold jV;rw [IY];simp [iB]));rw [qP (by simp [iB]) (by simp [iB]),mi (by omega),mi (by omega),GV rfl,GU (by omega),F.add_zero 1 F.one] at h2;exact absurd h2 (by decide)
 ·have hlt : ∀j,j<n->j * s<q - 1:=λj hj=>by rw [hs];exact Nat.mul_lt_mul_of_pos_right hj (by omega)
  have hnd : ((List.range n).map λj=>eG O g (j * s)).Nodup:=by unfold List.Nodup;rw [J7];refine List.nodup_range.imp_of_mem λ{a b} ha hb hne e=>hne ?_;have h3:=h.inj _ _ (hlt a (List.mem_range.1 ha)) (hlt b (List.mem_range.1 hb)) e;exact Nat.eq_of_mul_eq_mul_right (by omega) h3
  have h2:=iV (T:=rtTo O n (q - 1)) hnd λx hx=>by obtain ⟨j,hj,rfl⟩:=List.mem_map.1 hx;have hpe:=ed F h.el (j * s);have hrg:=(h.rng _).1 hpe;have hne:=h.ne (j * s);refine gx.2 ⟨by omega,by omega,?_⟩;rw [<- mx F h.el,show j * s * n=(q - 1) * j by rw [hs,KG,IU s n,IU],mx F h.el,h.last,oW F]
  simpa using h2
def eW (O : aM) (U : LI) (N : Nat) : Nat->LI
 | 0=>[]
 | k+1=>if (eW O U N k).length<N/\¬ ((k : Int)+1) ∈ eW O U N k then eW O U N k ++ cJ (U.map (O.mul ((k : Int)+1))) else eW O U N k
structure Gs (O : aM) (El : Int->Prop) (U : LI) (s : Nat) (X : LI) : Prop where
 nd : X.Nodup
 el : ∀y ∈ X,El y/\y ≠ 0
 cl : ∀y ∈ X,∀u ∈ U,O.mul y u ∈ X
 blk : ∃c,X.length=s * c/\∀j t,j<c->t<s->eG O (nth X (s * j+t)) s=eG O (nth X (s * j)) s
theorem sC {a b : LI} {i : Nat} (h : i<a.length) : nth (a ++ b) i=nth a i:=by unfold nth;rw [GY,GY,Ie h]
theorem sk {a b : LI} {i : Nat} : nth (a ++ b) (a.length+i)=nth b i:=by unfold nth;rw [GY,GY,IN (by omega),Nat.add_sub_cancel_left]
theorem Ed (F : bZ O El) {U X : LI} {s : Nat} (hs : 1<=s) (hUn : U.Nodup) (hUl : U.length=s) (hU : ∀u,u ∈ U ↔ El u/\u ≠ 0/\eG O u s=1) (h : Gs O El U s X) {x : Int} (hx : El x) (h0 : x ≠ 0) (hn : ¬ x ∈ X) :
  Gs O El U s (X ++ cJ (U.map (O.mul x))):=by
 have hUe : ∀u ∈ U,El u/\u ≠ 0/\eG O u s=1:=λu hu=>(hU u).1 hu;have hinv : ∀u ∈ U,O.inv u ∈ U/\O.mul u (O.inv u)=1:=λu hu=>by
  obtain ⟨a,b,c⟩:=hUe u hu;have hi:=F.cl.inv u a b;have hm:=F.mul_inv u a b;refine ⟨(hU _).2 ⟨hi,λe=>?_,?_⟩,hm⟩
  ·rw [e,F.dh a] at hm;exact absurd hm (by decide)
  ·have h1:=mb F a hi s;rw [hm,oW F,c,F.one_mul _ (ed F hi s)] at h1;exact h1.symm
 have hmem : ∀y,y ∈ cJ (U.map (O.mul x)) ↔ ∃u ∈ U,O.mul x u=y:=λy=>by rw [(dc _).mem_iff,Kq]
 have hmul : ∀ {u v : Int},El u->El v->u ≠ 0->v ≠ 0->O.mul u v ≠ 0:=λhu hv h1 h2 e=>h2 (F.th hu hv h1 e);refine ⟨?_,λy hy=>?_,λy hy u hu=>?_,?_⟩
 ·unfold List.Nodup;rw [Kg];refine ⟨h.nd,?_,λa ha b hb e=>?_⟩
  ·refine ((dc (U.map (O.mul x))).nodup_iff).2 ?_;unfold List.Nodup;rw [J7];refine hUn.imp_of_mem λ{u v} hu hv hne e=>hne ?_;obtain ⟨a1,a2,_⟩:=hUe u hu;obtain ⟨b1,_,_⟩:=hUe v hv;have e1 : O.mul (O.inv x) (O.mul x u)=O.mul (O.inv x) (O.mul x v):=by rw [e]
   have hi:=F.cl.inv x hx h0;rw [<- F.mul_assoc _ _ _ hi hx a1,<- F.mul_assoc _ _ _ hi hx b1,F.mul_comm _ _ hi hx,F.mul_inv x hx h0,F.one_mul _ a1,F.one_mul _ b1] at e1;exact e1
  ·subst e;obtain ⟨u,hu,e⟩:=(hmem a).1 hb;obtain ⟨hi1,hi2⟩:=hinv u hu;obtain ⟨u1,_,_⟩:=hUe u hu;obtain ⟨i1,_,_⟩:=hUe _ hi1;have h1:=h.cl a ha _ hi1;rw [<- e,F.mul_assoc _ _ _ hx u1 i1,hi2,F.kz hx] at h1;exact hn h1
 ·rcases List.mem_append.1 hy with hy | hy
  ·exact h.el y hy
  ·obtain ⟨u,hu,rfl⟩:=(hmem y).1 hy;obtain ⟨a1,a2,_⟩:=hUe u hu;exact ⟨F.cl.mul _ _ hx a1,hmul hx a1 h0 a2⟩
 ·rcases List.mem_append.1 hy with hy | hy
  ·exact List.mem_append.2 (.inl (h.cl y hy u hu))
  ·obtain ⟨v,hv,rfl⟩:=(hmem y).1 hy;obtain ⟨a1,a2,a3⟩:=hUe u hu;obtain ⟨b1,b2,b3⟩:=hUe v hv;refine List.mem_append.2 (.inr ((hmem _).2 ⟨O.mul v u,(hU _).2 ⟨F.cl.mul _ _ b1 a1,hmul b1 a1 b2 a2,?_⟩,?_⟩))
   ·rw [mb F b1 a1,b3,a3,F.one_mul 1 F.one]
   ·exact (F.mul_assoc _ _ _ hx b1 a1).symm
 ·obtain ⟨c,hc,hb⟩:=h.blk;have hl : (cJ (U.map (O.mul x))).length=s:=by rw [eX,H8,hUl]
  refine ⟨c+1,by rw [H5,hl,hc,JU],λj t hj ht=>?_⟩;have hin : ∀t,t<s->eG O (nth (cJ (U.map (O.mul x))) t) s=eG O x s:=λt ht=>by obtain ⟨u,hu,e⟩:=(hmem _).1 (aH (l:=cJ (U.map (O.mul x))) (i:=t) (by rw [hl];exact ht));obtain ⟨a1,_,a3⟩:=hUe u hu;rw [<- e,mb F hx a1,a3,F.kz (ed F hx s)]
  rcases ID j c with hjc | hjc
  ·have hle : s * j+s<=s * c:=by rw [<- JU];exact I4 s hjc
   rw [sC (by rw [hc];omega),sC (by rw [hc];omega)];exact hb j t hjc ht
  ·obtain rfl : j=c:=by omega
   rw [<- hc,sk,hin t ht];have e0 : nth (X ++ cJ (U.map (O.mul x))) X.length=nth (cJ (U.map (O.mul x))) 0:=sk (i:=0);rw [e0,hin 0 (by omega)]
theorem CB (F : bZ O El) (h : EW O El q g) {s c : Nat} (hs : 1<=s) (hd : s ∣ q - 1) (hc : s * c<=q - 1) :
  Gs O El (rtTo O s (q - 1)) s (eW O (rtTo O s (q - 1)) (s * c) (q - 1))/\(eW O (rtTo O s (q - 1)) (s * c) (q - 1)).length=s * c:=by
 have hq:=h.q2;obtain ⟨U,hUe⟩ : ∃U,rtTo O s (q - 1)=U:=⟨_,rfl⟩
 have hUl : U.length=s:=by rw [<- hUe];exact Ad F h hs hd
 have hUn : U.Nodup:=by rw [<- hUe];exact jr s _
 have hU : ∀u,u ∈ U ↔ El u/\u ≠ 0/\eG O u s=1:=λu=>by
  rw [<- hUe,gx];constructor
  ·rintro ⟨a,b,e⟩;exact ⟨(h.rng u).2 ⟨by omega,by omega⟩,by omega,e⟩
  ·rintro ⟨a,b,e⟩;have:=(h.rng u).1 a;exact ⟨by omega,by omega,e⟩
 rw [hUe];have h1U : (1 : Int) ∈ U:=(hU 1).2 ⟨F.one,by decide,oW F s⟩;have key : ∀k,k<=q - 1->Gs O El U s (eW O U (s * c) k)/\(eW O U (s * c) k).length<=s * c/\((∀j : Nat,j<k->((j : Int)+1) ∈ eW O U (s * c) k)\/(eW O U (s * c) k).length=s * c):=λk=>by
  induction k with
  | zero=>intro _;exact ⟨⟨K7,by simp [eW],by simp [eW],0,by simp [eW],λj t hj=>by omega⟩,by simp [eW],.inl λj hj=>by omega⟩
  | succ k ih =>
   intro hk
   obtain ⟨i1,i2,i3⟩:=ih (by omega)
   rw [eW]
   by_cases hcnd : (eW O U (s * c) k).length<s * c/\¬ ((k : Int)+1) ∈ eW O U (s * c) k
   ·rw [GV hcnd]
    have hxe : El ((k : Int)+1):=(h.rng _).2 ⟨by omega,by omega⟩
    have hx0 : ((k : Int)+1) ≠ 0:=by omega
    have hst:=Ed F hs hUn hUl hU i1 hxe hx0 hcnd.2
    obtain ⟨c',hc',_⟩:=i1.blk
    have hl : (cJ (U.map (O.mul ((k : Int)+1)))).length=s:=by rw [eX,H8,hUl]
    have hcc : c'<c:=by refine Jp λhn=>?_;have h1:=I4 s (show c<=c' by omega);have h2:=hcnd.1;omega
    have hle : s * c'+s<=s * c:=by rw [<- JU];exact I4 s hcc
    refine ⟨hst,by rw [H5,hl,hc'];exact hle,.inl λj hj=>?_⟩
    rcases ID j k with hjk | hjk
    ·rcases i3 with h3 | h3
     ·exact List.mem_append.2 (.inl (h3 j hjk))
     ·exact absurd h3 (by have:=hcnd.1;omega)
    ·obtain rfl : j=k:=by omega
     refine List.mem_append.2 (.inr ((dc _).mem_iff.2 (List.mem_map.2 ⟨1,h1U,F.kz hxe⟩)))
   ·rw [GU hcnd]
    refine ⟨i1,i2,?_⟩
    by_cases hlt : (eW O U (s * c) k).length<s * c
    ·have hin : ((k : Int)+1) ∈ eW O U (s * c) k:=Jp λhn=>hcnd ⟨hlt,hn⟩
     rcases i3 with h3 | h3
     ·refine .inl λj hj=>?_
      rcases ID j k with hjk | hjk
      ·exact h3 j hjk
      ·obtain rfl : j=k:=by omega
       exact hin
     ·exact .inr h3
    ·exact .inr (by omega)
 obtain ⟨i1,i2,i3⟩:=key (q - 1) (GQ _);refine ⟨i1,?_⟩;rcases i3 with h3 | h3
 ·have hnd : ((List.range (q - 1)).map λj : Nat=>(j : Int)+1).Nodup:=by unfold List.Nodup;rw [J7];exact List.Pairwise.imp (λhne e=>hne (by omega)) List.nodup_range
  have h4:=iV (T:=eW O U (s * c) (q - 1)) hnd λx hx=>by obtain ⟨j,hj,rfl⟩:=List.mem_map.1 hx;exact h3 j (List.mem_range.1 hj)
  rw [H8,Jh] at h4;omega
 ·exact h3
def fF (r j : Nat) : Nat:=j+j / r
theorem Ep {r i j : Nat} (h : i<j) : fF r i<fF r j:=by unfold fF;have:=K9 (c:=r) (Nat.le_of_lt h);omega
theorem Fz {r : Nat} (hr : 1<=r) (j : Nat) : fF r j=(r+1) * (j / r)+j % r:=by unfold fF;have h:=Jq j r;rw [J6];omega
theorem Ev {r : Nat} (hr : 1<=r) (j : Nat) : fF r j % (r+1)<r:=by have h1:=Jm j (show r > 0 by omega);rw [Fz hr,Nat.mul_add_mod,Ke (by omega)];exact h1
end
theorem po {G : bX} {l : LI} (h : dR G.q l=true) : G.va l:=λx hx=>by have h1:=List.all_eq_true.1 h x hx;simpa [gE,bX.El] using h1
theorem y6 {w : World} {b : Nat} {G : bX} (q pb : Nat) (x : Int) (hc : w.cell? ⟨q,0,none⟩=some (.pointer (some ⟨pb,0,none⟩))) (hp : w.cell? ⟨pb,0,none⟩=some (.pointer (some ⟨b,0,none⟩))) (h : dz w b G) :
  Calls prog 183 #[.int .i64 x,.pointer (some ⟨q,0,none⟩)] w λe w'=>e = .returned (.bool (!(decide (0<=x) && decide (x<G.q))))/\w=w':=by
 go_enter func183,ntmps183;go_wp2_with fail;refine (F9 x h).mono ?_;rintro e w' ⟨rfl,rfl⟩;obtain ⟨z,hz⟩ : ∃z,(decide (0<=x) && decide (x<G.q))=z:=⟨_,rfl⟩
 have Hz:=Z5 hz;rw [hz];clear hz;cases z
 ·go_wp2_with fail;go_ret;exact ⟨aR (by rw [Hz.out];rfl),rfl⟩
 ·go_wp2_with fail;go_ret;exact ⟨aR (by rw [Hz.out];rfl),rfl⟩
theorem uQ (p : Int->Bool) (q : Nat) (a : OA) (n c : Nat) (l : LI) (w : World) (hi : Ints w a n l) (hf : ∀k,k<n->Calls prog 183 #[.int .i64 (nth l k),.pointer (some ⟨q,0,none⟩)] w λe w'=>e = .returned (.bool (p (nth l k)))/\w=w') :
  Calls prog 111 #[.slice a n c,.func (.func 183) #[] #[.pointer (some ⟨q,0,none⟩)]] w λe w'=>∃z : Int,e = .returned (.int .i64 z)/\(0<=z ↔ l.any p=true)/\w=w':=by
 have hpl:=hi.pl;have hmax:=hi.max;have HF:=Z5 hf;have Hl:=Z5 hi.len;unfold maxLen at hmax;clear hf;go_enter func111,ntmps111;go_wp2_with fail;go_loop [8] (λiv=>∃k : Nat,k<=n/\iv = .int .i64 k/\Hid (∀j,j<k->p (nth l j)=false)) (λiv=>n - (intOf iv).toNat);case atStart=>exact ⟨0,G0 _,rfl,λj hj=>by omega⟩
 case round =>
  obtain ⟨k,hk,rfl,hno⟩:=hrel
  by_cases hlt : k<n
  ·have ck:=hi.cell k hlt
   have hfk:=HF.out k hlt
   obtain ⟨z,hz⟩ : ∃z,p (nth l k)=z:=⟨_,rfl⟩
   rw [hz] at hfk
   have Hk:=Z5 hfk
   cases z
   ·have Hn : Hid (∀j,j<k+1->p (nth l j)=false):=λj hj=>by
     by_cases e : j=k
     ·subst e;exact hz
     ·exact hno.out j (by omega)
    clear hz hfk hno
    go_wp2_with fail
    refine Hk.out.mono ?_
    rintro e w' ⟨rfl,rfl⟩
    go_wp2_with fail
    go_round
    case rel=>exact ⟨k+1,by omega,by go_num,Hn.out⟩
    case measure=>simp [intOf] <;> omega
   ·have Hy : Hid (l.any p=true):=by show _=_;rw [JV];exact ⟨nth l k,aH (by rw [Hl.out];exact hlt),hz⟩
    clear hz hfk hno
    go_wp2_with fail
    refine Hk.out.mono ?_
    rintro e w' ⟨rfl,rfl⟩
    go_wp2_with fail
    go_ret
    exact ⟨k,rfl,⟨λ_=>by first | exact Hy.out | exact List.any_eq_true.1 Hy.out,λ_=>JG _⟩,rfl⟩
  ·obtain rfl : k=n:=by omega
   have Hy : Hid (l.any p=false):=by show _=_;rw [J5];intro x hx;obtain ⟨j,hj,rfl⟩:=List.mem_iff_getElem.1 hx;have:=hno.out j (by rw [<- Hl.out];exact hj);rw [aj hj] at this;rw [this];decide
   go_wp2_with fail
   go_ret
   exact ⟨-1,rfl,⟨λh=>absurd h (by omega),λh=>by have h2 : l.any p=true:=(by first | exact h | exact List.any_eq_true.2 h);rw [Hy.out] at h2;exact absurd h2 (by decide)⟩,rfl⟩
theorem oH (p : Int->Bool) (q : Nat) (a : OA) (n c : Nat) (l : LI) (w : World) (hi : Ints w a n l) (hf : ∀k,k<n->Calls prog 183 #[.int .i64 (nth l k),.pointer (some ⟨q,0,none⟩)] w λe w'=>e = .returned (.bool (p (nth l k)))/\w=w') :
  Calls prog 53 #[.slice a n c,.func (.func 183) #[] #[.pointer (some ⟨q,0,none⟩)]] w λe w'=>e = .returned (.bool (l.any p))/\w=w':=by
 have Hc:=Z5 (uQ p q a n c l w hi hf);clear hf;go_enter func53,ntmps53;go_wp2_with fail;refine Hc.out.mono ?_;rintro e w' ⟨z,rfl,hz,rfl⟩;by_cases h0 : 0<=z
 ·have Hz : Hid (l.any p=true):=hz.1 h0;have h0' : decide (0<=z)=true:=by simpa using h0
  clear hz h0;go_wp2_with fail;go_ret;exact ⟨aR Hz.out.symm,rfl⟩
 ·have Hz : Hid (l.any p=false):=by
   show _=_;cases h : l.any p
   ·rfl
   ·exact absurd (hz.2 h) h0
  have h0' : decide (0<=z)=false:=by simpa using h0
  clear hz h0;go_wp2_with fail;go_ret;exact ⟨aR Hz.out.symm,rfl⟩
def fW (P M : Int) (mod : LI) (N : Int) (L : Ll) (y : LI) (W : Int) : Int :=
 if aG P M mod N L=0 then (if (y.length : Int) ≠ N then 4 else if dR (ah P M.toNat mod).q y=false then 2 else if W<0\/N<W then 6 else 0) else aG P M mod N L
def ky (P M : Int) (am : OA) (mn cm : Nat) (mod : LI) (N : Int) (a : OA) (n c : Nat) (L : Ll) (ay : OA) (ny cy : Nat) (y : LI) (W : Int) (w : World) (e : Ending) (w' : World) : Prop :=
 Mv w w'/\((fW P M mod N L y W ≠ 0/\e = .returned (.tuple #[.pointer none,.int .i64 (fW P M mod N L y W)])) \/
 (fW P M mod N L y W=0/\∃pb,e = .returned (.tuple #[.pointer (some ⟨pb,0,none⟩),.int .i64 0])/\Eu P M am mn cm mod N.toNat a n c L ay ny cy ⟨0,W.toNat,true,y⟩ w w' pb))
theorem oe (P M : Int) (am : OA) (mn cm : Nat) (mod : LI) (N : Int) (a : OA) (n c : Nat) (L : Ll) (ay : OA) (ny cy : Nat) (y : LI) (W : Int) (w : World) (hmod : Ints w am mn mod) (hi : bC w a n L) (hy : Ints w ay ny y) :
  Calls prog 127 #[.agg #[.int .i64 P,.int .i64 M,.slice am mn cm,.int .i64 N,.slice a n c],.slice ay ny cy,.int .i64 W] w (ky P M am mn cm mod N a n c L ay ny cy y W w):=by
 have Hil:=Z5 hi.len;have Hyl:=Z5 hy.len;go_enter func127,ntmps127;go_wp2_with fail;obtain ⟨U,hU⟩ : ∃U : World,U=w.alloc (.cells #[.int .i64 P,.int .i64 M,.slice am mn cm,.int .i64 N,.slice a n c] 27):=⟨_,rfl⟩
 rw [<- hU];have hbU : Mv w U:=by rw [hU];exact an _ _
 have x0 : aO U w.heap.size [.int .i64 P,.int .i64 M,.slice am mn cm,.int .i64 N,.slice a n c]:=by rw [hU];exact LZ _ _ _ rfl
 have HX:=Z5 x0;clear hU x0;refine (zd P M am mn cm mod N a n c L W U (hmod.af hbU) (hi.af hbU)).mono ?_;rintro e w1 ⟨hb1,⟨hE,rfl⟩ | ⟨hE,b,w2,rfl,hb2,hG,hb3,hB⟩⟩
 ·have HE : Hid (fW P M mod N L y W=aG P M mod N L):=GU hE;have Hne:=Z5 hE;have hE1 : (aG P M mod N L == 0)=false:=by simpa using hE
  have hE2 : (aG P M mod N L != 0)=true:=by simpa using hE
  have hbF:=LY (LY hbU hb1) (an w1 (.cells #[.pointer none] 143));clear hE;go_wp2_with fail;go_ret2;exact ⟨hbF,.inl ⟨by rw [HE.out];exact Hne.out,by rw [HE.out];rfl⟩⟩
 ·have HE : Hid (fW P M mod N L y W=if (ny : Int) ≠ N then 4 else if dR (ah P M.toNat mod).q y=false then 2 else if W<0\/N<W then 6 else 0):=by show _=_;rw [fW,GV hE,Hyl.out]
  have Hrw:=Z5 (dT hE);have hbn:=an w1 (.cells #[.pointer (some ⟨w2.heap.size,0,none⟩)] 143);have hbF:=LY (LY hbU hb1) hbn;have xq : (w1.alloc (.cells #[.pointer (some ⟨w2.heap.size,0,none⟩)] 143)).cell? ⟨w1.heap.size,0,none⟩=some (.pointer (some ⟨w2.heap.size,0,none⟩)):=aE _ _ _ rfl 0;have hB4:=hB.af hbn;have hb34:=LY hb3 hbn;have hG4:=hG.af hb34;have x4:=(HX.out.af hb1).af hbn;have c3:=x4.cell 3 rfl;have p0:=hB4.cell 0 rfl;have hy4:=(hy.af hbU).af (LY hb1 hbn);have HCo:=Z5 (oH (λx=>!(decide (0<=x) && decide (x<(ah P M.toNat mod).q))) w1.heap.size ay ny cy y _ hy4 λk hk=>y6 w1.heap.size w2.heap.size (nth y k) xq p0 hG4);rw [uS] at HCo;have HB:=Z5 hB4;have HB1:=Z5 hB;have hmf : ∀(fn : Fn) (first cap : Array Value) (w : World),(Instr.makeFunc fn first cap).run prog w = .ok (.func fn first cap) w:=λ_ _ _ _=>rfl;have hsw1 : w2.heap.size ≠ w1.heap.size:=by have:=hB.1;omega
  clear hB p0 hE hy4 hG4;by_cases h1 : (ny : Int) ≠ N
  ·have HE2 : Hid (fW P M mod N L y W=4):=by show _=_;rw [HE.out,GV h1]
   have d1 : ((ny : Int) != N)=true:=by simpa using h1
   clear h1;go_wp2_with fail;go_ret2;exact ⟨hbF,.inl ⟨by rw [HE2.out];decide,by rw [HE2.out];rfl⟩⟩
  have hny : (ny : Int)=N:=Classical.not_not.1 h1;have d1 : ((ny : Int) != N)=false:=by simp [hny]
  have HE1 : Hid (fW P M mod N L y W=if dR (ah P M.toNat mod).q y=false then 2 else if W<0\/N<W then 6 else 0):=by show _=_;rw [HE.out,GU h1]
  have Hny:=Z5 hny;clear h1 hny;obtain ⟨ze,hze⟩ : ∃ze,dR (ah P M.toNat mod).q y=ze:=⟨_,rfl⟩
  rw [hze] at HCo HE1;have Hze:=Z5 hze;clear hze;cases ze
  ·have HE2 : Hid (fW P M mod N L y W=2):=by show _=_;rw [HE1.out,GV rfl]
   go_wp2_with fail;refine HCo.out.mono ?_;rintro e w5 ⟨rfl,rfl⟩;go_wp2_with fail;go_ret2;exact ⟨hbF,.inl ⟨by rw [HE2.out];decide,by rw [HE2.out];rfl⟩⟩
  have HE3 : Hid (fW P M mod N L y W=if W<0\/N<W then 6 else 0):=by show _=_;rw [HE1.out,GU (by decide)]
  by_cases h3 : W<0
  ·have HE2 : Hid (fW P M mod N L y W=6):=by show _=_;rw [HE3.out,GV (.inl h3)]
   have d3 : decide (W<0)=true:=by simpa using h3
   clear h3;go_wp2_with fail;refine HCo.out.mono ?_;rintro e w5 ⟨rfl,rfl⟩;go_wp2_with fail;go_ret2;exact ⟨hbF,.inl ⟨by rw [HE2.out];decide,by rw [HE2.out];rfl⟩⟩
  have d3 : decide (W<0)=false:=by simpa using h3
  by_cases h4 : N<W
  ·have HE2 : Hid (fW P M mod N L y W=6):=by show _=_;rw [HE3.out,GV (.inr h4)]
   have d4 : decide (N<W)=true:=by simpa using h4
   clear h3 h4;go_wp2_with fail;refine HCo.out.mono ?_;rintro e w5 ⟨rfl,rfl⟩;go_wp2_with fail;go_ret2;exact ⟨hbF,.inl ⟨by rw [HE2.out];decide,by rw [HE2.out];rfl⟩⟩
  have d4 : decide (N<W)=false:=by simpa using h4
  have HE2 : Hid (fW P M mod N L y W=0):=by
   show _=_;rw [HE3.out,GU];rintro (h | h)
   ·exact h3 h
   ·exact h4 h
  obtain ⟨m,hm,hm1,hm2,hLl,hRw⟩:=Hrw.out;have hPE0 : Hid (xz w2 b (ah P M.toNat mod) a n L N.toNat ay ny ⟨0,W.toNat,true,y⟩):=by
   have hn256 : n<=1000000:=by rw [<- Hil.out];omega
   have hNm : N.toNat=ny:=by have:=Hny.out;omega
   have hyw2:=(hy.af hbU).af hb2;exact { g:=hG,jX:=(hi.af hbU).af hb2,rws:=by rw [hm,GW];exact hRw,n6:=hn256,m6:=by omega,w6:=by show W.toNat<=64;omega,yl:=λ_=>hNm.symm,y:=λ_=>by rw [hNm];exact hyw2,ye:=λ_=>po Hze.out }
  have Hnn:=Z5 (Hi (show 0<=N by omega) (show 0<=W by omega));go_wp2_with fail;refine HCo.out.mono ?_;rintro e w5 ⟨rfl,rfl⟩;clear HCo;go_wp2_with fail;obtain ⟨Y,hY⟩ : ∃Y : World,Y=w1.alloc (.cells #[.pointer (some ⟨w2.heap.size,0,none⟩)] 143):=⟨_,rfl⟩
  rw [<- hY] at HB xq hbF hb34 ⊢;have HF : Hid (∀Z : World,Z=((Y.setCell ⟨w2.heap.size,6,none⟩ (.slice ay ny cy)).setCell ⟨w2.heap.size,7,none⟩ (.bool true)).drew->ky P M am mn cm mod N a n c L ay ny cy y W w (.returned (.tuple #[.pointer (some ⟨w2.heap.size,0,none⟩),.int .i64 0])) Z):=λZ hZ=>by rw [hZ];have h5:=((HB.out.setCell 6 (.slice ay ny cy)).setCell 7 (.bool true)).af (GS _ _).drew;refine ⟨((hbF.setCell (p:=⟨w2.heap.size,6,none⟩) (H7 hbU.size hb2.size) _).setCell (p:=⟨w2.heap.size,7,none⟩) (H7 hbU.size hb2.size) _).drew,.inr ⟨HE2.out,w2.heap.size,rfl,b,w2,rfl,LY hbU hb2,hPE0.out,((hb34.setCell (by simp) _).setCell (by simp) _).drew,?_⟩⟩;rw [la];dsimp only;rw [JA Hnn.out.1,JA Hnn.out.2];exact h5
  have HF2 : Hid (∀Z : World,Z=((Y.setCell ⟨w2.heap.size,6,none⟩ (.slice ay ny cy)).setCell ⟨w2.heap.size,7,none⟩ (.bool true))->ky P M am mn cm mod N a n c L ay ny cy y W w (.returned (.tuple #[.pointer (some ⟨w2.heap.size,0,none⟩),.int .i64 0])) Z):=λZ hZ=>by
   rw [hZ];have h5:=((HB.out.setCell 6 (.slice ay ny cy)).setCell 7 (.bool true))
   refine ⟨((hbF.setCell (p:=⟨w2.heap.size,6,none⟩) (H7 hbU.size hb2.size) _).setCell (p:=⟨w2.heap.size,7,none⟩) (H7 hbU.size hb2.size) _),.inr ⟨HE2.out,w2.heap.size,rfl,b,w2,rfl,LY hbU hb2,hPE0.out,((hb34.setCell (by simp) _).setCell (by simp) _),?_⟩⟩;rw [la];dsimp only;rw [JA Hnn.out.1,JA Hnn.out.2];exact h5
  have f6:=HB.out.frozen 6;have q6:=HB.out.cell 6 rfl;have f7:=HB.out.frozen 7;have q7:=HB.out.cell 7 rfl;have s7 : (Y.setCell ⟨w2.heap.size,6,none⟩ (.slice ay ny cy)).cell? ⟨w2.heap.size,7,none⟩=some (.bool false):=(HB.out.setCell 6 (.slice ay ny cy)).cell 7 rfl;have s6 : (Y.setCell ⟨w2.heap.size,7,none⟩ (.bool true)).cell? ⟨w2.heap.size,6,none⟩=some (.slice none 0 0):=(HB.out.setCell 7 (.bool true)).cell 6 rfl;have x6 : (Y.setCell ⟨w2.heap.size,6,none⟩ (.slice ay ny cy)).cell? ⟨w1.heap.size,0,none⟩=some (.pointer (some ⟨w2.heap.size,0,none⟩)):=by rw [H9 _ _ _ _ (by simp <;> omega)];exact xq
  have x7 : (Y.setCell ⟨w2.heap.size,7,none⟩ (.bool true)).cell? ⟨w1.heap.size,0,none⟩=some (.pointer (some ⟨w2.heap.size,0,none⟩)):=by rw [H9 _ _ _ _ (by simp <;> omega)];exact xq
  have x67 : ((Y.setCell ⟨w2.heap.size,6,none⟩ (.slice ay ny cy)).setCell ⟨w2.heap.size,7,none⟩ (.bool true)).cell? ⟨w1.heap.size,0,none⟩=some (.pointer (some ⟨w2.heap.size,0,none⟩)):=by rw [H9 _ _ _ _ (by simp <;> omega)];exact x6
  clear h3 h4 hm hm1 hm2 hY hbF hb34;go_region;all_goals (
   go_wp2_with fail
   go_ret2
   first | exact HF.out _ rfl | exact HF2.out _ rfl)
def pf (P M : Int) (mod : LI) (N : Int) (L : Ll) (y : LI) (W : Int) (ts : Ll) : Int :=
 if fW P M mod N L y W=0 then provS (ah P M.toNat mod).ops L N.toNat ⟨0,W.toNat,true,y⟩ ts else fW P M mod N L y W
def kF (P M : Int) (mod : LI) (N : Int) (L : Ll) (y : LI) (W : Int) : Int × Ll :=
 if fW P M mod N L y W=0 then sJ (ah P M.toNat mod).ops L N.toNat ⟨0,W.toNat,true,y⟩ else (fW P M mod N L y W,[])
theorem nu (P M : Int) (am : OA) (mn cm : Nat) (mod : LI) (N : Int) (a : OA) (n c : Nat) (L : Ll) (ay : OA) (ny cy : Nat) (y : LI) (W : Int) (ax : OA) (nx cx : Nat) (ts : Ll) (w : World)
  (hmod : Ints w am mn mod) (hi : bC w a n L) (hy : Ints w ay ny y) (hts : bC w ax nx ts) :
  Calls prog 82 #[.agg #[.int .i64 P,.int .i64 M,.slice am mn cm,.int .i64 N,.slice a n c],.slice ay ny cy,.int .i64 W,.agg #[.slice ax nx cx]] w λe w'=>e = .returned (.int .i64 (pf P M mod N L y W ts))/\Mv w w':=by
 go_enter func82,ntmps82;go_wp2_with fail;obtain ⟨U,hU⟩ : ∃U : World,U=(w.alloc (.cells #[.int .i64 P,.int .i64 M,.slice am mn cm,.int .i64 N,.slice a n c] 27)).alloc (.cells #[.slice ax nx cx] 103):=⟨_,rfl⟩
 rw [<- hU];have hbU : Mv w U:=by rw [hU];exact du _ _ _
 have x0 : aO U (w.heap.size+1) [.slice ax nx cx]:=by rw [hU];exact LZ _ _ _ (by simp)
 have HX:=Z5 x0;clear hU x0;refine (oe P M am mn cm mod N a n c L ay ny cy y W U (hmod.af hbU) (hi.af hbU) (hy.af hbU)).mono ?_;rintro e w1 ⟨hb1,⟨hE,rfl⟩ | ⟨hE,pb,rfl,hCl⟩⟩
 ·have HE : Hid (pf P M mod N L y W ts=fW P M mod N L y W):=GU hE;have hE1 : (fW P M mod N L y W == 0)=false:=by simpa using hE
  have hE2 : (fW P M mod N L y W != 0)=true:=by simpa using hE
  have hbF:=LY hbU hb1;clear hE;go_wp2_with fail;go_ret;exact ⟨by rw [HE.out];rfl,hbF⟩
 ·have HE : Hid (pf P M mod N L y W ts=provS (ah P M.toNat mod).ops L N.toNat ⟨0,W.toNat,true,y⟩ ts):=GV hE;have x1:=HX.out.af hb1;have c0:=x1.cell 0 rfl;obtain ⟨b,w2,rfl,hb2,hPE,hb3,hB⟩:=hCl;have HPr:=Z5 (sZ w2.heap.size P M am mn cm c cy ax nx cx ts hPE ((hts.af hbU).af hb2) (GQ _) hb3 hB);have hbw2:=LY hbU hb2;clear x1 hB hPE hE;go_wp2_with fail;refine HPr.out.mono ?_;rintro e w3 ⟨rfl,hb4⟩;have hbF:=LY hbw2 hb4;go_wp2_with fail;go_ret;exact ⟨by rw [HE.out];rfl,hbF⟩
theorem mZ (P M : Int) (am : OA) (mn cm : Nat) (mod : LI) (N : Int) (a : OA) (n c : Nat) (L : Ll) (ay : OA) (ny cy : Nat) (y : LI) (W : Int) (w : World)
  (hmod : Ints w am mn mod) (hi : bC w a n L) (hy : Ints w ay ny y) :
  Calls prog 75 #[.agg #[.int .i64 P,.int .i64 M,.slice am mn cm,.int .i64 N,.slice a n c],.slice ay ny cy,.int .i64 W] w (mW (kF P M mod N L y W) w):=by
 obtain ⟨V,hV⟩ : ∃V,kF P M mod N L y W=V:=⟨_,rfl⟩
 rw [hV];have HV:=Z5 hV;clear hV;go_enter func75,ntmps75;go_wp2_with fail;obtain ⟨U,hU⟩ : ∃U : World,U=(w.alloc (.cells #[.int .i64 P,.int .i64 M,.slice am mn cm,.int .i64 N,.slice a n c] 27)).alloc (.cells #[.slice none 0 0] 103):=⟨_,rfl⟩
 rw [<- hU];have hbU : Mv w U:=by rw [hU];exact du _ _ _
 have hsU : U.heap.size=w.heap.size+2:=by rw [hU];simp
 have x0 : aO U (w.heap.size+1) [.slice none 0 0]:=by rw [hU];exact LZ _ _ _ (by simp)
 have HX:=Z5 x0;clear hU x0;refine (oe P M am mn cm mod N a n c L ay ny cy y W U (hmod.af hbU) (hi.af hbU) (hy.af hbU)).mono ?_;rintro e w1 ⟨hb1,⟨hE,rfl⟩ | ⟨hE,pb,rfl,hCl⟩⟩
 ·have HE : Hid (V=(fW P M mod N L y W,[])):=by show _=_;rw [<- HV.out];exact GU hE
  have hE1 : (fW P M mod N L y W == 0)=false:=by simpa using hE
  have hE2 : (fW P M mod N L y W != 0)=true:=by simpa using hE
  have Hne:=Z5 hE;have x1:=HX.out.af hb1;have z0:=x1.cell 0 rfl;have f0:=x1.frozen 0;have HF:=Z5 (λv : Value=>(LY hbU hb1).setCell (p:=⟨w.heap.size+1,0,none⟩) (by simp) v);clear hE x1;generalize fW P M mod N L y W=er at *;go_wp2_with fail;have z1 : (w1.setCell ⟨w.heap.size+1,0,none⟩ (.slice none 0 0)).cell? ⟨w.heap.size+1,0,none⟩=some (.slice none 0 0):=Ih _ _ _ z0;exact bodyPost_ret (v:=.tuple #[.agg #[.slice none 0 0],.int .i64 er]) (by simp [results,results75,go_sem,z0,z1]) rfl ⟨HF.out _,.inl ⟨by rw [HE.out];exact Hne.out,by rw [HE.out]⟩⟩
 ·have HE : Hid (sJ (ah P M.toNat mod).ops L N.toNat ⟨0,W.toNat,true,y⟩=V):=by show _=_;rw [<- HV.out];exact (GV hE).symm
  have x1:=HX.out.af hb1;obtain ⟨b,w2,rfl,hb2,hPE,hb3,hB⟩:=hCl;have HPr:=xZ w2.heap.size P M am mn cm c cy hPE (GQ _) hb3 hB;rw [HE.out] at HPr;have HTr:=Z5 HPr;have hbw2:=LY hbU hb2;have x2:=HX.out.af hb2;have hs2 : w.heap.size+1<w2.heap.size:=x2.1;clear x1 hB hPE hE HPr;go_wp2_with fail;refine HTr.out.mono ?_;rintro e w3 ⟨hb4,⟨hv,rfl⟩ | ⟨hv,ar,cr,R,rfl,hO⟩⟩
  ·have x3:=x2.af hb4;have z0:=x3.cell 0 rfl;have f0:=x3.frozen 0;have HF:=Z5 (λv : Value=>(LY hbw2 hb4).setCell (p:=⟨w.heap.size+1,0,none⟩) (by simp) v);have Hne:=Z5 hv;obtain ⟨ve,vt⟩:=V;dsimp only at Hne ⊢;clear x3 hv;go_wp2_with fail;have z1 : (w3.setCell ⟨w.heap.size+1,0,none⟩ (.slice none 0 0)).cell? ⟨w.heap.size+1,0,none⟩=some (.slice none 0 0):=Ih _ _ _ z0;exact bodyPost_ret (v:=.tuple #[.agg #[.slice none 0 0],.int .i64 ve]) (by simp [results,results75,go_sem,z0,z1]) rfl ⟨HF.out _,.inl ⟨Hne.out,rfl⟩⟩
  ·have x3:=x2.af hb4;have z0:=x3.cell 0 rfl;have f0:=x3.frozen 0;have hF : ∀v : Value,Mv w (w3.setCell ⟨w.heap.size+1,0,none⟩ v)/\aP (w3.setCell ⟨w.heap.size+1,0,none⟩ v) w.heap.size ar V.2.length cr R V.2:=λv=>by refine ⟨(LY hbw2 hb4).setCell (by simp) v,?_⟩;refine (aP.mono hO hbw2.size).bq λx hx=>Ia _ _ _ _ λe=>?_;have h1:=(hO.lt x hx).1;have e' : x=w.heap.size+1:=e;omega
   have HF:=Z5 hF;obtain ⟨ve,vt⟩:=V;dsimp only at hv HF ⊢;subst hv;clear x3 hO hF;go_wp2_with fail;have z1 : (w3.setCell ⟨w.heap.size+1,0,none⟩ (.slice ar vt.length cr)).cell? ⟨w.heap.size+1,0,none⟩=some (.slice ar vt.length cr):=Ih _ _ _ z0;exact bodyPost_ret (v:=.tuple #[.agg #[.slice ar vt.length cr],.int .i64 0]) (by simp [results,results75,go_sem,z0,z1]) rfl ⟨(HF.out _).1,.inr ⟨rfl,ar,cr,R,rfl,(HF.out _).2⟩⟩
section
variable {P M : Int} {mod : LI} {m : Nat} {L : Ll}
end
def kb (P M : Int) (mod : LI) (N : Int) (L : Ll) (y : LI) : Int:=if aG P M mod N L=0 then kd (aI P M) y N.toNat else aG P M mod N L
section
open Go.RowKit
end
section
open Go.RowKit
end
section
open Go.RowKit
end
section
open Go.RowKit
end
section
open Go.RowKit
end
end Go.Proofs.YthglbncgemdcbaaGreat
