import Derived.Test.YtcfmiocdlcapoaaGreatK31
import Derived.Test.YtcfmiocdlcapoaaGreatMMO8
import Derived.Test.YtcfmiocdlcapoaaGreatK28
import Derived.Test.YtcfmiocdlcapoaaGreatK33
import Derived.Test.YtcfmiocdlcapoaaGreatMMO5
import Derived.Test.YtcfmiocdlcapoaaGreatMMO6
import Derived.Test.YtcfmiocdlcapoaaGreatMMO2
import Derived.Test.YtcfmiocdlcapoaaGreatMMO3
import Derived.Test.YtcfmiocdlcapoaaGreatK21
import Derived.Test.YtcfmiocdlcapoaaGreatK29
import Derived.Test.YtcfmiocdlcapoaaGreatK32
import Derived.Test.YtcfmiocdlcapoaaGreatK22
namespace Go.Proofs.YtcfmiocdlcapoaaGreat
set_option linter.unusedVariables false
set_option linter.unusedSimpArgs false
set_option linter.unusedSectionVars false
set_option maxRecDepth 100000
set_option maxHeartbeats 4000000
open Go.RowKit
section
variable {P M : Int} {mod : Lz} {m : Nat} {L : Ll}
def CW (P M : Int) (mod : Lz) (m : Nat) (L : Ll) (y : Lz) : Prop :=
 Vc (aa P M.toNat mod).El m y/\RS (aa P M.toNat mod).ops (aa P M.toNat mod).El m L (λi=>nth y i)/\bw y ≠ 0
theorem pD (hE : aL P M mod m L=0) {Q : Lz} (hQ : bF m Q=true) (hB : rh (aa P M.toNat mod).ops L Q=true) {y : Lz} (hy : Vc (aa P M.toNat mod).El m y) (hr : RS (aa P M.toNat mod).ops (aa P M.toNat mod).El m L (λi=>nth y i)) :
  y=bj (aa P M.toNat mod).ops m (aG Q y) (cQ (aa P M.toNat mod).ops m L Q) L.length:=by
 obtain ⟨N',e,hm1,hm64,F,hR⟩:=ba hE
 obtain rfl : m=N':=by omega
 obtain ⟨hI,hl,hg⟩:=ju hQ hB
 obtain ⟨s1,s2,_,s4⟩:=jz hE hI hl hg
 have hcan : dD (aa P M.toNat mod).ops m (cQ (aa P M.toNat mod).ops m L Q)=L:=s4
 have hsub:=(eF F s1).1
 rw [hcan] at hsub
 obtain ⟨v,hv,h2⟩:=RS.IZ F s1 (hsub.rs hr)
 rw [s2] at hv h2
 obtain ⟨w1,_,w3⟩:=lq hE hI hl hg (v:=v) hv.1 λk hk=>hv.at hk
 have h3 : y=bj (aa P M.toNat mod).ops m v (cQ (aa P M.toNat mod).ops m L Q) L.length:=et (by rw [hy.1,w1.1]) λi hi=>h2 i (by rw [<- hy.1];exact hi)
 have h4 : aG Q y=v:=by rw [h3];exact w3
 rw [h4];exact h3
theorem lk {Q y : Lz} (h : ∀z ∈ y,z=0) : bw (aG Q y)=0:=by
 refine dk.2 λz hz=>?_
 unfold aG at hz
 obtain ⟨q,_,rfl⟩:=List.mem_map.1 hz
 by_cases hq : q.toNat<y.length
 ·rw [ai hq];exact h _ (List.getElem_mem hq)
 ·unfold nth;rw [List.getD_eq_getElem?_getD,List.getElem?_eq_none (by omega)];rfl
theorem pN (O : aQ) (m : Nat) {c : Lz} {G : Ll} (h : ∀y ∈ c,y=0) : ∀k,k<=c.length->bj O m c G k=List.replicate m 0
 | 0,_=>rfl
 | k+1,hk=>by
  rw [bj,if_pos (h _ (aN (by omega))),pN O m h k (by omega)]
theorem s8 {m : Nat} : ∀z ∈ List.replicate m (0 : Int),z=0:=λz hz=>(List.mem_replicate.1 hz).2
theorem Ce (hE : aL P M mod m L=0) {Q : Lz} (hQ : bF m Q=true) (hB : rh (aa P M.toNat mod).ops L Q=true) {y : Lz} (h : CW P M mod m L y) : bw (aG Q y) ≠ 0:=λh0=>by
 obtain ⟨hI,hl,hg⟩:=ju hQ hB
 have h1:=pD hE hQ hB h.1 h.2.1
 rw [pN _ _ (dk.1 h0) _ (by simp [aG,hl])] at h1
 exact h.2.2 (by rw [h1];exact dk.2 s8)
theorem wK {q : Nat} {b : Int} (h : b ∈ dn q) : 0<=b/\b<q:=by have:=jN.1 h;omega
theorem mC (hE : aL P M mod m L=0) {Q : Lz} (hQ : bF m Q=true) (hB : rh (aa P M.toNat mod).ops L Q=true) {l : Nat} {y : Lz} :
  y ∈ ik (aa P M.toNat mod).ops (dn (aa P M.toNat mod).q) [1] (l+1) (cQ (aa P M.toNat mod).ops m L Q) (List.replicate m 0) ↔ CW P M mod m L y/\bw (aG Q y)=l+1/\nth (aG Q y) (fnz (aG Q y))=1:=by
 obtain ⟨N',e,hm1,hm64,F,hR⟩:=ba hE
 obtain rfl : m=N':=by omega
 obtain ⟨hI,hl,hg⟩:=ju hQ hB
 obtain ⟨s1,s2,_,s4⟩:=jz hE hI hl hg
 have hcan : dD (aa P M.toNat mod).ops m (cQ (aa P M.toNat mod).ops m L Q)=L:=s4
 have hsub:=(eF F s1).2
 rw [hcan] at hsub
 have hpl : ∀y,(aG Q y).length=L.length:=λy=>by simp [aG,hl]
 rw [ik,j8 _ (by simp) l (mU _ (λa ha=>by have:=jN.1 ha;omega) l)]
 constructor
 ·rintro ⟨c,h1,h2,h3,h4⟩
  rw [s2] at h1
  have hc0 : bw c ≠ 0:=by omega
  obtain ⟨f1,f2⟩:=(jP hc0).1 h3
  have hel : ∀k,k<L.length->(aa P M.toNat mod).El (nth c k):=λk hk=>by
   by_cases e0 : nth c k=0
   ·rw [e0];exact F.zero
   ·by_cases e1 : k<fnz c
    ·exact absurd (iO c k e1) e0
    ·by_cases e2 : k=fnz c
     ·rw [e2,f1];exact F.one
     ·exact wK (f2 k (by omega) (by omega) e0)
  obtain ⟨w1,_,w3⟩:=lq hE hI hl hg (v:=c) h1 hel
  have hy : y=bj (aa P M.toNat mod).ops m c (cQ (aa P M.toNat mod).ops m L Q) L.length:=by
   have h5:=gH (O:=(aa P M.toNat mod).ops) (m:=m) (v:=c) (L:=cQ (aa P M.toNat mod).ops m L Q) (by rw [s2];exact h1) L.length 0 (by rw [s2];omega)
   rw [h4,<- s2,<- h5];rfl
  rw [<- hy] at w1 w3
  refine ⟨⟨w1,?_,λh0=>?_⟩,by rw [w3];exact h2,by rw [w3];exact f1⟩
  ·have:=(dO F s1 (x:=c) (by rw [s2];exact hel) L.length (by rw [s2];exact Nat.le_refl _)).2
   rw [<- hy] at this
   exact hsub.rs this
  ·have h6:=lk (Q:=Q) (dk.1 h0)
   rw [w3] at h6;omega
 ·rintro ⟨hy,h2,h3⟩
  have h1:=pD hE hQ hB hy.1 hy.2.1
  obtain ⟨c,hc⟩ : ∃c,aG Q y=c:=⟨_,rfl⟩
  have hcl : c.length=L.length:=by rw [<- hc];exact hpl y
  rw [hc] at h1 h2 h3
  refine ⟨c,by rw [s2];exact hcl,h2,(jP (by omega)).2 ⟨h3,λj _ hj hj0=>?_⟩,?_⟩
  ·have h7 : nth c j=nth y (nth Q j).toNat:=by rw [<- hc];exact dx Q y (by omega)
   have h8:=hI j (by omega)
   have h9 : (aa P M.toNat mod).El (nth c j):=by rw [h7];exact hy.1.at (by omega)
   exact jN.2 ⟨by have:=h9.1;omega,h9.2⟩
  ·have h5:=gH (O:=(aa P M.toNat mod).ops) (m:=m) (v:=c) (L:=cQ (aa P M.toNat mod).ops m L Q) (by rw [s2];exact hcl) L.length 0 (by rw [s2];omega)
   rw [h1,<- s2,<- h5];rfl
theorem CW.Cr (hE : aL P M mod m L=0) {y : Lz} (h : CW P M mod m L y) {s : Int} (hs : (aa P M.toNat mod).El s) (h0 : s ≠ 0) : CW P M mod m L (y.map ((aa P M.toNat mod).ops.mul s)):=by
 obtain ⟨N',e,hm1,hm64,F,hR⟩:=ba hE
 obtain rfl : m=N':=by omega
 refine ⟨h.1.Cr F hs,(h.2.1.smul F hs).congr λx hx=>iK _ _ _ (by rw [h.1.1];exact hx),?_⟩
 rw [l6 F hs h0 h.1.2];exact h.2.2
theorem CW.Kz (hE : aL P M mod m L=0) {y : Lz} (h : CW P M mod m L y) : CW P M mod m L (dT (aa P M.toNat mod).ops y):=by
 obtain ⟨N',e,hm1,hm64,F,hR⟩:=ba hE
 obtain rfl : m=N':=by omega
 obtain ⟨h1,h2⟩:=iT h.1 h.2.2
 obtain ⟨h3,h4⟩:=jd F h1 h2
 exact h.Cr hE h3 h4
theorem zQ {O : aQ} {Q y : Lz} (hI : qp y.length Q) (s : Int) : aG Q (y.map (O.mul s))=(aG Q y).map (O.mul s):=by
 unfold aG
 rw [List.map_map]
 refine List.map_congr_left λq hq=>?_
 obtain ⟨j,hj,rfl⟩:=List.mem_iff_getElem.1 hq
 have h:=hI j hj
 rw [ai hj] at h
 exact iK O y s (by omega)
theorem DJ (hE : aL P M mod m L=0) {Q : Lz} (hQ : bF m Q=true) (hB : rh (aa P M.toNat mod).ops L Q=true) {l : Nat} {x : Lz} (hx : CW P M mod m L x) (hl : bw (aG Q x)=l+1) :
  ∃y ∈ ik (aa P M.toNat mod).ops (dn (aa P M.toNat mod).q) [1] (l+1) (cQ (aa P M.toNat mod).ops m L Q) (List.replicate m 0),dT (aa P M.toNat mod).ops y=dT (aa P M.toNat mod).ops x:=by
 obtain ⟨N',e,hm1,hm64,F,hR⟩:=ba hE
 obtain rfl : m=N':=by omega
 obtain ⟨hI,hql,hg⟩:=ju hQ hB
 have hc : Vc (aa P M.toNat mod).El Q.length (aG Q x):=⟨by simp [aG],λz hz=>by
  obtain ⟨j,hj,rfl⟩:=List.mem_iff_getElem.1 hz
  have hj2 : j<Q.length:=by simpa [aG] using hj
  have h8:=hI j hj2
  rw [<- ai hj,dx Q x hj2]
  exact hx.1.at (by omega)⟩
 have hc0 : bw (aG Q x) ≠ 0:=by omega
 obtain ⟨h1,h2⟩:=iT hc hc0
 obtain ⟨h3,h4⟩:=jd F h1 h2
 refine ⟨x.map ((aa P M.toNat mod).ops.mul ((aa P M.toNat mod).ops.inv (nth (aG Q x) (fnz (aG Q x))))),(mC hE hQ hB).2 ⟨hx.Cr hE h3 h4,?_,?_⟩,zw F h3 h4 hx.1 hx.2.2⟩
 ·rw [zQ (by rw [hx.1.1];exact hI),l6 F h3 h4 hc.2];exact hl
 ·rw [zQ (by rw [hx.1.1];exact hI)]
  exact AB F hc hc0
theorem jD {α β γ : Type} (f : γ->β->γ) (g : α->List β) : ∀(l : List α) (b : γ),l.foldl (λb a=>(g a).foldl f b) b=(l.flatMap g).foldl f b
 | [],_=>rfl
 | a :: l,b=>by rw [List.foldl_cons,jD f g l,List.flatMap_cons,List.foldl_append]
theorem Ft (hE : aL P M mod m L=0) (l : Nat) (b : Lz) :
  (nU (aa P M.toNat mod).ops (aa P M.toNat mod).q m (l+1) (gR P M mod m L) b=b\/∃y,CW P M mod m L y/\nU (aa P M.toNat mod).ops (aa P M.toNat mod).q m (l+1) (gR P M mod m L) b=dT (aa P M.toNat mod).ops y) /\
  (∀x,CW P M mod m L x->(∃t ∈ fu (aa P M.toNat mod).ops L m,bw (aG t.1 x)=l+1)->n8 (nU (aa P M.toNat mod).ops (aa P M.toNat mod).q m (l+1) (gR P M mod m L) b) (dT (aa P M.toNat mod).ops x)) /\
  (bw b ≠ 0->n8 (nU (aa P M.toNat mod).ops (aa P M.toNat mod).q m (l+1) (gR P M mod m L) b) b) /\
  (l+1<=L.length->bw (nU (aa P M.toNat mod).ops (aa P M.toNat mod).q m (l+1) (gR P M mod m L) b) ≠ 0):=by
 obtain ⟨N',e,hm1,hm64,F,hR⟩:=ba hE
 obtain rfl : m=N':=by omega
 have hall:=λt ht=>eH (fg hE).1 t ht
 unfold nU
 rw [jD]
 have hin : ∀y,y ∈ (gR P M mod m L).flatMap (λG=>ik (aa P M.toNat mod).ops (dn (aa P M.toNat mod).q) [1] (l+1) G (List.replicate m 0)) ↔
   ∃t ∈ fu (aa P M.toNat mod).ops L m,CW P M mod m L y/\bw (aG t.1 y)=l+1/\nth (aG t.1 y) (fnz (aG t.1 y))=1:=λy=>by
  rw [List.mem_flatMap]
  constructor
  ·rintro ⟨G,hG,hy⟩
   obtain ⟨t,ht,rfl⟩:=List.mem_map.1 hG
   exact ⟨t,ht,(mC hE (hall t ht).1 (hall t ht).2.1).1 hy⟩
  ·rintro ⟨t,ht,h⟩
   exact ⟨_,List.mem_map.2 ⟨t,ht,rfl⟩,(mC hE (hall t ht).1 (hall t ht).2.1).2 h⟩
 obtain ⟨a1,a2,a3,a4⟩:=vB F (m:=m) ((gR P M mod m L).flatMap λG=>ik (aa P M.toNat mod).ops (dn (aa P M.toNat mod).q) [1] (l+1) G (List.replicate m 0)) b λy hy=>by
  obtain ⟨t,_,h,_⟩:=(hin y).1 hy
  exact ⟨h.1,h.2.2⟩
 refine ⟨?_,?_,a3,λhlk=>a4 (.inl ?_)⟩
 ·rcases a1 with h | ⟨y,hy,h⟩
  ·exact .inl h
  ·obtain ⟨t,_,h2,_⟩:=(hin y).1 hy
   exact .inr ⟨y,h2,h⟩
 ·rintro x hx ⟨t,ht,h⟩
  obtain ⟨y,hy,h2⟩:=DJ hE (hall t ht).1 (hall t ht).2.1 hx h
  rw [<- h2]
  exact a2 y (List.mem_flatMap.2 ⟨_,List.mem_map.2 ⟨t,ht,rfl⟩,hy⟩)
 ·intro hnil
  obtain ⟨t,ht⟩:=List.exists_mem_of_ne_nil _ (sI hE (by omega))
  rw [List.flatMap_eq_nil_iff] at hnil
  have h2:=hnil _ (List.mem_map.2 ⟨t,ht,rfl⟩)
  obtain ⟨hI,hql,hg⟩:=ju (hall t ht).1 (hall t ht).2.1
  have h3:=oH (aa P M.toNat mod).ops (dn (aa P M.toNat mod).q) 1 l (cQ (aa P M.toNat mod).ops m L t.1) (List.replicate m 0)
  rw [h2,(jz hE hI hql hg).2.1,lE] at h3
  have h4:=kp L.length (l+1) hlk
  have hq : 1<=(aa P M.toNat mod).q - 1:=by have h5 : (1 : Int)<(aa P M.toNat mod).q:=F.one.2;omega
  have h6 : 0<chN L.length (l+1) * ((aa P M.toNat mod).q - 1) ^ l:=Nat.mul_pos h4 (Nat.pow_pos hq)
  simp at h3
  omega
def zr (P M : Int) (mod : Lz) (m : Nat) (L : Ll) (r : Lz) : Prop :=
 ∀x,CW P M mod m L x->((∃t ∈ fu (aa P M.toNat mod).ops L m,(bw (aG t.1 x) : Int)<=nth r 0)->nth r 2<=bw x)/\((∀t ∈ fu (aa P M.toNat mod).ops L m,nth r 0<(bw (aG t.1 x) : Int))->nth r 3<=bw x)
def tb (P M : Int) (mod : Lz) (m : Nat) (L : Ll) (b : Lz) : Prop:=CW P M mod m L b/\dT (aa P M.toNat mod).ops b=b
theorem EY (hE : aL P M mod m L=0) (hk : 1<=L.length) (hk64 : L.length<=64) : ∀(f w : Nat) (b : Lz) (n : Nat) (o : Ll),w+1+f=L.length+1->((w=0/\b=[])\/tb P M mod m L b) ->
  (∀x,CW P M mod m L x->(∃t ∈ fu (aa P M.toNat mod).ops L m,bw (aG t.1 x)<=w)->n8 b (dT (aa P M.toNat mod).ops x))->(∀r ∈ o,zr P M mod m L r) ->
  ∀ {o2 : Ll} {b2 : Lz} {e : Int},srS (aa P M.toNat mod).ops (aa P M.toNat mod).q m L.length (gR P M mod m L) ((fu (aa P M.toNat mod).ops L m).map (·.2)) f (w+1) b n o=(o2,b2,e) ->
  (e=8/\o2=[]/\b2=[])\/(e=0/\tb P M mod m L b2/\(∀x,CW P M mod m L x->n8 b2 (dT (aa P M.toNat mod).ops x))/\(∀r ∈ o2,zr P M mod m L r)/\o.length+(if f=0 then 0 else 1)<=o2.length)
 | 0,w,b,n,o,hw,hb,hs,ho,o2,b2,e,h=>by
  rw [srS] at h
  obtain ⟨rfl,rfl,rfl⟩ : o=o2/\b=b2/\0=e:=by simpa using h
  refine .inr ⟨rfl,hb.resolve_left (λh=>by omega),λx hx=>hs x hx ?_,ho,by simp⟩
  obtain ⟨t,ht⟩:=List.exists_mem_of_ne_nil _ (sI hE hk)
  refine ⟨t,ht,?_⟩
  have h1 : bw (aG t.1 x)<=(aG t.1 x).length:=List.countP_le_length
  have h2:=(kH.1 (eH (fg hE).1 t ht).2.1).1
  rw [show (aG t.1 x).length=t.1.length by simp [aG]] at h1
  omega
 | f+1,w,b,n,o,hw,hb,hs,ho,o2,b2,e,h=>by
  obtain ⟨N',e0,hm1,hm64,F,hR⟩:=ba hE
  obtain rfl : m=N':=by omega
  obtain ⟨a1,a2,a3,a4⟩:=Ft hE w b
  have a4:=a4 (by omega)
  rw [srS] at h
  by_cases hm : il (aa P M.toNat mod).q L.length (gR P M mod m L).length n (w+1)=true
  rotate_left
  ·rw [if_neg hm] at h
   obtain ⟨rfl,rfl,rfl⟩ : []=o2/\[]=b2/\8=e:=by simpa using h
   exact .inl ⟨rfl,rfl,rfl⟩
  rw [if_pos hm] at h
  clear hm
  obtain ⟨B,hB⟩ : ∃B,nU (aa P M.toNat mod).ops (aa P M.toNat mod).q m (w+1) (gR P M mod m L) b=B:=⟨_,rfl⟩
  obtain ⟨fl,hfl⟩ : ∃fl,flTo (L.length : Int) ((w+1 : Nat) : Int) ((fu (aa P M.toNat mod).ops L m).map (·.2)) ((fu (aa P M.toNat mod).ops L m).map (·.2)).length=fl:=⟨_,rfl⟩
  rw [hB,hfl] at h
  rw [hB] at a1 a2 a3 a4
  have hBk : tb P M mod m L B:=by
   rcases a1 with h1 | ⟨y,hy,h1⟩
   ·rcases hb with hb | hb
    ·rw [h1,hb.2] at a4;exact absurd su a4
    ·rw [h1];exact hb
   ·rw [h1];exact ⟨hy.Kz hE,Dv F hy.1 hy.2.2⟩
  have hseen : ∀x,CW P M mod m L x->(∃t ∈ fu (aa P M.toNat mod).ops L m,bw (aG t.1 x)<=w+1)->n8 B (dT (aa P M.toNat mod).ops x):=by
   rintro x hx ⟨t,ht,hle⟩
   by_cases e1 : bw (aG t.1 x)=w+1
   ·exact a2 x hx ⟨t,ht,e1⟩
   ·have hc:=Ce hE (eH (fg hE).1 t ht).1 (eH (fg hE).1 t ht).2.1 hx
    rcases hb with hb | hb
    ·omega
    ·exact (a3 hb.1.2.2).trans (hs x hx ⟨t,ht,by omega⟩)
  have hfloor : ∀x,CW P M mod m L x->(∀t ∈ fu (aa P M.toNat mod).ops L m,((w+1 : Nat) : Int)<(bw (aG t.1 x) : Int))->fl<=bw x:=λx hx hu=>by
   obtain ⟨f',h1,h2⟩:=DV hE hx.1.1 (v:=((w+1 : Nat) : Int)) (by omega) hk64 hu
   unfold uE at h1
   split at h1
   ·rw [hfl] at h1
    obtain ⟨rfl,_⟩ : fl=f'/\True:=by simpa using h1
    exact h2
   ·simp at h1
  have hro : ∀r ∈ o ++ [[((w+1 : Nat) : Int),((n+kZ (aa P M.toNat mod).q L.length (gR P M mod m L).length (w+1) : Nat) : Int),(bw B : Int),fl]],zr P M mod m L r:=λr hr=>by
   rcases List.mem_append.1 hr with hr | hr
   ·exact ho r hr
   ·rw [List.mem_singleton.1 hr]
    intro x hx
    refine ⟨?_,λhu=>hfloor x hx hu⟩
    rintro ⟨t,ht,hle⟩
    have hle2 : (bw (aG t.1 x) : Int)<=((w+1 : Nat) : Int):=hle
    have h1:=(hseen x hx ⟨t,ht,by omega⟩).wt
    rw [ki F hx.1 hx.2.2] at h1
    show (bw B : Int)<=bw x
    omega
  by_cases hst : fl > (bw B : Int)
  ·rw [if_pos hst] at h
   simp only [Prod.mk.injEq] at h
   obtain ⟨rfl,rfl,rfl⟩:=h
   refine .inr ⟨rfl,hBk,λx hx=>?_,hro,by simp⟩
   by_cases hx2 : ∃t ∈ fu (aa P M.toNat mod).ops L m,bw (aG t.1 x)<=w+1
   ·exact hseen x hx hx2
   ·have h1:=hfloor x hx λt ht=>by
     have : ¬ bw (aG t.1 x)<=w+1:=λh2=>hx2 ⟨t,ht,h2⟩
     omega
    left
    rw [ki F hx.1 hx.2.2]
    omega
  ·rw [if_neg hst] at h
   rcases EY hE hk hk64 f (w+1) B _ _ (by omega) (.inr hBk) hseen hro h with h1 | ⟨h1,h2,h3,h4,h5⟩
   ·exact .inl h1
   ·refine .inr ⟨h1,h2,h3,h4,?_⟩
    rw [List.length_append,List.length_singleton] at h5
    split at h5 <;> simp <;> omega
end
def bsN (x k : Nat) : Nat->Nat
 | 0=>0
 | w+1=>bsN x k w+chN k w * x ^ w
theorem yq (x k : Nat) : ∀w,bsN x (k+1) (w+1)=bsN x k (w+1)+x * bsN x k w
 | 0=>by simp [bsN,ie]
 | w+1=>by
  show bsN x (k+1) (w+1)+chN (k+1) (w+1) * x ^ (w+1)=(bsN x k (w+1)+chN k (w+1) * x ^ (w+1))+x * (bsN x k w+chN k w * x ^ w)
  have e : chN k w * x ^ (w+1)=x * (chN k w * x ^ w):=by rw [Nat.pow_succ];ac_rfl
  rw [yq x k w,Ag,Nat.add_mul,Nat.mul_add,e]
  omega
theorem xd (x : Nat) : ∀k w,bsN x k w<=(x+1) ^ k
 | 0,0=>by simp [bsN]
 | 0,1=>by simp [bsN,ie]
 | 0,w+2=>by
  have h:=xd x 0 (w+1)
  show bsN x 0 (w+1)+chN 0 (w+1) * x ^ (w+1)<=_
  rw [p6 0 (w+1) (by omega),Nat.zero_mul]
  exact h
 | k+1,0=>by simp [bsN]
 | k+1,w+1=>by
  rw [yq,Nat.pow_succ,Nat.mul_add,Nat.mul_one]
  have h1:=xd x k (w+1)
  have h2:=Nat.mul_le_mul_left x (xd x k w)
  rw [Nat.mul_comm x ((x+1) ^ k)] at h2
  omega
theorem zJ (O : aQ) {q m k : Nat} {sys : List Ll} (rks : Lz) (hq : 2<=q) (hs : sys.length * q ^ k<=65536) (hs1 : 1<=sys.length) : ∀(f w : Nat) (b : Lz) (n : Nat) (o : Ll),w+f=k->n<=sys.length * bsN (q - 1) k (w+1) ->
  (srS O q m k sys rks f (w+1) b n o).2.2=0
 | 0,_,_,_,_,_,_=>rfl
 | f+1,w,b,n,o,hw,hn=>by
  obtain ⟨x,hx⟩ : ∃x,q - 1=x+1:=⟨q - 2,by omega⟩
  have hle : bsN (q - 1) k (w+2)<=q ^ k:=by
   have h:=xd (q - 1) k (w+2)
   rwa [show q - 1+1=q by omega] at h
  have hbs : bsN (q - 1) k (w+2)=bsN (q - 1) k (w+1)+chN k (w+1) * (q - 1) ^ (w+1):=rfl
  have hC:=kp k (w+1) (by omega)
  have hX : 1<=(q - 1) ^ (w+1):=Nat.pow_pos (by omega)
  have h1 : chN k (w+1)<=chN k (w+1) * (q - 1) ^ (w+1):=Nat.le_mul_of_pos_right _ hX
  have h2 : (q - 1) ^ (w+1)<=chN k (w+1) * (q - 1) ^ (w+1):=Nat.le_mul_of_pos_left _ hC
  have h3 : (q - 1) ^ w<=(q - 1) ^ (w+1):=Nat.pow_le_pow_right (by omega) (by omega)
  have h4 : q ^ k<=sys.length * q ^ k:=Nat.le_mul_of_pos_left _ hs1
  have h5 : kZ q k sys.length (w+1)<=sys.length * (chN k (w+1) * (q - 1) ^ (w+1)):=by
   unfold kZ
   rw [Nat.add_sub_cancel]
   exact Nat.mul_le_mul_left _ (Nat.mul_le_mul_left _ h3)
  have h6 : sys.length * bsN (q - 1) k (w+2)<=sys.length * q ^ k:=Nat.mul_le_mul_left _ hle
  have h7 : sys.length * bsN (q - 1) k (w+2)=sys.length * bsN (q - 1) k (w+1)+sys.length * (chN k (w+1) * (q - 1) ^ (w+1)):=by rw [hbs,Nat.mul_add]
  have hm : il q k sys.length n (w+1)=true:=by
   unfold il
   simp only [Bool.and_eq_true,decide_eq_true_eq]
   rw [Nat.add_sub_cancel]
   refine ⟨⟨?_,?_⟩,?_⟩ <;> omega
  rw [srS,if_pos hm]
  split
  ·rfl
  ·exact zJ O rks hq hs hs1 f (w+1) _ _ _ (by omega) (by rw [h7];omega)
section
variable {P M : Int} {mod : Lz} {m : Nat} {L : Ll}
theorem Gt (hE : aL P M mod m L=0) (hk : 1<=L.length) : 1<=(gR P M mod m L).length/\(gR P M mod m L).length<=m:=by
 unfold gR
 rw [List.length_map]
 refine ⟨?_,(fg hE).2⟩
 exact List.length_pos_iff.2 (sI hE hk)
theorem HY (hE : aL P M mod m L=0) (hk : 1<=L.length) : dq P M mod m L=([],[],8)\/∃o b,dq P M mod m L=(o,b,0)/\tb P M mod m L b/\(∀x,CW P M mod m L x->n8 b (dT (aa P M.toNat mod).ops x))/\(∀r ∈ o,zr P M mod m L r)/\1<=o.length:=by
 obtain ⟨N',e,hm1,hm64,F,hR⟩:=ba hE
 obtain rfl : m=N':=by omega
 have hkm:=kt hE
 obtain ⟨⟨o,b,er⟩,hr⟩ : ∃r,dq P M mod m L=r:=⟨_,rfl⟩
 have hr2:=hr
 unfold dq at hr2
 rw [if_neg (by rw [hE];decide),if_neg (by omega),Int.toNat_natCast] at hr2
 rcases EY hE hk (by omega) L.length 0 [] 0 [] (by omega) (.inl ⟨rfl,rfl⟩) (λx hx ht=>by
  obtain ⟨t,ht,h0⟩:=ht
  have hc:=eH (fg hE).1 t ht
  exact absurd (Nat.le_zero.1 h0) (Ce hE hc.1 hc.2.1 hx)) (by simp) hr2 with ⟨rfl,rfl,rfl⟩ | ⟨rfl,h2,h3,h4,h5⟩
 ·exact .inl hr
 ·refine .inr ⟨o,b,hr,h2,h3,h4,?_⟩
  rw [if_neg (by omega)] at h5
  simpa using h5
theorem F2 (hE : aL P M mod m L=0) (hk : 1<=L.length) (hf : m * (aa P M.toNat mod).q ^ L.length<=65536) : ∃o b,dq P M mod m L=(o,b,0)/\tb P M mod m L b/\(∀x,CW P M mod m L x->n8 b (dT (aa P M.toNat mod).ops x))/\(∀r ∈ o,zr P M mod m L r)/\1<=o.length:=by
 obtain ⟨N',e,hm1,hm64,F,hR⟩:=ba hE
 obtain rfl : m=N':=by omega
 obtain ⟨h1,h2⟩:=Gt hE hk
 have h0 : (dq P M mod m L).2.2=0:=by
  unfold dq
  rw [if_neg (by rw [hE];decide),if_neg (by omega),Int.toNat_natCast]
  have hq : (1 : Int)<(aa P M.toNat mod).q:=F.one.2
  exact zJ _ _ (by omega) (Nat.le_trans (Nat.mul_le_mul_right _ h2) hf) h1 L.length 0 [] 0 [] (by omega) (Nat.zero_le _)
 rcases HY hE hk with h | h
 ·rw [h] at h0;cases h0
 ·exact h
theorem FL (hE : aL P M mod m L=0) {b : Lz} (h : ∀x,CW P M mod m L x->n8 b (dT (aa P M.toNat mod).ops x)) {x : Lz} (hx : CW P M mod m L x) : bw b<=bw x:=by
 obtain ⟨N',e,hm1,hm64,F,hR⟩:=ba hE
 obtain rfl : m=N':=by omega
 have h1:=(h x hx).wt
 rwa [ki F hx.1 hx.2.2] at h1
end
theorem rH (P M : Int) (am : OA) (mn cm : Nat) (mod : Lz) (m : Nat) (a : OA) (n c : Nat) (L : Ll) (ra : OA) (rn rc : Nat) (S : Lz) (w : World) (hmod : Ints w am mn mod) (hi : bZ w a n L) (hS : Ints w ra rn S)
  (hE : aL P M mod m L=0) (hq1 : 1<=(frTo false S m).length) (hf : dM P M mod (frTo false S m).length (L.map (aG (frTo false S m)))=0) (hmn : mn<=1000000) :
  Calls Tryz.prog 82 #[.agg #[.int .i64 P,.int .i64 M,.slice am mn cm],.agg #[.int .i64 m,.slice a n c],.slice ra rn rc] w (fN P M mod (frTo false S m).length (L.map (aG (frTo false S m))) w):=by
 obtain ⟨N',e,hm1,hm64,F,hR⟩:=ba hE
 obtain rfl : m=N':=by omega
 have hQl:=eQ false S m
 have hQi : qp m (frTo false S m):=λj hj=>by
  obtain ⟨k,hk,e,_⟩:=(cJ m).1 (aN hj)
  omega
 have HRest:=Z5 (λV (hV : Below w.heap.size w V)=>rM ra rn rc S m V (hS.ah hV) hm64)
 have HCol:=Z5 (λV ao co (hV : Below w.heap.size w V) hq=>mE P M am mn cm mod m a n c L ao (frTo false S m).length co (frTo false S m) V (hmod.ah hV) (hi.ah hV) hq hE hQi (by omega))
 have HNew:=Z5 (λV a1 c1 (hV : Below w.heap.size w V) h1=>rz P M am mn cm mod (frTo false S m).length a1 n c1 (L.map (aG (frTo false S m))) V (hmod.ah hV) h1 hf hq1 (by omega) hmn)
 obtain ⟨LQ,hLQ⟩ : ∃LQ,L.map (aG (frTo false S m))=LQ:=⟨_,rfl⟩
 obtain ⟨Q,hQ⟩ : ∃Q,frTo false S m=Q:=⟨_,rfl⟩
 obtain ⟨mq,hmq⟩ : ∃mq,Q.length=mq:=⟨_,rfl⟩
 unfold um at HCol
 unfold cC at HRest
 rw [hLQ,hQ] at HNew
 rw [hLQ,hQ] at HCol
 rw [hQ] at HRest
 rw [hLQ,hQ]
 rw [hmq] at HNew HCol HRest
 rw [hmq]
 have Hmq:=Z5 hmq
 clear hmod hi hS hE hq1 hf hQl hQi hLQ hQ hmq e F hR
 go_enter Tryz.func82,Tryz.ntmps82
 go_upto_region 1 with fail
 obtain ⟨W,hW⟩ : ∃W : World,W=((w.alloc (.cells #[.int .i64 P,.int .i64 M,.slice am mn cm] 24)).alloc (.cells #[.int .i64 m,.slice a n c] 82)).alloc (.cells #[.int .i64 0,.int .i64 0,.slice none 0 0,.int .i64 0,.slice none 0 0] 27):=⟨_,rfl⟩
 rw [<- hW]
 have hbW : Below w.heap.size w W:=by rw [hW];exact kO _ _ _ _
 have hsW : W.heap.size=w.heap.size+3:=by rw [hW];simp
 have x0 : aV W w.heap.size [.int .i64 P,.int .i64 M,.slice am mn cm]:=by rw [hW];exact ((aV.new _ _ _ rfl).alloc _).alloc _
 have y0 : aV W (w.heap.size+1) [.int .i64 m,.slice a n c]:=by rw [hW];exact (aV.new _ _ _ (by simp)).alloc _
 have z0 : aV W (w.heap.size+1+1) [.int .i64 0,.int .i64 0,.slice none 0 0,.int .i64 0,.slice none 0 0]:=by rw [hW];exact aV.new _ _ _ (by simp)
 clear hW
 have HS : Hid (∀V,Below W.heap.size W V->V.cell? ⟨w.heap.size,0,none⟩=some (.int .i64 P)/\V.cell? ⟨w.heap.size,1,none⟩=some (.int .i64 M)/\V.cell? ⟨w.heap.size,2,none⟩=some (.slice am mn cm)/\V.cell? ⟨w.heap.size+1,0,none⟩=some (.int .i64 m)/\V.cell? ⟨w.heap.size+1,1,none⟩=some (.slice a n c) /\
   V.frozen? ⟨w.heap.size+1,0,none⟩=false/\V.frozen? ⟨w.heap.size+1,1,none⟩=false):=λV hV=>by
  have x1:=x0.ah hV
  have y1:=y0.ah hV
  exact ⟨x1.cell 0 rfl,x1.cell 1 rfl,x1.cell 2 rfl,y1.cell 0 rfl,y1.cell 1 rfl,y1.frozen 0,y1.frozen 1⟩
 have HB:=Z5 (And.intro x0 (And.intro y0 (And.intro z0 (And.intro hbW hsW))))
 obtain ⟨c0,c1,c2,c3,c4,f3,f4⟩:=HS.out W (Below.refl _ _)
 clear x0 y0 z0 hbW hsW
 go_cut [8] (λv8 wx=>v8 = .int .i64 0/\∃V a1 c1,Below W.heap.size W V/\bN W.heap.size V a1 n LQ/\wx=(V.setCell ⟨w.heap.size+1,0,none⟩ (.int .i64 mq)).setCell ⟨w.heap.size+1,1,none⟩ (.slice a1 n c1))
 case first =>
  go_region_law ((first
   | (go_simp;go_at_call 85;((with_reducible refine (HRest.out _ (by first | exact HB.out.2.2.2.1 | exact HB.out.2.2.2.1.drew)).mono ?_);rintro e w4 ⟨a4,c4',rfl,hI4,hb4⟩;obtain ⟨d0,d1,d2,d3,d4,g3,g4⟩:=HS.out w4 (by first | exact hb4 | exact Below.next (Below.refl _ _).drew hb4)))
   | (go_simp;go_at_call 155;((with_reducible refine (HCol.out _ a4 c4' (by first | exact Below.next HB.out.2.2.2.1 hb4 | exact Below.next HB.out.2.2.2.1.drew hb4) (Ints.own hI4).1).mono ?_);rintro e w5 ⟨a5,c5,rfl,hM5,hb5⟩;obtain ⟨e0,e1,e2,e3,e4,k3,k4⟩:=HS.out w5 (by first | exact Below.next hb4 hb5 | exact Below.next (Below.next (Below.refl _ _).drew hb4) hb5)))))
  all_goals (
   go_wp2_with fail
   go_meet
   exact ⟨rfl,w5,a5,c5,by first | exact Below.next hb4 hb5 | exact Below.next (Below.next (Below.refl _ _).drew hb4) hb5,hM5.mono hb4.size,rfl⟩)
 clear c0 c1 c2 c3 c4 f3 f4
 obtain ⟨rfl,V,a1,k1,hbV,hM,rfl⟩:=hcut
 obtain ⟨x0,y0,z0,hbW,hsW⟩:=HB.out
 have hsV:=hbV.size
 have xV:=((x0.ah hbV).other (g:=w.heap.size+1) (i:=0) (.int .i64 mq) (by omega)).other (g:=w.heap.size+1) (i:=1) (.slice a1 n k1) (by omega)
 have zV:=((z0.ah hbV).other (g:=w.heap.size+1) (i:=0) (.int .i64 mq) (by omega)).other (g:=w.heap.size+1) (i:=1) (.slice a1 n k1) (by omega)
 have yV:=((y0.ah hbV).gk 0 (.int .i64 mq)).gk 1 (.slice a1 n k1)
 have hbX : Below w.heap.size w ((V.setCell ⟨w.heap.size+1,0,none⟩ (.int .i64 mq)).setCell ⟨w.heap.size+1,1,none⟩ (.slice a1 n k1)):=((Below.next hbW hbV).setCell (p:=⟨w.heap.size+1,0,none⟩) (by simp) _).setCell (p:=⟨w.heap.size+1,1,none⟩) (by simp) _
 have hMX:=(hM.setCell (p:=⟨w.heap.size+1,0,none⟩) (by simp;omega) (.int .i64 mq)).setCell (p:=⟨w.heap.size+1,1,none⟩) (by simp;omega) (.slice a1 n k1)
 obtain ⟨X,hX⟩ : ∃X,(V.setCell ⟨w.heap.size+1,0,none⟩ (.int .i64 mq)).setCell ⟨w.heap.size+1,1,none⟩ (.slice a1 n k1)=X:=⟨_,rfl⟩
 rw [hX] at xV zV yV hbX hMX ⊢
 have hszX : W.heap.size<=X.heap.size:=by rw [<- hX];simp [World.setCell];omega
 have c0:=xV.cell 0 rfl
 have c1:=xV.cell 1 rfl
 have c2:=xV.cell 2 rfl
 have c3:=yV.cell 0 rfl
 have c4:=yV.cell 1 rfl
 have Hnw:=Z5 (HNew.out X a1 k1 hbX hMX.kK)
 have HzV:=Z5 zV
 have HbX:=Z5 hbX
 have HsW:=Z5 (And.intro hsW hszX)
 clear hX xV zV yV hbX hMX hM hbV hsV x0 y0 z0 hbW hsW hszX
 go_wp2_with fail
 refine Hnw.out.mono ?_
 rintro e w6 ⟨a6,k6,a7,k7,rfl,h6,h7,hb6⟩
 have zz:=HzV.out.ah hb6
 have z0:=zz.cell 0 rfl
 have z1:=zz.cell 1 rfl
 have z2:=zz.cell 2 rfl
 have z3:=zz.cell 3 rfl
 have z4:=zz.cell 4 rfl
 have f0:=zz.frozen 0
 have f1:=zz.frozen 1
 have f2:=zz.frozen 2
 have f3:=zz.frozen 3
 have f4:=zz.frozen 4
 obtain ⟨KM,hKM⟩ : ∃KM,dr (aa P M.toNat mod) LQ mq=KM:=⟨_,rfl⟩
 rw [hKM] at h7 ⊢
 obtain ⟨q,hq⟩ : ∃q,KM.length=q:=⟨_,rfl⟩
 obtain ⟨nm,hnm⟩ : ∃nm,mod.length=nm:=⟨_,rfl⟩
 have hbF:=Below.next HbX.out hb6
 obtain ⟨hs,hs2⟩:=HsW.out
 have hFin : fN P M mod mq LQ w (.returned (.tuple #[.agg #[.int .i64 P,.int .i64 M,.slice a6 mod.length k6,.int .i64 mq,.slice a7 KM.length k7],.int .i64 0]))
   (((((w6.setCell ⟨w.heap.size+1+1,0,none⟩ (.int .i64 P)).setCell ⟨w.heap.size+1+1,1,none⟩ (.int .i64 M)).setCell ⟨w.heap.size+1+1,2,none⟩ (.slice a6 mod.length k6)).setCell ⟨w.heap.size+1+1,3,none⟩ (.int .i64 mq)).setCell ⟨w.heap.size+1+1,4,none⟩ (.slice a7 KM.length k7)):=by
  refine ⟨a6,k6,a7,k7,by rw [hKM],?_,?_,?_⟩
  ·exact ((((((h6.setCell (p:=⟨w.heap.size+1+1,0,none⟩) (by simp;omega) _).setCell (p:=⟨w.heap.size+1+1,1,none⟩) (by simp;omega) _).setCell (p:=⟨w.heap.size+1+1,2,none⟩) (by simp;omega) _).setCell (p:=⟨w.heap.size+1+1,3,none⟩) (by simp;omega) _).setCell (p:=⟨w.heap.size+1+1,4,none⟩) (by simp;omega) _).mono (by omega))
  ·rw [hKM]
   exact ((((((h7.setCell (p:=⟨w.heap.size+1+1,0,none⟩) (by simp;omega) _).setCell (p:=⟨w.heap.size+1+1,1,none⟩) (by simp;omega) _).setCell (p:=⟨w.heap.size+1+1,2,none⟩) (by simp;omega) _).setCell (p:=⟨w.heap.size+1+1,3,none⟩) (by simp;omega) _).setCell (p:=⟨w.heap.size+1+1,4,none⟩) (by simp;omega) _).mono (by omega))
  ·exact (((((hbF.setCell (p:=⟨w.heap.size+1+1,0,none⟩) (by simp;omega) _).setCell (p:=⟨w.heap.size+1+1,1,none⟩) (by simp;omega) _).setCell (p:=⟨w.heap.size+1+1,2,none⟩) (by simp;omega) _).setCell (p:=⟨w.heap.size+1+1,3,none⟩) (by simp;omega) _).setCell (p:=⟨w.heap.size+1+1,4,none⟩) (by simp;omega) _)
 rw [hq,hnm] at hFin ⊢
 have HFin:=Z5 hFin
 clear hFin h6 h7 zz c0 c1 c2 c3 c4 hs hs2 hq hnm hKM
 go_wp2_with fail
 exact bodyPost_ret (v:=.tuple #[.agg #[.int .i64 P,.int .i64 M,.slice a6 nm k6,.int .i64 mq,.slice a7 q k7],.int .i64 0]) (by simp [results,Tryz.results82,go_sem,z0,z1,z2,z3,z4]) rfl HFin.out
theorem te {P M : Int} {mod : Lz} {mq : Nat} {LQ KM : Ll} {w w6 : World} {g B : Nat} {a6 a7 : OA} {k6 k7 nm q : Nat} (hg : w.heap.size<=g) (hB : g<B) (hb : Below w.heap.size w w6) (h6 : dj B w6 a6 nm mod) (h7 : bN B w6 a7 q KM)
  (hKM : dr (aa P M.toNat mod) LQ mq=KM) (hq : KM.length=q) (hnm : mod.length=nm) : fN P M mod mq LQ w (.returned (.tuple #[.agg #[.int .i64 P,.int .i64 M,.slice a6 nm k6,.int .i64 mq,.slice a7 q k7],.int .i64 0]))
   (((((w6.setCell ⟨g,0,none⟩ (.int .i64 P)).setCell ⟨g,1,none⟩ (.int .i64 M)).setCell ⟨g,2,none⟩ (.slice a6 nm k6)).setCell ⟨g,3,none⟩ (.int .i64 mq)).setCell ⟨g,4,none⟩ (.slice a7 q k7)):=by
 subst hq hnm
 refine ⟨a6,k6,a7,k7,by rw [hKM],?_,?_,?_⟩
 ·exact ((((((h6.setCell (p:=⟨g,0,none⟩) hB _).setCell (p:=⟨g,1,none⟩) hB _).setCell (p:=⟨g,2,none⟩) hB _).setCell (p:=⟨g,3,none⟩) hB _).setCell (p:=⟨g,4,none⟩) hB _).mono (by omega))
 ·rw [hKM]
  exact ((((((h7.setCell (p:=⟨g,0,none⟩) hB _).setCell (p:=⟨g,1,none⟩) hB _).setCell (p:=⟨g,2,none⟩) hB _).setCell (p:=⟨g,3,none⟩) hB _).setCell (p:=⟨g,4,none⟩) hB _).mono (by omega))
 ·exact (((((hb.setCell (p:=⟨g,0,none⟩) hg _).setCell (p:=⟨g,1,none⟩) hg _).setCell (p:=⟨g,2,none⟩) hg _).setCell (p:=⟨g,3,none⟩) hg _).setCell (p:=⟨g,4,none⟩) hg _)
theorem xo (P M : Int) (am : OA) (mn cm : Nat) (mod : Lz) (m : Nat) (a : OA) (n c : Nat) (L : Ll) (ra : OA) (rn rc : Nat) (S : Lz) (w : World) (hmod : Ints w am mn mod) (hi : bZ w a n L) (hS : Ints w ra rn S)
  (hE : aL P M mod m L=0) (hok : bF m S=true) (hlt : rn<m) (hq1 : 1<=(frTo false S m).length) (hf : dM P M mod (frTo false S m).length (L.map (aG (frTo false S m)))=0) (hmn : mn<=1000000) :
  Calls Tryz.prog 39 #[.agg #[.int .i64 P,.int .i64 M,.slice am mn cm,.int .i64 m,.slice a n c],.slice ra rn rc] w (fN P M mod (frTo false S m).length (L.map (aG (frTo false S m))) w):=by
 have HPos:=Z5 (λV (hV : Below w.heap.size w V)=>uo P M am mn cm mod m a n c L ra rn rc S V (hmod.ah hV) (hi.ah hV) (hS.ah hV) hE hok hlt)
 have HKp:=Z5 (λV (hV : Below w.heap.size w V)=>rH P M am mn cm mod m a n c L ra rn rc S V (hmod.ah hV) (hi.ah hV) (hS.ah hV) hE hq1 hf hmn)
 obtain ⟨LQ,hLQ⟩ : ∃LQ,L.map (aG (frTo false S m))=LQ:=⟨_,rfl⟩
 obtain ⟨mq,hmq⟩ : ∃mq,(frTo false S m).length=mq:=⟨_,rfl⟩
 rw [hLQ,hmq] at HKp
 rw [hLQ,hmq]
 unfold fN at HKp
 obtain ⟨KM,hKM⟩ : ∃KM,dr (aa P M.toNat mod) LQ mq=KM:=⟨_,rfl⟩
 obtain ⟨q,hq⟩ : ∃q,KM.length=q:=⟨_,rfl⟩
 obtain ⟨nm,hnm⟩ : ∃nm,mod.length=nm:=⟨_,rfl⟩
 rw [hKM,hq,hnm] at HKp
 have HKM:=Z5 (And.intro hKM (And.intro hq hnm))
 clear hmod hi hS hE hok hlt hq1 hf hLQ hmq hKM hq hnm
 go_enter Tryz.func39,Tryz.ntmps39
 go_upto_region 1 with fail
 obtain ⟨W,hW⟩ : ∃W : World,W=(w.alloc (.cells #[.int .i64 P,.int .i64 M,.slice am mn cm,.int .i64 m,.slice a n c] 27)).alloc (.cells #[.int .i64 0,.int .i64 0,.slice none 0 0,.int .i64 0,.slice none 0 0] 27):=⟨_,rfl⟩
 rw [<- hW]
 have hbW : Below w.heap.size w W:=by rw [hW];exact dH _ _ _
 have hsW : W.heap.size=w.heap.size+2:=by rw [hW];simp
 have x0 : aV W w.heap.size [.int .i64 P,.int .i64 M,.slice am mn cm,.int .i64 m,.slice a n c]:=by rw [hW];exact (aV.new _ _ _ rfl).alloc _
 have z0 : aV W (w.heap.size+1) [.int .i64 0,.int .i64 0,.slice none 0 0,.int .i64 0,.slice none 0 0]:=by rw [hW];exact aV.new _ _ _ (by simp)
 clear hW
 have HS : Hid (∀V,Below W.heap.size W V->V.cell? ⟨w.heap.size,0,none⟩=some (.int .i64 P)/\V.cell? ⟨w.heap.size,1,none⟩=some (.int .i64 M)/\V.cell? ⟨w.heap.size,2,none⟩=some (.slice am mn cm)/\V.cell? ⟨w.heap.size,3,none⟩=some (.int .i64 m)/\V.cell? ⟨w.heap.size,4,none⟩=some (.slice a n c)):=λV hV=>by
  have x1:=x0.ah hV
  exact ⟨x1.cell 0 rfl,x1.cell 1 rfl,x1.cell 2 rfl,x1.cell 3 rfl,x1.cell 4 rfl⟩
 have HZ : Hid (∀V,Below W.heap.size W V->V.cell? ⟨w.heap.size+1,0,none⟩=some (.int .i64 0)/\V.cell? ⟨w.heap.size+1,1,none⟩=some (.int .i64 0)/\V.cell? ⟨w.heap.size+1,2,none⟩=some (.slice none 0 0)/\V.cell? ⟨w.heap.size+1,3,none⟩=some (.int .i64 0)/\V.cell? ⟨w.heap.size+1,4,none⟩=some (.slice none 0 0) /\
   V.frozen? ⟨w.heap.size+1,0,none⟩=false/\V.frozen? ⟨w.heap.size+1,1,none⟩=false/\V.frozen? ⟨w.heap.size+1,2,none⟩=false/\V.frozen? ⟨w.heap.size+1,3,none⟩=false/\V.frozen? ⟨w.heap.size+1,4,none⟩=false):=λV hV=>by
  have x1:=z0.ah hV
  exact ⟨x1.cell 0 rfl,x1.cell 1 rfl,x1.cell 2 rfl,x1.cell 3 rfl,x1.cell 4 rfl,x1.frozen 0,x1.frozen 1,x1.frozen 2,x1.frozen 3,x1.frozen 4⟩
 have HbW:=Z5 hbW
 have HsW:=Z5 hsW
 clear x0 z0 hbW hsW
 obtain ⟨c0,c1,c2,c3,c4⟩:=HS.out W (Below.refl _ _)
 go_wp2_with fail
 refine (HPos.out W HbW.out).mono ?_
 rintro e w1 ⟨rfl,hb1⟩
 clear c0 c1 c2 c3 c4 HPos
 obtain ⟨c0,c1,c2,c3,c4⟩:=HS.out w1 hb1
 go_upto_region 4 with fail
 go_region_law ((first
  | (go_simp;go_at_call 83;((with_reducible refine (uC P M am mn cm m a n c _).mono ?_);rintro e w2 ⟨rfl,hb2⟩;obtain ⟨d0,d1,d2,d3,d4⟩:=HS.out w2 (by first | exact Below.next hb1 hb2 | exact Below.next hb1.drew hb2)))
  | (go_simp;go_at_call 82;((with_reducible refine (HKp.out _ (by first | exact Below.next HbW.out (Below.next hb1 hb2) | exact Below.next HbW.out (Below.next hb1.drew hb2) | exact Below.next HbW.out (Below.next hb1.drew hb2).drew | exact Below.next HbW.out (Below.next hb1 hb2).drew)).mono ?_);rintro e w6 ⟨a6,k6,a7,k7,rfl,h6,h7,hb6⟩;have hb6W : Below W.heap.size W w6:=(by first | exact Below.next (Below.next hb1 hb2) hb6 | exact Below.next (Below.next hb1.drew hb2) hb6 | exact Below.next (Below.next hb1.drew hb2).drew hb6 | exact Below.next (Below.next hb1 hb2).drew hb6);have hs6 : W.heap.size<=w2.heap.size:=(by first | exact (Below.next hb1 hb2).size | exact (Below.next hb1.drew hb2).size);obtain ⟨z0,z1,z2,z3,z4,f0,f1,f2,f3,f4⟩:=HZ.out w6 hb6W))))
 all_goals (
  have hFin:=te (P:=P) (M:=M) (LQ:=LQ) (w:=w) (g:=w.heap.size+1) (k6:=k6) (k7:=k7) (by omega) (by have:=HsW.out;first | omega | (show _<w2.heap.size;omega)) (Below.next HbW.out hb6W) h6 h7 HKM.out.1 HKM.out.2.1 HKM.out.2.2
  have HFin:=Z5 hFin
  clear hFin h6 h7
  go_wp2_with fail
  exact bodyPost_ret (v:=.tuple #[.agg #[.int .i64 P,.int .i64 M,.slice a6 nm k6,.int .i64 mq,.slice a7 q k7],.int .i64 0]) (by simp [results,Tryz.results39,go_sem,z0,z1,z2,z3,z4]) rfl HFin.out)
section
variable {P M : Int} {mod : Lz} {m : Nat} {L : Ll}
theorem Ga (hE : aL P M mod m L=0) {v : Lz} (hl : v.length=L.length) (hv : ∀k,k<L.length->(aa P M.toNat mod).El (nth v k)) (h0 : bw v ≠ 0) : CW P M mod m L (bj (aa P M.toNat mod).ops m v L L.length):=by
 obtain ⟨N',e,hm1,hm64,F,hR⟩:=ba hE
 obtain rfl : m=N':=by omega
 obtain ⟨c1,c2⟩:=dO F hR hv L.length (Nat.le_refl _)
 refine ⟨c1,c2,λhz=>h0 (uz.2 λk hk=>?_)⟩
 obtain ⟨p,hp,hpl⟩:=Ez hE
 have hpk:=hp.lt k (by omega)
 rw [<- Il hE hp hpl hv (by omega : k<L.length)]
 exact uz.1 hz _ (by rw [c1.1];omega)
theorem Jl (hE : aL P M mod m L=0) {x : Lz} (hx : CW P M mod m L x) : ∃v : Lz,v.length=L.length/\(∀k,k<L.length->(aa P M.toNat mod).El (nth v k))/\x=bj (aa P M.toNat mod).ops m v L L.length/\bw v ≠ 0:=by
 obtain ⟨N',e,hm1,hm64,F,hR⟩:=ba hE
 obtain rfl : m=N':=by omega
 obtain ⟨v,hv,h2⟩:=RS.IZ F hR hx.2.1
 have hve : ∀k,k<L.length->(aa P M.toNat mod).El (nth v k):=λk hk=>hv.at hk
 have c1:=(dO F hR hve L.length (Nat.le_refl _)).1
 have hxe : x=bj (aa P M.toNat mod).ops m v L L.length:=et (by rw [hx.1.1,c1.1]) λi hi=>h2 i (by rw [<- hx.1.1];exact hi)
 refine ⟨v,hv.1,hve,hxe,λh0=>hx.2.2 ?_⟩
 rw [hxe,pN _ _ (dk.1 h0) _ (by rw [hv.1];exact Nat.le_refl _)]
 exact dk.2 s8
end
theorem CL (y : Lz) (i : Nat) : ∀k,k<=y.length->bw (y.take k)=bw (aG (frTo false [(i : Int)] k) y)+(if i<k/\nth y i ≠ 0 then 1 else 0)
 | 0,_=>by simp [frTo,aG,bw]
 | k+1,hk=>by
  have ih:=CL y i k (by omega)
  have hst : bw (y.take (k+1))=bw (y.take k)+(if nth y k ≠ 0 then 1 else 0):=by
   unfold bw
   rw [List.take_succ_eq_append_getElem (by omega),List.countP_append,List.countP_singleton,ai (show k<y.length by omega)]
   simp
  rw [hst,ih]
  by_cases hki : k=i
  ·subst hki
   have e3 : frTo false [(k : Int)] (k+1)=frTo false [(k : Int)] k:=by rw [frTo,if_neg (by simp)]
   rw [e3,if_neg (λh=>by omega)]
   by_cases h0 : nth y k=0
   ·simp [h0]
   ·simp [h0]
  ·have e3 : frTo false [(i : Int)] (k+1)=frTo false [(i : Int)] k ++ [(k : Int)]:=by rw [frTo,if_pos (by simp;omega)]
   have e : bw (aG (frTo false [(i : Int)] k ++ [(k : Int)]) y)=bw (aG (frTo false [(i : Int)] k) y)+(if nth y k ≠ 0 then 1 else 0):=by
    unfold aG bw
    rw [List.map_append,List.countP_append]
    simp [List.countP_singleton]
   rw [e3,e]
   by_cases h1 : i<k
   ·by_cases h0 : nth y i=0
    ·rw [if_neg (λh : i<k/\nth y i ≠ 0=>h.2 h0),if_neg (λh : i<k+1/\nth y i ≠ 0=>h.2 h0)];omega
    ·rw [if_pos (show i<k/\nth y i ≠ 0 from ⟨h1,h0⟩),if_pos (show i<k+1/\nth y i ≠ 0 from ⟨by omega,h0⟩)];omega
   ·rw [if_neg (λh : i<k/\nth y i ≠ 0=>h1 h.1),if_neg (λh : i<k+1/\nth y i ≠ 0=>by omega)];omega
theorem tj {y : Lz} {m i : Nat} (h : y.length=m) : bw y=bw (aG (frTo false [(i : Int)] m) y)+(if i<m/\nth y i ≠ 0 then 1 else 0):=by
 have:=CL y i m (by omega)
 rwa [List.take_of_length_le (by omega)] at this
theorem qh {m i : Nat} (hi : i<m) : (frTo false [(i : Int)] m).length=m - 1:=by
 have h:=pd [(i : Int)] m
 have h2 : (frTo true [(i : Int)] m).length=1:=by
  have e : frTo true [(i : Int)] m=[(i : Int)]:=FW ⟨by simp,λx hx=>by rw [List.mem_singleton] at hx;omega⟩
  rw [e];rfl
 omega
section
variable {P M : Int} {mod : Lz} {m : Nat} {L : Ll}
def na (P M : Int) (mod : Lz) (m : Nat) (L : Ll) (d : Nat) : Prop:=(∀x,CW P M mod m L x->d<=bw x)/\∃x,CW P M mod m L x/\bw x=d
theorem oZ (hE : aL P M mod m L=0) (hk : 1<=L.length) (hf : m * (aa P M.toNat mod).q ^ L.length<=65536) : ∃o b,dq P M mod m L=(o,b,0)/\na P M mod m L (bw b):=by
 obtain ⟨o,b,h1,h2,h3,_,_⟩:=F2 hE hk hf
 exact ⟨o,b,h1,λx hx=>FL hE h3 hx,b,h2.1,rfl⟩
theorem oT {m' : Nat} {D0 : Ll} (hfB : bA P M mod=true) (hD : bH (aa P M.toNat mod).El m' D0) (h1 : 1<=m') (h64 : m'<=64) (hl : D0.length<=256) : aL P M mod m' (dD (aa P M.toNat mod).ops m' D0)=0:=by
 have F:=eX hfB
 have hKR:=fh F hD
 have hidem:=vW F hD
 have hcl : (dD (aa P M.toNat mod).ops m' D0).length<=256:=by
  unfold dD
  rw [List.length_take,bM]
  omega
 generalize dD (aa P M.toNat mod).ops m' D0=D at *
 have hf : dM P M mod m' D=0:=nE hfB hKR (by omega) hcl
 have hsp : eC P M mod m' D=0:=by
  unfold eC
  rw [if_pos hf,Int.toNat_natCast,if_pos]
  exact hidem
 have hle : gJ (m' : Int)=0:=pz (by omega) (by omega)
 unfold aL
 rw [if_pos hfB,if_pos hle]
 exact hsp
theorem ta (F : cK (aa P M.toNat mod).ops (aa P M.toNat mod).El) {m' : Nat} {D0 : Ll} (hD : bH (aa P M.toNat mod).El m' D0) {z : Lz} (hz : CW P M mod m' (dD (aa P M.toNat mod).ops m' D0) z) :
  ∃v,Vc (aa P M.toNat mod).El D0.length v/\z=bj (aa P M.toNat mod).ops m' v D0 D0.length:=by
 obtain ⟨v,hv,h2⟩:=RS.IZ F hD ((eF F hD).1.rs hz.2.1)
 have c1:=(dO F hD (λk hk=>hv.at hk) D0.length (Nat.le_refl _)).1
 exact ⟨v,hv,et (by rw [hz.1.1,c1.1]) λi hi=>h2 i (by rw [<- hz.1.1];exact hi)⟩
theorem zM (F : cK (aa P M.toNat mod).ops (aa P M.toNat mod).El) {m' : Nat} {D0 : Ll} (hD : bH (aa P M.toNat mod).El m' D0) {v : Lz} (hv : ∀k,k<D0.length->(aa P M.toNat mod).El (nth v k)) (h0 : bw (bj (aa P M.toNat mod).ops m' v D0 D0.length) ≠ 0) :
  CW P M mod m' (dD (aa P M.toNat mod).ops m' D0) (bj (aa P M.toNat mod).ops m' v D0 D0.length):=by
 obtain ⟨c1,c2⟩:=dO F hD hv D0.length (Nat.le_refl _)
 exact ⟨c1,(eF F hD).2.rs c2,h0⟩
theorem zm (F : cK (aa P M.toNat mod).ops (aa P M.toNat mod).El) {D : Ll} (hD : bH (aa P M.toNat mod).El m D) {Q : Lz} (hQ : qp m Q) {v : Lz} (hv : ∀k,k<D.length->(aa P M.toNat mod).El (nth v k)) :
  bj (aa P M.toNat mod).ops Q.length v (D.map (aG Q)) (D.map (aG Q)).length=aG Q (bj (aa P M.toNat mod).ops m v D D.length):=by
 have hP:=fo hD hQ
 have hv' : ∀k,k<(D.map (aG Q)).length->(aa P M.toNat mod).El (nth v k):=λk hk=>hv k (by simpa using hk)
 have c1:=(dO F hP hv' _ (Nat.le_refl _)).1
 refine et (by rw [c1.1];simp [aG]) λj hj=>?_
 rw [c1.1] at hj
 have hq:=hQ j hj
 rw [eS F hP hv' hj _ (Nat.le_refl _),dx Q _ hj,eS F hD hv (by omega) _ (Nat.le_refl _),List.length_map]
 refine di _ λt ht=>⟨rfl,?_⟩
 show nth (aj (D.map (aG Q)) t) j=nth (aj D t) (nth Q j).toNat
 rw [aE (by simpa using ht),List.getElem_map,dx Q _ hj,aE ht]
theorem lQ (i m : Nat) : qp m (frTo false [(i : Int)] m):=λj hj=>by
 obtain ⟨k,hk,e,_⟩:=(cJ m).1 (aN hj)
 omega
theorem AO (hE : aL P M mod m L=0) {i : Nat} (hi : i<m) {d v : Nat} (hd : na P M mod m L d) (hv : na P M mod (m - 1) (dD (aa P M.toNat mod).ops (m - 1) (L.map (aG (frTo false [(i : Int)] m)))) v) : d<=v+1:=by
 obtain ⟨N',e,hm1,hm64,F,hR⟩:=ba hE
 obtain rfl : m=N':=by omega
 obtain ⟨_,z,hz,rfl⟩:=hv
 have hP:=fo hR (lQ i m)
 have hpc:=λv hv=>zm F hR (lQ i m) (v:=v) hv
 rw [qh hi] at hP hpc
 obtain ⟨u,hu,h1⟩:=ta F hP hz
 have hue : ∀k,k<L.length->(aa P M.toNat mod).El (nth u k):=λk hk=>hu.at (by simpa using hk)
 rw [hpc u hue] at h1
 have c1:=dO F hR hue L.length (Nat.le_refl _)
 have hcw : CW P M mod m L (bj (aa P M.toNat mod).ops m u L L.length):=⟨c1.1,c1.2,λh0=>hz.2.2 (by rw [h1];exact lk (dk.1 h0))⟩
 have h2:=hd.1 _ hcw
 have h3:=tj (i:=i) c1.1.1
 rw [<- h1] at h3
 split at h3 <;> omega
theorem AI (hE : aL P M mod m L=0) {i : Nat} (hi : i<m) {d v : Nat} (hd : na P M mod m L d) (hv : na P M mod (m - 1) (dD (aa P M.toNat mod).ops (m - 1) ((fW (aa P M.toNat mod) m L (frTo false [(i : Int)] m)).map (aG (frTo false [(i : Int)] m)))) v) : d<=v:=by
 obtain ⟨N',e,hm1,hm64,F,hR⟩:=ba hE
 obtain rfl : m=N':=by omega
 obtain ⟨_,z,hz,rfl⟩:=hv
 have hZ : JS m (frTo false (frTo false [(i : Int)] m) m):=λz hz=>by
  obtain ⟨j,h1,h2,_⟩:=(cJ m).1 hz
  omega
 have hiff:=λ{f : Nat->Int} (hf : ∀x,x<m->(aa P M.toNat mod).El (f x))=>qn F hR hZ hf
 change ∀ {f : Nat->Int},(∀x,x<m->(aa P M.toNat mod).El (f x))->(RS _ _ m (fW (aa P M.toNat mod) m L (frTo false [(i : Int)] m)) f ↔ _) at hiff
 have hD:=(nA hE (frTo false [(i : Int)] m)).1
 generalize fW (aa P M.toNat mod) m L (frTo false [(i : Int)] m)=D at *
 have hP:=fo hD (lQ i m)
 have hpc:=λv hv=>zm F hD (lQ i m) (v:=v) hv
 rw [qh hi] at hP hpc
 obtain ⟨u,hu,h1⟩:=ta F hP hz
 have hue : ∀k,k<D.length->(aa P M.toNat mod).El (nth u k):=λk hk=>hu.at (by simpa using hk)
 rw [hpc u hue] at h1
 have c1:=dO F hD hue D.length (Nat.le_refl _)
 obtain ⟨g1,g2⟩:=(hiff λx hx=>c1.1.at hx).1 c1.2
 have h0 : nth (bj (aa P M.toNat mod).ops m u D D.length) i=0:=by
  have:=g2 (i : Int) ((cJ m).2 ⟨i,hi,rfl,by
   rw [decide_eq_false_iff_not]
   intro h
   obtain ⟨j,_,e,hj⟩:=(cJ m).1 h
   rw [decide_eq_false_iff_not] at hj
   exact hj (by rw [<- e];simp)⟩)
  simpa using this
 have hcw : CW P M mod m L (bj (aa P M.toNat mod).ops m u D D.length):=⟨c1.1,g1,λh0=>hz.2.2 (by rw [h1];exact lk (dk.1 h0))⟩
 have h2:=hd.1 _ hcw
 have h3:=tj (i:=i) c1.1.1
 rw [<- h1,if_neg (λh=>h.2 h0)] at h3
 omega
def Aq (El : Int->Prop) (L E : Ll) : Prop:=E.length=L.length/\∀t,t<L.length->∃x,El x/\aj E t=aj L t ++ [x]
theorem pQ (hR : bH (aa P M.toNat mod).El m L) {E : Ll} (h : Aq (aa P M.toNat mod).El L E) : bH (aa P M.toNat mod).El (m+1) E:=λr hr=>by
 obtain ⟨t,ht,rfl⟩:=mH hr
 obtain ⟨x,hx,e⟩:=h.2 t (by rw [<- h.1];exact ht)
 have h1:=hR.row (i:=t) (by rw [<- h.1];exact ht)
 rw [e]
 refine ⟨by simp [h1.1],λy hy=>?_⟩
 rcases List.mem_append.1 hy with hy | hy
 ·exact h1.2 y hy
 ·rw [List.mem_singleton] at hy;rw [hy];exact hx
theorem BC (F : cK (aa P M.toNat mod).ops (aa P M.toNat mod).El) (hR : bH (aa P M.toNat mod).El m L) {E : Ll} (h : Aq (aa P M.toNat mod).El L E) {v : Lz} (hv : ∀k,k<L.length->(aa P M.toNat mod).El (nth v k)) :
  bw (bj (aa P M.toNat mod).ops m v L L.length)<=bw (bj (aa P M.toNat mod).ops (m+1) v E E.length)/\bw (bj (aa P M.toNat mod).ops (m+1) v E E.length)<=bw (bj (aa P M.toNat mod).ops m v L L.length)+1:=by
 have hE:=pQ hR h
 have hv' : ∀k,k<E.length->(aa P M.toNat mod).El (nth v k):=λk hk=>hv k (by rw [<- h.1];exact hk)
 have c1:=(dO F hR hv _ (Nat.le_refl _)).1
 have c2:=(dO F hE hv' _ (Nat.le_refl _)).1
 have e : bj (aa P M.toNat mod).ops m v L L.length=aG (frTo false [(m : Int)] (m+1)) (bj (aa P M.toNat mod).ops (m+1) v E E.length):=by
  have hfr : frTo false [(m : Int)] (m+1)=(List.range m).map λ(x : Nat)=>(x : Int):=by
   refine xF (gO false _ (m+1)) ?_ λy=>?_
   ·rw [List.pairwise_map]
    exact List.pairwise_lt_range.imp λh=>by omega
   ·rw [cJ]
    constructor
    ·rintro ⟨j,hj,rfl,h⟩
     rw [decide_eq_false_iff_not,List.mem_singleton] at h
     exact List.mem_map.2 ⟨j,List.mem_range.2 (by omega),rfl⟩
    ·intro hy
     obtain ⟨j,hj,rfl⟩:=List.mem_map.1 hy
     rw [List.mem_range] at hj
     exact ⟨j,by omega,rfl,by rw [decide_eq_false_iff_not,List.mem_singleton];omega⟩
  rw [hfr]
  refine et (by rw [c1.1];simp [aG]) λj hj=>?_
  rw [c1.1] at hj
  have e2 : nth ((List.range m).map λ(x : Nat)=>(x : Int)) j=(j : Int):=by rw [ai (by simpa using hj)];simp
  rw [dx _ _ (by simpa using hj),e2,Int.toNat_natCast,eS F hR hv hj _ (Nat.le_refl _),eS F hE hv' (by omega) _ (Nat.le_refl _),h.1]
  refine di _ λt ht=>⟨rfl,?_⟩
  obtain ⟨x,_,e3⟩:=h.2 t ht
  show nth (aj L t) j=nth (aj E t) j
  have hl:=(hR.row ht).1
  rw [e3,ai (by omega),ai (by rw [List.length_append];omega),List.getElem_append_left]
 have h3:=tj (i:=m) c2.1
 rw [<- e] at h3
 split at h3 <;> omega
theorem EC (hE : aL P M mod m L=0) {E : Ll} (h : Aq (aa P M.toNat mod).El L E) {d u : Nat} (hd : na P M mod m L d) (hu : na P M mod (m+1) (dD (aa P M.toNat mod).ops (m+1) E) u) : d<=u/\u<=d+1:=by
 obtain ⟨N',e,hm1,hm64,F,hR⟩:=ba hE
 obtain rfl : m=N':=by omega
 have hX:=pQ hR h
 constructor
 ·obtain ⟨_,z,hz,rfl⟩:=hu
  obtain ⟨v,hv,h1⟩:=ta F hX hz
  have hve : ∀k,k<L.length->(aa P M.toNat mod).El (nth v k):=λk hk=>hv.at (by rw [h.1];exact hk)
  have h2:=(BC F hR h hve).1
  rw [<- h1] at h2
  refine Nat.le_trans (hd.1 _ (Ga hE (by rw [hv.1,h.1]) hve λh0=>hz.2.2 ?_)) h2
  rw [h1,pN _ _ (dk.1 h0) _ (by rw [hv.1];exact Nat.le_refl _)]
  exact dk.2 s8
 ·obtain ⟨_,x,hx,rfl⟩:=hd
  obtain ⟨v,hvl,hve,rfl,hv0⟩:=Jl hE hx
  have h2:=BC F hR h hve
  refine Nat.le_trans (hu.1 _ (zM F hX (λk hk=>hve k (by rw [<- h.1];exact hk)) λh0=>?_)) h2.2
  have:=hx.2.2
  omega
theorem Jc (hE : aL P M mod m L=0) {E : Ll} (h : Aq (aa P M.toNat mod).El L E) (hk : 1<=L.length) : 1<=(dD (aa P M.toNat mod).ops (m+1) E).length/\(dD (aa P M.toNat mod).ops (m+1) E).length<=L.length:=by
 obtain ⟨N',e,hm1,hm64,F,hR⟩:=ba hE
 obtain rfl : m=N':=by omega
 have hX:=pQ hR h
 refine ⟨Nat.pos_of_ne_zero λh0=>?_,by unfold dD;rw [List.length_take,bM,h.1];omega⟩
 have hve : ∀k,k<L.length->(aa P M.toNat mod).El (nth (List.replicate L.length 1) k):=λk hk=>by
  rw [ai (by simpa using hk)];simp;exact F.one
 have hw : bw (List.replicate L.length (1 : Int)) ≠ 0:=λhz=>by
  have:=dk.1 hz 1 (List.mem_replicate.2 ⟨by omega,rfl⟩)
  omega
 have hc:=Ga hE (by simp) hve hw
 have h2:=(BC F hR h hve).1
 have h3:=hc.2.2
 have h4:=zM F hX (v:=List.replicate L.length 1) (λk hk=>hve k (by rw [<- h.1];exact hk)) (by omega)
 have h5 : dD (aa P M.toNat mod).ops (m+1) E=[]:=List.eq_nil_of_length_eq_zero h0
 rw [h5] at h4
 exact h4.2.2 (uz.2 λk hk=>RS.Kp F (λr hr=>by simp at hr) h4.2.1 (by rw [<- h4.1.1];exact hk) (by simp))
end
section
variable {O : aQ} {El : Int->Prop} {m : Nat} {A L : Ll}
theorem CX (F : cK O El) (hA : bH El m A) (hL : bH El m L) {Z : LN} (hZ : ∀z ∈ Z,z<m) (hiff : ∀f,(∀x,x<m->El (f x))->(RS O El m A f ↔ RS O El m L f/\∀z ∈ Z,f z=0)) {z : Nat} (hz : Rk (nR O El L.length (bf L)) Z z) :
  ∀ {l : LN} {s : Nat},(∀y ∈ l,y<m)->Rk (nR O El A.length (bf A)) l s->∀ {n},Rk (nR O El L.length (bf L)) (l ++ Z) n->s+z=n:=by
 intro l s hl hr
 have hstep : ∀ {l : LN} {x : Nat},(∀y ∈ l,y<m)->x<m->(nR O El L.length (bf L) (l ++ Z) x ↔ nR O El A.length (bf A) l x):=λ{l x} hl hx=>by
  rw [CP (m:=m) hl hx,CP (m:=m) (λy hy=>by rcases List.mem_append.1 hy with h | h;exact hl y h;exact hZ y h) hx]
  constructor
  ·intro hc f hf hf0
   obtain ⟨g1,g2⟩:=(hiff f λx hx=>hf.el F hA hx).1 hf
   refine hc f g1 λy hy=>?_
   rcases List.mem_append.1 hy with h | h
   ·exact hf0 y h
   ·exact g2 y h
  ·intro hc f hf hf0
   exact hc f ((hiff f λx hx=>hf.el F hL hx).2 ⟨hf,λz hz=>hf0 z (by simp [hz])⟩) λy hy=>hf0 y (by simp [hy])
 induction hr with
 | nil=>intro n hn;rw [List.nil_append] at hn;rw [hz.uniq hn];omega
 | dep x hx _ ih =>
  intro n hn
  rw [List.cons_append] at hn
  cases hn with
  | dep _ _ h2=>exact ih (λy hy=>hl y (by simp [hy])) h2
  | ind _ h1 h2=>exact absurd ((hstep (λy hy=>hl y (by simp [hy])) (hl x (by simp))).2 hx) h1
 | ind x hx _ ih =>
  intro n hn
  rw [List.cons_append] at hn
  cases hn with
  | dep _ h1 h2=>exact absurd ((hstep (λy hy=>hl y (by simp [hy])) (hl x (by simp))).1 h1) hx
  | ind _ _ h2=>have:=ih (λy hy=>hl y (by simp [hy])) h2;omega
end
section
variable {P M : Int} {mod : Lz} {m : Nat} {L : Ll}
theorem Ix (hE : aL P M mod m L=0) (S : Lz) : ((fW (aa P M.toNat mod) m L S).length : Int)=Jt (aa P M.toNat mod).ops L m S:=by
 obtain ⟨N',em,hm1,hm64,F,hR⟩:=ba hE
 obtain rfl : m=N':=by omega
 have hT:=nj (Z:=frTo false S m) F hR
 have hMr:=nP (O:=(aa P M.toNat mod).ops) F hR (jA F hT)
 have hrk:=Ca F hMr
 have hin : JS m (frTo false S m):=λz hz=>by
  obtain ⟨i,h1,h2,_⟩:=(cJ m).1 hz
  omega
 have hZ : ∀z ∈ gA (frTo false S m),z<m:=λx hx=>by
  obtain ⟨y,hy,rfl⟩:=mM.1 hx
  have:=hin y hy
  omega
 have hA:=(nA hE S).1
 obtain ⟨n,hn⟩:=Rk.ex (nR (aa P M.toNat mod).ops (aa P M.toNat mod).El L.length (bf L)) (List.range m ++ gA (frTo false S m))
 have hnk : L.length=n:=Rk.same (iI F hR) (qG hE) hn λx=>by
  rw [List.mem_append,List.mem_range]
  exact ⟨λh=>.inl h,λh=>by rcases h with h | h;exact h;exact hZ x h⟩
 have h:=CX F hA hR hZ (λf hf=>by
  refine (qn F hR hin hf).trans ?_
  constructor
  ·rintro ⟨h1,h2⟩
   refine ⟨h1,λz hz=>?_⟩
   obtain ⟨y,hy,rfl⟩:=mM.1 hz
   exact h2 y hy
  ·rintro ⟨h1,h2⟩
   exact ⟨h1,λz hz=>h2 _ (mM.2 ⟨z,hz,rfl⟩)⟩) (lU F hR (frTo false S m)) (λy hy=>List.mem_range.1 hy) hrk hn
 have h2 : (fW (aa P M.toNat mod) m L S).length+sK (aa P M.toNat mod).ops L (frTo false S m)=n:=h
 unfold Jt
 omega
end
end Go.Proofs.YtcfmiocdlcapoaaGreat
