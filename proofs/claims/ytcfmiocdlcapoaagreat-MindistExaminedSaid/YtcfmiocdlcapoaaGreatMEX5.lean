/-  -/
import Derived.Test.YtcfmiocdlcapoaaGreatK31
import Derived.Test.YtcfmiocdlcapoaaGreatMEX4
import Derived.Test.YtcfmiocdlcapoaaGreatK28
import Derived.Test.YtcfmiocdlcapoaaGreatK25
import Derived.Test.YtcfmiocdlcapoaaGreatK7
import Derived.Test.YtcfmiocdlcapoaaGreatMEX2
import Derived.Test.YtcfmiocdlcapoaaGreatK21
import Derived.Test.YtcfmiocdlcapoaaGreatK22
import Derived.Test.YtcfmiocdlcapoaaGreatK17
import Derived.Test.YtcfmiocdlcapoaaGreatMEX3
import Derived.Test.YtcfmiocdlcapoaaGreatK33
import Derived.Test.YtcfmiocdlcapoaaGreatMEX1
import Derived.Test.YtcfmiocdlcapoaaGreatK19
import Derived.Test.YtcfmiocdlcapoaaGreatK29
namespace Go.Proofs.YtcfmiocdlcapoaaGreat
set_option linter.unusedVariables false
set_option linter.unusedSimpArgs false
set_option linter.unusedSectionVars false

section
open Go.RowKit
section
variable {P M : Int} {mod : List Int} {m : Nat} {L : List (List Int)}
def CW (P M : Int) (mod : List Int) (m : Nat) (L : List (List Int)) (y : List Int) : Prop :=
 Vc (tblOf P M.toNat mod).El m y/\RS (tblOf P M.toNat mod).ops (tblOf P M.toNat mod).El m L (λi=>nth y i)/\wtL y ≠ 0
theorem sys_word (hE : codeE P M mod m L=0) {Q : List Int} (hQ : okSet m Q=true) (hB : isB (tblOf P M.toNat mod).ops L Q=true) {y : List Int} (hy : Vc (tblOf P M.toNat mod).El m y) (hr : RS (tblOf P M.toNat mod).ops (tblOf P M.toNat mod).El m L (λi=>nth y i)) :
  y=cmbTo (tblOf P M.toNat mod).ops m (pickL Q y) (sysL (tblOf P M.toNat mod).ops m L Q) L.length:=by
 obtain ⟨N',e,hm1,hm64,F,hR⟩:=codeE_fld hE
 obtain rfl : m=N':=by omega
 obtain ⟨hI,hl,hg⟩:=setB_in hQ hB
 obtain ⟨s1,s2,_,s4⟩:=sys_law hE hI hl hg
 have hcan : canO (tblOf P M.toNat mod).ops m (sysL (tblOf P M.toNat mod).ops m L Q)=L:=s4
 have hsub:=(canO_rsub F s1).1
 rw [hcan] at hsub
 obtain ⟨v,hv,h2⟩:=RS.cmb F s1 (hsub.rs hr)
 rw [s2] at hv h2
 obtain ⟨w1,_,w3⟩:=words_law hE hI hl hg (v:=v) hv.1 λk hk=>hv.at hk
 have h3 : y=cmbTo (tblOf P M.toNat mod).ops m v (sysL (tblOf P M.toNat mod).ops m L Q) L.length:=nth_ext (by rw [hy.1,w1.1]) λi hi=>h2 i (by rw [<- hy.1];exact hi)
 have h4 : pickL Q y=v:=by rw [h3];exact w3
 rw [h4];exact h3
theorem pick_zero {Q y : List Int} (h : ∀z ∈ y,z=0) : wtL (pickL Q y)=0:=by
 refine wtM_zero.2 λz hz=>?_
 unfold pickL at hz
 obtain ⟨q,_,rfl⟩:=List.mem_map.1 hz
 by_cases hq : q.toNat<y.length
 ·rw [nth_getElem hq];exact h _ (List.getElem_mem hq)
 ·unfold nth;rw [List.getD_eq_getElem?_getD,List.getElem?_eq_none (by omega)];rfl
theorem cmb_zero (O : FOps) (m : Nat) {c : List Int} {G : List (List Int)} (h : ∀y ∈ c,y=0) : ∀k,k<=c.length->cmbTo O m c G k=List.replicate m 0
 | 0,_=>rfl
 | k+1,hk=>by
  rw [cmbTo,if_pos (h _ (nth_mem (by omega))),cmb_zero O m h k (by omega)]
theorem rep_zero {m : Nat} : ∀z ∈ List.replicate m (0 : Int),z=0:=λz hz=>(List.mem_replicate.1 hz).2
theorem pick_ne (hE : codeE P M mod m L=0) {Q : List Int} (hQ : okSet m Q=true) (hB : isB (tblOf P M.toNat mod).ops L Q=true) {y : List Int} (h : CW P M mod m L y) : wtL (pickL Q y) ≠ 0:=λh0=>by
 obtain ⟨hI,hl,hg⟩:=setB_in hQ hB
 have h1:=sys_word hE hQ hB h.1 h.2.1
 rw [cmb_zero _ _ (wtM_zero.1 h0) _ (by simp [pickL,hl])] at h1
 exact h.2.2 (by rw [h1];exact wtM_zero.2 rep_zero)
theorem elsN_el {q : Nat} {b : Int} (h : b ∈ elsN q) : 0<=b/\b<q:=by have:=mem_elsN.1 h;omega
theorem look_iff (hE : codeE P M mod m L=0) {Q : List Int} (hQ : okSet m Q=true) (hB : isB (tblOf P M.toNat mod).ops L Q=true) {l : Nat} {y : List Int} :
  y ∈ sumA (tblOf P M.toNat mod).ops (elsN (tblOf P M.toNat mod).q) [1] (l+1) (sysL (tblOf P M.toNat mod).ops m L Q) (List.replicate m 0) ↔ CW P M mod m L y/\wtL (pickL Q y)=l+1/\nth (pickL Q y) (fnz (pickL Q y))=1:=by
 obtain ⟨N',e,hm1,hm64,F,hR⟩:=codeE_fld hE
 obtain rfl : m=N':=by omega
 obtain ⟨hI,hl,hg⟩:=setB_in hQ hB
 obtain ⟨s1,s2,_,s4⟩:=sys_law hE hI hl hg
 have hcan : canO (tblOf P M.toNat mod).ops m (sysL (tblOf P M.toNat mod).ops m L Q)=L:=s4
 have hsub:=(canO_rsub F s1).2
 rw [hcan] at hsub
 have hpl : ∀y,(pickL Q y).length=L.length:=λy=>by simp [pickL,hl]
 rw [sumA,mem_sumL _ (by simp) l (mem_sumS _ (λa ha=>by have:=mem_elsN.1 ha;omega) l)]
 constructor
 ·rintro ⟨c,h1,h2,h3,h4⟩
  rw [s2] at h1
  have hc0 : wtL c ≠ 0:=by omega
  obtain ⟨f1,f2⟩:=(FC_first hc0).1 h3
  have hel : ∀k,k<L.length->(tblOf P M.toNat mod).El (nth c k):=λk hk=>by
   by_cases e0 : nth c k=0
   ·rw [e0];exact F.zero
   ·by_cases e1 : k<fnz c
    ·exact absurd (fnz_zero c k e1) e0
    ·by_cases e2 : k=fnz c
     ·rw [e2,f1];exact F.one
     ·exact elsN_el (f2 k (by omega) (by omega) e0)
  obtain ⟨w1,_,w3⟩:=words_law hE hI hl hg (v:=c) h1 hel
  have hy : y=cmbTo (tblOf P M.toNat mod).ops m c (sysL (tblOf P M.toNat mod).ops m L Q) L.length:=by
   have h5:=addAll_cmb (O:=(tblOf P M.toNat mod).ops) (m:=m) (v:=c) (L:=sysL (tblOf P M.toNat mod).ops m L Q) (by rw [s2];exact h1) L.length 0 (by rw [s2];omega)
   rw [h4,<- s2,<- h5];rfl
  rw [<- hy] at w1 w3
  refine ⟨⟨w1,?_,λh0=>?_⟩,by rw [w3];exact h2,by rw [w3];exact f1⟩
  ·have:=(cmb_rs F s1 (x:=c) (by rw [s2];exact hel) L.length (by rw [s2];exact Nat.le_refl _)).2
   rw [<- hy] at this
   exact hsub.rs this
  ·have h6:=pick_zero (Q:=Q) (wtM_zero.1 h0)
   rw [w3] at h6;omega
 ·rintro ⟨hy,h2,h3⟩
  have h1:=sys_word hE hQ hB hy.1 hy.2.1
  obtain ⟨c,hc⟩ : ∃c,pickL Q y=c:=⟨_,rfl⟩
  have hcl : c.length=L.length:=by rw [<- hc];exact hpl y
  rw [hc] at h1 h2 h3
  refine ⟨c,by rw [s2];exact hcl,h2,(FC_first (by omega)).2 ⟨h3,λj _ hj hj0=>?_⟩,?_⟩
  ·have h7 : nth c j=nth y (nth Q j).toNat:=by rw [<- hc];exact nth_pickL Q y (by omega)
   have h8:=hI j (by omega)
   have h9 : (tblOf P M.toNat mod).El (nth c j):=by rw [h7];exact hy.1.at (by omega)
   exact mem_elsN.2 ⟨by have:=h9.1;omega,h9.2⟩
  ·have h5:=addAll_cmb (O:=(tblOf P M.toNat mod).ops) (m:=m) (v:=c) (L:=sysL (tblOf P M.toNat mod).ops m L Q) (by rw [s2];exact hcl) L.length 0 (by rw [s2];omega)
   rw [h1,<- s2,<- h5];rfl
theorem CW.scl (hE : codeE P M mod m L=0) {y : List Int} (h : CW P M mod m L y) {s : Int} (hs : (tblOf P M.toNat mod).El s) (h0 : s ≠ 0) : CW P M mod m L (y.map ((tblOf P M.toNat mod).ops.mul s)):=by
 obtain ⟨N',e,hm1,hm64,F,hR⟩:=codeE_fld hE
 obtain rfl : m=N':=by omega
 refine ⟨h.1.scl F hs,(h.2.1.smul F hs).congr λx hx=>nth_scl _ _ _ (by rw [h.1.1];exact hx),?_⟩
 rw [wtL_scl F hs h0 h.1.2];exact h.2.2
theorem CW.mon (hE : codeE P M mod m L=0) {y : List Int} (h : CW P M mod m L y) : CW P M mod m L (monS (tblOf P M.toNat mod).ops y):=by
 obtain ⟨N',e,hm1,hm64,F,hR⟩:=codeE_fld hE
 obtain rfl : m=N':=by omega
 obtain ⟨h1,h2⟩:=first_el h.1 h.2.2
 obtain ⟨h3,h4⟩:=inv_ne F h1 h2
 exact h.scl hE h3 h4
theorem pick_scl {O : FOps} {Q y : List Int} (hI : InN y.length Q) (s : Int) : pickL Q (y.map (O.mul s))=(pickL Q y).map (O.mul s):=by
 unfold pickL
 rw [List.map_map]
 refine List.map_congr_left λq hq=>?_
 obtain ⟨j,hj,rfl⟩:=List.mem_iff_getElem.1 hq
 have h:=hI j hj
 rw [nth_getElem hj] at h
 exact nth_scl O y s (by omega)
theorem look_some (hE : codeE P M mod m L=0) {Q : List Int} (hQ : okSet m Q=true) (hB : isB (tblOf P M.toNat mod).ops L Q=true) {l : Nat} {x : List Int} (hx : CW P M mod m L x) (hl : wtL (pickL Q x)=l+1) :
  ∃y ∈ sumA (tblOf P M.toNat mod).ops (elsN (tblOf P M.toNat mod).q) [1] (l+1) (sysL (tblOf P M.toNat mod).ops m L Q) (List.replicate m 0),monS (tblOf P M.toNat mod).ops y=monS (tblOf P M.toNat mod).ops x:=by
 obtain ⟨N',e,hm1,hm64,F,hR⟩:=codeE_fld hE
 obtain rfl : m=N':=by omega
 obtain ⟨hI,hql,hg⟩:=setB_in hQ hB
 have hc : Vc (tblOf P M.toNat mod).El Q.length (pickL Q x):=⟨by simp [pickL],λz hz=>by
  obtain ⟨j,hj,rfl⟩:=List.mem_iff_getElem.1 hz
  have hj2 : j<Q.length:=by simpa [pickL] using hj
  have h8:=hI j hj2
  rw [<- nth_getElem hj,nth_pickL Q x hj2]
  exact hx.1.at (by omega)⟩
 have hc0 : wtL (pickL Q x) ≠ 0:=by omega
 obtain ⟨h1,h2⟩:=first_el hc hc0
 obtain ⟨h3,h4⟩:=inv_ne F h1 h2
 refine ⟨x.map ((tblOf P M.toNat mod).ops.mul ((tblOf P M.toNat mod).ops.inv (nth (pickL Q x) (fnz (pickL Q x))))),(look_iff hE hQ hB).2 ⟨hx.scl hE h3 h4,?_,?_⟩,monS_scl F h3 h4 hx.1 hx.2.2⟩
 ·rw [pick_scl (by rw [hx.1.1];exact hI),wtL_scl F h3 h4 hc.2];exact hl
 ·rw [pick_scl (by rw [hx.1.1];exact hI)]
  exact monS_first F hc hc0
theorem fold_flat {α β γ : Type} (f : γ->β->γ) (g : α->List β) : ∀(l : List α) (b : γ),l.foldl (λb a=>(g a).foldl f b) b=(l.flatMap g).foldl f b
 | [],_=>rfl
 | a :: l,b=>by rw [List.foldl_cons,fold_flat f g l,List.flatMap_cons,List.foldl_append]
theorem rnd_spec (hE : codeE P M mod m L=0) (l : Nat) (b : List Int) :
  (rndS (tblOf P M.toNat mod).ops (tblOf P M.toNat mod).q m (l+1) (famM P M mod m L) b=b\/∃y,CW P M mod m L y/\rndS (tblOf P M.toNat mod).ops (tblOf P M.toNat mod).q m (l+1) (famM P M mod m L) b=monS (tblOf P M.toNat mod).ops y) /\
  (∀x,CW P M mod m L x->(∃t ∈ famL (tblOf P M.toNat mod).ops L m,wtL (pickL t.1 x)=l+1)->leK (rndS (tblOf P M.toNat mod).ops (tblOf P M.toNat mod).q m (l+1) (famM P M mod m L) b) (monS (tblOf P M.toNat mod).ops x)) /\
  (wtL b ≠ 0->leK (rndS (tblOf P M.toNat mod).ops (tblOf P M.toNat mod).q m (l+1) (famM P M mod m L) b) b) /\
  (l+1<=L.length->wtL (rndS (tblOf P M.toNat mod).ops (tblOf P M.toNat mod).q m (l+1) (famM P M mod m L) b) ≠ 0):=by
 obtain ⟨N',e,hm1,hm64,F,hR⟩:=codeE_fld hE
 obtain rfl : m=N':=by omega
 have hall:=λt ht=>chain_mem (fam_all hE).1 t ht
 unfold rndS
 rw [fold_flat]
 have hin : ∀y,y ∈ (famM P M mod m L).flatMap (λG=>sumA (tblOf P M.toNat mod).ops (elsN (tblOf P M.toNat mod).q) [1] (l+1) G (List.replicate m 0)) ↔
   ∃t ∈ famL (tblOf P M.toNat mod).ops L m,CW P M mod m L y/\wtL (pickL t.1 y)=l+1/\nth (pickL t.1 y) (fnz (pickL t.1 y))=1:=λy=>by
  rw [List.mem_flatMap]
  constructor
  ·rintro ⟨G,hG,hy⟩
   obtain ⟨t,ht,rfl⟩:=List.mem_map.1 hG
   exact ⟨t,ht,(look_iff hE (hall t ht).1 (hall t ht).2.1).1 hy⟩
  ·rintro ⟨t,ht,h⟩
   exact ⟨_,List.mem_map.2 ⟨t,ht,rfl⟩,(look_iff hE (hall t ht).1 (hall t ht).2.1).2 h⟩
 obtain ⟨a1,a2,a3,a4⟩:=fold_spec F (m:=m) ((famM P M mod m L).flatMap λG=>sumA (tblOf P M.toNat mod).ops (elsN (tblOf P M.toNat mod).q) [1] (l+1) G (List.replicate m 0)) b λy hy=>by
  obtain ⟨t,_,h,_⟩:=(hin y).1 hy
  exact ⟨h.1,h.2.2⟩
 refine ⟨?_,?_,a3,λhlk=>a4 (.inl ?_)⟩
 ·rcases a1 with h | ⟨y,hy,h⟩
  ·exact .inl h
  ·obtain ⟨t,_,h2,_⟩:=(hin y).1 hy
   exact .inr ⟨y,h2,h⟩
 ·rintro x hx ⟨t,ht,h⟩
  obtain ⟨y,hy,h2⟩:=look_some hE (hall t ht).1 (hall t ht).2.1 hx h
  rw [<- h2]
  exact a2 y (List.mem_flatMap.2 ⟨_,List.mem_map.2 ⟨t,ht,rfl⟩,hy⟩)
 ·intro hnil
  obtain ⟨t,ht⟩:=List.exists_mem_of_ne_nil _ (fam_ne hE (by omega))
  rw [List.flatMap_eq_nil_iff] at hnil
  have h2:=hnil _ (List.mem_map.2 ⟨t,ht,rfl⟩)
  obtain ⟨hI,hql,hg⟩:=setB_in (hall t ht).1 (hall t ht).2.1
  have h3:=sumA_count (tblOf P M.toNat mod).ops (elsN (tblOf P M.toNat mod).q) 1 l (sysL (tblOf P M.toNat mod).ops m L t.1) (List.replicate m 0)
  rw [h2,(sys_law hE hI hql hg).2.1,elsN_len] at h3
  have h4:=chN_pos L.length (l+1) hlk
  have hq : 1<=(tblOf P M.toNat mod).q - 1:=by have h5 : (1 : Int)<(tblOf P M.toNat mod).q:=F.one.2;omega
  have h6 : 0<chN L.length (l+1) * ((tblOf P M.toNat mod).q - 1) ^ l:=Nat.mul_pos h4 (Nat.pow_pos hq)
  simp at h3
  omega
def RndOk (P M : Int) (mod : List Int) (m : Nat) (L : List (List Int)) (r : List Int) : Prop :=
 ∀x,CW P M mod m L x->((∃t ∈ famL (tblOf P M.toNat mod).ops L m,(wtL (pickL t.1 x) : Int)<=nth r 0)->nth r 2<=wtL x)/\((∀t ∈ famL (tblOf P M.toNat mod).ops L m,nth r 0<(wtL (pickL t.1 x) : Int))->nth r 3<=wtL x)
def BestOk (P M : Int) (mod : List Int) (m : Nat) (L : List (List Int)) (b : List Int) : Prop:=CW P M mod m L b/\monS (tblOf P M.toNat mod).ops b=b
theorem sr_law (hE : codeE P M mod m L=0) (hk : 1<=L.length) (hk64 : L.length<=64) : ∀(f w : Nat) (b : List Int) (n : Nat) (o : List (List Int)),w+1+f=L.length+1->((w=0/\b=[])\/BestOk P M mod m L b) ->
  (∀x,CW P M mod m L x->(∃t ∈ famL (tblOf P M.toNat mod).ops L m,wtL (pickL t.1 x)<=w)->leK b (monS (tblOf P M.toNat mod).ops x))->(∀r ∈ o,RndOk P M mod m L r) ->
  ∀ {o2 : List (List Int)} {b2 : List Int} {e : Int},srS (tblOf P M.toNat mod).ops (tblOf P M.toNat mod).q m L.length (famM P M mod m L) ((famL (tblOf P M.toNat mod).ops L m).map (·.2)) f (w+1) b n o=(o2,b2,e) ->
  (e=8/\o2=[]/\b2=[])\/(e=0/\BestOk P M mod m L b2/\(∀x,CW P M mod m L x->leK b2 (monS (tblOf P M.toNat mod).ops x))/\(∀r ∈ o2,RndOk P M mod m L r)/\o.length+(if f=0 then 0 else 1)<=o2.length)
 | 0,w,b,n,o,hw,hb,hs,ho,o2,b2,e,h=>by
  rw [srS] at h
  obtain ⟨rfl,rfl,rfl⟩ : o=o2/\b=b2/\0=e:=by simpa using h
  refine .inr ⟨rfl,hb.resolve_left (λh=>by omega),λx hx=>hs x hx ?_,ho,by simp⟩
  obtain ⟨t,ht⟩:=List.exists_mem_of_ne_nil _ (fam_ne hE hk)
  refine ⟨t,ht,?_⟩
  have h1 : wtL (pickL t.1 x)<=(pickL t.1 x).length:=List.countP_le_length
  have h2:=(isB_iff.1 (chain_mem (fam_all hE).1 t ht).2.1).1
  rw [show (pickL t.1 x).length=t.1.length by simp [pickL]] at h1
  omega
 | f+1,w,b,n,o,hw,hb,hs,ho,o2,b2,e,h=>by
  obtain ⟨N',e0,hm1,hm64,F,hR⟩:=codeE_fld hE
  obtain rfl : m=N':=by omega
  obtain ⟨a1,a2,a3,a4⟩:=rnd_spec hE w b
  have a4:=a4 (by omega)
  rw [srS] at h
  by_cases hm : moreB (tblOf P M.toNat mod).q L.length (famM P M mod m L).length n (w+1)=true
  rotate_left
  ·rw [if_neg hm] at h
   obtain ⟨rfl,rfl,rfl⟩ : []=o2/\[]=b2/\8=e:=by simpa using h
   exact .inl ⟨rfl,rfl,rfl⟩
  rw [if_pos hm] at h
  clear hm
  obtain ⟨B,hB⟩ : ∃B,rndS (tblOf P M.toNat mod).ops (tblOf P M.toNat mod).q m (w+1) (famM P M mod m L) b=B:=⟨_,rfl⟩
  obtain ⟨fl,hfl⟩ : ∃fl,flTo (L.length : Int) ((w+1 : Nat) : Int) ((famL (tblOf P M.toNat mod).ops L m).map (·.2)) ((famL (tblOf P M.toNat mod).ops L m).map (·.2)).length=fl:=⟨_,rfl⟩
  rw [hB,hfl] at h
  rw [hB] at a1 a2 a3 a4
  have hBk : BestOk P M mod m L B:=by
   rcases a1 with h1 | ⟨y,hy,h1⟩
   ·rcases hb with hb | hb
    ·rw [h1,hb.2] at a4;exact absurd wtM_nil a4
    ·rw [h1];exact hb
   ·rw [h1];exact ⟨hy.mon hE,monS_idem F hy.1 hy.2.2⟩
  have hseen : ∀x,CW P M mod m L x->(∃t ∈ famL (tblOf P M.toNat mod).ops L m,wtL (pickL t.1 x)<=w+1)->leK B (monS (tblOf P M.toNat mod).ops x):=by
   rintro x hx ⟨t,ht,hle⟩
   by_cases e1 : wtL (pickL t.1 x)=w+1
   ·exact a2 x hx ⟨t,ht,e1⟩
   ·have hc:=pick_ne hE (chain_mem (fam_all hE).1 t ht).1 (chain_mem (fam_all hE).1 t ht).2.1 hx
    rcases hb with hb | hb
    ·omega
    ·exact (a3 hb.1.2.2).trans (hs x hx ⟨t,ht,by omega⟩)
  have hfloor : ∀x,CW P M mod m L x->(∀t ∈ famL (tblOf P M.toNat mod).ops L m,((w+1 : Nat) : Int)<(wtL (pickL t.1 x) : Int))->fl<=wtL x:=λx hx hu=>by
   obtain ⟨f',h1,h2⟩:=fam_bound hE hx.1.1 (v:=((w+1 : Nat) : Int)) (by omega) hk64 hu
   unfold flV at h1
   split at h1
   ·rw [hfl] at h1
    obtain ⟨rfl,_⟩ : fl=f'/\True:=by simpa using h1
    exact h2
   ·simp at h1
  have hro : ∀r ∈ o ++ [[((w+1 : Nat) : Int),((n+rndN (tblOf P M.toNat mod).q L.length (famM P M mod m L).length (w+1) : Nat) : Int),(wtL B : Int),fl]],RndOk P M mod m L r:=λr hr=>by
   rcases List.mem_append.1 hr with hr | hr
   ·exact ho r hr
   ·rw [List.mem_singleton.1 hr]
    intro x hx
    refine ⟨?_,λhu=>hfloor x hx hu⟩
    rintro ⟨t,ht,hle⟩
    have hle2 : (wtL (pickL t.1 x) : Int)<=((w+1 : Nat) : Int):=hle
    have h1:=(hseen x hx ⟨t,ht,by omega⟩).wt
    rw [monS_wt F hx.1 hx.2.2] at h1
    show (wtL B : Int)<=wtL x
    omega
  by_cases hst : fl > (wtL B : Int)
  ·rw [if_pos hst] at h
   simp only [Prod.mk.injEq] at h
   obtain ⟨rfl,rfl,rfl⟩:=h
   refine .inr ⟨rfl,hBk,λx hx=>?_,hro,by simp⟩
   by_cases hx2 : ∃t ∈ famL (tblOf P M.toNat mod).ops L m,wtL (pickL t.1 x)<=w+1
   ·exact hseen x hx hx2
   ·have h1:=hfloor x hx λt ht=>by
     have : ¬ wtL (pickL t.1 x)<=w+1:=λh2=>hx2 ⟨t,ht,h2⟩
     omega
    left
    rw [monS_wt F hx.1 hx.2.2]
    omega
  ·rw [if_neg hst] at h
   rcases sr_law hE hk hk64 f (w+1) B _ _ (by omega) (.inr hBk) hseen hro h with h1 | ⟨h1,h2,h3,h4,h5⟩
   ·exact .inl h1
   ·refine .inr ⟨h1,h2,h3,h4,?_⟩
    rw [List.length_append,List.length_singleton] at h5
    split at h5 <;> simp <;> omega
end
end

section
set_option maxRecDepth 100000
set_option maxHeartbeats 4000000

open Go.RowKit
theorem vecM_any (P M : Int) (am : Option Addr) (mn cm : Nat) (mod : List Int) (ax : Option Addr) (cx : Nat) (x : List Int) (m : Nat) (a : Option Addr) (n c : Nat) (L : List (List Int)) (w : World) (hmod : Ints w am mn mod) (hx : Ints w ax n x) (hi : Mat w a n L)
  (hfB : fieldB P M mod=true) (hR : Rws (tblOf P M.toNat mod).El m L) (hxe : ∀k,k<n->(tblOf P M.toNat mod).El (nth x k)) (hm1 : 1<=m) (hm : m<=64) (hn : n<=256) :
  Calls Tryz.prog 72 #[.agg #[.int .i64 P,.int .i64 M,.slice am mn cm],.slice ax n cx,.agg #[.int .i64 m,.slice a n c]] w
   λe w'=>∃a1 c1,e = .returned (.tuple #[.slice a1 m c1,.int .i64 0])/\Ints w' a1 m (cmbTo (tblOf P M.toNat mod).ops m x L n)/\Below w.heap.size w w':=by
 have hLl:=hi.len
 have F:=fieldB_fld hfB
 have hmE1 : matE (tblOf P M.toNat mod).q m L=0:=(fmatE_zero (fmatE_mk hfB (show m<=256 by omega) (show L.length<=256 by omega) hR)).2
 have hel : elsE (tblOf P M.toNat mod).q x=0:=by
  unfold elsE
  rw [if_pos]
  unfold elsQ isQ
  rw [List.all_eq_true]
  intro y hy
  obtain ⟨k,hk,rfl⟩:=List.mem_iff_getElem.1 hy
  have h1:=hxe k (by rw [<- hx.len];exact hk)
  rw [nth_getElem hk] at h1
  unfold Tbl.El at h1
  simp
  exact h1
 have hpla:=hi.pl
 obtain ⟨G,hGG⟩ : ∃G,tblOf P M.toNat mod=G:=⟨_,rfl⟩
 rw [hGG] at hR F hmE1 hxe hel ⊢
 have HK:=Lib.hid (And.intro hfB (And.intro hR (And.intro hmE1 (And.intro hxe (And.intro F hel)))))
 have HGG:=Lib.hid hGG
 clear hfB hR hmE1 hxe F hLl hGG hel
 go_enter Tryz.func72,Tryz.ntmps72
 go_wp2_with fail
 obtain ⟨W,hW⟩ : ∃W : World,W=((w.alloc (.cells #[.int .i64 P,.int .i64 M,.slice am mn cm] 24)).alloc (.cells #[.int .i64 m,.slice a n c] 82)).alloc (.cells #[.int .i64 m,.slice a n c] 82):=⟨_,rfl⟩
 rw [<- hW]
 have hbW : Below w.heap.size w W:=by rw [hW];exact below3 _ _ _ _
 have x1 : Box W (w.heap.size+1) [.int .i64 m,.slice a n c]:=by rw [hW];exact (Box.new _ _ _ (by simp)).alloc _
 have q3 : ∀i v,[Value.int .i64 m,.slice a n c][i]? = some v->W.cell? ⟨w.heap.size+1+1,i,none⟩=some v:=λi v hv=>by
  have h : Box W (w.heap.size+1+1) [.int .i64 m,.slice a n c]:=by rw [hW];exact Box.new _ _ _ (by simp)
  exact h.cell i hv
 have hMs : Mats W (some ⟨w.heap.size+1+1,0,none⟩) 1 [((m : Int),L)]:=⟨rfl,λ_=>rfl,by unfold maxLen;omega,λi hi'=>by
  have : i=0:=by simp at hi';omega
  subst this
  exact ⟨a,n,c,by simpa using q3 0 _ rfl,by simpa using q3 1 _ rfl,hi.keep hbW⟩⟩
 have HX:=Lib.hid x1
 have HbW:=Lib.hid hbW
 clear hW x1 q3
 refine (open_any P M am mn cm mod _ 1 1 _ W (hmod.keep hbW) hMs).mono ?_
 rintro e w1 ⟨hb1,hcase⟩
 have hms : matsE (tblOf P M.toNat mod).q [((m : Int),L)]=0:=by
  rw [HGG.out]
  simp [matsE,HK.out.2.2.1]
 rcases hcase with ⟨hB,_⟩ | ⟨_,er,h0,h1,_⟩ | ⟨_,_,b,rfl,hG,hbl⟩
 ·rw [HK.out.1] at hB;exact absurd hB (by decide)
 ·rw [hms] at h1;exact absurd h1.symm h0
 rw [HGG.out] at hG
 have hbw1:=Below.next hbW hb1
 have r1:=HX.out.keep hb1
 have m0:=r1.cell 0 rfl
 have m1:=r1.cell 1 rfl
 have hnn : ((n : Int) != n)=false:=by simp
 have hx1:=hx.keep hbw1
 have hi1:=hi.keep hbw1
 have he:=entries_any ax n cx x hG hx1
 rw [HK.out.2.2.2.2.2] at he
 have He:=Lib.hid he
 have Hv:=Lib.hid (vec_any ax cx x a n c L m hG HK.out.2.2.2.2.1 hx1 hi1 HK.out.2.2.2.1 HK.out.2.1 hm1 (by omega) (by omega))
 clear hMs hbW r1 hbl hmod hms he hx1 hi1 hG hx hi
 go_wp2_with fail
 refine He.out.mono ?_
 rintro e w2 ⟨rfl,rfl⟩
 go_wp2_with fail
 refine Hv.out.mono ?_
 rintro e w3 ⟨a3,c3,rfl,hown,hb3⟩
 have hF:=Lib.hid (And.intro (Ints.own hown).1 (Below.next hbw1 hb3))
 clear hown
 go_wp2_with fail
 go_ret2
 exact ⟨a3,c3,rfl,hF.out.1,hF.out.2⟩
end

section
set_option maxRecDepth 100000
set_option maxHeartbeats 4000000

open Go.RowKit
def szV (P M : Int) (mod : List Int) (N : Int) (L : List (List Int)) : Int:=if codeE P M mod N L=0 then expV (tblOf P M.toNat mod).q L.length else 0
def szE (P M : Int) (mod : List Int) (N : Int) (L : List (List Int)) : Int:=if codeE P M mod N L=0 then expE (tblOf P M.toNat mod).q L.length else codeE P M mod N L
theorem q_order {P M : Int} {mod : List Int} {N : Int} {L : List (List Int)} (hE : codeE P M mod N L=0) : orderS P M=((tblOf P M.toNat mod).q : Nat)/\(2 : Int)<=(tblOf P M.toNat mod).q/\((tblOf P M.toNat mod).q : Int)<=256:=by
 obtain ⟨m,hm,_,hq,_⟩:=eq_ops (codeE_zero hE).1
 subst hm
 rw [Int.toNat_natCast]
 rw [hq]
 have h0 : orderS P m ≠ 0:=by
  intro h0
  have h1:=(codeE_zero hE).1
  unfold fieldB shapeB at h1
  simp [h0] at h1
 obtain ⟨h1,h2,h3,h4,h5,h6⟩:=orderS_ne h0
 refine ⟨rfl,?_,by omega⟩
 rw [h6]
 have:=pow_mono (show 1<=P by omega) (show 1<=(m : Int).toNat by omega)
 have e : P ^ 1=P:=by rw [Int.pow_succ,Int.pow_zero,Int.one_mul]
 omega
theorem rSize12_any (P M : Int) (am : Option Addr) (mn cm : Nat) (mod : List Int) (N : Int) (a : Option Addr) (k c : Nat) (L : List (List Int)) (w : World) (hmod : Ints w am mn mod) (hi : Mat w a k L) :
  Calls Tryz.prog 56 #[.agg #[.int .i64 P,.int .i64 M,.slice am mn cm,.int .i64 N,.slice a k c]] w λe w' =>
   e = .returned (.tuple #[.int .i64 (szV P M mod N L),.int .i64 (szE P M mod N L)])/\Below w.heap.size w w':=by
 have HCk : Hid (∀V,Below w.heap.size w V->Calls Tryz.prog 22 #[.agg #[.int .i64 P,.int .i64 M,.slice am mn cm,.int .i64 N,.slice a k c]] V λe w'=>e = .returned (.int .i64 (codeE P M mod N L))/\Below V.heap.size V w'):=λV hV=>by
  have h:=rCodeCheck_any P M am mn cm mod N a k c L V (hmod.keep hV) (hi.keep hV) λh=>hinv_all h
  rw [rcodeE_eq] at h
  exact h
 have hkl : L.length=k:=hi.len
 go_enter Tryz.func56,Tryz.ntmps56
 go_upto_region 1 with fail
 obtain ⟨W,hW⟩ : ∃W : World,W=w.alloc (.cells #[.int .i64 P,.int .i64 M,.slice am mn cm,.int .i64 N,.slice a k c] 27):=⟨_,rfl⟩
 rw [<- hW]
 have hbW : Below w.heap.size w W:=by rw [hW];exact below1 _ _
 have x0 : Box W w.heap.size [.int .i64 P,.int .i64 M,.slice am mn cm,.int .i64 N,.slice a k c]:=by rw [hW];exact Box.new _ _ _ rfl
 have HX:=Lib.hid x0
 have c0:=x0.cell 0 rfl
 have c1:=x0.cell 1 rfl
 have c2:=x0.cell 2 rfl
 have c3:=x0.cell 3 rfl
 have c4:=x0.cell 4 rfl
 clear hW x0
 by_cases hE : codeE P M mod N L=0
 ·have hk256 : k<=256:=by rw [<- hkl];exact (codeE_rws hE).choose_spec.2.2.2.1
  obtain ⟨ho,hq2,hq256⟩:=q_order hE
  have HV : Hid (szV P M mod N L=expV (tblOf P M.toNat mod).q k/\szE P M mod N L=expE (tblOf P M.toNat mod).q k):=by
   show _/\_
   unfold szV szE
   rw [if_pos hE,if_pos hE,hkl];exact ⟨rfl,rfl⟩
  rw [hE] at HCk
  have HOr : Hid (∀V,Calls Tryz.prog 45 #[.agg #[.int .i64 P,.int .i64 M,.slice am mn cm]] V λe w'=>e = .returned (.int .i64 ((tblOf P M.toNat mod).q : Nat))/\Below V.heap.size V w'):=λV=>by
   have h:=rOrder_any P M am mn cm V
   rw [ho] at h
   exact h
  generalize (tblOf P M.toNat mod).q=q at *
  clear ho hE hkl
  go_wp2_with (go_at_call 22;refine (HCk.out _ hbW).mono ?_;rintro e w3 ⟨rfl,hb3⟩;clear c0 c1 c2 c3 c4)
  have HS : Hid (∀V,Below w3.heap.size w3 V->V.cell? ⟨w.heap.size,0,none⟩=some (.int .i64 P)/\V.cell? ⟨w.heap.size,1,none⟩=some (.int .i64 M)/\V.cell? ⟨w.heap.size,2,none⟩=some (.slice am mn cm)/\V.cell? ⟨w.heap.size,4,none⟩=some (.slice a k c)/\Below w3.heap.size w3 V):=λV hV=>by
   have x3:=(HX.out.keep hb3).keep hV
   exact ⟨x3.cell 0 rfl,x3.cell 1 rfl,x3.cell 2 rfl,x3.cell 4 rfl,hV⟩
  go_region_held3 (λV=>V.cell? ⟨w.heap.size,0,none⟩=some (.int .i64 P)/\V.cell? ⟨w.heap.size,1,none⟩=some (.int .i64 M)/\V.cell? ⟨w.heap.size,2,none⟩=some (.slice am mn cm)/\V.cell? ⟨w.heap.size,4,none⟩=some (.slice a k c)/\Below w3.heap.size w3 V)
   ((refine HS.out _ ?_;first | exact (Below.refl _ _).drew | (go_split_ands;assumption) | (go_split_ands;exact Below.next (by assumption) (by assumption))))
   (first
    | (go_at_call 45;((with_reducible refine (HOr.out _).mono ?_);rintro e w4 ⟨rfl,hb4⟩))
    | (go_at_call 108;((with_reducible refine (rExp_any (q : Int) k _ hq2 hq256 (by omega)).mono ?_);rintro e w5 ⟨rfl,rfl⟩)))
  all_goals go_wp2_with fail
  all_goals go_ret2
  all_goals exact ⟨ret_two HV.out.1.symm HV.out.2.symm,Below.next (Below.next hbW hb3) (by go_split_ands;assumption)⟩
 ·have HV : Hid (szV P M mod N L=0/\szE P M mod N L=codeE P M mod N L):=by
   show _/\_
   unfold szV szE
   rw [if_neg hE,if_neg hE];exact ⟨rfl,rfl⟩
  generalize codeE P M mod N L=z at *
  have hz : (z != 0)=true:=by simpa using hE
  clear hE
  go_wp2_with (go_at_call 22;refine (HCk.out _ hbW).mono ?_;rintro e w3 ⟨rfl,hb3⟩;clear c0 c1 c2 c3 c4)
  go_ret2
  exact ⟨ret_two HV.out.1.symm HV.out.2.symm,Below.next hbW hb3⟩
end

section
set_option maxRecDepth 100000
set_option maxHeartbeats 4000000

open Go.RowKit
theorem encode_any (P M : Int) (am : Option Addr) (mn cm : Nat) (mod : List Int) (m : Nat) (a : Option Addr) (n c : Nat) (L : List (List Int)) (ax : Option Addr) (nx cx : Nat) (x : List Int) (w : World) (hmod : Ints w am mn mod) (hi : Mat w a n L) (hx : Ints w ax nx x) (hE : codeE P M mod m L=0) :
  Calls Tryz.prog 32 #[.agg #[.int .i64 P,.int .i64 M,.slice am mn cm,.int .i64 m,.slice a n c],.slice ax nx cx] w λe w'=>Below w.heap.size w w' /\
   ((lstE (tblOf P M.toNat mod).q x n ≠ 0/\e = .returned (.tuple #[.slice none 0 0,.int .i64 (lstE (tblOf P M.toNat mod).q x n)])) \/
    (lstE (tblOf P M.toNat mod).q x n=0/\∃a1 c1,e = .returned (.tuple #[.slice a1 m c1,.int .i64 0])/\Ints w' a1 m (cmbTo (tblOf P M.toNat mod).ops m x L n))):=by
 obtain ⟨N',em,hm1,hm64,F,hR⟩:=codeE_fld hE
 obtain rfl : m=N':=by omega
 have hn256 : n<=256:=by rw [<- hi.len];exact (codeE_rws hE).choose_spec.2.2.2.1
 have hfB:=(codeE_zero hE).1
 have HCk : Hid (∀V,Below w.heap.size w V->Calls Tryz.prog 61 #[.agg #[.int .i64 P,.int .i64 M,.slice am mn cm,.int .i64 m,.slice a n c]] V λe w'=>e = .returned (.int .i64 0)/\Below V.heap.size V w'):=λV hV=>by
  have h:=codeCheck_any P M am mn cm mod m a n c L V (hmod.keep hV) (hi.keep hV)
  rw [hE] at h
  exact h
 have HLi : Hid (∀V,Below w.heap.size w V->Calls Tryz.prog 71 #[.agg #[.int .i64 P,.int .i64 M,.slice am mn cm],.slice ax nx cx,.int .i64 n] V λe w'=>e = .returned (.int .i64 (lstE (tblOf P M.toNat mod).q x n))/\Below V.heap.size V w'):=λV hV =>
  codeListG_any P M am mn cm mod ax nx cx x n V (hmod.keep hV) (hx.keep hV) hfB
 have HVe : Hid (lstE (tblOf P M.toNat mod).q x n=0->∀V,Below w.heap.size w V->Calls Tryz.prog 72 #[.agg #[.int .i64 P,.int .i64 M,.slice am mn cm],.slice ax nx cx,.agg #[.int .i64 m,.slice a n c]] V λe w'=>∃a1 c1,e = .returned (.tuple #[.slice a1 m c1,.int .i64 0])/\Ints w' a1 m (cmbTo (tblOf P M.toNat mod).ops m x L n)/\Below V.heap.size V w'):=λhz V hV=>by
  unfold lstE at hz
  by_cases hl : x.length=n
  ·rw [if_pos hl] at hz
   unfold elsE at hz
   by_cases hq : elsQ (tblOf P M.toNat mod).q x=true
   ·have hnx : nx=n:=by rw [<- hx.len];exact hl
    subst hnx
    refine vecM_any P M am mn cm mod ax cx x m a nx c L V (hmod.keep hV) (hx.keep hV) (hi.keep hV) hfB hR (λk hk=>?_) hm1 hm64 hn256
    unfold elsQ isQ at hq
    rw [List.all_eq_true] at hq
    have h1:=hq _ (nth_mem (l:=x) (i:=k) (by omega))
    simp at h1
    unfold Tbl.El
    exact h1
   ·rw [if_neg hq] at hz;omega
  ·rw [if_neg hl] at hz;omega
 obtain ⟨er,her⟩ : ∃er,lstE (tblOf P M.toNat mod).q x n=er:=⟨_,rfl⟩
 obtain ⟨X,hX⟩ : ∃X,cmbTo (tblOf P M.toNat mod).ops m x L n=X:=⟨_,rfl⟩
 rw [her] at HLi HVe ⊢
 rw [hX] at HVe ⊢
 clear her hX hfB hE em F hR hmod hi hx
 go_enter Tryz.func32,Tryz.ntmps32
 go_wp2_with fail
 obtain ⟨W,hW⟩ : ∃W : World,W=w.alloc (.cells #[.int .i64 P,.int .i64 M,.slice am mn cm,.int .i64 m,.slice a n c] 27):=⟨_,rfl⟩
 rw [<- hW]
 have hbW : Below w.heap.size w W:=by rw [hW];exact below1 _ _
 have x0 : Box W w.heap.size [.int .i64 P,.int .i64 M,.slice am mn cm,.int .i64 m,.slice a n c]:=by rw [hW];exact Box.new _ _ _ rfl
 have HS : Hid (∀V,Below W.heap.size W V->V.cell? ⟨w.heap.size,0,none⟩=some (.int .i64 P)/\V.cell? ⟨w.heap.size,1,none⟩=some (.int .i64 M)/\V.cell? ⟨w.heap.size,2,none⟩=some (.slice am mn cm)/\V.cell? ⟨w.heap.size,3,none⟩=some (.int .i64 m)/\V.cell? ⟨w.heap.size,4,none⟩=some (.slice a n c)):=λV hV=>by
  have x1:=x0.keep hV
  exact ⟨x1.cell 0 rfl,x1.cell 1 rfl,x1.cell 2 rfl,x1.cell 3 rfl,x1.cell 4 rfl⟩
 have HbW:=Lib.hid hbW
 have Hck:=Lib.hid (HCk.out W hbW)
 clear hW x0 hbW HCk
 refine Hck.out.mono ?_
 rintro e w1 ⟨rfl,hb1⟩
 obtain ⟨c0,c1,c2,c3,c4⟩:=HS.out w1 hb1
 have Hli:=Lib.hid (HLi.out w1 (Below.next HbW.out hb1))
 clear Hck HLi
 go_wp2_with fail
 refine Hli.out.mono ?_
 rintro e w2 ⟨rfl,hb2⟩
 have hB2:=Below.next hb1 hb2
 clear c0 c1 c2 c3 c4 Hli hb1
 by_cases hz : er=0
 rotate_left
 ·have hz' : (er != 0)=true:=by simpa using hz
  have Hz:=Lib.hid hz
  have hF:=Below.next HbW.out hB2
  clear hz
  go_wp2_with fail
  go_ret2
  exact ⟨hF,.inl ⟨Hz.out,rfl⟩⟩
 subst hz
 have HV:=Lib.hid (HVe.out rfl)
 have HS2 : Hid (∀V,Below w2.heap.size w2 V->V.cell? ⟨w.heap.size,0,none⟩=some (.int .i64 P)/\V.cell? ⟨w.heap.size,1,none⟩=some (.int .i64 M)/\V.cell? ⟨w.heap.size,2,none⟩=some (.slice am mn cm)/\V.cell? ⟨w.heap.size,3,none⟩=some (.int .i64 m)/\V.cell? ⟨w.heap.size,4,none⟩=some (.slice a n c)/\Below w2.heap.size w2 V):=λV hV=>by
  obtain ⟨q0,q1,q2,q3,q4⟩:=HS.out V (Below.next hB2 hV)
  exact ⟨q0,q1,q2,q3,q4,hV⟩
 have Hbw:=Lib.hid (Below.next HbW.out hB2)
 clear HVe hB2 hb2
 go_wp2_with fail
 go_cut [4,5] (λu v wx=>∃a1 c1,u = .slice a1 m c1/\v = .int .i64 0/\Ints wx a1 m X/\Below w2.heap.size w2 wx)
 case first =>
  go_region_held3 (λV=>V.cell? ⟨w.heap.size,0,none⟩=some (.int .i64 P)/\V.cell? ⟨w.heap.size,1,none⟩=some (.int .i64 M)/\V.cell? ⟨w.heap.size,2,none⟩=some (.slice am mn cm)/\V.cell? ⟨w.heap.size,3,none⟩=some (.int .i64 m)/\V.cell? ⟨w.heap.size,4,none⟩=some (.slice a n c)/\Below w2.heap.size w2 V)
   ((refine HS2.out _ ?_;first | exact hb8 | exact hb7 | exact (Below.refl _ _).drew | assumption | (go_split_ands;assumption)))
   (first
    | (go_at_call 73;((with_reducible refine (gen_any P M am mn cm m a n c _).mono ?_);rintro e w7 ⟨rfl,hb7'⟩;have hb7 : Below w2.heap.size w2 w7:=(by go_split_ands;exact Below.next (by assumption) hb7')))
    | (go_at_call 72;((with_reducible refine (HV.out _ (Below.next Hbw.out (by go_split_ands;assumption))).mono ?_);rintro e w8 ⟨a8,k8,rfl,hI8,hb8'⟩;have hb8 : Below w2.heap.size w2 w8:=(by go_split_ands;exact Below.next (by assumption) hb8'))))
  all_goals (go_wp2_with fail;go_meet;exact ⟨a8,k8,rfl,rfl,hI8,hb8⟩)
 obtain ⟨a8,k8,rfl,rfl,hI8,hb8⟩:=hcut
 generalize wc=V at *
 have hF:=Lib.hid (And.intro (Below.next Hbw.out hb8) hI8)
 clear hI8
 go_wp2_with fail
 go_ret2
 first
  | exact ⟨hF.out.1,.inr ⟨rfl,a8,k8,rfl,hF.out.2⟩⟩
  | exact ⟨hF.out.1,a8,⟨k8,rfl⟩,hF.out.2⟩
theorem rWeight25_any (a : Option Addr) (n c : Nat) (l : List Int) (w : World) (h : Ints w a n l) :
  Calls Tryz.prog 20 #[.slice a n c] w λe w'=>e = .returned (.int .i64 (wtL l))/\w'=w:=by
 have Hl:=Lib.hid h.len
 have hpl:=h.pl
 have hmax:=h.max
 unfold maxLen at hmax
 have hle : ∀k,k<=n->(wtL (l.take k) : Int)<=k:=λk hk=>by
  have h1 : wtL (l.take k)<=(l.take k).length:=List.countP_le_length
  rw [List.length_take] at h1
  omega
 have Hle:=Lib.hid hle
 have HT : Hid (wtL (l.take n)=wtL l):=by show _=_;rw [List.take_of_length_le (by rw [Hl.out];exact Nat.le_refl _)]
 clear hle
 go_enter Tryz.func20,Tryz.ntmps20
 go_wp2_with fail
 go_loopw [3,4] (λcv iv wr=>∃k : Nat,k<=n/\iv = .int .i64 k/\cv = .int .i64 (wtL (l.take k))/\wr=w) (λ_ iv _=>n - (intOf iv).toNat)
 case atStart=>exact ⟨0,Nat.zero_le _,rfl,by simp [wtL],rfl⟩
 case round =>
  obtain ⟨k,hk,rfl,rfl,rfl⟩:=hrel
  by_cases hlt : k<n
  ·have ck:=h.cell k hlt
   have hkl : k<l.length:=by rw [Hl.out];exact hlt
   have hst : wtL (l.take (k+1))=wtL (l.take k)+(if nth l k ≠ 0 then 1 else 0):=by
    unfold wtL
    rw [List.take_succ_eq_append_getElem hkl,List.countP_append,List.countP_singleton,nth_getElem hkl]
    simp
   have hb:=Hle.out k hk
   obtain ⟨t,ht⟩ : ∃t,wtL (l.take k)=t:=⟨_,rfl⟩
   obtain ⟨y,hy⟩ : ∃y,nth l k=y:=⟨_,rfl⟩
   rw [ht] at hst hb ⊢
   rw [hy] at hst ck
   clear ht hy hkl
   by_cases h0 : y=0
   ·have hd : (y != 0)=false:=by simpa using h0
    have Hst : Hid (wtL (l.take (k+1))=t):=by show _=_;rw [hst,if_neg (by simpa using h0)];rfl
    clear h0 hst
    go_wp2_with fail
    go_roundw
    case rel=>exact ⟨k+1,by omega,by go_num,by rw [Hst.out],by simp⟩
    case measure=>simp [intOf] <;> omega
   ·have hd : (y != 0)=true:=by simpa using h0
    have Hst : Hid (wtL (l.take (k+1))=t+1):=by show _=_;rw [hst,if_pos h0]
    clear h0 hst
    go_wp2_with fail
    go_roundw
    case rel=>exact ⟨k+1,by omega,by go_num,by rw [Hst.out];go_num,by simp⟩
    case measure=>simp [intOf] <;> omega
  ·obtain rfl : k=n:=by omega
   rw [HT.out]
   go_wp2_with fail
   go_ret
   exact ⟨rfl,rfl⟩
end

section
set_option maxRecDepth 100000
set_option maxHeartbeats 2000000

open Go.RowKit
def cntL (lim P M : Int) (mod : List Int) (N : Int) (L : List (List Int)) : Int:=if szE P M mod N L=0/\szV P M mod N L<=lim then szV P M mod N L else 0
theorem rCountL_any (lim P M : Int) (am : Option Addr) (mn cm : Nat) (mod : List Int) (N : Int) (a : Option Addr) (k c : Nat) (L : List (List Int)) (w : World) (hmod : Ints w am mn mod) (hi : Mat w a k L) :
  Calls Tryz.prog 21 #[.agg #[.int .i64 P,.int .i64 M,.slice am mn cm,.int .i64 N,.slice a k c],.int .i64 lim] w λe w' =>
   e = .returned (.int .i64 (cntL lim P M mod N L))/\Below w.heap.size w w':=by
 have HSz : Hid (∀V,Below w.heap.size w V->Calls Tryz.prog 56 #[.agg #[.int .i64 P,.int .i64 M,.slice am mn cm,.int .i64 N,.slice a k c]] V λe w'=>e = .returned (.tuple #[.int .i64 (szV P M mod N L),.int .i64 (szE P M mod N L)])/\Below V.heap.size V w'):=λV hV =>
  rSize12_any P M am mn cm mod N a k c L V (hmod.keep hV) (hi.keep hV)
 have HC : Hid (cntL lim P M mod N L=if szE P M mod N L=0/\szV P M mod N L<=lim then szV P M mod N L else 0):=rfl
 generalize cntL lim P M mod N L=z at *
 generalize szV P M mod N L=v at *
 generalize szE P M mod N L=f at *
 go_enter Tryz.func21,Tryz.ntmps21
 go_upto_region 1 with fail
 obtain ⟨W,hW⟩ : ∃W : World,W=w.alloc (.cells #[.int .i64 P,.int .i64 M,.slice am mn cm,.int .i64 N,.slice a k c] 27):=⟨_,rfl⟩
 rw [<- hW]
 have hbW : Below w.heap.size w W:=by rw [hW];exact below1 _ _
 have x0 : Box W w.heap.size [.int .i64 P,.int .i64 M,.slice am mn cm,.int .i64 N,.slice a k c]:=by rw [hW];exact Box.new _ _ _ rfl
 have c0:=x0.cell 0 rfl
 have c1:=x0.cell 1 rfl
 have c2:=x0.cell 2 rfl
 have c3:=x0.cell 3 rfl
 have c4:=x0.cell 4 rfl
 clear hW x0
 by_cases hf : f=0
 ·subst hf
  by_cases hv : v<=lim
  ·have Hz : Hid (z=v):=by show _=_;rw [HC.out,if_pos ⟨rfl,hv⟩]
   have hv' : decide (v > lim)=false:=by simpa using hv
   clear hv
   go_wp2_with (go_at_call 56;refine (HSz.out _ hbW).mono ?_;rintro e w3 ⟨rfl,hb3⟩;clear c0 c1 c2 c3 c4)
   go_ret
   exact ⟨ret_int Hz.out.symm,Below.next hbW hb3⟩
  ·have Hz : Hid (z=0):=by show _=_;rw [HC.out,if_neg λh=>hv h.2]
   have hv' : decide (v > lim)=true:=by simpa using hv
   clear hv
   go_wp2_with (go_at_call 56;refine (HSz.out _ hbW).mono ?_;rintro e w3 ⟨rfl,hb3⟩;clear c0 c1 c2 c3 c4)
   go_ret
   exact ⟨ret_int Hz.out.symm,Below.next hbW hb3⟩
 ·have Hz : Hid (z=0):=by show _=_;rw [HC.out,if_neg λh=>hf h.1]
  have hf' : (f != 0)=true:=by simpa using hf
  clear hf
  go_wp2_with (go_at_call 56;refine (HSz.out _ hbW).mono ?_;rintro e w3 ⟨rfl,hb3⟩;clear c0 c1 c2 c3 c4)
  go_ret
  exact ⟨ret_int Hz.out.symm,Below.next hbW hb3⟩
end

section
set_option maxRecDepth 100000
set_option maxHeartbeats 3200000

open Go.RowKit
def SomeBC (p : Prop) (v : Value) : Prop:=∃z : Bool,v = .bool z/\(z=false->p)
def Sm27 (ce N : Int) (w : World) (e : Ending) (w' : World) : Prop:=∃z : Bool,e = .returned (.bool z)/\(z=true->ce=0->N<=14)/\Below w.heap.size w w'
theorem rSmall27_any (P M : Int) (am : Option Addr) (mn cm : Nat) (mod : List Int) (N : Int) (a : Option Addr) (n c : Nat) (L : List (List Int)) (w : World) (hmod : Ints w am mn mod) (hi : Mat w a n L) :
  Calls Tryz.prog 13 #[.agg #[.int .i64 P,.int .i64 M,.slice am mn cm,.int .i64 N,.slice a n c]] w (Sm27 (codeE P M mod N L) N w):=by
 have HF1 : Hid (∀V,Below w.heap.size w V->Calls Tryz.prog 28 #[.agg #[.int .i64 P,.int .i64 M,.slice am mn cm,.int .i64 N,.slice a n c],.int .i64 200] V (SomeBool V)):=λV hV=>rFew12_any P M am mn cm N a n c 200 L V (hi.keep hV) (by omega)
 have HF2 : Hid (∀V,Below w.heap.size w V->Calls Tryz.prog 28 #[.agg #[.int .i64 P,.int .i64 M,.slice am mn cm,.int .i64 N,.slice a n c],.int .i64 100] V (SomeBool V)):=λV hV=>rFew12_any P M am mn cm N a n c 100 L V (hi.keep hV) (by omega)
 have HCk : Hid (∀V,Below w.heap.size w V->Calls Tryz.prog 22 #[.agg #[.int .i64 P,.int .i64 M,.slice am mn cm,.int .i64 N,.slice a n c]] V λe w'=>e = .returned (.int .i64 (codeE P M mod N L))/\Below V.heap.size V w'):=λV hV=>rCheck_any P M am mn cm mod N a n c L V (hmod.keep hV) (hi.keep hV)
 have HCn : Hid (∀V,Below w.heap.size w V->Calls Tryz.prog 21 #[.agg #[.int .i64 P,.int .i64 M,.slice am mn cm,.int .i64 N,.slice a n c],.int .i64 1000] V λe w'=>e = .returned (.int .i64 (cntL 1000 P M mod N L))/\Below V.heap.size V w'):=λV hV=>rCountL_any 1000 P M am mn cm mod N a n c L V (hmod.keep hV) (hi.keep hV)
 have HOr : Hid (∀V,Calls Tryz.prog 45 #[.agg #[.int .i64 P,.int .i64 M,.slice am mn cm]] V λe w'=>e = .returned (.int .i64 (orderS P M))/\Below V.heap.size V w'):=λV=>rOrder_any P M am mn cm V
 generalize orderS P M=q at *
 generalize cntL 1000 P M mod N L=cn at *
 generalize codeE P M mod N L=ce at *
 clear hi hmod
 go_enter Tryz.func13,Tryz.ntmps13
 go_upto_region 1 with fail
 obtain ⟨W,hW⟩ : ∃W : World,W=w.alloc (.cells #[.int .i64 P,.int .i64 M,.slice am mn cm,.int .i64 N,.slice a n c] 27):=⟨_,rfl⟩
 rw [<- hW]
 have hbW : Below w.heap.size w W:=by rw [hW];exact below1 _ _
 have x0 : Box W w.heap.size [.int .i64 P,.int .i64 M,.slice am mn cm,.int .i64 N,.slice a n c]:=by rw [hW];exact Box.new _ _ _ rfl
 have HS : Hid (∀V,Below W.heap.size W V->V.cell? ⟨w.heap.size,0,none⟩=some (.int .i64 P)/\V.cell? ⟨w.heap.size,1,none⟩=some (.int .i64 M)/\V.cell? ⟨w.heap.size,2,none⟩=some (.slice am mn cm)/\V.cell? ⟨w.heap.size,3,none⟩=some (.int .i64 N)/\V.cell? ⟨w.heap.size,4,none⟩=some (.slice a n c)):=λV hV=>by
  have x1:=x0.keep hV
  exact ⟨x1.cell 0 rfl,x1.cell 1 rfl,x1.cell 2 rfl,x1.cell 3 rfl,x1.cell 4 rfl⟩
 have HbW:=Lib.hid hbW
 clear hW x0 hbW
 obtain ⟨c0,c1,c2,c3,c4⟩:=HS.out W (Below.refl _ _)
 go_wp2_with fail
 refine (HCk.out W HbW.out).mono ?_
 rintro e w1 ⟨rfl,hb1⟩
 clear c0 c1 c2 c3 c4
 obtain ⟨c0,c1,c2,c3,c4⟩:=HS.out w1 hb1
 have hF1:=Below.next HbW.out hb1
 by_cases hE : ce=0
 rotate_left
 ·have d0 : (ce != 0)=true:=by simpa using hE
  have HE:=Lib.hid hE
  clear hE
  go_wp2_with fail
  refine (HF1.out w1 hF1).mono ?_
  rintro e w2 ⟨z,rfl,hb2⟩
  have hF:=Below.next hF1 hb2
  go_wp2_with fail
  go_ret
  exact ⟨_,rfl,λ_ h=>absurd h HE.out,hF⟩
 have d0 : (ce != 0)=false:=by simpa using hE
 clear hE
 go_wp2_with fail
 refine (HF2.out w1 hF1).mono ?_
 rintro e w2 ⟨z,rfl,hb2⟩
 have hB2:=Below.next hb1 hb2
 have hF2:=Below.next HbW.out hB2
 clear c0 c1 c2 c3 c4
 obtain ⟨c0,c1,c2,c3,c4⟩:=HS.out w2 hB2
 cases z
 ·go_wp2_with fail
  go_ret
  exact ⟨_,rfl,λh=>(by cases h),hF2⟩
 by_cases h1 : N<=14
 rotate_left
 ·have d1 : decide (N<=14)=false:=by simpa using h1
  clear h1
  go_wp2_with fail
  go_ret
  exact ⟨_,rfl,λh=>(by cases h),hF2⟩
 have d1 : decide (N<=14)=true:=by simpa using h1
 have H14:=Lib.hid h1
 clear h1
 go_wp2_with fail
 refine (HCn.out w2 hF2).mono ?_
 rintro e w3 ⟨rfl,hb3⟩
 have hB3:=Below.next hB2 hb3
 have hF3:=Below.next HbW.out hB3
 clear c0 c1 c2 c3 c4
 obtain ⟨c0,c1,c2,c3,c4⟩:=HS.out w3 hB3
 by_cases h2 : 0<cn
 ·have d2 : decide (0<cn)=true:=by simpa using h2
  have d2' : decide (cn > 0)=true:=by simpa using h2
  clear h2
  go_wp2_with fail
  go_ret
  exact ⟨_,rfl,λ_ _=>H14.out,hF3⟩
 have d2 : decide (0<cn)=false:=by simpa using h2
 have d2' : decide (cn > 0)=false:=by simpa using h2
 clear h2
 by_cases h3 : n=3
 rotate_left
 ·have d3 : ((n : Int) == 3)=false:=by simp;omega
  clear h3
  go_wp2_with fail
  go_ret
  exact ⟨_,rfl,λ_ _=>H14.out,hF3⟩
 have d3 : ((n : Int) == 3)=true:=by simp;omega
 clear h3
 by_cases h4 : N<=6
 rotate_left
 ·have d4 : decide (N<=6)=false:=by simpa using h4
  clear h4
  go_wp2_with fail
  go_ret
  exact ⟨_,rfl,λ_ _=>H14.out,hF3⟩
 have d4 : decide (N<=6)=true:=by simpa using h4
 clear h4
 go_wp2_with fail
 refine (HOr.out w3).mono ?_
 rintro e w4 ⟨rfl,hb4⟩
 have hF4:=Below.next hF3 hb4
 go_wp2_with fail
 go_ret
 exact ⟨_,rfl,λ_ _=>H14.out,hF4⟩
end

section
open Go.RowKit
section
variable {P M : Int} {mod : List Int} {m : Nat} {L : List (List Int)}
theorem run_law (hE : codeE P M mod m L=0) (hk : 1<=L.length) : runR P M mod m L=([],[],8)\/∃o b,runR P M mod m L=(o,b,0)/\BestOk P M mod m L b/\(∀x,CW P M mod m L x->leK b (monS (tblOf P M.toNat mod).ops x))/\(∀r ∈ o,RndOk P M mod m L r)/\1<=o.length:=by
 obtain ⟨N',e,hm1,hm64,F,hR⟩:=codeE_fld hE
 obtain rfl : m=N':=by omega
 have hkm:=code_le hE
 obtain ⟨⟨o,b,er⟩,hr⟩ : ∃r,runR P M mod m L=r:=⟨_,rfl⟩
 have hr2:=hr
 unfold runR at hr2
 rw [if_neg (by rw [hE];decide),if_neg (by omega),Int.toNat_natCast] at hr2
 rcases sr_law hE hk (by omega) L.length 0 [] 0 [] (by omega) (.inl ⟨rfl,rfl⟩) (λx hx ht=>by
  obtain ⟨t,ht,h0⟩:=ht
  have hc:=chain_mem (fam_all hE).1 t ht
  exact absurd (Nat.le_zero.1 h0) (pick_ne hE hc.1 hc.2.1 hx)) (by simp) hr2 with ⟨rfl,rfl,rfl⟩ | ⟨rfl,h2,h3,h4,h5⟩
 ·exact .inl hr
 ·refine .inr ⟨o,b,hr,h2,h3,h4,?_⟩
  rw [if_neg (by omega)] at h5
  simpa using h5
end
end

section
open Go.RowKit
section
variable {P M : Int} {mod : List Int} {m : Nat} {L : List (List Int)}
theorem cw_msg (hE : codeE P M mod m L=0) {v : List Int} (hl : v.length=L.length) (hv : ∀k,k<L.length->(tblOf P M.toNat mod).El (nth v k)) (h0 : wtL v ≠ 0) : CW P M mod m L (cmbTo (tblOf P M.toNat mod).ops m v L L.length):=by
 obtain ⟨N',e,hm1,hm64,F,hR⟩:=codeE_fld hE
 obtain rfl : m=N':=by omega
 obtain ⟨c1,c2⟩:=cmb_rs F hR hv L.length (Nat.le_refl _)
 refine ⟨c1,c2,λhz=>h0 (wtL_zero.2 λk hk=>?_)⟩
 obtain ⟨p,hp,hpl⟩:=code_piv hE
 have hpk:=hp.lt k (by omega)
 rw [<- cmb_piv hE hp hpl hv (by omega : k<L.length)]
 exact wtL_zero.1 hz _ (by rw [c1.1];omega)
end
end

end Go.Proofs.YtcfmiocdlcapoaaGreat
