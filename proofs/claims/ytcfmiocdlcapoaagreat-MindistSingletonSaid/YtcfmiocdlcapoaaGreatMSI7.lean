/-  -/
import Derived.Test.YtcfmiocdlcapoaaGreatK31
import Derived.Test.YtcfmiocdlcapoaaGreatMSI6
import Derived.Test.YtcfmiocdlcapoaaGreatK28
import Derived.Test.YtcfmiocdlcapoaaGreatK19
import Derived.Test.YtcfmiocdlcapoaaGreatMSI5
import Derived.Test.YtcfmiocdlcapoaaGreatK7
import Derived.Test.YtcfmiocdlcapoaaGreatMSI3
import Derived.Test.YtcfmiocdlcapoaaGreatK21
import Derived.Test.YtcfmiocdlcapoaaGreatK22
import Derived.Test.YtcfmiocdlcapoaaGreatMSI2
import Derived.Test.YtcfmiocdlcapoaaGreatK33
import Derived.Test.YtcfmiocdlcapoaaGreatMSI1
namespace Go.Proofs.YtcfmiocdlcapoaaGreat
set_option linter.unusedVariables false
set_option linter.unusedSimpArgs false
set_option linter.unusedSectionVars false

section
open Go.RowKit
section
variable {P M : Int} {mod : List Int} {m : Nat} {L : List (List Int)}
def CW (P M : Int) (mod : List Int) (m : Nat) (L : List (List Int)) (y : List Int) : Prop :=
 Vc (tblOf P M.toNat mod).El m y/\RS (tblOf P M.toNat mod).ops (tblOf P M.toNat mod).El m L (λi=>nth y i)/\wtL y ≠ 0
theorem sys_word (hE : codeE P M mod m L=0) {Q : List Int} (hQ : okSet m Q=true) (hB : isB (tblOf P M.toNat mod).ops L Q=true) {y : List Int} (hy : Vc (tblOf P M.toNat mod).El m y) (hr : RS (tblOf P M.toNat mod).ops (tblOf P M.toNat mod).El m L (λi=>nth y i)) :
  y=cmbTo (tblOf P M.toNat mod).ops m (pickL Q y) (sysL (tblOf P M.toNat mod).ops m L Q) L.length:=by
 obtain ⟨N',e,hm1,hm64,F,hR⟩:=codeE_fld hE
 obtain rfl : m=N':=by omega
 obtain ⟨hI,hl,hg⟩:=setB_in hQ hB
 obtain ⟨s1,s2,_,s4⟩:=sys_law hE hI hl hg
 have hcan : canO (tblOf P M.toNat mod).ops m (sysL (tblOf P M.toNat mod).ops m L Q)=L:=s4
 have hsub:=(canO_rsub F s1).1
 rw [hcan] at hsub
 obtain ⟨v,hv,h2⟩:=RS.cmb F s1 (hsub.rs hr)
 rw [s2] at hv h2
 obtain ⟨w1,_,w3⟩:=words_law hE hI hl hg (v:=v) hv.1 λk hk=>hv.at hk
 have h3 : y=cmbTo (tblOf P M.toNat mod).ops m v (sysL (tblOf P M.toNat mod).ops m L Q) L.length:=nth_ext (by rw [hy.1,w1.1]) λi hi=>h2 i (by rw [<- hy.1];exact hi)
 have h4 : pickL Q y=v:=by rw [h3];exact w3
 rw [h4];exact h3
theorem pick_zero {Q y : List Int} (h : ∀z ∈ y,z=0) : wtL (pickL Q y)=0:=by
 refine wtM_zero.2 λz hz=>?_
 unfold pickL at hz
 obtain ⟨q,_,rfl⟩:=List.mem_map.1 hz
 by_cases hq : q.toNat<y.length
 ·rw [nth_getElem hq];exact h _ (List.getElem_mem hq)
 ·unfold nth;rw [List.getD_eq_getElem?_getD,List.getElem?_eq_none (by omega)];rfl
theorem cmb_zero (O : FOps) (m : Nat) {c : List Int} {G : List (List Int)} (h : ∀y ∈ c,y=0) : ∀k,k<=c.length->cmbTo O m c G k=List.replicate m 0
 | 0,_=>rfl
 | k+1,hk=>by
  rw [cmbTo,if_pos (h _ (nth_mem (by omega))),cmb_zero O m h k (by omega)]
theorem rep_zero {m : Nat} : ∀z ∈ List.replicate m (0 : Int),z=0:=λz hz=>(List.mem_replicate.1 hz).2
theorem pick_ne (hE : codeE P M mod m L=0) {Q : List Int} (hQ : okSet m Q=true) (hB : isB (tblOf P M.toNat mod).ops L Q=true) {y : List Int} (h : CW P M mod m L y) : wtL (pickL Q y) ≠ 0:=λh0=>by
 obtain ⟨hI,hl,hg⟩:=setB_in hQ hB
 have h1:=sys_word hE hQ hB h.1 h.2.1
 rw [cmb_zero _ _ (wtM_zero.1 h0) _ (by simp [pickL,hl])] at h1
 exact h.2.2 (by rw [h1];exact wtM_zero.2 rep_zero)
theorem elsN_el {q : Nat} {b : Int} (h : b ∈ elsN q) : 0<=b/\b<q:=by have:=mem_elsN.1 h;omega
theorem look_iff (hE : codeE P M mod m L=0) {Q : List Int} (hQ : okSet m Q=true) (hB : isB (tblOf P M.toNat mod).ops L Q=true) {l : Nat} {y : List Int} :
  y ∈ sumA (tblOf P M.toNat mod).ops (elsN (tblOf P M.toNat mod).q) [1] (l+1) (sysL (tblOf P M.toNat mod).ops m L Q) (List.replicate m 0) ↔ CW P M mod m L y/\wtL (pickL Q y)=l+1/\nth (pickL Q y) (fnz (pickL Q y))=1:=by
 obtain ⟨N',e,hm1,hm64,F,hR⟩:=codeE_fld hE
 obtain rfl : m=N':=by omega
 obtain ⟨hI,hl,hg⟩:=setB_in hQ hB
 obtain ⟨s1,s2,_,s4⟩:=sys_law hE hI hl hg
 have hcan : canO (tblOf P M.toNat mod).ops m (sysL (tblOf P M.toNat mod).ops m L Q)=L:=s4
 have hsub:=(canO_rsub F s1).2
 rw [hcan] at hsub
 have hpl : ∀y,(pickL Q y).length=L.length:=λy=>by simp [pickL,hl]
 rw [sumA,mem_sumL _ (by simp) l (mem_sumS _ (λa ha=>by have:=mem_elsN.1 ha;omega) l)]
 constructor
 ·rintro ⟨c,h1,h2,h3,h4⟩
  rw [s2] at h1
  have hc0 : wtL c ≠ 0:=by omega
  obtain ⟨f1,f2⟩:=(FC_first hc0).1 h3
  have hel : ∀k,k<L.length->(tblOf P M.toNat mod).El (nth c k):=λk hk=>by
   by_cases e0 : nth c k=0
   ·rw [e0];exact F.zero
   ·by_cases e1 : k<fnz c
    ·exact absurd (fnz_zero c k e1) e0
    ·by_cases e2 : k=fnz c
     ·rw [e2,f1];exact F.one
     ·exact elsN_el (f2 k (by omega) (by omega) e0)
  obtain ⟨w1,_,w3⟩:=words_law hE hI hl hg (v:=c) h1 hel
  have hy : y=cmbTo (tblOf P M.toNat mod).ops m c (sysL (tblOf P M.toNat mod).ops m L Q) L.length:=by
   have h5:=addAll_cmb (O:=(tblOf P M.toNat mod).ops) (m:=m) (v:=c) (L:=sysL (tblOf P M.toNat mod).ops m L Q) (by rw [s2];exact h1) L.length 0 (by rw [s2];omega)
   rw [h4,<- s2,<- h5];rfl
  rw [<- hy] at w1 w3
  refine ⟨⟨w1,?_,λh0=>?_⟩,by rw [w3];exact h2,by rw [w3];exact f1⟩
  ·have:=(cmb_rs F s1 (x:=c) (by rw [s2];exact hel) L.length (by rw [s2];exact Nat.le_refl _)).2
   rw [<- hy] at this
   exact hsub.rs this
  ·have h6:=pick_zero (Q:=Q) (wtM_zero.1 h0)
   rw [w3] at h6;omega
 ·rintro ⟨hy,h2,h3⟩
  have h1:=sys_word hE hQ hB hy.1 hy.2.1
  obtain ⟨c,hc⟩ : ∃c,pickL Q y=c:=⟨_,rfl⟩
  have hcl : c.length=L.length:=by rw [<- hc];exact hpl y
  rw [hc] at h1 h2 h3
  refine ⟨c,by rw [s2];exact hcl,h2,(FC_first (by omega)).2 ⟨h3,λj _ hj hj0=>?_⟩,?_⟩
  ·have h7 : nth c j=nth y (nth Q j).toNat:=by rw [<- hc];exact nth_pickL Q y (by omega)
   have h8:=hI j (by omega)
   have h9 : (tblOf P M.toNat mod).El (nth c j):=by rw [h7];exact hy.1.at (by omega)
   exact mem_elsN.2 ⟨by have:=h9.1;omega,h9.2⟩
  ·have h5:=addAll_cmb (O:=(tblOf P M.toNat mod).ops) (m:=m) (v:=c) (L:=sysL (tblOf P M.toNat mod).ops m L Q) (by rw [s2];exact hcl) L.length 0 (by rw [s2];omega)
   rw [h1,<- s2,<- h5];rfl
theorem CW.scl (hE : codeE P M mod m L=0) {y : List Int} (h : CW P M mod m L y) {s : Int} (hs : (tblOf P M.toNat mod).El s) (h0 : s ≠ 0) : CW P M mod m L (y.map ((tblOf P M.toNat mod).ops.mul s)):=by
 obtain ⟨N',e,hm1,hm64,F,hR⟩:=codeE_fld hE
 obtain rfl : m=N':=by omega
 refine ⟨h.1.scl F hs,(h.2.1.smul F hs).congr λx hx=>nth_scl _ _ _ (by rw [h.1.1];exact hx),?_⟩
 rw [wtL_scl F hs h0 h.1.2];exact h.2.2
theorem CW.mon (hE : codeE P M mod m L=0) {y : List Int} (h : CW P M mod m L y) : CW P M mod m L (monS (tblOf P M.toNat mod).ops y):=by
 obtain ⟨N',e,hm1,hm64,F,hR⟩:=codeE_fld hE
 obtain rfl : m=N':=by omega
 obtain ⟨h1,h2⟩:=first_el h.1 h.2.2
 obtain ⟨h3,h4⟩:=inv_ne F h1 h2
 exact h.scl hE h3 h4
theorem pick_scl {O : FOps} {Q y : List Int} (hI : InN y.length Q) (s : Int) : pickL Q (y.map (O.mul s))=(pickL Q y).map (O.mul s):=by
 unfold pickL
 rw [List.map_map]
 refine List.map_congr_left λq hq=>?_
 obtain ⟨j,hj,rfl⟩:=List.mem_iff_getElem.1 hq
 have h:=hI j hj
 rw [nth_getElem hj] at h
 exact nth_scl O y s (by omega)
theorem look_some (hE : codeE P M mod m L=0) {Q : List Int} (hQ : okSet m Q=true) (hB : isB (tblOf P M.toNat mod).ops L Q=true) {l : Nat} {x : List Int} (hx : CW P M mod m L x) (hl : wtL (pickL Q x)=l+1) :
  ∃y ∈ sumA (tblOf P M.toNat mod).ops (elsN (tblOf P M.toNat mod).q) [1] (l+1) (sysL (tblOf P M.toNat mod).ops m L Q) (List.replicate m 0),monS (tblOf P M.toNat mod).ops y=monS (tblOf P M.toNat mod).ops x:=by
 obtain ⟨N',e,hm1,hm64,F,hR⟩:=codeE_fld hE
 obtain rfl : m=N':=by omega
 obtain ⟨hI,hql,hg⟩:=setB_in hQ hB
 have hc : Vc (tblOf P M.toNat mod).El Q.length (pickL Q x):=⟨by simp [pickL],λz hz=>by
  obtain ⟨j,hj,rfl⟩:=List.mem_iff_getElem.1 hz
  have hj2 : j<Q.length:=by simpa [pickL] using hj
  have h8:=hI j hj2
  rw [<- nth_getElem hj,nth_pickL Q x hj2]
  exact hx.1.at (by omega)⟩
 have hc0 : wtL (pickL Q x) ≠ 0:=by omega
 obtain ⟨h1,h2⟩:=first_el hc hc0
 obtain ⟨h3,h4⟩:=inv_ne F h1 h2
 refine ⟨x.map ((tblOf P M.toNat mod).ops.mul ((tblOf P M.toNat mod).ops.inv (nth (pickL Q x) (fnz (pickL Q x))))),(look_iff hE hQ hB).2 ⟨hx.scl hE h3 h4,?_,?_⟩,monS_scl F h3 h4 hx.1 hx.2.2⟩
 ·rw [pick_scl (by rw [hx.1.1];exact hI),wtL_scl F h3 h4 hc.2];exact hl
 ·rw [pick_scl (by rw [hx.1.1];exact hI)]
  exact monS_first F hc hc0
theorem fold_flat {α β γ : Type} (f : γ->β->γ) (g : α->List β) : ∀(l : List α) (b : γ),l.foldl (λb a=>(g a).foldl f b) b=(l.flatMap g).foldl f b
 | [],_=>rfl
 | a :: l,b=>by rw [List.foldl_cons,fold_flat f g l,List.flatMap_cons,List.foldl_append]
theorem rnd_spec (hE : codeE P M mod m L=0) (l : Nat) (b : List Int) :
  (rndS (tblOf P M.toNat mod).ops (tblOf P M.toNat mod).q m (l+1) (famM P M mod m L) b=b\/∃y,CW P M mod m L y/\rndS (tblOf P M.toNat mod).ops (tblOf P M.toNat mod).q m (l+1) (famM P M mod m L) b=monS (tblOf P M.toNat mod).ops y) /\
  (∀x,CW P M mod m L x->(∃t ∈ famL (tblOf P M.toNat mod).ops L m,wtL (pickL t.1 x)=l+1)->leK (rndS (tblOf P M.toNat mod).ops (tblOf P M.toNat mod).q m (l+1) (famM P M mod m L) b) (monS (tblOf P M.toNat mod).ops x)) /\
  (wtL b ≠ 0->leK (rndS (tblOf P M.toNat mod).ops (tblOf P M.toNat mod).q m (l+1) (famM P M mod m L) b) b) /\
  (l+1<=L.length->wtL (rndS (tblOf P M.toNat mod).ops (tblOf P M.toNat mod).q m (l+1) (famM P M mod m L) b) ≠ 0):=by
 obtain ⟨N',e,hm1,hm64,F,hR⟩:=codeE_fld hE
 obtain rfl : m=N':=by omega
 have hall:=λt ht=>chain_mem (fam_all hE).1 t ht
 unfold rndS
 rw [fold_flat]
 have hin : ∀y,y ∈ (famM P M mod m L).flatMap (λG=>sumA (tblOf P M.toNat mod).ops (elsN (tblOf P M.toNat mod).q) [1] (l+1) G (List.replicate m 0)) ↔
   ∃t ∈ famL (tblOf P M.toNat mod).ops L m,CW P M mod m L y/\wtL (pickL t.1 y)=l+1/\nth (pickL t.1 y) (fnz (pickL t.1 y))=1:=λy=>by
  rw [List.mem_flatMap]
  constructor
  ·rintro ⟨G,hG,hy⟩
   obtain ⟨t,ht,rfl⟩:=List.mem_map.1 hG
   exact ⟨t,ht,(look_iff hE (hall t ht).1 (hall t ht).2.1).1 hy⟩
  ·rintro ⟨t,ht,h⟩
   exact ⟨_,List.mem_map.2 ⟨t,ht,rfl⟩,(look_iff hE (hall t ht).1 (hall t ht).2.1).2 h⟩
 obtain ⟨a1,a2,a3,a4⟩:=fold_spec F (m:=m) ((famM P M mod m L).flatMap λG=>sumA (tblOf P M.toNat mod).ops (elsN (tblOf P M.toNat mod).q) [1] (l+1) G (List.replicate m 0)) b λy hy=>by
  obtain ⟨t,_,h,_⟩:=(hin y).1 hy
  exact ⟨h.1,h.2.2⟩
 refine ⟨?_,?_,a3,λhlk=>a4 (.inl ?_)⟩
 ·rcases a1 with h | ⟨y,hy,h⟩
  ·exact .inl h
  ·obtain ⟨t,_,h2,_⟩:=(hin y).1 hy
   exact .inr ⟨y,h2,h⟩
 ·rintro x hx ⟨t,ht,h⟩
  obtain ⟨y,hy,h2⟩:=look_some hE (hall t ht).1 (hall t ht).2.1 hx h
  rw [<- h2]
  exact a2 y (List.mem_flatMap.2 ⟨_,List.mem_map.2 ⟨t,ht,rfl⟩,hy⟩)
 ·intro hnil
  obtain ⟨t,ht⟩:=List.exists_mem_of_ne_nil _ (fam_ne hE (by omega))
  rw [List.flatMap_eq_nil_iff] at hnil
  have h2:=hnil _ (List.mem_map.2 ⟨t,ht,rfl⟩)
  obtain ⟨hI,hql,hg⟩:=setB_in (hall t ht).1 (hall t ht).2.1
  have h3:=sumA_count (tblOf P M.toNat mod).ops (elsN (tblOf P M.toNat mod).q) 1 l (sysL (tblOf P M.toNat mod).ops m L t.1) (List.replicate m 0)
  rw [h2,(sys_law hE hI hql hg).2.1,elsN_len] at h3
  have h4:=chN_pos L.length (l+1) hlk
  have hq : 1<=(tblOf P M.toNat mod).q - 1:=by have h5 : (1 : Int)<(tblOf P M.toNat mod).q:=F.one.2;omega
  have h6 : 0<chN L.length (l+1) * ((tblOf P M.toNat mod).q - 1) ^ l:=Nat.mul_pos h4 (Nat.pow_pos hq)
  simp at h3
  omega
def RndOk (P M : Int) (mod : List Int) (m : Nat) (L : List (List Int)) (r : List Int) : Prop :=
 ∀x,CW P M mod m L x->((∃t ∈ famL (tblOf P M.toNat mod).ops L m,(wtL (pickL t.1 x) : Int)<=nth r 0)->nth r 2<=wtL x)/\((∀t ∈ famL (tblOf P M.toNat mod).ops L m,nth r 0<(wtL (pickL t.1 x) : Int))->nth r 3<=wtL x)
def BestOk (P M : Int) (mod : List Int) (m : Nat) (L : List (List Int)) (b : List Int) : Prop:=CW P M mod m L b/\monS (tblOf P M.toNat mod).ops b=b
theorem sr_law (hE : codeE P M mod m L=0) (hk : 1<=L.length) (hk64 : L.length<=64) : ∀(f w : Nat) (b : List Int) (n : Nat) (o : List (List Int)),w+1+f=L.length+1->((w=0/\b=[])\/BestOk P M mod m L b) ->
  (∀x,CW P M mod m L x->(∃t ∈ famL (tblOf P M.toNat mod).ops L m,wtL (pickL t.1 x)<=w)->leK b (monS (tblOf P M.toNat mod).ops x))->(∀r ∈ o,RndOk P M mod m L r) ->
  ∀ {o2 : List (List Int)} {b2 : List Int} {e : Int},srS (tblOf P M.toNat mod).ops (tblOf P M.toNat mod).q m L.length (famM P M mod m L) ((famL (tblOf P M.toNat mod).ops L m).map (·.2)) f (w+1) b n o=(o2,b2,e) ->
  (e=8/\o2=[]/\b2=[])\/(e=0/\BestOk P M mod m L b2/\(∀x,CW P M mod m L x->leK b2 (monS (tblOf P M.toNat mod).ops x))/\(∀r ∈ o2,RndOk P M mod m L r)/\o.length+(if f=0 then 0 else 1)<=o2.length)
 | 0,w,b,n,o,hw,hb,hs,ho,o2,b2,e,h=>by
  rw [srS] at h
  obtain ⟨rfl,rfl,rfl⟩ : o=o2/\b=b2/\0=e:=by simpa using h
  refine .inr ⟨rfl,hb.resolve_left (λh=>by omega),λx hx=>hs x hx ?_,ho,by simp⟩
  obtain ⟨t,ht⟩:=List.exists_mem_of_ne_nil _ (fam_ne hE hk)
  refine ⟨t,ht,?_⟩
  have h1 : wtL (pickL t.1 x)<=(pickL t.1 x).length:=List.countP_le_length
  have h2:=(isB_iff.1 (chain_mem (fam_all hE).1 t ht).2.1).1
  rw [show (pickL t.1 x).length=t.1.length by simp [pickL]] at h1
  omega
 | f+1,w,b,n,o,hw,hb,hs,ho,o2,b2,e,h=>by
  obtain ⟨N',e0,hm1,hm64,F,hR⟩:=codeE_fld hE
  obtain rfl : m=N':=by omega
  obtain ⟨a1,a2,a3,a4⟩:=rnd_spec hE w b
  have a4:=a4 (by omega)
  rw [srS] at h
  by_cases hm : moreB (tblOf P M.toNat mod).q L.length (famM P M mod m L).length n (w+1)=true
  rotate_left
  ·rw [if_neg hm] at h
   obtain ⟨rfl,rfl,rfl⟩ : []=o2/\[]=b2/\8=e:=by simpa using h
   exact .inl ⟨rfl,rfl,rfl⟩
  rw [if_pos hm] at h
  clear hm
  obtain ⟨B,hB⟩ : ∃B,rndS (tblOf P M.toNat mod).ops (tblOf P M.toNat mod).q m (w+1) (famM P M mod m L) b=B:=⟨_,rfl⟩
  obtain ⟨fl,hfl⟩ : ∃fl,flTo (L.length : Int) ((w+1 : Nat) : Int) ((famL (tblOf P M.toNat mod).ops L m).map (·.2)) ((famL (tblOf P M.toNat mod).ops L m).map (·.2)).length=fl:=⟨_,rfl⟩
  rw [hB,hfl] at h
  rw [hB] at a1 a2 a3 a4
  have hBk : BestOk P M mod m L B:=by
   rcases a1 with h1 | ⟨y,hy,h1⟩
   ·rcases hb with hb | hb
    ·rw [h1,hb.2] at a4;exact absurd wtM_nil a4
    ·rw [h1];exact hb
   ·rw [h1];exact ⟨hy.mon hE,monS_idem F hy.1 hy.2.2⟩
  have hseen : ∀x,CW P M mod m L x->(∃t ∈ famL (tblOf P M.toNat mod).ops L m,wtL (pickL t.1 x)<=w+1)->leK B (monS (tblOf P M.toNat mod).ops x):=by
   rintro x hx ⟨t,ht,hle⟩
   by_cases e1 : wtL (pickL t.1 x)=w+1
   ·exact a2 x hx ⟨t,ht,e1⟩
   ·have hc:=pick_ne hE (chain_mem (fam_all hE).1 t ht).1 (chain_mem (fam_all hE).1 t ht).2.1 hx
    rcases hb with hb | hb
    ·omega
    ·exact (a3 hb.1.2.2).trans (hs x hx ⟨t,ht,by omega⟩)
  have hfloor : ∀x,CW P M mod m L x->(∀t ∈ famL (tblOf P M.toNat mod).ops L m,((w+1 : Nat) : Int)<(wtL (pickL t.1 x) : Int))->fl<=wtL x:=λx hx hu=>by
   obtain ⟨f',h1,h2⟩:=fam_bound hE hx.1.1 (v:=((w+1 : Nat) : Int)) (by omega) hk64 hu
   unfold flV at h1
   split at h1
   ·rw [hfl] at h1
    obtain ⟨rfl,_⟩ : fl=f'/\True:=by simpa using h1
    exact h2
   ·simp at h1
  have hro : ∀r ∈ o ++ [[((w+1 : Nat) : Int),((n+rndN (tblOf P M.toNat mod).q L.length (famM P M mod m L).length (w+1) : Nat) : Int),(wtL B : Int),fl]],RndOk P M mod m L r:=λr hr=>by
   rcases List.mem_append.1 hr with hr | hr
   ·exact ho r hr
   ·rw [List.mem_singleton.1 hr]
    intro x hx
    refine ⟨?_,λhu=>hfloor x hx hu⟩
    rintro ⟨t,ht,hle⟩
    have hle2 : (wtL (pickL t.1 x) : Int)<=((w+1 : Nat) : Int):=hle
    have h1:=(hseen x hx ⟨t,ht,by omega⟩).wt
    rw [monS_wt F hx.1 hx.2.2] at h1
    show (wtL B : Int)<=wtL x
    omega
  by_cases hst : fl > (wtL B : Int)
  ·rw [if_pos hst] at h
   simp only [Prod.mk.injEq] at h
   obtain ⟨rfl,rfl,rfl⟩:=h
   refine .inr ⟨rfl,hBk,λx hx=>?_,hro,by simp⟩
   by_cases hx2 : ∃t ∈ famL (tblOf P M.toNat mod).ops L m,wtL (pickL t.1 x)<=w+1
   ·exact hseen x hx hx2
   ·have h1:=hfloor x hx λt ht=>by
     have : ¬ wtL (pickL t.1 x)<=w+1:=λh2=>hx2 ⟨t,ht,h2⟩
     omega
    left
    rw [monS_wt F hx.1 hx.2.2]
    omega
  ·rw [if_neg hst] at h
   rcases sr_law hE hk hk64 f (w+1) B _ _ (by omega) (.inr hBk) hseen hro h with h1 | ⟨h1,h2,h3,h4,h5⟩
   ·exact .inl h1
   ·refine .inr ⟨h1,h2,h3,h4,?_⟩
    rw [List.length_append,List.length_singleton] at h5
    split at h5 <;> simp <;> omega
end
end

section
set_option maxRecDepth 100000
set_option maxHeartbeats 4000000

open Go.RowKit
def DualPost (P M : Int) (mod : List Int) (m : Nat) (L : List (List Int)) (w : World) (e : Ending) (w' : World) : Prop :=
 ∃a1 c1 a2 c2,e = .returned (.tuple #[.agg #[.int .i64 P,.int .i64 M,.slice a1 mod.length c1,.int .i64 m,.slice a2 (dualL (tblOf P M.toNat mod) L m).length c2],.int .i64 0])/\IntsN w.heap.size w' a1 mod.length mod /\
  MatN w.heap.size w' a2 (dualL (tblOf P M.toNat mod) L m).length (dualL (tblOf P M.toNat mod) L m)/\Below w.heap.size w w'
theorem set_two {w : World} {g : Nat} {x y u v : Value} (h0 : w.cell? ⟨g,0,none⟩=some x) (h1 : w.cell? ⟨g,1,none⟩=some y) :
  ((w.setCell ⟨g,0,none⟩ u).setCell ⟨g,1,none⟩ v).cell? ⟨g,0,none⟩=some u/\((w.setCell ⟨g,0,none⟩ u).setCell ⟨g,1,none⟩ v).cell? ⟨g,1,none⟩=some v:=by
 have e1 : (w.setCell ⟨g,0,none⟩ u).cell? ⟨g,0,none⟩=some u:=World.cell?_setCell_same w _ _ h0
 have e2 : (w.setCell ⟨g,0,none⟩ u).cell? ⟨g,1,none⟩=some y:=by rw [World.cell?_setCell_other _ _ _ _ (by simp)];exact h1
 exact ⟨by rw [World.cell?_setCell_other _ _ _ _ (by simp)];exact e1,World.cell?_setCell_same _ _ _ e2⟩
theorem dual_any (P M : Int) (am : Option Addr) (mn cm : Nat) (mod : List Int) (m : Nat) (a : Option Addr) (n c : Nat) (L : List (List Int)) (w : World) (hmod : Ints w am mn mod) (hi : Mat w a n L) (hE : codeE P M mod m L=0) (hmn : mn<=1000000) :
  Calls Tryz.prog 37 #[.agg #[.int .i64 P,.int .i64 M,.slice am mn cm,.int .i64 m,.slice a n c]] w (DualPost P M mod m L w):=by
 go_enter Tryz.func37,Tryz.ntmps37
 go_wp2_with fail
 obtain ⟨W,hW⟩ : ∃W : World,W=(w.alloc (.cells #[.int .i64 P,.int .i64 M,.slice am mn cm,.int .i64 m,.slice a n c] 27)).alloc (.cells #[.int .i64 0,.int .i64 0,.slice none 0 0,.int .i64 0,.slice none 0 0] 27):=⟨_,rfl⟩
 rw [<- hW]
 have hbW : Below w.heap.size w W:=by rw [hW];exact below2 _ _ _
 have hsW : W.heap.size=w.heap.size+2:=by rw [hW];simp
 have x0 : Box W w.heap.size [.int .i64 P,.int .i64 M,.slice am mn cm,.int .i64 m,.slice a n c]:=by rw [hW];exact (Box.new _ _ _ rfl).alloc _
 have z0 : Box W (w.heap.size+1) [.int .i64 0,.int .i64 0,.slice none 0 0,.int .i64 0,.slice none 0 0]:=by rw [hW];exact Box.new _ _ _ (by simp)
 clear hW
 refine (codeCheck_any P M am mn cm mod m a n c L W (hmod.keep hbW) (hi.keep hbW)).mono ?_
 rintro e w1 ⟨rfl,hb1⟩
 have hbw1:=Below.next hbW hb1
 have HK : Hid (∀V,Below w1.heap.size w1 V->Calls Tryz.prog 77 #[.agg #[.int .i64 P,.int .i64 M,.slice am mn cm],.agg #[.int .i64 m,.slice a n c]] V (KerPost (tblOf P M.toNat mod) L m V)):=λV hV =>
  kernel_any P M am mn cm mod m a n c L V (hmod.keep (Below.next hbw1 hV)) (hi.keep (Below.next hbw1 hV)) hE
 have HO : Hid (∀V a5 k5 c5,Below w1.heap.size w1 V->Calls Tryz.prog 78 #[.agg #[.int .i64 P,.int .i64 M,.slice am mn cm],.agg #[.int .i64 m,.slice a5 k5 c5],.int .i64 0] V (OfPost P M mod m a5 k5 c5 V)):=λV a5 k5 c5 hV =>
  of_any P M am mn cm mod m a5 k5 c5 V (hmod.keep (Below.next hbw1 hV)) hmn
 have HPost : Hid (∀a1 c1 a2 c2 w',IntsN w.heap.size w' a1 mod.length mod->MatN w.heap.size w' a2 (dualL (tblOf P M.toNat mod) L m).length (dualL (tblOf P M.toNat mod) L m)->Below w.heap.size w w' ->
   DualPost P M mod m L w (.returned (.tuple #[.agg #[.int .i64 P,.int .i64 M,.slice a1 mod.length c1,.int .i64 m,.slice a2 (dualL (tblOf P M.toNat mod) L m).length c2],.int .i64 0])) w'):=λa1 c1 a2 c2 w' h1 h2 h3=>⟨a1,c1,a2,c2,rfl,h1,h2,h3⟩
 rw [hE]
 unfold KerPost at HK
 obtain ⟨KM,hKM⟩ : ∃KM,dualL (tblOf P M.toNat mod) L m=KM:=⟨_,rfl⟩
 rw [hKM] at HK HPost
 have hS : ∀V,Below w1.heap.size w1 V->V.cell? ⟨w.heap.size,0,none⟩=some (.int .i64 P)/\V.cell? ⟨w.heap.size,1,none⟩=some (.int .i64 M)/\V.cell? ⟨w.heap.size,2,none⟩=some (.slice am mn cm)/\V.cell? ⟨w.heap.size,3,none⟩=some (.int .i64 m)/\V.cell? ⟨w.heap.size,4,none⟩=some (.slice a n c) /\
   Box V (w.heap.size+1) [.int .i64 0,.int .i64 0,.slice none 0 0,.int .i64 0,.slice none 0 0]:=λV hV=>by
  have x1:=(x0.keep hb1).keep hV
  exact ⟨x1.cell 0 rfl,x1.cell 1 rfl,x1.cell 2 rfl,x1.cell 3 rfl,x1.cell 4 rfl,(z0.keep hb1).keep hV⟩
 have HS:=Lib.hid hS
 have Hbw1:=Lib.hid hbw1
 have HsW : Hid (w.heap.size+2<=w1.heap.size):=by show _<=_;rw [<- hsW];exact hb1.size
 obtain ⟨c0,c1,c2,c3,c4,_⟩:=HS.out w1 (Below.refl _ _)
 obtain ⟨q,hq⟩ : ∃q,KM.length=q:=⟨_,rfl⟩
 rw [hq] at HK HPost
 clear hE hKM hS x0 z0 hbW hsW hmod hi hb1 hbw1 hq
 go_wp2_with fail
 go_cut [5,6] (λv5 v6 wx=>∃g a5 c5,v5 = .pointer (some ⟨g,0,none⟩)/\v6 = .int .i64 0/\wx.cell? ⟨g,0,none⟩=some (.int .i64 m)/\wx.cell? ⟨g,1,none⟩=some (.slice a5 q c5)/\MatN w1.heap.size wx a5 q KM/\Below w1.heap.size w1 wx)
 case first =>
  obtain ⟨b0,b1,b2,b3,b4,_⟩:=HS.out (w1.alloc (.cells #[.int .i64 0,.slice none 0 0] 82)) (below1 _ _)
  go_region_law ((first
   | (go_simp;go_at_call 73;((with_reducible refine (gen_any P M am mn cm m a n c _).mono ?_);rintro e w4 ⟨rfl,hb4⟩;have hb04 : Below w1.heap.size w1 w4:=(by first | exact Below.next (Below.refl _ _).drew hb4 | exact Below.next (below1 _ (.cells #[.int .i64 0,.slice none 0 0] 82)).drew hb4 | exact Below.next (Below.allocN (Below.refl _ _).drew _) hb4);obtain ⟨c0,c1,c2,c3,c4,_⟩:=HS.out w4 hb04;obtain ⟨d0,d1,d2,d3,d4,_⟩:=HS.out (w4.alloc (.cells #[.int .i64 0,.slice none 0 0] 82)) (Below.allocN hb04 _);(first | (have gz0:=cell_keep hb4 (cell_alloc_at (g:=w1.heap.size) w1 #[.int .i64 0,.slice none 0 0] 82 rfl 0);have gz1:=cell_keep hb4 (cell_alloc_at (g:=w1.heap.size) w1 #[.int .i64 0,.slice none 0 0] 82 rfl 1);have gf0:=frozen_keep hb4 (by simp) (frozen_at (g:=w1.heap.size) w1 #[.int .i64 0,.slice none 0 0] 82 rfl 0);have gf1:=frozen_keep hb4 (by simp) (frozen_at (g:=w1.heap.size) w1 #[.int .i64 0,.slice none 0 0] 82 rfl 1)) | skip)))
   | (go_simp;go_at_call 77;((with_reducible refine (HK.out _ (by first | exact hb04 | exact Below.allocN hb04 _)).mono ?_);rintro e w5 ⟨a5,c5,rfl,hN5,hb5⟩;have hb05 : Below w1.heap.size w1 w5:=(by first | exact Below.next hb04 hb5 | exact Below.next (Below.allocN hb04 _) hb5);(first | (have gy0:=cell_keep hb5 gz0;have gy1:=cell_keep hb5 gz1;have gh0:=frozen_keep hb5 (World.block_lt_of_cell? _ _ gz0) gf0;have gh1:=frozen_keep hb5 (World.block_lt_of_cell? _ _ gz1) gf1) | (have gy0:=cell_keep hb5 (cell_alloc_at w4 #[.int .i64 0,.slice none 0 0] 82 rfl 0);have gy1:=cell_keep hb5 (cell_alloc_at w4 #[.int .i64 0,.slice none 0 0] 82 rfl 1);have gh0:=frozen_keep hb5 (by simp) (frozen_at w4 #[.int .i64 0,.slice none 0 0] 82 rfl 0);have gh1:=frozen_keep hb5 (by simp) (frozen_at w4 #[.int .i64 0,.slice none 0 0] 82 rfl 1)) | skip)))))
  all_goals (go_wp2_with fail;go_meet)
  all_goals (first
   | exact ⟨w5.heap.size,a5,c5,rfl,rfl,cell_alloc_at _ _ _ rfl 0,cell_alloc_at _ _ _ rfl 1,(hN5.keep (below1 _ _)).mono (by first | exact hb04.size | exact (Below.allocN hb04 _).size),Below.allocN hb05 _⟩
   | exact ⟨w1.heap.size,a5,c5,rfl,rfl,(set_two gy0 gy1).1,(set_two gy0 gy1).2,((hN5.setCell (p:=⟨w1.heap.size,0,none⟩) (World.block_lt_of_cell? _ _ gz0) _).setCell (p:=⟨w1.heap.size,1,none⟩) (World.block_lt_of_cell? _ _ gz1) _).mono hb04.size,(hb05.setCell (p:=⟨w1.heap.size,0,none⟩) (Nat.le_refl _) _).setCell (p:=⟨w1.heap.size,1,none⟩) (Nat.le_refl _) _⟩
   | exact ⟨w4.heap.size,a5,c5,rfl,rfl,(set_two gy0 gy1).1,(set_two gy0 gy1).2,((hN5.setCell (p:=⟨w4.heap.size,0,none⟩) (by simp) _).setCell (p:=⟨w4.heap.size,1,none⟩) (by simp) _).mono (Below.allocN hb04 _).size,(hb05.setCell (p:=⟨w4.heap.size,0,none⟩) hb04.size _).setCell (p:=⟨w4.heap.size,1,none⟩) hb04.size _⟩)
 obtain ⟨g,a5,c5,rfl,rfl,g0,g1,hN5,hb5⟩:=hcut
 generalize wc=V at *
 obtain ⟨c0,c1,c2,c3,c4,zz⟩:=HS.out V hb5
 have HOV:=Lib.hid (HO.out V a5 q c5 hb5)
 clear HK HO
 go_wp2_with fail
 refine HOV.out.mono ?_
 rintro e w6 ⟨a6,c6,rfl,hN6,hb6⟩
 obtain ⟨_,_,_,_,_,zz6⟩:=HS.out w6 (Below.next hb5 hb6)
 have z0:=zz6.cell 0 rfl
 have z1:=zz6.cell 1 rfl
 have z2:=zz6.cell 2 rfl
 have z3:=zz6.cell 3 rfl
 have z4:=zz6.cell 4 rfl
 have f0:=zz6.frozen 0
 have f1:=zz6.frozen 1
 have f2:=zz6.frozen 2
 have f3:=zz6.frozen 3
 have f4:=zz6.frozen 4
 have hbF:=Below.next Hbw1.out (Below.next hb5 hb6)
 have hs:=HsW.out
 have hs2:=hb5.size
 have hM6:=hN5.keep hb6
 have hFin:=HPost.out a6 c6 a5 c5 (((((w6.setCell ⟨w.heap.size+1,0,none⟩ (.int .i64 P)).setCell ⟨w.heap.size+1,1,none⟩ (.int .i64 M)).setCell ⟨w.heap.size+1,2,none⟩ (.slice a6 mod.length c6)).setCell ⟨w.heap.size+1,3,none⟩ (.int .i64 m)).setCell ⟨w.heap.size+1,4,none⟩ (.slice a5 q c5))
  ((((((hN6.setCell (p:=⟨w.heap.size+1,0,none⟩) (by simp;omega) _).setCell (p:=⟨w.heap.size+1,1,none⟩) (by simp;omega) _).setCell (p:=⟨w.heap.size+1,2,none⟩) (by simp;omega) _).setCell (p:=⟨w.heap.size+1,3,none⟩) (by simp;omega) _).setCell (p:=⟨w.heap.size+1,4,none⟩) (by simp;omega) _).mono (by omega))
  ((((((hM6.setCell (p:=⟨w.heap.size+1,0,none⟩) (by simp;omega) _).setCell (p:=⟨w.heap.size+1,1,none⟩) (by simp;omega) _).setCell (p:=⟨w.heap.size+1,2,none⟩) (by simp;omega) _).setCell (p:=⟨w.heap.size+1,3,none⟩) (by simp;omega) _).setCell (p:=⟨w.heap.size+1,4,none⟩) (by simp;omega) _).mono (by omega))
  (((((hbF.setCell (p:=⟨w.heap.size+1,0,none⟩) (by simp) _).setCell (p:=⟨w.heap.size+1,1,none⟩) (by simp) _).setCell (p:=⟨w.heap.size+1,2,none⟩) (by simp) _).setCell (p:=⟨w.heap.size+1,3,none⟩) (by simp) _).setCell (p:=⟨w.heap.size+1,4,none⟩) (by simp) _)
 have HFin:=Lib.hid hFin
 clear hFin hM6 hN5 hN6 HOV zz zz6
 go_wp2_with fail
 exact bodyPost_ret (v:=.tuple #[.agg #[.int .i64 P,.int .i64 M,.slice a6 mod.length c6,.int .i64 m,.slice a5 q c5],.int .i64 0]) (by simp [results,Tryz.results37,go_sem,z0,z1,z2,z3,z4]) rfl HFin.out
end

section
set_option maxRecDepth 100000
set_option maxHeartbeats 4000000

open Go.RowKit
def szV (P M : Int) (mod : List Int) (N : Int) (L : List (List Int)) : Int:=if codeE P M mod N L=0 then expV (tblOf P M.toNat mod).q L.length else 0
def szE (P M : Int) (mod : List Int) (N : Int) (L : List (List Int)) : Int:=if codeE P M mod N L=0 then expE (tblOf P M.toNat mod).q L.length else codeE P M mod N L
theorem q_order {P M : Int} {mod : List Int} {N : Int} {L : List (List Int)} (hE : codeE P M mod N L=0) : orderS P M=((tblOf P M.toNat mod).q : Nat)/\(2 : Int)<=(tblOf P M.toNat mod).q/\((tblOf P M.toNat mod).q : Int)<=256:=by
 obtain ⟨m,hm,_,hq,_⟩:=eq_ops (codeE_zero hE).1
 subst hm
 rw [Int.toNat_natCast]
 rw [hq]
 have h0 : orderS P m ≠ 0:=by
  intro h0
  have h1:=(codeE_zero hE).1
  unfold fieldB shapeB at h1
  simp [h0] at h1
 obtain ⟨h1,h2,h3,h4,h5,h6⟩:=orderS_ne h0
 refine ⟨rfl,?_,by omega⟩
 rw [h6]
 have:=pow_mono (show 1<=P by omega) (show 1<=(m : Int).toNat by omega)
 have e : P ^ 1=P:=by rw [Int.pow_succ,Int.pow_zero,Int.one_mul]
 omega
theorem rSize12_any (P M : Int) (am : Option Addr) (mn cm : Nat) (mod : List Int) (N : Int) (a : Option Addr) (k c : Nat) (L : List (List Int)) (w : World) (hmod : Ints w am mn mod) (hi : Mat w a k L) :
  Calls Tryz.prog 56 #[.agg #[.int .i64 P,.int .i64 M,.slice am mn cm,.int .i64 N,.slice a k c]] w λe w' =>
   e = .returned (.tuple #[.int .i64 (szV P M mod N L),.int .i64 (szE P M mod N L)])/\Below w.heap.size w w':=by
 have HCk : Hid (∀V,Below w.heap.size w V->Calls Tryz.prog 22 #[.agg #[.int .i64 P,.int .i64 M,.slice am mn cm,.int .i64 N,.slice a k c]] V λe w'=>e = .returned (.int .i64 (codeE P M mod N L))/\Below V.heap.size V w'):=λV hV=>by
  have h:=rCodeCheck_any P M am mn cm mod N a k c L V (hmod.keep hV) (hi.keep hV) λh=>hinv_all h
  rw [rcodeE_eq] at h
  exact h
 have hkl : L.length=k:=hi.len
 go_enter Tryz.func56,Tryz.ntmps56
 go_upto_region 1 with fail
 obtain ⟨W,hW⟩ : ∃W : World,W=w.alloc (.cells #[.int .i64 P,.int .i64 M,.slice am mn cm,.int .i64 N,.slice a k c] 27):=⟨_,rfl⟩
 rw [<- hW]
 have hbW : Below w.heap.size w W:=by rw [hW];exact below1 _ _
 have x0 : Box W w.heap.size [.int .i64 P,.int .i64 M,.slice am mn cm,.int .i64 N,.slice a k c]:=by rw [hW];exact Box.new _ _ _ rfl
 have HX:=Lib.hid x0
 have c0:=x0.cell 0 rfl
 have c1:=x0.cell 1 rfl
 have c2:=x0.cell 2 rfl
 have c3:=x0.cell 3 rfl
 have c4:=x0.cell 4 rfl
 clear hW x0
 by_cases hE : codeE P M mod N L=0
 ·have hk256 : k<=256:=by rw [<- hkl];exact (codeE_rws hE).choose_spec.2.2.2.1
  obtain ⟨ho,hq2,hq256⟩:=q_order hE
  have HV : Hid (szV P M mod N L=expV (tblOf P M.toNat mod).q k/\szE P M mod N L=expE (tblOf P M.toNat mod).q k):=by
   show _/\_
   unfold szV szE
   rw [if_pos hE,if_pos hE,hkl];exact ⟨rfl,rfl⟩
  rw [hE] at HCk
  have HOr : Hid (∀V,Calls Tryz.prog 45 #[.agg #[.int .i64 P,.int .i64 M,.slice am mn cm]] V λe w'=>e = .returned (.int .i64 ((tblOf P M.toNat mod).q : Nat))/\Below V.heap.size V w'):=λV=>by
   have h:=rOrder_any P M am mn cm V
   rw [ho] at h
   exact h
  generalize (tblOf P M.toNat mod).q=q at *
  clear ho hE hkl
  go_wp2_with (go_at_call 22;refine (HCk.out _ hbW).mono ?_;rintro e w3 ⟨rfl,hb3⟩;clear c0 c1 c2 c3 c4)
  have HS : Hid (∀V,Below w3.heap.size w3 V->V.cell? ⟨w.heap.size,0,none⟩=some (.int .i64 P)/\V.cell? ⟨w.heap.size,1,none⟩=some (.int .i64 M)/\V.cell? ⟨w.heap.size,2,none⟩=some (.slice am mn cm)/\V.cell? ⟨w.heap.size,4,none⟩=some (.slice a k c)/\Below w3.heap.size w3 V):=λV hV=>by
   have x3:=(HX.out.keep hb3).keep hV
   exact ⟨x3.cell 0 rfl,x3.cell 1 rfl,x3.cell 2 rfl,x3.cell 4 rfl,hV⟩
  go_region_held3 (λV=>V.cell? ⟨w.heap.size,0,none⟩=some (.int .i64 P)/\V.cell? ⟨w.heap.size,1,none⟩=some (.int .i64 M)/\V.cell? ⟨w.heap.size,2,none⟩=some (.slice am mn cm)/\V.cell? ⟨w.heap.size,4,none⟩=some (.slice a k c)/\Below w3.heap.size w3 V)
   ((refine HS.out _ ?_;first | exact (Below.refl _ _).drew | (go_split_ands;assumption) | (go_split_ands;exact Below.next (by assumption) (by assumption))))
   (first
    | (go_at_call 45;((with_reducible refine (HOr.out _).mono ?_);rintro e w4 ⟨rfl,hb4⟩))
    | (go_at_call 108;((with_reducible refine (rExp_any (q : Int) k _ hq2 hq256 (by omega)).mono ?_);rintro e w5 ⟨rfl,rfl⟩)))
  all_goals go_wp2_with fail
  all_goals go_ret2
  all_goals exact ⟨ret_two HV.out.1.symm HV.out.2.symm,Below.next (Below.next hbW hb3) (by go_split_ands;assumption)⟩
 ·have HV : Hid (szV P M mod N L=0/\szE P M mod N L=codeE P M mod N L):=by
   show _/\_
   unfold szV szE
   rw [if_neg hE,if_neg hE];exact ⟨rfl,rfl⟩
  generalize codeE P M mod N L=z at *
  have hz : (z != 0)=true:=by simpa using hE
  clear hE
  go_wp2_with (go_at_call 22;refine (HCk.out _ hbW).mono ?_;rintro e w3 ⟨rfl,hb3⟩;clear c0 c1 c2 c3 c4)
  go_ret2
  exact ⟨ret_two HV.out.1.symm HV.out.2.symm,Below.next hbW hb3⟩
end

section
theorem dual_parts {P M : Int} {mod : List Int} {m : Nat} {L : List (List Int)} (hE : codeE P M mod m L=0) :
  Rws (tblOf P M.toNat mod).El m (dualL (tblOf P M.toNat mod) L m)/\Orth (tblOf P M.toNat mod).ops m L (dualL (tblOf P M.toNat mod) L m)/\L.length+(dualL (tblOf P M.toNat mod) L m).length=m /\
  Rk (clV (tblOf P M.toNat mod).ops (tblOf P M.toNat mod).El (dualL (tblOf P M.toNat mod) L m).length (colS (dualL (tblOf P M.toNat mod) L m))) (List.range m) (dualL (tblOf P M.toNat mod) L m).length:=by
 obtain ⟨N',e,hm1,hm64,F,hR⟩:=codeE_fld hE
 obtain rfl : m=N':=by omega
 have h6:=(spaceE_zero (codeE_zero hE).2.2.2).2
 rw [Int.toNat_natCast] at h6
 have hcan : canO (tblOf P M.toNat mod).ops m L=L:=h6
 obtain ⟨hPv,hLd⟩:=canO_piv F hR
 have hcl:=canO_len F hR
 rw [hcan] at hPv hLd hcl
 have hK:=kerL_rws F hR hPv hcl
 have hdl : dualL (tblOf P M.toNat mod) L m=canO (tblOf P M.toNat mod).ops m (kerL (tblOf P M.toNat mod).ops m L (elimTo (tblOf P M.toNat mod).ops L m).2 m):=by
  unfold dualL pivS
  rw [h6]
  rfl
 obtain ⟨k1,k2⟩:=ker_canon F hR hPv hLd hcl
 have hKR:=canO_rws F hK
 have hrk:=canO_rk F hK
 rw [<- hdl] at k1 k2 hKR hrk
 exact ⟨hKR,k2,k1,hrk⟩
theorem gA_len (Q : List Int) : (gA Q).length=Q.length:=by
 have hgl : ∀k,(grL Q k).length=k:=λk=>by
  induction k with
  | zero=>rfl
  | succ k ih=>rw [grL,List.length_cons,ih]
 exact hgl _
end

section
open Go.RowKit
section
variable {O : FOps} {El : Int->Prop} {m : Nat} {L : List (List Int)}
theorem comp_asc (t : List Int) : Asc 0 m (frTo false t m):=⟨frTo_pair false t m,λx hx=>by obtain ⟨j,hj,rfl,_⟩:=(mem_frTo m).1 hx;omega⟩
theorem comp_comp {t : List Int} (ht : Asc 0 m t) : frTo false (frTo false t m) m=t:=by
 refine asc_ext (frTo_pair false _ m) ht.1 λv=>?_
 rw [mem_frTo]
 constructor
 ·rintro ⟨j,hj,rfl,h⟩
  rw [decide_eq_false_iff_not] at h
  refine Classical.byContradiction λhn=>h ((mem_frTo m).2 ⟨j,hj,rfl,by simpa using hn⟩)
 ·intro hv
  have h1:=ht.2 v hv
  refine ⟨v.toNat,by omega,by omega,?_⟩
  rw [decide_eq_false_iff_not]
  intro h2
  obtain ⟨j,hj,e,h3⟩:=(mem_frTo m).1 h2
  rw [decide_eq_false_iff_not] at h3
  refine h3 ?_
  have : (j : Int)=v:=by omega
  rw [this];exact hv
theorem used_asc {t : List Int} (ht : Asc 0 m t) : frTo true t m=t:=by
 refine asc_ext (frTo_pair true _ m) ht.1 λv=>?_
 rw [mem_frTo]
 constructor
 ·rintro ⟨j,hj,rfl,h⟩
  exact of_decide_eq_true h
 ·intro hv
  have h1:=ht.2 v hv
  refine ⟨v.toNat,by omega,by omega,?_⟩
  rw [decide_eq_true_eq]
  have : (v.toNat : Int)=v:=by omega
  rw [this];exact hv
theorem comp_len {t : List Int} (ht : Asc 0 m t) : (frTo false t m).length+t.length=m:=by
 have h:=frTo_two t m
 rw [used_asc ht] at h
 exact h
theorem prf_spec (F : Fld O El) (hL : Rws El m L) (hm : m<=64) {i : Nat} (hi : i<=m) : (∀t,Asc 0 m t->t.length=i->dimZ O L m t<=prfR O L m i)/\∃t,Asc 0 m t/\t.length=i/\prfR O L m i=dimZ O L m t:=by
 obtain ⟨g1,g2,g3⟩:=mx_iff (dimZ O L m) (setsS m i 0) (setsS m i 0).length
 have hA : ∀t,Asc 0 m t->t.length=i->dimZ O L m t<=prfR O L m i:=λt ht hl=>by
  obtain ⟨q,hq,e⟩:=mem_nthR (mem_setsS.2 ⟨hl,ht⟩)
  have:=g2 q hq
  rw [e] at this
  exact this
 refine ⟨hA,?_⟩
 rcases g3 with g3 | ⟨j,a1,a2⟩
 ·obtain ⟨t,ht,hl⟩ : ∃t,Asc 0 m t/\t.length=i:=by
   have h0 : Asc 0 m (frTo true ((List.range i).map λ(x : Nat)=>(x : Int)) m):=⟨frTo_pair true _ m,λx hx=>by obtain ⟨j,hj,rfl,_⟩:=(mem_frTo m).1 hx;omega⟩
   have h1 : frTo true ((List.range i).map λ(x : Nat)=>(x : Int)) m=(List.range i).map λ(x : Nat)=>(x : Int):=by
    refine asc_ext (frTo_pair true _ m) ?_ λv=>?_
    ·rw [List.pairwise_map]
     exact List.pairwise_lt_range.imp λh=>by omega
    ·rw [mem_frTo]
     constructor
     ·rintro ⟨j,hj,rfl,h⟩
      exact of_decide_eq_true h
     ·intro hv
      obtain ⟨j,hj,rfl⟩:=List.mem_map.1 hv
      rw [List.mem_range] at hj
      exact ⟨j,by omega,rfl,by rw [decide_eq_true_eq];exact hv⟩
   rw [h1] at h0
   exact ⟨_,h0,by simp⟩
  refine ⟨t,ht,hl,?_⟩
  have h1:=hA t ht hl
  obtain ⟨x,hx,e⟩:=asc_bits hm ht
  have h2:=(dims_nn F hL hx).1
  rw [<- dimZ_bits F hL hx,e] at h2
  have : prfR O L m i=0:=g3
  omega
 ·obtain ⟨b1,b2⟩:=mem_setsS.1 (nthR_mem a1)
  exact ⟨_,b2,b1,a2⟩
theorem prf_step (F : Fld O El) (hL : Rws El m L) (hm : m<=64) {i : Nat} (hi : i<m) : prfR O L m (i+1)<=prfR O L m i+1:=by
 obtain ⟨t,ht,hl,e⟩:=(prf_spec F hL hm (show i+1<=m by omega)).2
 obtain ⟨s,x,rfl⟩ : ∃s x,t=s ++ [x]:=by
  rcases List.eq_nil_or_concat t with h | ⟨s,x,h⟩
  ·rw [h] at hl;simp at hl
  ·exact ⟨s,x,by simpa using h⟩
 have hs : Asc 0 m s:=⟨(List.pairwise_append.1 ht.1).1,λy hy=>ht.2 y (by simp [hy])⟩
 have h1:=(prf_spec F hL hm (show i<=m by omega)).1 s hs (by simp at hl;omega)
 have h2 : rkQ O L (frTo false s m)<=rkQ O L (frTo false (s ++ [x]) m ++ [x]):=rkQ_mono F hL λy hy=>by
  obtain ⟨j,hj,rfl,h⟩:=(mem_frTo m).1 hy
  rw [decide_eq_false_iff_not] at h
  by_cases hx : (j : Int)=x
  ·rw [hx];simp
  ·exact List.mem_append.2 (.inl ((mem_frTo m).2 ⟨j,hj,rfl,by simp [h,hx]⟩))
 have h3:=rkQ_snoc_le F hL (frTo false (s ++ [x]) m) x
 unfold dimZ at h1 e
 omega
end
section
variable {P M : Int} {mod : List Int} {m : Nat} {L : List (List Int)}
theorem dual_dim (hE : codeE P M mod m L=0) {t : List Int} (ht : Asc 0 m t) :
  dimZ (tblOf P M.toNat mod).ops (dualL (tblOf P M.toNat mod) L m) m t=t.length - L.length+dimZ (tblOf P M.toNat mod).ops L m (frTo false t m):=by
 obtain ⟨N',e,hm1,hm64,F,hR⟩:=codeE_fld hE
 obtain rfl : m=N':=by omega
 obtain ⟨hKR,hO,hlm,hrk⟩:=dual_parts hE
 have hfull:=code_full hE
 have hc:=comp_asc (m:=m) t
 have hcl:=comp_len ht
 have h1:=dual_rk F hR hKR hO hlm hfull hrk (S:=gA (frTo false t m)) (C:=gA t) (λx hx=>by
  obtain ⟨y,hy,rfl⟩:=mem_gA.1 hx
  have:=hc.2 y hy
  omega) (λx hx=>by
  obtain ⟨y,hy,rfl⟩:=mem_gA.1 hx
  have:=ht.2 y hy
  omega) (λp hpm=>by
  by_cases hpA : (p : Int) ∈ t
  ·exact .inr (mem_gA.2 ⟨_,hpA,by simp⟩)
  ·exact .inl (mem_gA.2 ⟨(p : Int),(mem_frTo m).2 ⟨p,hpm,rfl,by simpa using hpA⟩,by simp⟩)) (by rw [gA_len,gA_len];exact hcl) (rkQ_rk F hR t) (rkQ_rk F hKR (frTo false t m))
 rw [gA_len] at h1
 unfold dimZ
 rw [comp_comp ht]
 omega
theorem prf_dual (hE : codeE P M mod m L=0) {i : Nat} (hi : i<=m) :
  prfR (tblOf P M.toNat mod).ops (dualL (tblOf P M.toNat mod) L m) m i=i - L.length+prfR (tblOf P M.toNat mod).ops L m (m - i):=by
 obtain ⟨N',e,hm1,hm64,F,hR⟩:=codeE_fld hE
 obtain rfl : m=N':=by omega
 obtain ⟨hKR,_,_,_⟩:=dual_parts hE
 obtain ⟨a1,t,a2,a3,a4⟩:=prf_spec F hKR hm64 hi
 obtain ⟨b1,s,b2,b3,b4⟩:=prf_spec F hR hm64 (show m - i<=m by omega)
 have h1:=b1 (frTo false t m) (comp_asc t) (by have:=comp_len a2;omega)
 have h2:=dual_dim hE a2
 have h3:=a1 (frTo false s m) (comp_asc s) (by have:=comp_len b2;omega)
 have h4:=dual_dim hE (comp_asc (m:=m) s)
 rw [comp_comp b2] at h4
 have h5:=comp_len b2
 rw [a3] at h2
 omega
theorem prf_mono (hE : codeE P M mod m L=0) : ∀(d i : Nat),i+d<=m->prfR (tblOf P M.toNat mod).ops L m i<=prfR (tblOf P M.toNat mod).ops L m (i+d)
 | 0,i,_=>Int.le_refl _
 | d+1,i,hi=>by
  obtain ⟨N',e,hm1,hm64,F,hR⟩:=codeE_fld hE
  obtain rfl : m=N':=by omega
  have ih:=prf_mono hE d i (by omega)
  have h1:=prf_step F (dual_parts hE).1 hm64 (show m - (i+d) - 1<m by omega)
  rw [show m - (i+d) - 1+1=m - (i+d) by omega,prf_dual hE (by omega),prf_dual hE (by omega)] at h1
  rw [show m - (m - (i+d))=i+d by omega,show m - (m - (i+d) - 1)=i+(d+1) by omega] at h1
  omega
end
end

section
open Go.RowKit
def bsN (x k : Nat) : Nat->Nat
 | 0=>0
 | w+1=>bsN x k w+chN k w * x ^ w
theorem bsN_succ (x k : Nat) : ∀w,bsN x (k+1) (w+1)=bsN x k (w+1)+x * bsN x k w
 | 0=>by simp [bsN,chN_one]
 | w+1=>by
  show bsN x (k+1) (w+1)+chN (k+1) (w+1) * x ^ (w+1)=(bsN x k (w+1)+chN k (w+1) * x ^ (w+1))+x * (bsN x k w+chN k w * x ^ w)
  have e : chN k w * x ^ (w+1)=x * (chN k w * x ^ w):=by rw [Nat.pow_succ];ac_rfl
  rw [bsN_succ x k w,chN_succ,Nat.add_mul,Nat.mul_add,e]
  omega
theorem bsN_le (x : Nat) : ∀k w,bsN x k w<=(x+1) ^ k
 | 0,0=>by simp [bsN]
 | 0,1=>by simp [bsN,chN_one]
 | 0,w+2=>by
  have h:=bsN_le x 0 (w+1)
  show bsN x 0 (w+1)+chN 0 (w+1) * x ^ (w+1)<=_
  rw [chN_zero 0 (w+1) (by omega),Nat.zero_mul]
  exact h
 | k+1,0=>by simp [bsN]
 | k+1,w+1=>by
  rw [bsN_succ,Nat.pow_succ,Nat.mul_add,Nat.mul_one]
  have h1:=bsN_le x k (w+1)
  have h2:=Nat.mul_le_mul_left x (bsN_le x k w)
  rw [Nat.mul_comm x ((x+1) ^ k)] at h2
  omega
theorem srS_fits (O : FOps) {q m k : Nat} {sys : List (List (List Int))} (rks : List Int) (hq : 2<=q) (hs : sys.length * q ^ k<=65536) (hs1 : 1<=sys.length) : ∀(f w : Nat) (b : List Int) (n : Nat) (o : List (List Int)),w+f=k->n<=sys.length * bsN (q - 1) k (w+1) ->
  (srS O q m k sys rks f (w+1) b n o).2.2=0
 | 0,_,_,_,_,_,_=>rfl
 | f+1,w,b,n,o,hw,hn=>by
  obtain ⟨x,hx⟩ : ∃x,q - 1=x+1:=⟨q - 2,by omega⟩
  have hle : bsN (q - 1) k (w+2)<=q ^ k:=by
   have h:=bsN_le (q - 1) k (w+2)
   rwa [show q - 1+1=q by omega] at h
  have hbs : bsN (q - 1) k (w+2)=bsN (q - 1) k (w+1)+chN k (w+1) * (q - 1) ^ (w+1):=rfl
  have hC:=chN_pos k (w+1) (by omega)
  have hX : 1<=(q - 1) ^ (w+1):=Nat.pow_pos (by omega)
  have h1 : chN k (w+1)<=chN k (w+1) * (q - 1) ^ (w+1):=Nat.le_mul_of_pos_right _ hX
  have h2 : (q - 1) ^ (w+1)<=chN k (w+1) * (q - 1) ^ (w+1):=Nat.le_mul_of_pos_left _ hC
  have h3 : (q - 1) ^ w<=(q - 1) ^ (w+1):=Nat.pow_le_pow_right (by omega) (by omega)
  have h4 : q ^ k<=sys.length * q ^ k:=Nat.le_mul_of_pos_left _ hs1
  have h5 : rndN q k sys.length (w+1)<=sys.length * (chN k (w+1) * (q - 1) ^ (w+1)):=by
   unfold rndN
   rw [Nat.add_sub_cancel]
   exact Nat.mul_le_mul_left _ (Nat.mul_le_mul_left _ h3)
  have h6 : sys.length * bsN (q - 1) k (w+2)<=sys.length * q ^ k:=Nat.mul_le_mul_left _ hle
  have h7 : sys.length * bsN (q - 1) k (w+2)=sys.length * bsN (q - 1) k (w+1)+sys.length * (chN k (w+1) * (q - 1) ^ (w+1)):=by rw [hbs,Nat.mul_add]
  have hm : moreB q k sys.length n (w+1)=true:=by
   unfold moreB
   simp only [Bool.and_eq_true,decide_eq_true_eq]
   rw [Nat.add_sub_cancel]
   refine ⟨⟨?_,?_⟩,?_⟩ <;> omega
  rw [srS,if_pos hm]
  split
  ·rfl
  ·exact srS_fits O rks hq hs hs1 f (w+1) _ _ _ (by omega) (by rw [h7];omega)
section
variable {P M : Int} {mod : List Int} {m : Nat} {L : List (List Int)}
theorem fam_len1 (hE : codeE P M mod m L=0) (hk : 1<=L.length) : 1<=(famM P M mod m L).length/\(famM P M mod m L).length<=m:=by
 unfold famM
 rw [List.length_map]
 refine ⟨?_,(fam_all hE).2⟩
 exact List.length_pos_iff.2 (fam_ne hE hk)
theorem run_law (hE : codeE P M mod m L=0) (hk : 1<=L.length) : runR P M mod m L=([],[],8)\/∃o b,runR P M mod m L=(o,b,0)/\BestOk P M mod m L b/\(∀x,CW P M mod m L x->leK b (monS (tblOf P M.toNat mod).ops x))/\(∀r ∈ o,RndOk P M mod m L r)/\1<=o.length:=by
 obtain ⟨N',e,hm1,hm64,F,hR⟩:=codeE_fld hE
 obtain rfl : m=N':=by omega
 have hkm:=code_le hE
 obtain ⟨⟨o,b,er⟩,hr⟩ : ∃r,runR P M mod m L=r:=⟨_,rfl⟩
 have hr2:=hr
 unfold runR at hr2
 rw [if_neg (by rw [hE];decide),if_neg (by omega),Int.toNat_natCast] at hr2
 rcases sr_law hE hk (by omega) L.length 0 [] 0 [] (by omega) (.inl ⟨rfl,rfl⟩) (λx hx ht=>by
  obtain ⟨t,ht,h0⟩:=ht
  have hc:=chain_mem (fam_all hE).1 t ht
  exact absurd (Nat.le_zero.1 h0) (pick_ne hE hc.1 hc.2.1 hx)) (by simp) hr2 with ⟨rfl,rfl,rfl⟩ | ⟨rfl,h2,h3,h4,h5⟩
 ·exact .inl hr
 ·refine .inr ⟨o,b,hr,h2,h3,h4,?_⟩
  rw [if_neg (by omega)] at h5
  simpa using h5
theorem run_good (hE : codeE P M mod m L=0) (hk : 1<=L.length) (hf : m * (tblOf P M.toNat mod).q ^ L.length<=65536) : ∃o b,runR P M mod m L=(o,b,0)/\BestOk P M mod m L b/\(∀x,CW P M mod m L x->leK b (monS (tblOf P M.toNat mod).ops x))/\(∀r ∈ o,RndOk P M mod m L r)/\1<=o.length:=by
 obtain ⟨N',e,hm1,hm64,F,hR⟩:=codeE_fld hE
 obtain rfl : m=N':=by omega
 obtain ⟨h1,h2⟩:=fam_len1 hE hk
 have h0 : (runR P M mod m L).2.2=0:=by
  unfold runR
  rw [if_neg (by rw [hE];decide),if_neg (by omega),Int.toNat_natCast]
  have hq : (1 : Int)<(tblOf P M.toNat mod).q:=F.one.2
  exact srS_fits _ _ (by omega) (Nat.le_trans (Nat.mul_le_mul_right _ h2) hf) h1 L.length 0 [] 0 [] (by omega) (Nat.zero_le _)
 rcases run_law hE hk with h | h
 ·rw [h] at h0;cases h0
 ·exact h
theorem best_min (hE : codeE P M mod m L=0) {b : List Int} (h : ∀x,CW P M mod m L x->leK b (monS (tblOf P M.toNat mod).ops x)) {x : List Int} (hx : CW P M mod m L x) : wtL b<=wtL x:=by
 obtain ⟨N',e,hm1,hm64,F,hR⟩:=codeE_fld hE
 obtain rfl : m=N':=by omega
 have h1:=(h x hx).wt
 rwa [monS_wt F hx.1 hx.2.2] at h1
end
end

section
set_option maxRecDepth 100000
set_option maxHeartbeats 2000000

open Go.RowKit
def cntL (lim P M : Int) (mod : List Int) (N : Int) (L : List (List Int)) : Int:=if szE P M mod N L=0/\szV P M mod N L<=lim then szV P M mod N L else 0
theorem rCountL_any (lim P M : Int) (am : Option Addr) (mn cm : Nat) (mod : List Int) (N : Int) (a : Option Addr) (k c : Nat) (L : List (List Int)) (w : World) (hmod : Ints w am mn mod) (hi : Mat w a k L) :
  Calls Tryz.prog 21 #[.agg #[.int .i64 P,.int .i64 M,.slice am mn cm,.int .i64 N,.slice a k c],.int .i64 lim] w λe w' =>
   e = .returned (.int .i64 (cntL lim P M mod N L))/\Below w.heap.size w w':=by
 have HSz : Hid (∀V,Below w.heap.size w V->Calls Tryz.prog 56 #[.agg #[.int .i64 P,.int .i64 M,.slice am mn cm,.int .i64 N,.slice a k c]] V λe w'=>e = .returned (.tuple #[.int .i64 (szV P M mod N L),.int .i64 (szE P M mod N L)])/\Below V.heap.size V w'):=λV hV =>
  rSize12_any P M am mn cm mod N a k c L V (hmod.keep hV) (hi.keep hV)
 have HC : Hid (cntL lim P M mod N L=if szE P M mod N L=0/\szV P M mod N L<=lim then szV P M mod N L else 0):=rfl
 generalize cntL lim P M mod N L=z at *
 generalize szV P M mod N L=v at *
 generalize szE P M mod N L=f at *
 go_enter Tryz.func21,Tryz.ntmps21
 go_upto_region 1 with fail
 obtain ⟨W,hW⟩ : ∃W : World,W=w.alloc (.cells #[.int .i64 P,.int .i64 M,.slice am mn cm,.int .i64 N,.slice a k c] 27):=⟨_,rfl⟩
 rw [<- hW]
 have hbW : Below w.heap.size w W:=by rw [hW];exact below1 _ _
 have x0 : Box W w.heap.size [.int .i64 P,.int .i64 M,.slice am mn cm,.int .i64 N,.slice a k c]:=by rw [hW];exact Box.new _ _ _ rfl
 have c0:=x0.cell 0 rfl
 have c1:=x0.cell 1 rfl
 have c2:=x0.cell 2 rfl
 have c3:=x0.cell 3 rfl
 have c4:=x0.cell 4 rfl
 clear hW x0
 by_cases hf : f=0
 ·subst hf
  by_cases hv : v<=lim
  ·have Hz : Hid (z=v):=by show _=_;rw [HC.out,if_pos ⟨rfl,hv⟩]
   have hv' : decide (v > lim)=false:=by simpa using hv
   clear hv
   go_wp2_with (go_at_call 56;refine (HSz.out _ hbW).mono ?_;rintro e w3 ⟨rfl,hb3⟩;clear c0 c1 c2 c3 c4)
   go_ret
   exact ⟨ret_int Hz.out.symm,Below.next hbW hb3⟩
  ·have Hz : Hid (z=0):=by show _=_;rw [HC.out,if_neg λh=>hv h.2]
   have hv' : decide (v > lim)=true:=by simpa using hv
   clear hv
   go_wp2_with (go_at_call 56;refine (HSz.out _ hbW).mono ?_;rintro e w3 ⟨rfl,hb3⟩;clear c0 c1 c2 c3 c4)
   go_ret
   exact ⟨ret_int Hz.out.symm,Below.next hbW hb3⟩
 ·have Hz : Hid (z=0):=by show _=_;rw [HC.out,if_neg λh=>hf h.1]
  have hf' : (f != 0)=true:=by simpa using hf
  clear hf
  go_wp2_with (go_at_call 56;refine (HSz.out _ hbW).mono ?_;rintro e w3 ⟨rfl,hb3⟩;clear c0 c1 c2 c3 c4)
  go_ret
  exact ⟨ret_int Hz.out.symm,Below.next hbW hb3⟩
theorem cntL_ne {lim P M : Int} {mod : List Int} {N : Int} {L : List (List Int)} (h : cntL lim P M mod N L ≠ 0) : codeE P M mod N L=0/\(((tblOf P M.toNat mod).q ^ L.length : Nat) : Int)<=lim/\cntL lim P M mod N L=(((tblOf P M.toNat mod).q ^ L.length : Nat) : Int):=by
 unfold cntL at h ⊢
 split at h
 ·rename_i h1
  obtain ⟨h2,h3⟩:=h1
  have hE : codeE P M mod N L=0:=by
   unfold szE at h2
   split at h2
   ·assumption
   ·exact h2
  unfold szE at h2
  rw [if_pos hE] at h2
  unfold expE at h2
  have hle : ((tblOf P M.toNat mod).q : Int) ^ L.length<=65536:=by
   split at h2
   ·assumption
   ·omega
  have e : ((tblOf P M.toNat mod).q : Int) ^ L.length=(((tblOf P M.toNat mod).q ^ L.length : Nat) : Int):=by simp
  have hs : szV P M mod N L=(((tblOf P M.toNat mod).q ^ L.length : Nat) : Int):=by
   unfold szV
   rw [if_pos hE,(expV_in hle).1,e]
  rw [hs] at h3
  refine ⟨hE,by omega,?_⟩
  rw [if_pos ⟨by unfold szE;rw [if_pos hE];exact (expV_in hle).2,by rw [hs];omega⟩,hs]
 ·exact absurd rfl h
end

section
open Go.RowKit
theorem supp_nodup (x : List Int) (m : Nat) : (supp x m).Nodup:=by
 unfold supp List.Nodup
 rw [List.pairwise_map]
 exact List.Pairwise.imp (λh e=>h (Int.ofNat.inj e)) (List.Pairwise.filter _ (List.nodup_range (n:=m)))
theorem supp_in {x s : List Int} {m : Nat} (h : x.length=m) (hs : ∀j : Nat,j<m->¬ (j : Int) ∈ s->nth x j=0) : wtL x<=s.length:=by
 rw [<- supp_len h]
 refine nodup_sub_len (supp_nodup x m) λy hy=>?_
 obtain ⟨j,hj,hn,rfl⟩:=mem_supp.1 hy
 exact Classical.byContradiction λhc=>hn (hs j hj hc)
theorem supp_asc (x : List Int) (m : Nat) : Asc 0 m (supp x m):=by
 refine ⟨?_,λy hy=>?_⟩
 ·unfold supp
  rw [List.pairwise_map]
  exact List.Pairwise.imp (λh=>Int.ofNat_lt.2 h) (List.Pairwise.filter _ List.pairwise_lt_range)
 ·obtain ⟨j,hj,_,rfl⟩:=mem_supp.1 hy
  omega
section
variable {P M : Int} {mod : List Int} {m : Nat} {L : List (List Int)}
theorem cw_msg (hE : codeE P M mod m L=0) {v : List Int} (hl : v.length=L.length) (hv : ∀k,k<L.length->(tblOf P M.toNat mod).El (nth v k)) (h0 : wtL v ≠ 0) : CW P M mod m L (cmbTo (tblOf P M.toNat mod).ops m v L L.length):=by
 obtain ⟨N',e,hm1,hm64,F,hR⟩:=codeE_fld hE
 obtain rfl : m=N':=by omega
 obtain ⟨c1,c2⟩:=cmb_rs F hR hv L.length (Nat.le_refl _)
 refine ⟨c1,c2,λhz=>h0 (wtL_zero.2 λk hk=>?_)⟩
 obtain ⟨p,hp,hpl⟩:=code_piv hE
 have hpk:=hp.lt k (by omega)
 rw [<- cmb_piv hE hp hpl hv (by omega : k<L.length)]
 exact wtL_zero.1 hz _ (by rw [c1.1];omega)
theorem msg_cw (hE : codeE P M mod m L=0) {x : List Int} (hx : CW P M mod m L x) : ∃v : List Int,v.length=L.length/\(∀k,k<L.length->(tblOf P M.toNat mod).El (nth v k))/\x=cmbTo (tblOf P M.toNat mod).ops m v L L.length/\wtL v ≠ 0:=by
 obtain ⟨N',e,hm1,hm64,F,hR⟩:=codeE_fld hE
 obtain rfl : m=N':=by omega
 obtain ⟨v,hv,h2⟩:=RS.cmb F hR hx.2.1
 have hve : ∀k,k<L.length->(tblOf P M.toNat mod).El (nth v k):=λk hk=>hv.at hk
 have c1:=(cmb_rs F hR hve L.length (Nat.le_refl _)).1
 have hxe : x=cmbTo (tblOf P M.toNat mod).ops m v L L.length:=nth_ext (by rw [hx.1.1,c1.1]) λi hi=>h2 i (by rw [<- hx.1.1];exact hi)
 refine ⟨v,hv.1,hve,hxe,λh0=>hx.2.2 ?_⟩
 rw [hxe,cmb_zero _ _ (wtM_zero.1 h0) _ (by rw [hv.1];exact Nat.le_refl _)]
 exact wtM_zero.2 rep_zero
theorem prf_pos (hE : codeE P M mod m L=0) {i : Nat} (hi : i<=m) : 1<=prfR (tblOf P M.toNat mod).ops L m i ↔ ∃x,CW P M mod m L x/\wtL x<=i:=by
 obtain ⟨N',e,hm1,hm64,F,hR⟩:=codeE_fld hE
 obtain rfl : m=N':=by omega
 constructor
 ·intro h
  obtain ⟨_,t,ht,hl,he⟩:=prf_spec F hR hm64 hi
  rw [he] at h
  unfold dimZ at h
  obtain ⟨v,hvl,hve,hv0,hz⟩:=low_word hE (Q:=frTo false t m) (by omega) λx hx=>by
   obtain ⟨j,hj,rfl,_⟩:=(mem_frTo m).1 hx;omega
  have hc:=cw_msg hE hvl (λk hk=>hve _ (nth_mem (by omega))) hv0
  refine ⟨_,hc,?_⟩
  rw [<- hl]
  refine supp_in hc.1.1 λj hj hjt=>?_
  have:=hz (j : Int) ((mem_frTo m).2 ⟨j,hj,rfl,by simpa using hjt⟩)
  simpa using this
 ·rintro ⟨x,hx,hw⟩
  have hs:=supp_len hx.1.1
  have h1:=prf_mono hE (i - wtL x) (wtL x) (by omega)
  rw [show wtL x+(i - wtL x)=i by omega] at h1
  have h2:=(prf_spec F hR hm64 (show wtL x<=m by omega)).1 _ (supp_asc x m) hs
  refine Int.le_trans (Int.le_trans ?_ h2) h1
  refine Classical.byContradiction λhn=>?_
  unfold dimZ at hn
  obtain ⟨v,hvl,hve,rfl,hv0⟩:=msg_cw hE hx
  refine hv0 (wtL_zero.2 λk hk=>zero_msg hE (Q:=frTo false (supp (cmbTo (tblOf P M.toNat mod).ops m v L L.length) m) m) (by omega) (λx hx=>?_) hve (λx hx=>?_) k (by omega))
  ·obtain ⟨j,hj,rfl,_⟩:=(mem_frTo m).1 hx
   omega
  ·obtain ⟨j,hj,rfl,hdj⟩:=(mem_frTo m).1 hx
   refine Classical.byContradiction λhne=>?_
   have hn : ¬ (j : Int) ∈ supp (cmbTo (tblOf P M.toNat mod).ops m v L L.length) m:=by simpa using hdj
   exact hn (mem_supp.2 ⟨j,hj,by simpa using hne,rfl⟩)
theorem prf_best (hE : codeE P M mod m L=0) {b : List Int} (hb : BestOk P M mod m L b) (h : ∀x,CW P M mod m L x->leK b (monS (tblOf P M.toNat mod).ops x)) {i : Nat} (hi : i<=m) : 1<=prfR (tblOf P M.toNat mod).ops L m i ↔ wtL b<=i:=by
 rw [prf_pos hE hi]
 constructor
 ·rintro ⟨x,hx,hw⟩
  exact Nat.le_trans (best_min hE h hx) hw
 ·intro hw
  exact ⟨b,hb.1,hw⟩
theorem single_law (hE : codeE P M mod m L=0) (hk : 1<=L.length) (hkm : L.length<m) {b c : List Int} (hb : BestOk P M mod m L b) (h : ∀x,CW P M mod m L x->leK b (monS (tblOf P M.toNat mod).ops x))
  (hc : BestOk P M mod m (dualL (tblOf P M.toNat mod) L m) c) (h' : ∀x,CW P M mod m (dualL (tblOf P M.toNat mod) L m) x->leK c (monS (tblOf P M.toNat mod).ops x)) :
  wtL b<=m - L.length+1/\wtL c<=L.length+1/\(wtL b=m - L.length+1 ↔ wtL c=L.length+1):=by
 obtain ⟨N',e,hm1,hm64,F,hR⟩:=codeE_fld hE
 obtain rfl : m=N':=by omega
 have hD:=(dual_code hE).1
 have n1:=(mx_iff (dimZ (tblOf P M.toNat mod).ops (dualL (tblOf P M.toNat mod) L m) m) (setsS m (L.length - 1) 0) (setsS m (L.length - 1) 0).length).1
 have n2:=(mx_iff (dimZ (tblOf P M.toNat mod).ops L m) (setsS m (m - (L.length+1)) 0) (setsS m (m - (L.length+1)) 0).length).1
 change 0<=prfR _ _ m (L.length - 1) at n1
 change 0<=prfR _ _ m (m - (L.length+1)) at n2
 have d1:=prf_dual hE (show L.length - 1<=m by omega)
 have d2:=prf_dual hE (show L.length+1<=m by omega)
 have d3:=prf_dual hE (show L.length<=m by omega)
 rw [show m - (L.length - 1)=m - L.length+1 by omega] at d1
 have b1:=prf_best hE hb h (show m - L.length+1<=m by omega)
 have b2:=prf_best hE hb h (show m - L.length<=m by omega)
 have c1:=prf_best hD hc h' (show L.length+1<=m by omega)
 have c2:=prf_best hD hc h' (show L.length<=m by omega)
 have e1 : wtL b<=m - L.length+1:=b1.1 (by omega)
 have e2 : wtL c<=L.length+1:=c1.1 (by omega)
 have e3 : wtL b<=m - L.length ↔ wtL c<=L.length:=by
  rw [<- b2,<- c2]
  constructor <;> intro _ <;> omega
 refine ⟨e1,e2,?_⟩
 constructor <;> intro _ <;> omega
end
end

end Go.Proofs.YtcfmiocdlcapoaaGreat
