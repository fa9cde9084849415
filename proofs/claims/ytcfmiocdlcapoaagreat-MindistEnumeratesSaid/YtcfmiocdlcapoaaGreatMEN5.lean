/-  -/
import Derived.Test.YtcfmiocdlcapoaaGreatK21
import Derived.Test.YtcfmiocdlcapoaaGreatMEN4
import Derived.Test.YtcfmiocdlcapoaaGreatK31
import Derived.Test.YtcfmiocdlcapoaaGreatK28
import Derived.Test.YtcfmiocdlcapoaaGreatK25
import Derived.Test.YtcfmiocdlcapoaaGreatMEN1
import Derived.Test.YtcfmiocdlcapoaaGreatK4
import Derived.Test.YtcfmiocdlcapoaaGreatK22
import Derived.Test.YtcfmiocdlcapoaaGreatK26
import Derived.Test.YtcfmiocdlcapoaaGreatK7
import Derived.Test.YtcfmiocdlcapoaaGreatMEN2
namespace Go.Proofs.YtcfmiocdlcapoaaGreat
set_option linter.unusedVariables false
set_option linter.unusedSimpArgs false
set_option linter.unusedSectionVars false

section
def msgs (q : Nat) : Nat->List (List Int)
 | 0=>[[]]
 | k+1=>(List.range q).flatMap λ(a : Nat)=>(msgs q k).map λs=>(a : Int) :: s
def addAll (O : FOps) : List Int->List Int->List (List Int)->List Int
 | u,a :: s,r :: R=>addAll O (addS O u a r) s R
 | u,_,_=>u
theorem wlk_msgs (O : FOps) (q : Nat) : ∀(R : List (List Int)) (u : List Int),wlkS O q R u=(msgs q R.length).map λs=>addAll O u s R
 | [],u=>by simp [wlkS,msgs,addAll]
 | r :: R,u=>by
  rw [wlkS,List.length_cons,msgs,List.map_flatMap]
  congr 1
  funext a
  rw [wlk_msgs O q R,List.map_map]
  rfl
theorem mem_msgs {q : Nat} : ∀ {k : Nat} {s : List Int},s ∈ msgs q k ↔ s.length=k/\∀x ∈ s,0<=x/\x<(q : Int)
 | 0,s=>by
  rw [msgs,List.mem_singleton]
  constructor
  ·rintro rfl;simp
  ·rintro ⟨h,_⟩;exact List.eq_nil_of_length_eq_zero h
 | k+1,s=>by
  rw [msgs,List.mem_flatMap]
  constructor
  ·rintro ⟨a,ha,h⟩
   obtain ⟨t,ht,rfl⟩:=List.mem_map.1 h
   obtain ⟨h1,h2⟩:=mem_msgs.1 ht
   refine ⟨by simp [h1],λx hx=>?_⟩
   rcases List.mem_cons.1 hx with rfl | hx
   ·have:=List.mem_range.1 ha;omega
   ·exact h2 x hx
  ·rintro ⟨h,h2⟩
   match s,h,h2 with
   | x :: t,h,h2 =>
    have hx:=h2 x (by simp)
    refine ⟨x.toNat,List.mem_range.2 (by omega),List.mem_map.2 ⟨t,mem_msgs.2 ⟨by simpa using h,λy hy=>h2 y (by simp [hy])⟩,?_⟩⟩
    rw [Int.toNat_of_nonneg hx.1]
theorem msgs_nodup (q : Nat) : ∀k,(msgs q k).Nodup
 | 0=>by simp [msgs]
 | k+1=>by
  rw [msgs]
  unfold List.Nodup
  rw [List.pairwise_flatMap]
  refine ⟨λa _=>?_,?_⟩
  ·rw [List.pairwise_map]
   exact List.Pairwise.imp (λ{s t} h e=>h (by injection e)) (msgs_nodup q k)
  ·refine List.Pairwise.imp (λ{a b} hab x ha y hb e=>?_) (List.nodup_range (n:=q))
   obtain ⟨s,_,rfl⟩:=List.mem_map.1 ha
   obtain ⟨t,_,rfl⟩:=List.mem_map.1 hb
   injection e with h1 _
   omega
theorem msgs_head {q : Nat} (hq : 1<=q) : ∀k,∃l,msgs q k=List.replicate k 0 :: l
 | 0=>⟨[],by simp [msgs]⟩
 | k+1=>by
  obtain ⟨l,hl⟩:=msgs_head hq k
  obtain ⟨q',rfl⟩ : ∃q',q=q'+1:=⟨q - 1,by omega⟩
  rw [msgs,List.range_succ_eq_map,List.flatMap_cons,hl]
  exact ⟨_,rfl⟩
variable {O : FOps} {m : Nat}
theorem addAll_cmb {v : List Int} {L : List (List Int)} (h : v.length=L.length) : ∀(d j : Nat),j+d=L.length->addAll O (cmbTo O m v L j) (v.drop j) (L.drop j)=cmbTo O m v L L.length
 | 0,j,hj=>by
  obtain rfl : j=L.length:=by omega
  rw [List.drop_of_length_le (Nat.le_refl _),List.drop_of_length_le (by omega)]
  rfl
 | d+1,j,hj=>by
  rw [List.drop_eq_getElem_cons (show j<v.length by omega),List.drop_eq_getElem_cons (show j<L.length by omega),addAll]
  rw [<- addAll_cmb h d (j+1) (by omega)]
  congr 1
  rw [cmbTo,nth_getElem (show j<v.length by omega),nthR_getElem (show j<L.length by omega)]
  rfl
theorem wlk_cmb {q : Nat} {L : List (List Int)} : wlkS O q L (List.replicate m 0)=(msgs q L.length).map λv=>cmbTo O m v L L.length:=by
 rw [wlk_msgs]
 refine List.map_congr_left λv hv=>?_
 have h:=addAll_cmb (O:=O) (m:=m) (v:=v) (L:=L) (mem_msgs.1 hv).1 L.length 0 (by omega)
 rw [List.drop_zero,List.drop_zero] at h
 exact h
end

section
open Go.RowKit
theorem mem_elsN {q : Nat} {x : Int} : x ∈ elsN q ↔ 1<=x/\x<q:=by
 unfold elsN
 rw [List.mem_map]
 constructor
 ·rintro ⟨i,hi,rfl⟩
  rw [List.mem_range] at hi
  omega
 ·intro h
  exact ⟨(x - 1).toNat,by rw [List.mem_range];omega,by omega⟩
end

section
open Go.RowKit
theorem cmpM_self : ∀a : List Int,cmpL a a=0
 | []=>rfl
 | x :: a=>by rw [cmpL,if_neg (by omega),if_neg (by omega),cmpM_self a]
theorem cmpM_anti : ∀a b : List Int,cmpL b a = - cmpL a b
 | [],[]=>rfl
 | [],_ :: _=>rfl
 | _ :: _,[]=>rfl
 | x :: a,y :: b=>by
  rw [cmpL,cmpL]
  by_cases h1 : x<y
  ·rw [if_neg (by omega),if_pos h1,if_pos h1];rfl
  ·by_cases h2 : y<x
   ·rw [if_pos h2,if_neg h1,if_pos h2]
   ·rw [if_neg h2,if_neg h1,if_neg h1,if_neg h2,cmpM_anti a b]
theorem cmpM_le : ∀ {a b c : List Int},cmpL a b<=0->cmpL b c<=0->cmpL a c<=0
 | [],_,[],_,_=>by rw [cmpL];omega
 | [],_,_ :: _,_,_=>by rw [cmpL];omega
 | _ :: _,[],_,h,_=>by rw [cmpL] at h;omega
 | _ :: _,_ :: _,[],_,h=>by rw [cmpL] at h;omega
 | x :: a,y :: b,z :: c,h,h'=>by
  rw [cmpL] at h h' ⊢
  by_cases h1 : x<y
  ·by_cases h3 : z<y
   ·rw [if_neg (by omega),if_pos h3] at h';omega
   ·rw [if_pos (by omega)];omega
  ·rw [if_neg h1] at h
   by_cases h2 : y<x
   ·rw [if_pos h2] at h;omega
   ·rw [if_neg h2] at h
    by_cases h3 : y<z
    ·rw [if_pos (by omega)];omega
    ·rw [if_neg h3] at h'
     by_cases h4 : z<y
     ·rw [if_pos h4] at h';omega
     ·rw [if_neg h4] at h'
      rw [if_neg (by omega),if_neg (by omega)]
      exact cmpM_le h h'
def leK (b x : List Int) : Prop:=wtL b<wtL x\/(wtL b=wtL x/\cmpL b x<=0)
theorem leK.refl (b : List Int) : leK b b:=.inr ⟨rfl,by rw [cmpM_self];omega⟩
theorem leK.trans {a b c : List Int} (h : leK a b) (h' : leK b c) : leK a c:=by
 rcases h with h | ⟨h,g⟩
 ·rcases h' with h' | ⟨h',_⟩
  ·exact .inl (by omega)
  ·exact .inl (by omega)
 ·rcases h' with h' | ⟨h',g'⟩
  ·exact .inl (by omega)
  ·exact .inr ⟨by omega,cmpM_le g g'⟩
theorem leK.wt {a b : List Int} (h : leK a b) : wtL a<=wtL b:=by rcases h with h | ⟨h,_⟩ <;> omega
theorem wtM_zero {x : List Int} : wtL x=0 ↔ ∀y ∈ x,y=0:=by
 unfold wtL
 rw [List.countP_eq_zero]
 constructor
 ·intro h y hy;have:=h y hy;simpa using this
 ·intro h y hy;rw [h y hy];simp
theorem wtM_nil : wtL []=0:=rfl
theorem fnz_lt {v : List Int} (h : wtL v ≠ 0) : fnz v<v.length:=by
 refine Decidable.byContradiction λhn=>h (wtM_zero.2 λy hy=>?_)
 obtain ⟨i,hi,rfl⟩:=List.mem_iff_getElem.1 hy
 have:=fnz_zero v i (by omega)
 rwa [nth_getElem hi] at this
theorem wtM_cons (x : Int) (l : List Int) : wtL (x :: l)=wtL l+if x=0 then 0 else 1:=by
 unfold wtL
 rw [List.countP_cons]
 by_cases h : x=0 <;> simp [h]
section
variable {O : FOps} {El : Int->Prop} {m : Nat}
theorem inv_ne (F : Fld O El) {a : Int} (ha : El a) (h0 : a ≠ 0) : El (O.inv a)/\O.inv a ≠ 0:=by
 have hi:=F.cl.inv a ha h0
 refine ⟨hi,λe=>?_⟩
 have h1:=F.mul_inv a ha h0
 rw [e,F.mzero ha] at h1
 have h2:=F.one_mul a ha
 rw [<- h1,F.zmul ha] at h2
 exact h0 h2.symm
theorem scl_zero (F : Fld O El) {s x : Int} (hs : El s) (h0 : s ≠ 0) (hx : El x) : O.mul s x=0 ↔ x=0 :=
 ⟨λh=>F.mul_ne hs hx h0 h,λh=>by rw [h,F.mzero hs]⟩
theorem wtL_scl (F : Fld O El) {s : Int} (hs : El s) (h0 : s ≠ 0) : ∀ {x : List Int},(∀y ∈ x,El y)->wtL (x.map (O.mul s))=wtL x
 | [],_=>rfl
 | y :: x,h=>by
  rw [List.map_cons,wtM_cons,wtM_cons,wtL_scl F hs h0 λz hz=>h z (by simp [hz])]
  simp [scl_zero F hs h0 (h y (by simp))]
theorem fnz_scl (F : Fld O El) {s : Int} (hs : El s) (h0 : s ≠ 0) : ∀ {x : List Int},(∀y ∈ x,El y)->fnz (x.map (O.mul s))=fnz x
 | [],_=>rfl
 | y :: x,h=>by
  rw [List.map_cons,fnz,fnz,fnz_scl F hs h0 λz hz=>h z (by simp [hz])]
  simp [scl_zero F hs h0 (h y (by simp))]
theorem first_el {v : List Int} (hv : Vc El m v) (h : wtL v ≠ 0) : El (nth v (fnz v))/\nth v (fnz v) ≠ 0 :=
 ⟨hv.at (by rw [<- hv.1];exact fnz_lt h),fnz_ne v (fnz_lt h)⟩
theorem monS_eq (O : FOps) (v : List Int) : monS O v=v.map (O.mul (O.inv (nth v (fnz v)))):=rfl
theorem monS_wt (F : Fld O El) {v : List Int} (hv : Vc El m v) (h : wtL v ≠ 0) : wtL (monS O v)=wtL v:=by
 obtain ⟨h1,h2⟩:=first_el hv h
 obtain ⟨h3,h4⟩:=inv_ne F h1 h2
 rw [monS_eq,wtL_scl F h3 h4 hv.2]
theorem inv_mul (F : Fld O El) {a b : Int} (ha : El a) (hb : El b) (h1 : a ≠ 0) (h2 : b ≠ 0) : O.mul (O.inv (O.mul a b)) a=O.inv b:=by
 have hab:=F.cl.mul a b ha hb
 have h0 : O.mul a b ≠ 0:=λe=>h2 (F.mul_ne ha hb h1 e)
 obtain ⟨i1,_⟩:=inv_ne F hab h0
 obtain ⟨i2,_⟩:=inv_ne F hb h2
 have hx:=F.cl.mul _ _ i1 ha
 have e1 : O.mul (O.mul (O.inv (O.mul a b)) a) b=1:=by
  rw [F.mul_assoc _ _ _ i1 ha hb,F.mul_comm _ _ i1 hab,F.mul_inv _ hab h0]
 rw [<- F.mone hx,<- F.mul_inv b hb h2,<- F.mul_assoc _ _ _ hx hb i2,e1,F.one_mul _ i2]
theorem monS_scl (F : Fld O El) {s : Int} (hs : El s) (h0 : s ≠ 0) {v : List Int} (hv : Vc El m v) (h : wtL v ≠ 0) : monS O (v.map (O.mul s))=monS O v:=by
 obtain ⟨h1,h2⟩:=first_el hv h
 have hl:=fnz_lt h
 rw [monS_eq,monS_eq,fnz_scl F hs h0 hv.2,nth_scl O v s hl,List.map_map]
 refine List.map_congr_left λx hx=>?_
 have hxe:=hv.2 x hx
 obtain ⟨i1,_⟩:=inv_ne F (F.cl.mul _ _ hs h1) λe=>h2 (F.mul_ne hs h1 h0 e)
 show O.mul _ (O.mul s x)=_
 rw [<- F.mul_assoc _ _ _ i1 hs hxe,inv_mul F hs h1 h0 h2]
theorem monS_first (F : Fld O El) {v : List Int} (hv : Vc El m v) (h : wtL v ≠ 0) : nth (monS O v) (fnz (monS O v))=1:=by
 obtain ⟨h1,h2⟩:=first_el hv h
 obtain ⟨h3,h4⟩:=inv_ne F h1 h2
 rw [monS_eq,fnz_scl F h3 h4 hv.2,nth_scl O v _ (fnz_lt h),F.mul_comm _ _ h3 h1,F.mul_inv _ h1 h2]
theorem monS_idem (F : Fld O El) {v : List Int} (hv : Vc El m v) (h : wtL v ≠ 0) : monS O (monS O v)=monS O v:=by
 obtain ⟨h1,h2⟩:=first_el hv h
 obtain ⟨h3,h4⟩:=inv_ne F h1 h2
 rw [monS_eq O v,monS_scl F h3 h4 hv h,monS_eq]
theorem look_spec (F : Fld O El) {b w : List Int} (hw : Vc El m w) (h0 : wtL w ≠ 0) :
  ((lookS O b w=b/\wtL b ≠ 0)\/lookS O b w=monS O w)/\wtL (lookS O b w) ≠ 0/\leK (lookS O b w) (monS O w)/\(wtL b ≠ 0->leK (lookS O b w) b):=by
 have hm:=monS_wt F hw h0
 unfold lookS
 by_cases h1 : wtL w=0\/(wtL b ≠ 0/\wtL b<wtL w)
 ·rw [if_pos h1]
  obtain ⟨g1,g2⟩:=h1.resolve_left h0
  exact ⟨.inl ⟨rfl,g1⟩,g1,.inl (by omega),λ_=>leK.refl b⟩
 ·rw [if_neg h1]
  by_cases h2 : wtL b=0\/wtL w<wtL b\/cmpL (monS O w) b<0
  ·rw [if_pos h2]
   refine ⟨.inr rfl,by omega,leK.refl _,λhb=>?_⟩
   rcases h2 with h2 | h2 | h2
   ·exact absurd h2 hb
   ·exact .inl (by omega)
   ·by_cases e : wtL w<wtL b
    ·exact .inl (by omega)
    ·refine .inr ⟨?_,by omega⟩
     have : ¬ wtL b<wtL w:=λe2=>h1 (.inr ⟨hb,e2⟩)
     omega
  ·rw [if_neg h2]
   have hb : wtL b ≠ 0:=λe=>h2 (.inl e)
   have e1 : ¬ wtL b<wtL w:=λe2=>h1 (.inr ⟨hb,e2⟩)
   have e2 : ¬ wtL w<wtL b:=λe=>h2 (.inr (.inl e))
   have e3 : ¬ cmpL (monS O w) b<0:=λe=>h2 (.inr (.inr e))
   refine ⟨.inl ⟨rfl,hb⟩,hb,.inr ⟨by omega,?_⟩,λ_=>leK.refl b⟩
   rw [cmpM_anti];omega
theorem fold_spec (F : Fld O El) : ∀(l : List (List Int)) (b : List Int),(∀y ∈ l,Vc El m y/\wtL y ≠ 0) ->
  ((l.foldl (lookS O) b=b\/∃y ∈ l,l.foldl (lookS O) b=monS O y))/\(∀y ∈ l,leK (l.foldl (lookS O) b) (monS O y))/\(wtL b ≠ 0->leK (l.foldl (lookS O) b) b)/\(l ≠ []\/wtL b ≠ 0->wtL (l.foldl (lookS O) b) ≠ 0)
 | [],b,_=>⟨.inl rfl,by simp,λ_=>leK.refl b,λh=>by rcases h with h | h;exact absurd rfl h;exact h⟩
 | y :: l,b,h=>by
  obtain ⟨hy,hy0⟩:=h y (by simp)
  obtain ⟨a1,a2,a3,a4⟩:=look_spec F (b:=b) hy hy0
  obtain ⟨b1,b2,b3,b4⟩:=fold_spec F l (lookS O b y) λz hz=>h z (by simp [hz])
  rw [List.foldl_cons]
  refine ⟨?_,λz hz=>?_,λhb=>(b3 a2).trans (a4 hb),λ_=>b4 (.inr a2)⟩
  ·rcases b1 with e | ⟨z,hz,e⟩
   ·rcases a1 with ⟨e2,_⟩ | e2
    ·exact .inl (by rw [e,e2])
    ·exact .inr ⟨y,by simp,by rw [e,e2]⟩
   ·exact .inr ⟨z,by simp [hz],e⟩
  ·rcases List.mem_cons.1 hz with rfl | hz
   ·exact (b3 a2).trans a3
   ·exact b2 z hz
def FC (cs c0 : List Int) : List Int->Prop
 | []=>True
 | a :: c=>if a=0 then FC cs c0 c else a ∈ c0/\∀b ∈ c,b ≠ 0->b ∈ cs
theorem FC_self {cs : List Int} : ∀ {c : List Int},FC cs cs c ↔ ∀b ∈ c,b ≠ 0->b ∈ cs
 | []=>by simp [FC]
 | a :: c=>by
  rw [FC]
  by_cases h : a=0
  ·rw [if_pos h,FC_self]
   constructor
   ·intro h1 b hb hb0
    rcases List.mem_cons.1 hb with rfl | hb
    ·exact absurd h hb0
    ·exact h1 b hb hb0
   ·intro h1 b hb hb0;exact h1 b (by simp [hb]) hb0
  ·rw [if_neg h]
   constructor
   ·rintro ⟨h1,h2⟩ b hb hb0
    rcases List.mem_cons.1 hb with rfl | hb
    ·exact h1
    ·exact h2 b hb hb0
   ·intro h1;exact ⟨h1 a (by simp) h,λb hb hb0=>h1 b (by simp [hb]) hb0⟩
theorem mem_sumL (O : FOps) {cs c0 : List Int} (h0 : ∀a ∈ c0,a ≠ 0) (l : Nat) (hf : ∀R v y,y ∈ sumS O cs l R v ↔ ∃c : List Int,c.length=R.length/\wtL c=l/\(∀b ∈ c,b ≠ 0->b ∈ cs)/\y=addAll O v c R) :
  ∀(R : List (List Int)) (v y : List Int),y ∈ sumL O (sumS O cs l) c0 R v ↔ ∃c : List Int,c.length=R.length/\wtL c=l+1/\FC cs c0 c/\y=addAll O v c R
 | [],v,y=>by
  rw [sumL]
  constructor
  ·intro h;simp at h
  ·rintro ⟨c,hc,h1,_⟩
   rw [List.eq_nil_of_length_eq_zero hc,wtM_nil] at h1
   omega
 | r :: R,v,y=>by
  rw [sumL,List.mem_append,List.mem_flatMap,mem_sumL O h0 l hf R v y]
  constructor
  ·rintro (⟨a,ha,h⟩ | ⟨c,h1,h2,h3,h4⟩)
   ·obtain ⟨c,h1,h2,h3,h4⟩:=(hf _ _ _).1 h
    have ha0:=h0 a ha
    exact ⟨a :: c,by simp [h1],by rw [wtM_cons,if_neg ha0];omega,by rw [FC,if_neg ha0];exact ⟨ha,h3⟩,h4⟩
   ·exact ⟨0 :: c,by simp [h1],by rw [wtM_cons,if_pos rfl];omega,by rw [FC,if_pos rfl];exact h3,by rw [h4,addAll,addS,if_pos rfl]⟩
  ·rintro ⟨c,h1,h2,h3,h4⟩
   match c,h1,h2,h3,h4 with
   | a :: c,h1,h2,h3,h4 =>
    rw [wtM_cons] at h2
    rw [FC] at h3
    rw [addAll] at h4
    by_cases ha : a=0
    ·rw [if_pos ha] at h2 h3
     rw [addS,if_pos ha] at h4
     exact .inr ⟨c,by simpa using h1,by omega,h3,h4⟩
    ·rw [if_neg ha] at h2 h3
     exact .inl ⟨a,h3.1,(hf _ _ _).2 ⟨c,by simpa using h1,by omega,h3.2,h4⟩⟩
theorem addAll_zero (O : FOps) : ∀(c : List Int) (R : List (List Int)) (v : List Int),(∀y ∈ c,y=0)->addAll O v c R=v
 | [],_,_,_=>by simp [addAll]
 | _ :: _,[],_,_=>by simp [addAll]
 | a :: c,r :: R,v,h=>by
  rw [addAll,addS,if_pos (h a (by simp)),addAll_zero O c R v λy hy=>h y (by simp [hy])]
theorem mem_sumS (O : FOps) {cs : List Int} (h0 : ∀a ∈ cs,a ≠ 0) : ∀(l : Nat) (R : List (List Int)) (v y : List Int),y ∈ sumS O cs l R v ↔ ∃c : List Int,c.length=R.length/\wtL c=l/\(∀b ∈ c,b ≠ 0->b ∈ cs)/\y=addAll O v c R
 | 0,R,v,y=>by
  rw [sumS,List.mem_singleton]
  constructor
  ·rintro rfl
   refine ⟨List.replicate R.length 0,by simp,wtM_zero.2 λy hy=>(List.mem_replicate.1 hy).2,λb hb hb0=>absurd (List.mem_replicate.1 hb).2 hb0,?_⟩
   rw [addAll_zero O _ _ _ λy hy=>(List.mem_replicate.1 hy).2]
  ·rintro ⟨c,h1,h2,_,h4⟩
   rw [h4,addAll_zero O _ _ _ (wtM_zero.1 h2)]
 | l+1,R,v,y=>by
  rw [sumS,mem_sumL O h0 l (mem_sumS O h0 l) R v y]
  constructor
  ·rintro ⟨c,h1,h2,h3,h4⟩;exact ⟨c,h1,h2,FC_self.1 h3,h4⟩
  ·rintro ⟨c,h1,h2,h3,h4⟩;exact ⟨c,h1,h2,FC_self.2 h3,h4⟩
theorem FC_first {cs : List Int} : ∀ {c : List Int},wtL c ≠ 0->(FC cs [1] c ↔ nth c (fnz c)=1/\∀j,fnz c<j->j<c.length->nth c j ≠ 0->nth c j ∈ cs)
 | [],h=>absurd rfl h
 | a :: c,h=>by
  rw [FC,fnz]
  by_cases ha : a=0
  ·rw [wtM_cons,if_pos ha] at h
   rw [if_pos ha,if_pos ha,FC_first (by omega)]
   constructor
   ·rintro ⟨h1,h2⟩
    refine ⟨by simpa [nth] using h1,λj h3 h4 h5=>?_⟩
    match j,h3,h4,h5 with
    | j+1,h3,h4,h5=>simpa [nth] using h2 j (by omega) (by simpa using h4) (by simpa [nth] using h5)
   ·rintro ⟨h1,h2⟩
    refine ⟨by simpa [nth] using h1,λj h3 h4 h5=>?_⟩
    simpa [nth] using h2 (j+1) (by omega) (by simpa using h4) (by simpa [nth] using h5)
  ·rw [if_neg ha,if_neg ha]
   constructor
   ·rintro ⟨h1,h2⟩
    refine ⟨by simpa [nth] using h1,λj h3 h4 h5=>?_⟩
    match j,h3,h4,h5 with
    | j+1,h3,h4,h5 =>
     have h6 : j<c.length:=by simpa using h4
     have e : nth (a :: c) (j+1)=nth c j:=by simp [nth]
     rw [e] at h5 ⊢
     exact h2 _ (nth_mem h6) h5
   ·rintro ⟨h1,h2⟩
    refine ⟨by simpa [nth] using h1,λb hb hb0=>?_⟩
    obtain ⟨j,hj,rfl⟩:=List.mem_iff_getElem.1 hb
    have e : nth (a :: c) (j+1)=nth c j:=by simp [nth]
    have:=h2 (j+1) (by omega) (by simpa using hj) (by rw [e,nth_getElem hj];exact hb0)
    rwa [e,nth_getElem hj] at this
end
end

section
set_option maxRecDepth 100000
set_option maxHeartbeats 1600000

open Go.RowKit
theorem rWeight25_any (a : Option Addr) (n c : Nat) (l : List Int) (w : World) (h : Ints w a n l) :
  Calls Tryz.prog 20 #[.slice a n c] w λe w'=>e = .returned (.int .i64 (wtL l))/\w'=w:=by
 have Hl:=Lib.hid h.len
 have hpl:=h.pl
 have hmax:=h.max
 unfold maxLen at hmax
 have hle : ∀k,k<=n->(wtL (l.take k) : Int)<=k:=λk hk=>by
  have h1 : wtL (l.take k)<=(l.take k).length:=List.countP_le_length
  rw [List.length_take] at h1
  omega
 have Hle:=Lib.hid hle
 have HT : Hid (wtL (l.take n)=wtL l):=by show _=_;rw [List.take_of_length_le (by rw [Hl.out];exact Nat.le_refl _)]
 clear hle
 go_enter Tryz.func20,Tryz.ntmps20
 go_wp2_with fail
 go_loopw [3,4] (λcv iv wr=>∃k : Nat,k<=n/\iv = .int .i64 k/\cv = .int .i64 (wtL (l.take k))/\wr=w) (λ_ iv _=>n - (intOf iv).toNat)
 case atStart=>exact ⟨0,Nat.zero_le _,rfl,by simp [wtL],rfl⟩
 case round =>
  obtain ⟨k,hk,rfl,rfl,rfl⟩:=hrel
  by_cases hlt : k<n
  ·have ck:=h.cell k hlt
   have hkl : k<l.length:=by rw [Hl.out];exact hlt
   have hst : wtL (l.take (k+1))=wtL (l.take k)+(if nth l k ≠ 0 then 1 else 0):=by
    unfold wtL
    rw [List.take_succ_eq_append_getElem hkl,List.countP_append,List.countP_singleton,nth_getElem hkl]
    simp
   have hb:=Hle.out k hk
   obtain ⟨t,ht⟩ : ∃t,wtL (l.take k)=t:=⟨_,rfl⟩
   obtain ⟨y,hy⟩ : ∃y,nth l k=y:=⟨_,rfl⟩
   rw [ht] at hst hb ⊢
   rw [hy] at hst ck
   clear ht hy hkl
   by_cases h0 : y=0
   ·have hd : (y != 0)=false:=by simpa using h0
    have Hst : Hid (wtL (l.take (k+1))=t):=by show _=_;rw [hst,if_neg (by simpa using h0)];rfl
    clear h0 hst
    go_wp2_with fail
    go_roundw
    case rel=>exact ⟨k+1,by omega,by go_num,by rw [Hst.out],by simp⟩
    case measure=>simp [intOf] <;> omega
   ·have hd : (y != 0)=true:=by simpa using h0
    have Hst : Hid (wtL (l.take (k+1))=t+1):=by show _=_;rw [hst,if_pos h0]
    clear h0 hst
    go_wp2_with fail
    go_roundw
    case rel=>exact ⟨k+1,by omega,by go_num,by rw [Hst.out];go_num,by simp⟩
    case measure=>simp [intOf] <;> omega
  ·obtain rfl : k=n:=by omega
   rw [HT.out]
   go_wp2_with fail
   go_ret
   exact ⟨rfl,rfl⟩
end

section
set_option maxRecDepth 100000
set_option maxHeartbeats 8000000

open Go.RowKit
theorem walk1_any (P M : Int) (am : Option Addr) (mn cm : Nat) (mod : List Int) (n : Nat) (a : Option Addr) (k c : Nat) (L : List (List Int)) (W : World) (Bc l : Nat) (hE : codeE P M mod n L=0)
  (x0 : Box W Bc [.int .i64 P,.int .i64 M,.slice am mn cm,.int .i64 n,.slice a k c]) (hmod : Ints W am mn mod) (hi : Mat W a k L)
  (J : List WX->World->Prop) (MM : Nat->Prop) (hML : ∀x,MM x->x<W.heap.size)
  (hmat : ∀V,(∀x,x<W.heap.size->¬ MM x->V.heap[x]? = W.heap[x]?)->Mat V a k L/\V.cell? ⟨Bc,4,none⟩=some (.slice a k c))
  (hJa : ∀pre V V',J pre V->Below V.heap.size V V'->J pre V')
  (hJb : ∀B pre V v,W.heap.size<=B->(∀x ∈ pre,ablk x.a ≠ B)->J pre V->J pre (V.setCell ⟨B,0,none⟩ v))
  (hY : ∀m pre x V,J pre V->pre.length<(tblOf P M.toNat mod).q ^ k->Ints V x.a n x.l->(∀j,MM j->j ≠ ablk x.a)->YOk l n J MM m pre x V)
  (hN : (tblOf P M.toNat mod).q ^ k<=1000000) (h0 : J [] W) :
  Calls Tryz.prog 150 #[.func (.yield l) #[] #[],.pointer (some ⟨Bc,0,none⟩)] W λe V=>e = .returned (.tuple #[]) /\
   ∃xs : List WX,xs.map WX.l=wlkS (tblOf P M.toNat mod).ops (tblOf P M.toNat mod).q L (List.replicate n 0)/\J xs V/\Moves W V MM MM:=by
 obtain ⟨N',em,hm1,hm64,F,hR⟩:=codeE_fld hE
 obtain rfl : n=N':=by omega
 have hk256 : k<=256:=by rw [<- hi.len];exact (codeE_rws hE).choose_spec.2.2.2.1
 have hfB:=(codeE_zero hE).1
 have hLk : L.length=k:=hi.len
 have HCk : Hid (∀V,Below W.heap.size W V->Calls Tryz.prog 61 #[.agg #[.int .i64 P,.int .i64 M,.slice am mn cm,.int .i64 n,.slice a k c]] V λe w'=>e = .returned (.int .i64 0)/\Below V.heap.size V w'):=λV hV=>by
  have h:=codeCheck_any P M am mn cm mod n a k c L V (hmod.keep hV) (hi.keep hV)
  rw [hE] at h
  exact h
 have HNw : Hid (∀V,Below W.heap.size W V->Calls Tryz.prog 86 #[.agg #[.int .i64 P,.int .i64 M,.slice am mn cm]] V λe w'=>∃b,e = .returned (.tuple #[.pointer (some ⟨b,0,none⟩),.int .i64 0])/\GFs V.heap.size w' b (tblOf P M.toNat mod)/\V.heap.size<=b/\Below V.heap.size V w'):=λV hV=>by
  refine (fieldNew_any P M am mn cm mod V (hmod.keep hV)).mono ?_
  rintro e w' (⟨h1,_⟩ | ⟨_,h2⟩)
  ·rw [hfB] at h1;cases h1
  ·exact h2
 obtain ⟨G,hG⟩ : ∃G,tblOf P M.toNat mod=G:=⟨_,rfl⟩
 rw [hG] at HNw F hR hY hN ⊢
 have HX:=Lib.hid x0
 have HJa:=Lib.hid hJa
 have HJb:=Lib.hid hJb
 have HY:=Lib.hid hY
 have Hmat:=Lib.hid hmat
 have HML:=Lib.hid hML
 have H0:=Lib.hid h0
 have HR:=Lib.hid hR
 have HN:=Lib.hid hN
 have HLk:=Lib.hid hLk
 clear hG hfB hE em hmod hi hJa hJb hY hmat hML h0 hR hN hLk
 clear x0
 go_enter Tryz.func150,Tryz.ntmps150
 go_upto_region 1 with fail
 obtain ⟨W1,hW1⟩ : ∃W1 : World,W1=W.alloc (.cells #[.func (.yield l) #[] #[]] 170):=⟨_,rfl⟩
 rw [<- hW1]
 have hb1 : Below W.heap.size W W1:=by rw [hW1];exact below1 _ _
 have y1 : Box W1 W.heap.size [.func (.yield l) #[] #[]]:=by rw [hW1];exact Box.new _ _ _ rfl
 have Y1:=Lib.hid y1
 have x1:=HX.out.keep hb1
 have c0:=x1.cell 0 rfl
 have c1:=x1.cell 1 rfl
 have c2:=x1.cell 2 rfl
 have c3:=x1.cell 3 rfl
 have c4:=x1.cell 4 rfl
 clear hW1 y1 x1
 go_wp2_with (go_at_call 61;refine (HCk.out _ hb1).mono ?_;rintro e w2 ⟨rfl,hb2⟩;have x2:=(HX.out.keep hb1).keep hb2;have d0:=x2.cell 0 rfl;have d1:=x2.cell 1 rfl;have d2:=x2.cell 2 rfl;have d3:=x2.cell 3 rfl;have d4:=x2.cell 4 rfl;clear x2)
 refine (HNw.out w2 (Below.next hb1 hb2)).mono ?_
 rintro e w3 ⟨b,rfl,hG3,hbb,hb3⟩
 have HG3:=Lib.hid hG3
 have Hbb:=Lib.hid hbb
 clear hG3 hbb d0 d1 d2 d3 d4 c0 c1 c2 c3 c4
 go_upto_region 5 with fail
 obtain ⟨W4,hW4⟩ : ∃W4 : World,W4=(((w3.alloc (.cells #[.pointer (some ⟨b,0,none⟩)] 95)).alloc (.cells #[.int .i64 0] 3)).alloc (.cells #[.nilFunc] 170)):=⟨_,rfl⟩
 rw [<- hW4]
 have hb4 : Below w3.heap.size w3 W4:=by rw [hW4];exact below3 _ _ _ _
 have hs4 : W4.heap.size=w3.heap.size+3:=by rw [hW4];simp
 have g4 : Box W4 w3.heap.size [.pointer (some ⟨b,0,none⟩)]:=by rw [hW4];exact ((Box.new _ _ _ rfl).alloc _).alloc _
 have a4 : Box W4 (w3.heap.size+1) [.int .i64 0]:=by rw [hW4];exact (Box.new _ _ _ (by simp)).alloc _
 have f4 : Box W4 (w3.heap.size+1+1) [.nilFunc]:=by rw [hW4];exact Box.new _ _ _ (by simp)
 clear hW4
 have fc:=f4.cell 0 rfl
 have ff:=f4.frozen 0
 have G4:=Lib.hid g4
 have A4:=Lib.hid a4
 have F4:=Lib.hid f4
 clear g4 a4 f4
 have hst : ∀(fn : Fn) (x y : Array Value),(store (⟨w3.heap.size+1+1,0,none⟩ : Addr) (.func fn x y)).run Tryz.prog W4 = .ok () (W4.setCell ⟨w3.heap.size+1+1,0,none⟩ (.func fn x y)):=λfn x y=>by
  rw [run_store _ _ _ _ _ rfl,fc];simp [ff]
 go_upto_region 6 with fail
 have F5e : ∃FV : Value,FV = .func (.func 151) #[] #[.pointer (some ⟨Bc,0,none⟩),.pointer (some ⟨w3.heap.size+1,0,none⟩),.pointer (some ⟨W.heap.size,0,none⟩),.pointer (some ⟨w3.heap.size,0,none⟩),.pointer (some ⟨w3.heap.size+1+1,0,none⟩)]:=⟨_,rfl⟩
 obtain ⟨W5,hW5⟩ : ∃W5 : World,W5=W4.setCell ⟨w3.heap.size+1+1,0,none⟩ (.func (.func 151) #[] #[.pointer (some ⟨Bc,0,none⟩),.pointer (some ⟨w3.heap.size+1,0,none⟩),.pointer (some ⟨W.heap.size,0,none⟩),.pointer (some ⟨w3.heap.size,0,none⟩),.pointer (some ⟨w3.heap.size+1+1,0,none⟩)]):=⟨_,rfl⟩
 rw [<- hW5]
 clear F5e
 have hb45 : Below (w3.heap.size+2) W4 W5:=by rw [hW5];exact (Below.refl _ _).setCell (p:=⟨w3.heap.size+1+1,0,none⟩) (Nat.le_refl _) _
 have fc5 : W5.cell? ⟨w3.heap.size+1+1,0,none⟩=some (.func (.func 151) #[] #[.pointer (some ⟨Bc,0,none⟩),.pointer (some ⟨w3.heap.size+1,0,none⟩),.pointer (some ⟨W.heap.size,0,none⟩),.pointer (some ⟨w3.heap.size,0,none⟩),.pointer (some ⟨w3.heap.size+1+1,0,none⟩)]):=by
  rw [hW5];exact World.cell?_setCell_same' _ _ _ (by rw [fc];rfl)
 have hs5 : W5.heap.size=w3.heap.size+3:=by rw [hW5,<- hs4];simp
 clear hW5 hst fc ff
 have hb12:=Below.next hb1 hb2
 have hb13:=Below.next hb12 hb3
 have hb35 : Below w3.heap.size w3 W5:=hb4.trans (hb45.mono (by omega))
 have hbW5 : Below W.heap.size W W5:=Below.next hb13 hb35
 have cN:=(HX.out.keep hbW5).cell 3 rfl
 have gc5 : W5.cell? ⟨w3.heap.size,0,none⟩=some (.pointer (some ⟨b,0,none⟩)):=(hb45.cell (p:=⟨w3.heap.size,0,none⟩) (by show w3.heap.size<_;omega)).trans (G4.out.cell 0 rfl)
 have ac5 : AtQ W5 (w3.heap.size+1) 0:=AtQ.of_block (V:=W4) ⟨A4.out.cell 0 rfl,A4.out.frozen 0⟩ (hb45.block _ (by omega))
 have yc5 : W5.cell? ⟨W.heap.size,0,none⟩=some (.func (.yield l) #[] #[]):=((Y1.out.keep hb2).keep hb3 |>.keep hb35).cell 0 rfl
 have hsz1 : W.heap.size<W1.heap.size:=Y1.out.1
 have hsz2:=hb2.size
 have hsz3:=hb3.size
 have Hc : Hid (∀V a1 c1,V.ownsRow W5.heap.size 3 1 (.slice a1 n c1) n ((List.replicate n (0 : Int)).map (Value.int .i64))->Below W5.heap.size W5 V ->
   Calls Tryz.prog 151 #[.int .i64 0,.slice a1 n c1,.pointer (some ⟨Bc,0,none⟩),.pointer (some ⟨w3.heap.size+1,0,none⟩),.pointer (some ⟨W.heap.size,0,none⟩),.pointer (some ⟨w3.heap.size,0,none⟩),.pointer (some ⟨w3.heap.size+1+1,0,none⟩)] V
    λe V'=>e = .returned (.bool true)/\∃xs : List WX,xs.map WX.l=wlkS G.ops G.q L (List.replicate n 0)/\J xs V'/\Moves W V' MM MM):=by
  intro V a1 c1 hown hbV
  have hWV : Below W.heap.size W V:=Below.next hbW5 hbV
  have h35V : Below w3.heap.size w3 V:=hb35.trans (hbV.mono (by omega))
  have hMo : ∀V',Moves V V' (λx=>MM x\/x=w3.heap.size+1) (λx=>MM x\/x=w3.heap.size+1)->∀x,x<W.heap.size->¬ MM x->V'.heap[x]? = W.heap[x]?:=λV' hm x hx hn =>
   (hm.block x (by have:=hWV.size;omega) (λh=>h.elim hn (by omega))).trans (hWV.block x hx)
  obtain ⟨hia,_⟩:=Ints.own hown
  have hres:=from_any (W0:=V) (b:=b) (G:=G) (Bc:=Bc) (Bat:=w3.heap.size+1) (By:=W.heap.size) (Bg:=w3.heap.size) (Bf:=w3.heap.size+1+1) (l:=l) (ag:=a) (k:=k) (cg:=c) (n:=n) (L:=L)
   (I:=λx=>MM x\/x=w3.heap.size+1) J MM (λx h=>.inl h) (.inr rfl) (λh=>by have:=HML.out _ h;omega)
   (λx h=>by have:=hWV.size;have:=h35V.size;have:=hbV.size;exact h.elim (λh=>by have:=HML.out _ h;omega) (λh=>by omega))
   (λV' hm=>by
    obtain ⟨hma,hgc⟩:=Hmat.out V' (hMo V' hm)
    have hnI : ∀x,W.heap.size<=x->x ≠ w3.heap.size+1->¬ (MM x\/x=w3.heap.size+1):=λx h1 h2 h3=>h3.elim (λh=>by have:=HML.out _ h;omega) h2
    refine ⟨hgc,hma,?_,?_,?_,?_,?_⟩
    ·exact hm.cell ((hbV.cell (p:=⟨W.heap.size,0,none⟩) (World.block_lt_of_cell? _ _ yc5)).trans yc5) (hnI _ (Nat.le_refl _) (by show W.heap.size ≠ _;omega))
    ·exact hm.cell ((hbV.cell (p:=⟨w3.heap.size,0,none⟩) (World.block_lt_of_cell? _ _ gc5)).trans gc5) (hnI _ (by show W.heap.size<=w3.heap.size;omega) (by show w3.heap.size ≠ _;omega))
    ·refine HG3.out V' λx h1 h2=>(hm.block x (by have:=h35V.size;omega) (hnI x (by omega) (by omega))).trans (h35V.block x h2)
    ·exact hm.cell ((hbV.cell (p:=⟨w3.heap.size+1+1,0,none⟩) (World.block_lt_of_cell? _ _ fc5)).trans fc5) (hnI _ (by show W.heap.size<=w3.heap.size+1+1;omega) (by show w3.heap.size+1+1 ≠ _;omega))
    ·have:=hm.size;have:=h35V.size;have:=hbV.size;omega)
   HJa.out (λpre V' v hp hj=>HJb.out _ pre V' v (by omega) hp hj) (G.q ^ k)
   (λm pre x V' _ hj hlt hix hI=>HY.out m pre x V' hj hlt hix λj hj'=>hI j (.inl hj'))
   HN.out (by omega) hm1 HR.out (by omega) F.cl k 0 (by omega)
   a1 c1 (List.replicate n 0) [] V (Moves.refl _ _) (HJa.out _ _ _ H0.out hWV) (λx hx=>by simp at hx) (ac5.keep hbV) hia
   (λj hj=>by
    have h2:=(own_ne hown (λe=>by have:=hia.pl (by omega);rw [e] at this;cases this)).1
    rcases hj with h | h
    ·have:=HML.out _ h;have:=hbW5.size;omega
    ·omega)
   (λx hx=>by rw [(List.mem_replicate.1 hx).2];exact F.zero) (by simp)
  refine hres.mono ?_
  rintro e V' ⟨he,xs,h1,h2,_,_,h5⟩
  refine ⟨he,xs,by rw [h1,List.drop_zero],by simpa using h2,?_⟩
  have hm0 : Moves W V' (λx=>MM x\/x=w3.heap.size+1) (λx=>MM x\/x=w3.heap.size+1):=(Moves.of_below hWV _).trans h5
  exact ⟨hm0.os,hm0.tape,hm0.output,hm0.size,λx hx hn=>hm0.block x hx λh=>h.elim hn (by omega),λx h=>.inl h⟩
 have hmk:=run_mk (P:=Tryz.prog) 22 3 (.int .i64 0) 8 Tryz.underlying22 infoInt rfl n (by omega) (by omega)
 have hoD : (W5.alloc (.cells (Array.replicate n (Value.int .i64 0)) 3)).drew.ownsRow W5.heap.size 3 1 (.slice (some ⟨W5.heap.size,0,none⟩) n n) n (List.replicate n (Value.int .i64 0)):=own_mkArr W5.drew 3 (.int .i64 0) n rfl (Nat.le_refl _) (by unfold maxLen;omega)
 rw [<- List.map_replicate (f:=Value.int .i64)] at hoD
 have HC:=Lib.hid (Hc.out _ _ _ hoD ((Below.refl _ _).alloc (Nat.le_refl _) _).drew)
 have fc6:=(((Below.refl W5.heap.size W5).alloc (Nat.le_refl _) (.cells (Array.replicate n (Value.int .i64 0)) 3)).cell (p:=⟨w3.heap.size+1+1,0,none⟩) (World.block_lt_of_cell? _ _ fc5)).trans fc5
 clear hoD gc5 yc5 ac5 hs5 hs4
 go_region_law ((first
  | (go_simp;go_at_call 151;((with_reducible refine HC.out.mono ?_);rintro e V ⟨rfl,xs,hx,hJx,hmx⟩))))
 all_goals go_wp2_with fail
 all_goals go_end0
 all_goals exact ⟨rfl,xs,hx,hJx,hmx⟩
end

section
theorem words_law {P M : Int} {mod : List Int} {m : Nat} {L : List (List Int)} (hE : codeE P M mod m L=0) {Q : List Int} (hQ : InN m Q) (hl : Q.length=L.length) (hg : (grS (tblOf P M.toNat mod).ops L Q).length=Q.length)
  {v : List Int} (hvl : v.length=L.length) (hv : ∀k,k<L.length->(tblOf P M.toNat mod).El (nth v k)) :
  Vc (tblOf P M.toNat mod).El m (cmbTo (tblOf P M.toNat mod).ops m v (sysL (tblOf P M.toNat mod).ops m L Q) L.length) /\
  (∀i,i<m->nth (redTo (tblOf P M.toNat mod).ops L (pivS (tblOf P M.toNat mod) L m) (cmbTo (tblOf P M.toNat mod).ops m v (sysL (tblOf P M.toNat mod).ops m L Q) L.length) L.length) i=0) /\
  pickL Q (cmbTo (tblOf P M.toNat mod).ops m v (sysL (tblOf P M.toNat mod).ops m L Q) L.length)=v:=by
 obtain ⟨N',e,hm1,hm64,F,hR⟩:=codeE_fld hE
 obtain rfl : m=N':=by omega
 have h6:=(spaceE_zero (codeE_zero hE).2.2.2).2
 rw [Int.toNat_natCast] at h6
 have hcan : canO (tblOf P M.toNat mod).ops m L=L:=h6
 obtain ⟨hPv,_⟩:=canO_piv F hR
 have hcl:=canO_len F hR
 rw [hcan] at hPv hcl
 have hform:=λi hi=>sys_form F hR hQ hl hg i hi
 obtain ⟨hSr,hSl,hSu,_⟩:=sys_law hE hQ hl hg
 obtain ⟨c1,c2⟩:=cmb_rs F hSr (x:=v) (λk hk=>hv k (by omega)) L.length (by omega)
 have hSL : RSub (tblOf P M.toNat mod).ops (tblOf P M.toNat mod).El m (sysL (tblOf P M.toNat mod).ops m L Q) L:=λi hi=>by
  obtain ⟨e,he,hy,_⟩:=hform i (by omega)
  exact ⟨e,he,hy⟩
 refine ⟨c1,red_zero F hR hPv hcl c1 (hSL.rs c2),?_⟩
 refine nth_ext (by rw [hvl,<- hl];simp [pickL]) λj hj=>?_
 have hj2 : j<Q.length:=by simpa [pickL] using hj
 have hqj:=hQ j hj2
 rw [nth_pickL Q _ hj2,cmb_dot F hSr (λk hk=>hv k (by omega)) (by omega) _ (by omega)]
 have hone : ∀t,t<L.length->nth (nthR (sysL (tblOf P M.toNat mod).ops m L Q) t) (nth Q j).toNat=if t=j then 1 else 0:=λt ht=>by
  obtain ⟨e',_,hy',hj'⟩:=hform t ht
  rw [hy' _ (by omega),hj' j hj2]
 have hvj:=hv j (by omega)
 rw [dotN_one F (x:=j) (by
  show (tblOf P M.toNat mod).El ((tblOf P M.toNat mod).ops.mul (nth v j) (nth (nthR (sysL (tblOf P M.toNat mod).ops m L Q) j) (nth Q j).toNat))
  rw [hone j (by omega),if_pos rfl,F.mone hvj];exact hvj) L.length (λp hp hpj=>by
  show (tblOf P M.toNat mod).ops.mul (nth v p) (nth (nthR (sysL (tblOf P M.toNat mod).ops m L Q) p) (nth Q j).toNat)=0
  rw [hone p hp,if_neg hpj,F.mzero (hv p hp)]),if_pos (by omega)]
 show (tblOf P M.toNat mod).ops.mul (nth v j) (nth (nthR (sysL (tblOf P M.toNat mod).ops m L Q) j) (nth Q j).toNat)=_
 rw [hone j (by omega),if_pos rfl,F.mone hvj]
end

section
open Go.RowKit
section
variable {P M : Int} {mod : List Int} {m : Nat} {L : List (List Int)}
def CW (P M : Int) (mod : List Int) (m : Nat) (L : List (List Int)) (y : List Int) : Prop :=
 Vc (tblOf P M.toNat mod).El m y/\RS (tblOf P M.toNat mod).ops (tblOf P M.toNat mod).El m L (λi=>nth y i)/\wtL y ≠ 0
theorem sys_word (hE : codeE P M mod m L=0) {Q : List Int} (hQ : okSet m Q=true) (hB : isB (tblOf P M.toNat mod).ops L Q=true) {y : List Int} (hy : Vc (tblOf P M.toNat mod).El m y) (hr : RS (tblOf P M.toNat mod).ops (tblOf P M.toNat mod).El m L (λi=>nth y i)) :
  y=cmbTo (tblOf P M.toNat mod).ops m (pickL Q y) (sysL (tblOf P M.toNat mod).ops m L Q) L.length:=by
 obtain ⟨N',e,hm1,hm64,F,hR⟩:=codeE_fld hE
 obtain rfl : m=N':=by omega
 obtain ⟨hI,hl,hg⟩:=setB_in hQ hB
 obtain ⟨s1,s2,_,s4⟩:=sys_law hE hI hl hg
 have hcan : canO (tblOf P M.toNat mod).ops m (sysL (tblOf P M.toNat mod).ops m L Q)=L:=s4
 have hsub:=(canO_rsub F s1).1
 rw [hcan] at hsub
 obtain ⟨v,hv,h2⟩:=RS.cmb F s1 (hsub.rs hr)
 rw [s2] at hv h2
 obtain ⟨w1,_,w3⟩:=words_law hE hI hl hg (v:=v) hv.1 λk hk=>hv.at hk
 have h3 : y=cmbTo (tblOf P M.toNat mod).ops m v (sysL (tblOf P M.toNat mod).ops m L Q) L.length:=nth_ext (by rw [hy.1,w1.1]) λi hi=>h2 i (by rw [<- hy.1];exact hi)
 have h4 : pickL Q y=v:=by rw [h3];exact w3
 rw [h4];exact h3
theorem pick_zero {Q y : List Int} (h : ∀z ∈ y,z=0) : wtL (pickL Q y)=0:=by
 refine wtM_zero.2 λz hz=>?_
 unfold pickL at hz
 obtain ⟨q,_,rfl⟩:=List.mem_map.1 hz
 by_cases hq : q.toNat<y.length
 ·rw [nth_getElem hq];exact h _ (List.getElem_mem hq)
 ·unfold nth;rw [List.getD_eq_getElem?_getD,List.getElem?_eq_none (by omega)];rfl
theorem cmb_zero (O : FOps) (m : Nat) {c : List Int} {G : List (List Int)} (h : ∀y ∈ c,y=0) : ∀k,k<=c.length->cmbTo O m c G k=List.replicate m 0
 | 0,_=>rfl
 | k+1,hk=>by
  rw [cmbTo,if_pos (h _ (nth_mem (by omega))),cmb_zero O m h k (by omega)]
theorem rep_zero {m : Nat} : ∀z ∈ List.replicate m (0 : Int),z=0:=λz hz=>(List.mem_replicate.1 hz).2
theorem pick_ne (hE : codeE P M mod m L=0) {Q : List Int} (hQ : okSet m Q=true) (hB : isB (tblOf P M.toNat mod).ops L Q=true) {y : List Int} (h : CW P M mod m L y) : wtL (pickL Q y) ≠ 0:=λh0=>by
 obtain ⟨hI,hl,hg⟩:=setB_in hQ hB
 have h1:=sys_word hE hQ hB h.1 h.2.1
 rw [cmb_zero _ _ (wtM_zero.1 h0) _ (by simp [pickL,hl])] at h1
 exact h.2.2 (by rw [h1];exact wtM_zero.2 rep_zero)
theorem elsN_el {q : Nat} {b : Int} (h : b ∈ elsN q) : 0<=b/\b<q:=by have:=mem_elsN.1 h;omega
theorem look_iff (hE : codeE P M mod m L=0) {Q : List Int} (hQ : okSet m Q=true) (hB : isB (tblOf P M.toNat mod).ops L Q=true) {l : Nat} {y : List Int} :
  y ∈ sumA (tblOf P M.toNat mod).ops (elsN (tblOf P M.toNat mod).q) [1] (l+1) (sysL (tblOf P M.toNat mod).ops m L Q) (List.replicate m 0) ↔ CW P M mod m L y/\wtL (pickL Q y)=l+1/\nth (pickL Q y) (fnz (pickL Q y))=1:=by
 obtain ⟨N',e,hm1,hm64,F,hR⟩:=codeE_fld hE
 obtain rfl : m=N':=by omega
 obtain ⟨hI,hl,hg⟩:=setB_in hQ hB
 obtain ⟨s1,s2,_,s4⟩:=sys_law hE hI hl hg
 have hcan : canO (tblOf P M.toNat mod).ops m (sysL (tblOf P M.toNat mod).ops m L Q)=L:=s4
 have hsub:=(canO_rsub F s1).2
 rw [hcan] at hsub
 have hpl : ∀y,(pickL Q y).length=L.length:=λy=>by simp [pickL,hl]
 rw [sumA,mem_sumL _ (by simp) l (mem_sumS _ (λa ha=>by have:=mem_elsN.1 ha;omega) l)]
 constructor
 ·rintro ⟨c,h1,h2,h3,h4⟩
  rw [s2] at h1
  have hc0 : wtL c ≠ 0:=by omega
  obtain ⟨f1,f2⟩:=(FC_first hc0).1 h3
  have hel : ∀k,k<L.length->(tblOf P M.toNat mod).El (nth c k):=λk hk=>by
   by_cases e0 : nth c k=0
   ·rw [e0];exact F.zero
   ·by_cases e1 : k<fnz c
    ·exact absurd (fnz_zero c k e1) e0
    ·by_cases e2 : k=fnz c
     ·rw [e2,f1];exact F.one
     ·exact elsN_el (f2 k (by omega) (by omega) e0)
  obtain ⟨w1,_,w3⟩:=words_law hE hI hl hg (v:=c) h1 hel
  have hy : y=cmbTo (tblOf P M.toNat mod).ops m c (sysL (tblOf P M.toNat mod).ops m L Q) L.length:=by
   have h5:=addAll_cmb (O:=(tblOf P M.toNat mod).ops) (m:=m) (v:=c) (L:=sysL (tblOf P M.toNat mod).ops m L Q) (by rw [s2];exact h1) L.length 0 (by rw [s2];omega)
   rw [h4,<- s2,<- h5];rfl
  rw [<- hy] at w1 w3
  refine ⟨⟨w1,?_,λh0=>?_⟩,by rw [w3];exact h2,by rw [w3];exact f1⟩
  ·have:=(cmb_rs F s1 (x:=c) (by rw [s2];exact hel) L.length (by rw [s2];exact Nat.le_refl _)).2
   rw [<- hy] at this
   exact hsub.rs this
  ·have h6:=pick_zero (Q:=Q) (wtM_zero.1 h0)
   rw [w3] at h6;omega
 ·rintro ⟨hy,h2,h3⟩
  have h1:=sys_word hE hQ hB hy.1 hy.2.1
  obtain ⟨c,hc⟩ : ∃c,pickL Q y=c:=⟨_,rfl⟩
  have hcl : c.length=L.length:=by rw [<- hc];exact hpl y
  rw [hc] at h1 h2 h3
  refine ⟨c,by rw [s2];exact hcl,h2,(FC_first (by omega)).2 ⟨h3,λj _ hj hj0=>?_⟩,?_⟩
  ·have h7 : nth c j=nth y (nth Q j).toNat:=by rw [<- hc];exact nth_pickL Q y (by omega)
   have h8:=hI j (by omega)
   have h9 : (tblOf P M.toNat mod).El (nth c j):=by rw [h7];exact hy.1.at (by omega)
   exact mem_elsN.2 ⟨by have:=h9.1;omega,h9.2⟩
  ·have h5:=addAll_cmb (O:=(tblOf P M.toNat mod).ops) (m:=m) (v:=c) (L:=sysL (tblOf P M.toNat mod).ops m L Q) (by rw [s2];exact hcl) L.length 0 (by rw [s2];omega)
   rw [h1,<- s2,<- h5];rfl
theorem CW.scl (hE : codeE P M mod m L=0) {y : List Int} (h : CW P M mod m L y) {s : Int} (hs : (tblOf P M.toNat mod).El s) (h0 : s ≠ 0) : CW P M mod m L (y.map ((tblOf P M.toNat mod).ops.mul s)):=by
 obtain ⟨N',e,hm1,hm64,F,hR⟩:=codeE_fld hE
 obtain rfl : m=N':=by omega
 refine ⟨h.1.scl F hs,(h.2.1.smul F hs).congr λx hx=>nth_scl _ _ _ (by rw [h.1.1];exact hx),?_⟩
 rw [wtL_scl F hs h0 h.1.2];exact h.2.2
theorem CW.mon (hE : codeE P M mod m L=0) {y : List Int} (h : CW P M mod m L y) : CW P M mod m L (monS (tblOf P M.toNat mod).ops y):=by
 obtain ⟨N',e,hm1,hm64,F,hR⟩:=codeE_fld hE
 obtain rfl : m=N':=by omega
 obtain ⟨h1,h2⟩:=first_el h.1 h.2.2
 obtain ⟨h3,h4⟩:=inv_ne F h1 h2
 exact h.scl hE h3 h4
theorem pick_scl {O : FOps} {Q y : List Int} (hI : InN y.length Q) (s : Int) : pickL Q (y.map (O.mul s))=(pickL Q y).map (O.mul s):=by
 unfold pickL
 rw [List.map_map]
 refine List.map_congr_left λq hq=>?_
 obtain ⟨j,hj,rfl⟩:=List.mem_iff_getElem.1 hq
 have h:=hI j hj
 rw [nth_getElem hj] at h
 exact nth_scl O y s (by omega)
theorem look_some (hE : codeE P M mod m L=0) {Q : List Int} (hQ : okSet m Q=true) (hB : isB (tblOf P M.toNat mod).ops L Q=true) {l : Nat} {x : List Int} (hx : CW P M mod m L x) (hl : wtL (pickL Q x)=l+1) :
  ∃y ∈ sumA (tblOf P M.toNat mod).ops (elsN (tblOf P M.toNat mod).q) [1] (l+1) (sysL (tblOf P M.toNat mod).ops m L Q) (List.replicate m 0),monS (tblOf P M.toNat mod).ops y=monS (tblOf P M.toNat mod).ops x:=by
 obtain ⟨N',e,hm1,hm64,F,hR⟩:=codeE_fld hE
 obtain rfl : m=N':=by omega
 obtain ⟨hI,hql,hg⟩:=setB_in hQ hB
 have hc : Vc (tblOf P M.toNat mod).El Q.length (pickL Q x):=⟨by simp [pickL],λz hz=>by
  obtain ⟨j,hj,rfl⟩:=List.mem_iff_getElem.1 hz
  have hj2 : j<Q.length:=by simpa [pickL] using hj
  have h8:=hI j hj2
  rw [<- nth_getElem hj,nth_pickL Q x hj2]
  exact hx.1.at (by omega)⟩
 have hc0 : wtL (pickL Q x) ≠ 0:=by omega
 obtain ⟨h1,h2⟩:=first_el hc hc0
 obtain ⟨h3,h4⟩:=inv_ne F h1 h2
 refine ⟨x.map ((tblOf P M.toNat mod).ops.mul ((tblOf P M.toNat mod).ops.inv (nth (pickL Q x) (fnz (pickL Q x))))),(look_iff hE hQ hB).2 ⟨hx.scl hE h3 h4,?_,?_⟩,monS_scl F h3 h4 hx.1 hx.2.2⟩
 ·rw [pick_scl (by rw [hx.1.1];exact hI),wtL_scl F h3 h4 hc.2];exact hl
 ·rw [pick_scl (by rw [hx.1.1];exact hI)]
  exact monS_first F hc hc0
theorem fold_flat {α β γ : Type} (f : γ->β->γ) (g : α->List β) : ∀(l : List α) (b : γ),l.foldl (λb a=>(g a).foldl f b) b=(l.flatMap g).foldl f b
 | [],_=>rfl
 | a :: l,b=>by rw [List.foldl_cons,fold_flat f g l,List.flatMap_cons,List.foldl_append]
theorem rnd_spec (hE : codeE P M mod m L=0) (l : Nat) (b : List Int) :
  (rndS (tblOf P M.toNat mod).ops (tblOf P M.toNat mod).q m (l+1) (famM P M mod m L) b=b\/∃y,CW P M mod m L y/\rndS (tblOf P M.toNat mod).ops (tblOf P M.toNat mod).q m (l+1) (famM P M mod m L) b=monS (tblOf P M.toNat mod).ops y) /\
  (∀x,CW P M mod m L x->(∃t ∈ famL (tblOf P M.toNat mod).ops L m,wtL (pickL t.1 x)=l+1)->leK (rndS (tblOf P M.toNat mod).ops (tblOf P M.toNat mod).q m (l+1) (famM P M mod m L) b) (monS (tblOf P M.toNat mod).ops x)) /\
  (wtL b ≠ 0->leK (rndS (tblOf P M.toNat mod).ops (tblOf P M.toNat mod).q m (l+1) (famM P M mod m L) b) b) /\
  (l+1<=L.length->wtL (rndS (tblOf P M.toNat mod).ops (tblOf P M.toNat mod).q m (l+1) (famM P M mod m L) b) ≠ 0):=by
 obtain ⟨N',e,hm1,hm64,F,hR⟩:=codeE_fld hE
 obtain rfl : m=N':=by omega
 have hall:=λt ht=>chain_mem (fam_all hE).1 t ht
 unfold rndS
 rw [fold_flat]
 have hin : ∀y,y ∈ (famM P M mod m L).flatMap (λG=>sumA (tblOf P M.toNat mod).ops (elsN (tblOf P M.toNat mod).q) [1] (l+1) G (List.replicate m 0)) ↔
   ∃t ∈ famL (tblOf P M.toNat mod).ops L m,CW P M mod m L y/\wtL (pickL t.1 y)=l+1/\nth (pickL t.1 y) (fnz (pickL t.1 y))=1:=λy=>by
  rw [List.mem_flatMap]
  constructor
  ·rintro ⟨G,hG,hy⟩
   obtain ⟨t,ht,rfl⟩:=List.mem_map.1 hG
   exact ⟨t,ht,(look_iff hE (hall t ht).1 (hall t ht).2.1).1 hy⟩
  ·rintro ⟨t,ht,h⟩
   exact ⟨_,List.mem_map.2 ⟨t,ht,rfl⟩,(look_iff hE (hall t ht).1 (hall t ht).2.1).2 h⟩
 obtain ⟨a1,a2,a3,a4⟩:=fold_spec F (m:=m) ((famM P M mod m L).flatMap λG=>sumA (tblOf P M.toNat mod).ops (elsN (tblOf P M.toNat mod).q) [1] (l+1) G (List.replicate m 0)) b λy hy=>by
  obtain ⟨t,_,h,_⟩:=(hin y).1 hy
  exact ⟨h.1,h.2.2⟩
 refine ⟨?_,?_,a3,λhlk=>a4 (.inl ?_)⟩
 ·rcases a1 with h | ⟨y,hy,h⟩
  ·exact .inl h
  ·obtain ⟨t,_,h2,_⟩:=(hin y).1 hy
   exact .inr ⟨y,h2,h⟩
 ·rintro x hx ⟨t,ht,h⟩
  obtain ⟨y,hy,h2⟩:=look_some hE (hall t ht).1 (hall t ht).2.1 hx h
  rw [<- h2]
  exact a2 y (List.mem_flatMap.2 ⟨_,List.mem_map.2 ⟨t,ht,rfl⟩,hy⟩)
 ·intro hnil
  obtain ⟨t,ht⟩:=List.exists_mem_of_ne_nil _ (fam_ne hE (by omega))
  rw [List.flatMap_eq_nil_iff] at hnil
  have h2:=hnil _ (List.mem_map.2 ⟨t,ht,rfl⟩)
  obtain ⟨hI,hql,hg⟩:=setB_in (hall t ht).1 (hall t ht).2.1
  have h3:=sumA_count (tblOf P M.toNat mod).ops (elsN (tblOf P M.toNat mod).q) 1 l (sysL (tblOf P M.toNat mod).ops m L t.1) (List.replicate m 0)
  rw [h2,(sys_law hE hI hql hg).2.1,elsN_len] at h3
  have h4:=chN_pos L.length (l+1) hlk
  have hq : 1<=(tblOf P M.toNat mod).q - 1:=by have h5 : (1 : Int)<(tblOf P M.toNat mod).q:=F.one.2;omega
  have h6 : 0<chN L.length (l+1) * ((tblOf P M.toNat mod).q - 1) ^ l:=Nat.mul_pos h4 (Nat.pow_pos hq)
  simp at h3
  omega
def RndOk (P M : Int) (mod : List Int) (m : Nat) (L : List (List Int)) (r : List Int) : Prop :=
 ∀x,CW P M mod m L x->((∃t ∈ famL (tblOf P M.toNat mod).ops L m,(wtL (pickL t.1 x) : Int)<=nth r 0)->nth r 2<=wtL x)/\((∀t ∈ famL (tblOf P M.toNat mod).ops L m,nth r 0<(wtL (pickL t.1 x) : Int))->nth r 3<=wtL x)
def BestOk (P M : Int) (mod : List Int) (m : Nat) (L : List (List Int)) (b : List Int) : Prop:=CW P M mod m L b/\monS (tblOf P M.toNat mod).ops b=b
theorem sr_law (hE : codeE P M mod m L=0) (hk : 1<=L.length) (hk64 : L.length<=64) : ∀(f w : Nat) (b : List Int) (n : Nat) (o : List (List Int)),w+1+f=L.length+1->((w=0/\b=[])\/BestOk P M mod m L b) ->
  (∀x,CW P M mod m L x->(∃t ∈ famL (tblOf P M.toNat mod).ops L m,wtL (pickL t.1 x)<=w)->leK b (monS (tblOf P M.toNat mod).ops x))->(∀r ∈ o,RndOk P M mod m L r) ->
  ∀ {o2 : List (List Int)} {b2 : List Int} {e : Int},srS (tblOf P M.toNat mod).ops (tblOf P M.toNat mod).q m L.length (famM P M mod m L) ((famL (tblOf P M.toNat mod).ops L m).map (·.2)) f (w+1) b n o=(o2,b2,e) ->
  (e=8/\o2=[]/\b2=[])\/(e=0/\BestOk P M mod m L b2/\(∀x,CW P M mod m L x->leK b2 (monS (tblOf P M.toNat mod).ops x))/\(∀r ∈ o2,RndOk P M mod m L r)/\o.length+(if f=0 then 0 else 1)<=o2.length)
 | 0,w,b,n,o,hw,hb,hs,ho,o2,b2,e,h=>by
  rw [srS] at h
  obtain ⟨rfl,rfl,rfl⟩ : o=o2/\b=b2/\0=e:=by simpa using h
  refine .inr ⟨rfl,hb.resolve_left (λh=>by omega),λx hx=>hs x hx ?_,ho,by simp⟩
  obtain ⟨t,ht⟩:=List.exists_mem_of_ne_nil _ (fam_ne hE hk)
  refine ⟨t,ht,?_⟩
  have h1 : wtL (pickL t.1 x)<=(pickL t.1 x).length:=List.countP_le_length
  have h2:=(isB_iff.1 (chain_mem (fam_all hE).1 t ht).2.1).1
  rw [show (pickL t.1 x).length=t.1.length by simp [pickL]] at h1
  omega
 | f+1,w,b,n,o,hw,hb,hs,ho,o2,b2,e,h=>by
  obtain ⟨N',e0,hm1,hm64,F,hR⟩:=codeE_fld hE
  obtain rfl : m=N':=by omega
  obtain ⟨a1,a2,a3,a4⟩:=rnd_spec hE w b
  have a4:=a4 (by omega)
  rw [srS] at h
  by_cases hm : moreB (tblOf P M.toNat mod).q L.length (famM P M mod m L).length n (w+1)=true
  rotate_left
  ·rw [if_neg hm] at h
   obtain ⟨rfl,rfl,rfl⟩ : []=o2/\[]=b2/\8=e:=by simpa using h
   exact .inl ⟨rfl,rfl,rfl⟩
  rw [if_pos hm] at h
  clear hm
  obtain ⟨B,hB⟩ : ∃B,rndS (tblOf P M.toNat mod).ops (tblOf P M.toNat mod).q m (w+1) (famM P M mod m L) b=B:=⟨_,rfl⟩
  obtain ⟨fl,hfl⟩ : ∃fl,flTo (L.length : Int) ((w+1 : Nat) : Int) ((famL (tblOf P M.toNat mod).ops L m).map (·.2)) ((famL (tblOf P M.toNat mod).ops L m).map (·.2)).length=fl:=⟨_,rfl⟩
  rw [hB,hfl] at h
  rw [hB] at a1 a2 a3 a4
  have hBk : BestOk P M mod m L B:=by
   rcases a1 with h1 | ⟨y,hy,h1⟩
   ·rcases hb with hb | hb
    ·rw [h1,hb.2] at a4;exact absurd wtM_nil a4
    ·rw [h1];exact hb
   ·rw [h1];exact ⟨hy.mon hE,monS_idem F hy.1 hy.2.2⟩
  have hseen : ∀x,CW P M mod m L x->(∃t ∈ famL (tblOf P M.toNat mod).ops L m,wtL (pickL t.1 x)<=w+1)->leK B (monS (tblOf P M.toNat mod).ops x):=by
   rintro x hx ⟨t,ht,hle⟩
   by_cases e1 : wtL (pickL t.1 x)=w+1
   ·exact a2 x hx ⟨t,ht,e1⟩
   ·have hc:=pick_ne hE (chain_mem (fam_all hE).1 t ht).1 (chain_mem (fam_all hE).1 t ht).2.1 hx
    rcases hb with hb | hb
    ·omega
    ·exact (a3 hb.1.2.2).trans (hs x hx ⟨t,ht,by omega⟩)
  have hfloor : ∀x,CW P M mod m L x->(∀t ∈ famL (tblOf P M.toNat mod).ops L m,((w+1 : Nat) : Int)<(wtL (pickL t.1 x) : Int))->fl<=wtL x:=λx hx hu=>by
   obtain ⟨f',h1,h2⟩:=fam_bound hE hx.1.1 (v:=((w+1 : Nat) : Int)) (by omega) hk64 hu
   unfold flV at h1
   split at h1
   ·rw [hfl] at h1
    obtain ⟨rfl,_⟩ : fl=f'/\True:=by simpa using h1
    exact h2
   ·simp at h1
  have hro : ∀r ∈ o ++ [[((w+1 : Nat) : Int),((n+rndN (tblOf P M.toNat mod).q L.length (famM P M mod m L).length (w+1) : Nat) : Int),(wtL B : Int),fl]],RndOk P M mod m L r:=λr hr=>by
   rcases List.mem_append.1 hr with hr | hr
   ·exact ho r hr
   ·rw [List.mem_singleton.1 hr]
    intro x hx
    refine ⟨?_,λhu=>hfloor x hx hu⟩
    rintro ⟨t,ht,hle⟩
    have hle2 : (wtL (pickL t.1 x) : Int)<=((w+1 : Nat) : Int):=hle
    have h1:=(hseen x hx ⟨t,ht,by omega⟩).wt
    rw [monS_wt F hx.1 hx.2.2] at h1
    show (wtL B : Int)<=wtL x
    omega
  by_cases hst : fl > (wtL B : Int)
  ·rw [if_pos hst] at h
   simp only [Prod.mk.injEq] at h
   obtain ⟨rfl,rfl,rfl⟩:=h
   refine .inr ⟨rfl,hBk,λx hx=>?_,hro,by simp⟩
   by_cases hx2 : ∃t ∈ famL (tblOf P M.toNat mod).ops L m,wtL (pickL t.1 x)<=w+1
   ·exact hseen x hx hx2
   ·have h1:=hfloor x hx λt ht=>by
     have : ¬ wtL (pickL t.1 x)<=w+1:=λh2=>hx2 ⟨t,ht,h2⟩
     omega
    left
    rw [monS_wt F hx.1 hx.2.2]
    omega
  ·rw [if_neg hst] at h
   rcases sr_law hE hk hk64 f (w+1) B _ _ (by omega) (.inr hBk) hseen hro h with h1 | ⟨h1,h2,h3,h4,h5⟩
   ·exact .inl h1
   ·refine .inr ⟨h1,h2,h3,h4,?_⟩
    rw [List.length_append,List.length_singleton] at h5
    split at h5 <;> simp <;> omega
end
end

section
set_option maxRecDepth 100000
set_option maxHeartbeats 4000000

open Go.RowKit
theorem size_any (P M : Int) (am : Option Addr) (mn cm : Nat) (mod : List Int) (n : Nat) (a : Option Addr) (k c : Nat) (L : List (List Int)) (w : World) (hE : codeE P M mod n L=0) (hmod : Ints w am mn mod) (hi : Mat w a k L) :
  Calls Tryz.prog 79 #[.agg #[.int .i64 P,.int .i64 M,.slice am mn cm,.int .i64 n,.slice a k c]] w λe w' =>
   e = .returned (.tuple #[.int .i64 (expV (tblOf P M.toNat mod).q k),.int .i64 (expE (tblOf P M.toNat mod).q k)])/\Below w.heap.size w w':=by
 have hk256 : k<=256:=by rw [<- hi.len];exact (codeE_rws hE).choose_spec.2.2.2.1
 have hfB:=(codeE_zero hE).1
 have HCk : Hid (∀V,Below w.heap.size w V->Calls Tryz.prog 61 #[.agg #[.int .i64 P,.int .i64 M,.slice am mn cm,.int .i64 n,.slice a k c]] V λe w'=>e = .returned (.int .i64 0)/\Below V.heap.size V w'):=λV hV=>by
  have h:=codeCheck_any P M am mn cm mod n a k c L V (hmod.keep hV) (hi.keep hV)
  rw [hE] at h
  exact h
 have HNw : Hid (∀V,Below w.heap.size w V->Calls Tryz.prog 86 #[.agg #[.int .i64 P,.int .i64 M,.slice am mn cm]] V λe w'=>∃b,e = .returned (.tuple #[.pointer (some ⟨b,0,none⟩),.int .i64 0])/\GFw w' b (tblOf P M.toNat mod)/\Below V.heap.size V w'):=λV hV=>by
  refine (fieldNew_any P M am mn cm mod V (hmod.keep hV)).mono ?_
  rintro e w' (⟨h1,_⟩ | ⟨_,b,h2,h3,_,h4⟩)
  ·rw [hfB] at h1;cases h1
  ·exact ⟨b,h2,h3.gf,h4⟩
 obtain ⟨G,hG⟩ : ∃G,tblOf P M.toNat mod=G:=⟨_,rfl⟩
 rw [hG] at HNw ⊢
 clear hG hfB hE hmod hi
 go_enter Tryz.func79,Tryz.ntmps79
 go_upto_region 1 with fail
 obtain ⟨W,hW⟩ : ∃W : World,W=w.alloc (.cells #[.int .i64 P,.int .i64 M,.slice am mn cm,.int .i64 n,.slice a k c] 27):=⟨_,rfl⟩
 rw [<- hW]
 have hbW : Below w.heap.size w W:=by rw [hW];exact below1 _ _
 have x0 : Box W w.heap.size [.int .i64 P,.int .i64 M,.slice am mn cm,.int .i64 n,.slice a k c]:=by rw [hW];exact Box.new _ _ _ rfl
 have HX:=Lib.hid x0
 have c0:=x0.cell 0 rfl
 have c1:=x0.cell 1 rfl
 have c2:=x0.cell 2 rfl
 clear hW x0
 go_wp2_with (go_at_call 86;refine (HNw.out _ hbW).mono ?_;rintro e w2 ⟨b,rfl,hG2,hb2⟩;have x2:=HX.out.keep hb2;have d0:=x2.cell 0 rfl;have d1:=x2.cell 1 rfl;have d2:=x2.cell 2 rfl;have d3:=x2.cell 3 rfl;have d4:=x2.cell 4 rfl;clear x2)
 refine (HCk.out _ (Below.next hbW hb2)).mono ?_
 rintro e w3 ⟨rfl,hb3⟩
 have hG3:=hG2.keep hb3
 have hq2 : (2 : Int)<=G.q:=by have:=hG3.q2;omega
 have hq256 : (G.q : Int)<=256:=by have:=hG3.q256;omega
 have e4:=((HX.out.keep hb2).keep hb3).cell 4 rfl
 have hGd : ∀m,GFw (w3.drewN m) b G:=λm=>hG3.drewN m
 clear d0 d1 d2 d3 d4 c0 c1 c2
 go_wp2_with fail
 have HS : Hid (∀V,Below w3.heap.size w3 V->V.cell? ⟨w.heap.size,4,none⟩=some (.slice a k c)/\GFw V b G/\Below w3.heap.size w3 V):=λV hV =>
  ⟨(((HX.out.keep hb2).keep hb3).keep hV).cell 4 rfl,hG3.keep hV,hV⟩
 clear e4 hGd
 go_region_held3 (λV=>V.cell? ⟨w.heap.size,4,none⟩=some (.slice a k c)/\GFw V b G/\Below w3.heap.size w3 V)
  ((refine HS.out _ ?_;first | exact (Below.refl _ _).drew | (go_split_ands;assumption) | (go_split_ands;exact Below.next (by assumption) (by assumption))))
  (first
   | (go_at_call 149;((with_reducible refine (gOrder (b:=b) (G:=G) (by go_split_ands;assumption)).mono ?_);rintro e w4 ⟨rfl,rfl⟩))
   | (go_at_call 148;((with_reducible refine (exp_any (G.q : Int) k _ hq2 hq256 (by omega)).mono ?_);rintro e w5 ⟨rfl,rfl⟩)))
 all_goals go_wp2_with fail
 all_goals go_ret2
 all_goals exact ⟨rfl,Below.next (Below.next (Below.next hbW hb2) hb3) (by go_split_ands;assumption)⟩
end

end Go.Proofs.YtcfmiocdlcapoaaGreat
