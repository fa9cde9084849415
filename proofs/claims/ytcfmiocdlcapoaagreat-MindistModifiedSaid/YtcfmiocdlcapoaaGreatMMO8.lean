import Derived.Test.YtcfmiocdlcapoaaGreatK31
import Derived.Test.YtcfmiocdlcapoaaGreatMMO6
import Derived.Test.YtcfmiocdlcapoaaGreatK28
import Derived.Test.YtcfmiocdlcapoaaGreatMMO5
import Derived.Test.YtcfmiocdlcapoaaGreatK25
import Derived.Test.YtcfmiocdlcapoaaGreatK4
import Derived.Test.YtcfmiocdlcapoaaGreatK21
import Derived.Test.YtcfmiocdlcapoaaGreatK26
import Derived.Test.YtcfmiocdlcapoaaGreatMMO2
import Derived.Test.YtcfmiocdlcapoaaGreatK19
import Derived.Test.YtcfmiocdlcapoaaGreatK29
import Derived.Test.YtcfmiocdlcapoaaGreatK22
import Derived.Test.YtcfmiocdlcapoaaGreatK23
import Derived.Test.YtcfmiocdlcapoaaGreatK17
import Derived.Test.YtcfmiocdlcapoaaGreatK12
namespace Go.Proofs.YtcfmiocdlcapoaaGreat
set_option linter.unusedVariables false
set_option linter.unusedSimpArgs false
set_option linter.unusedSectionVars false
set_option maxRecDepth 100000
set_option maxHeartbeats 8000000
open Go.RowKit
theorem jN {q : Nat} {x : Int} : x ∈ dn q ↔ 1<=x/\x<q:=by
 unfold dn
 rw [List.mem_map]
 constructor
 ·rintro ⟨i,hi,rfl⟩
  rw [List.mem_range] at hi
  omega
 ·intro h
  exact ⟨(x - 1).toNat,by rw [List.mem_range];omega,by omega⟩
theorem jC : ∀a : Lz,cmpL a a=0
 | []=>rfl
 | x :: a=>by rw [cmpL,if_neg (by omega),if_neg (by omega),jC a]
theorem lI : ∀a b : Lz,cmpL b a = - cmpL a b
 | [],[]=>rfl
 | [],_ :: _=>rfl
 | _ :: _,[]=>rfl
 | x :: a,y :: b=>by
  rw [cmpL,cmpL]
  by_cases h1 : x<y
  ·rw [if_neg (by omega),if_pos h1,if_pos h1];rfl
  ·by_cases h2 : y<x
   ·rw [if_pos h2,if_neg h1,if_pos h2]
   ·rw [if_neg h2,if_neg h1,if_neg h1,if_neg h2,lI a b]
theorem Co : ∀ {a b c : Lz},cmpL a b<=0->cmpL b c<=0->cmpL a c<=0
 | [],_,[],_,_=>by rw [cmpL];omega
 | [],_,_ :: _,_,_=>by rw [cmpL];omega
 | _ :: _,[],_,h,_=>by rw [cmpL] at h;omega
 | _ :: _,_ :: _,[],_,h=>by rw [cmpL] at h;omega
 | x :: a,y :: b,z :: c,h,h'=>by
  rw [cmpL] at h h' ⊢
  by_cases h1 : x<y
  ·by_cases h3 : z<y
   ·rw [if_neg (by omega),if_pos h3] at h';omega
   ·rw [if_pos (by omega)];omega
  ·rw [if_neg h1] at h
   by_cases h2 : y<x
   ·rw [if_pos h2] at h;omega
   ·rw [if_neg h2] at h
    by_cases h3 : y<z
    ·rw [if_pos (by omega)];omega
    ·rw [if_neg h3] at h'
     by_cases h4 : z<y
     ·rw [if_pos h4] at h';omega
     ·rw [if_neg h4] at h'
      rw [if_neg (by omega),if_neg (by omega)]
      exact Co h h'
def n8 (b x : Lz) : Prop:=bw b<bw x\/(bw b=bw x/\cmpL b x<=0)
theorem n8.refl (b : Lz) : n8 b b:=.inr ⟨rfl,by rw [jC];omega⟩
theorem n8.trans {a b c : Lz} (h : n8 a b) (h' : n8 b c) : n8 a c:=by
 rcases h with h | ⟨h,g⟩
 ·rcases h' with h' | ⟨h',_⟩
  ·exact .inl (by omega)
  ·exact .inl (by omega)
 ·rcases h' with h' | ⟨h',g'⟩
  ·exact .inl (by omega)
  ·exact .inr ⟨by omega,Co g g'⟩
theorem n8.wt {a b : Lz} (h : n8 a b) : bw a<=bw b:=by rcases h with h | ⟨h,_⟩ <;> omega
theorem dk {x : Lz} : bw x=0 ↔ ∀y ∈ x,y=0:=by
 unfold bw
 rw [List.countP_eq_zero]
 constructor
 ·intro h y hy;have:=h y hy;simpa using this
 ·intro h y hy;rw [h y hy];simp
theorem su : bw []=0:=rfl
theorem mL {v : Lz} (h : bw v ≠ 0) : fnz v<v.length:=by
 refine Decidable.byContradiction λhn=>h (dk.2 λy hy=>?_)
 obtain ⟨i,hi,rfl⟩:=List.mem_iff_getElem.1 hy
 have:=iO v i (by omega)
 rwa [ai hi] at this
theorem fq (x : Int) (l : Lz) : bw (x :: l)=bw l+if x=0 then 0 else 1:=by
 unfold bw
 rw [List.countP_cons]
 by_cases h : x=0 <;> simp [h]
section
variable {O : aQ} {El : Int->Prop} {m : Nat}
theorem jd (F : cK O El) {a : Int} (ha : El a) (h0 : a ≠ 0) : El (O.inv a)/\O.inv a ≠ 0:=by
 have hi:=F.cl.inv a ha h0
 refine ⟨hi,λe=>?_⟩
 have h1:=F.mul_inv a ha h0
 rw [e,F.dA ha] at h1
 have h2:=F.one_mul a ha
 rw [<- h1,F.mO ha] at h2
 exact h0 h2.symm
theorem qe (F : cK O El) {s x : Int} (hs : El s) (h0 : s ≠ 0) (hx : El x) : O.mul s x=0 ↔ x=0 :=
 ⟨λh=>F.tQ hs hx h0 h,λh=>by rw [h,F.dA hs]⟩
theorem l6 (F : cK O El) {s : Int} (hs : El s) (h0 : s ≠ 0) : ∀ {x : Lz},(∀y ∈ x,El y)->bw (x.map (O.mul s))=bw x
 | [],_=>rfl
 | y :: x,h=>by
  rw [List.map_cons,fq,fq,l6 F hs h0 λz hz=>h z (by simp [hz])]
  simp [qe F hs h0 (h y (by simp))]
theorem ya (F : cK O El) {s : Int} (hs : El s) (h0 : s ≠ 0) : ∀ {x : Lz},(∀y ∈ x,El y)->fnz (x.map (O.mul s))=fnz x
 | [],_=>rfl
 | y :: x,h=>by
  rw [List.map_cons,fnz,fnz,ya F hs h0 λz hz=>h z (by simp [hz])]
  simp [qe F hs h0 (h y (by simp))]
theorem iT {v : Lz} (hv : Vc El m v) (h : bw v ≠ 0) : El (nth v (fnz v))/\nth v (fnz v) ≠ 0 :=
 ⟨hv.at (by rw [<- hv.1];exact mL h),jf v (mL h)⟩
theorem kG (O : aQ) (v : Lz) : dT O v=v.map (O.mul (O.inv (nth v (fnz v)))):=rfl
theorem ki (F : cK O El) {v : Lz} (hv : Vc El m v) (h : bw v ≠ 0) : bw (dT O v)=bw v:=by
 obtain ⟨h1,h2⟩:=iT hv h
 obtain ⟨h3,h4⟩:=jd F h1 h2
 rw [kG,l6 F h3 h4 hv.2]
theorem inv_mul (F : cK O El) {a b : Int} (ha : El a) (hb : El b) (h1 : a ≠ 0) (h2 : b ≠ 0) : O.mul (O.inv (O.mul a b)) a=O.inv b:=by
 have hab:=F.cl.mul a b ha hb
 have h0 : O.mul a b ≠ 0:=λe=>h2 (F.tQ ha hb h1 e)
 obtain ⟨i1,_⟩:=jd F hab h0
 obtain ⟨i2,_⟩:=jd F hb h2
 have hx:=F.cl.mul _ _ i1 ha
 have e1 : O.mul (O.mul (O.inv (O.mul a b)) a) b=1:=by
  rw [F.mul_assoc _ _ _ i1 ha hb,F.mul_comm _ _ i1 hab,F.mul_inv _ hab h0]
 rw [<- F.je hx,<- F.mul_inv b hb h2,<- F.mul_assoc _ _ _ hx hb i2,e1,F.one_mul _ i2]
theorem zw (F : cK O El) {s : Int} (hs : El s) (h0 : s ≠ 0) {v : Lz} (hv : Vc El m v) (h : bw v ≠ 0) : dT O (v.map (O.mul s))=dT O v:=by
 obtain ⟨h1,h2⟩:=iT hv h
 have hl:=mL h
 rw [kG,kG,ya F hs h0 hv.2,iK O v s hl,List.map_map]
 refine List.map_congr_left λx hx=>?_
 have hxe:=hv.2 x hx
 obtain ⟨i1,_⟩:=jd F (F.cl.mul _ _ hs h1) λe=>h2 (F.tQ hs h1 h0 e)
 show O.mul _ (O.mul s x)=_
 rw [<- F.mul_assoc _ _ _ i1 hs hxe,inv_mul F hs h1 h0 h2]
theorem AB (F : cK O El) {v : Lz} (hv : Vc El m v) (h : bw v ≠ 0) : nth (dT O v) (fnz (dT O v))=1:=by
 obtain ⟨h1,h2⟩:=iT hv h
 obtain ⟨h3,h4⟩:=jd F h1 h2
 rw [kG,ya F h3 h4 hv.2,iK O v _ (mL h),F.mul_comm _ _ h3 h1,F.mul_inv _ h1 h2]
theorem Dv (F : cK O El) {v : Lz} (hv : Vc El m v) (h : bw v ≠ 0) : dT O (dT O v)=dT O v:=by
 obtain ⟨h1,h2⟩:=iT hv h
 obtain ⟨h3,h4⟩:=jd F h1 h2
 rw [kG O v,zw F h3 h4 hv h,kG]
theorem qY (F : cK O El) {b w : Lz} (hw : Vc El m w) (h0 : bw w ≠ 0) :
  ((cN O b w=b/\bw b ≠ 0)\/cN O b w=dT O w)/\bw (cN O b w) ≠ 0/\n8 (cN O b w) (dT O w)/\(bw b ≠ 0->n8 (cN O b w) b):=by
 have hm:=ki F hw h0
 unfold cN
 by_cases h1 : bw w=0\/(bw b ≠ 0/\bw b<bw w)
 ·rw [if_pos h1]
  obtain ⟨g1,g2⟩:=h1.resolve_left h0
  exact ⟨.inl ⟨rfl,g1⟩,g1,.inl (by omega),λ_=>n8.refl b⟩
 ·rw [if_neg h1]
  by_cases h2 : bw b=0\/bw w<bw b\/cmpL (dT O w) b<0
  ·rw [if_pos h2]
   refine ⟨.inr rfl,by omega,n8.refl _,λhb=>?_⟩
   rcases h2 with h2 | h2 | h2
   ·exact absurd h2 hb
   ·exact .inl (by omega)
   ·by_cases e : bw w<bw b
    ·exact .inl (by omega)
    ·refine .inr ⟨?_,by omega⟩
     have : ¬ bw b<bw w:=λe2=>h1 (.inr ⟨hb,e2⟩)
     omega
  ·rw [if_neg h2]
   have hb : bw b ≠ 0:=λe=>h2 (.inl e)
   have e1 : ¬ bw b<bw w:=λe2=>h1 (.inr ⟨hb,e2⟩)
   have e2 : ¬ bw w<bw b:=λe=>h2 (.inr (.inl e))
   have e3 : ¬ cmpL (dT O w) b<0:=λe=>h2 (.inr (.inr e))
   refine ⟨.inl ⟨rfl,hb⟩,hb,.inr ⟨by omega,?_⟩,λ_=>n8.refl b⟩
   rw [lI];omega
theorem vB (F : cK O El) : ∀(l : Ll) (b : Lz),(∀y ∈ l,Vc El m y/\bw y ≠ 0) ->
  ((l.foldl (cN O) b=b\/∃y ∈ l,l.foldl (cN O) b=dT O y))/\(∀y ∈ l,n8 (l.foldl (cN O) b) (dT O y))/\(bw b ≠ 0->n8 (l.foldl (cN O) b) b)/\(l ≠ []\/bw b ≠ 0->bw (l.foldl (cN O) b) ≠ 0)
 | [],b,_=>⟨.inl rfl,by simp,λ_=>n8.refl b,λh=>by rcases h with h | h;exact absurd rfl h;exact h⟩
 | y :: l,b,h=>by
  obtain ⟨hy,hy0⟩:=h y (by simp)
  obtain ⟨a1,a2,a3,a4⟩:=qY F (b:=b) hy hy0
  obtain ⟨b1,b2,b3,b4⟩:=vB F l (cN O b y) λz hz=>h z (by simp [hz])
  rw [List.foldl_cons]
  refine ⟨?_,λz hz=>?_,λhb=>(b3 a2).trans (a4 hb),λ_=>b4 (.inr a2)⟩
  ·rcases b1 with e | ⟨z,hz,e⟩
   ·rcases a1 with ⟨e2,_⟩ | e2
    ·exact .inl (by rw [e,e2])
    ·exact .inr ⟨y,by simp,by rw [e,e2]⟩
   ·exact .inr ⟨z,by simp [hz],e⟩
  ·rcases List.mem_cons.1 hz with rfl | hz
   ·exact (b3 a2).trans a3
   ·exact b2 z hz
def FC (cs c0 : Lz) : Lz->Prop
 | []=>True
 | a :: c=>if a=0 then FC cs c0 c else a ∈ c0/\∀b ∈ c,b ≠ 0->b ∈ cs
theorem l8 {cs : Lz} : ∀ {c : Lz},FC cs cs c ↔ ∀b ∈ c,b ≠ 0->b ∈ cs
 | []=>by simp [FC]
 | a :: c=>by
  rw [FC]
  by_cases h : a=0
  ·rw [if_pos h,l8]
   constructor
   ·intro h1 b hb hb0
    rcases List.mem_cons.1 hb with rfl | hb
    ·exact absurd h hb0
    ·exact h1 b hb hb0
   ·intro h1 b hb hb0;exact h1 b (by simp [hb]) hb0
  ·rw [if_neg h]
   constructor
   ·rintro ⟨h1,h2⟩ b hb hb0
    rcases List.mem_cons.1 hb with rfl | hb
    ·exact h1
    ·exact h2 b hb hb0
   ·intro h1;exact ⟨h1 a (by simp) h,λb hb hb0=>h1 b (by simp [hb]) hb0⟩
theorem j8 (O : aQ) {cs c0 : Lz} (h0 : ∀a ∈ c0,a ≠ 0) (l : Nat) (hf : ∀R v y,y ∈ sumS O cs l R v ↔ ∃c : Lz,c.length=R.length/\bw c=l/\(∀b ∈ c,b ≠ 0->b ∈ cs)/\y=addAll O v c R) :
  ∀(R : Ll) (v y : Lz),y ∈ sumL O (sumS O cs l) c0 R v ↔ ∃c : Lz,c.length=R.length/\bw c=l+1/\FC cs c0 c/\y=addAll O v c R
 | [],v,y=>by
  rw [sumL]
  constructor
  ·intro h;simp at h
  ·rintro ⟨c,hc,h1,_⟩
   rw [List.eq_nil_of_length_eq_zero hc,su] at h1
   omega
 | r :: R,v,y=>by
  rw [sumL,List.mem_append,List.mem_flatMap,j8 O h0 l hf R v y]
  constructor
  ·rintro (⟨a,ha,h⟩ | ⟨c,h1,h2,h3,h4⟩)
   ·obtain ⟨c,h1,h2,h3,h4⟩:=(hf _ _ _).1 h
    have ha0:=h0 a ha
    exact ⟨a :: c,by simp [h1],by rw [fq,if_neg ha0];omega,by rw [FC,if_neg ha0];exact ⟨ha,h3⟩,h4⟩
   ·exact ⟨0 :: c,by simp [h1],by rw [fq,if_pos rfl];omega,by rw [FC,if_pos rfl];exact h3,by rw [h4,addAll,gC,if_pos rfl]⟩
  ·rintro ⟨c,h1,h2,h3,h4⟩
   match c,h1,h2,h3,h4 with
   | a :: c,h1,h2,h3,h4 =>
    rw [fq] at h2
    rw [FC] at h3
    rw [addAll] at h4
    by_cases ha : a=0
    ·rw [if_pos ha] at h2 h3
     rw [gC,if_pos ha] at h4
     exact .inr ⟨c,by simpa using h1,by omega,h3,h4⟩
    ·rw [if_neg ha] at h2 h3
     exact .inl ⟨a,h3.1,(hf _ _ _).2 ⟨c,by simpa using h1,by omega,h3.2,h4⟩⟩
theorem fY (O : aQ) : ∀(c : Lz) (R : Ll) (v : Lz),(∀y ∈ c,y=0)->addAll O v c R=v
 | [],_,_,_=>by simp [addAll]
 | _ :: _,[],_,_=>by simp [addAll]
 | a :: c,r :: R,v,h=>by
  rw [addAll,gC,if_pos (h a (by simp)),fY O c R v λy hy=>h y (by simp [hy])]
theorem mU (O : aQ) {cs : Lz} (h0 : ∀a ∈ cs,a ≠ 0) : ∀(l : Nat) (R : Ll) (v y : Lz),y ∈ sumS O cs l R v ↔ ∃c : Lz,c.length=R.length/\bw c=l/\(∀b ∈ c,b ≠ 0->b ∈ cs)/\y=addAll O v c R
 | 0,R,v,y=>by
  rw [sumS,List.mem_singleton]
  constructor
  ·rintro rfl
   refine ⟨List.replicate R.length 0,by simp,dk.2 λy hy=>(List.mem_replicate.1 hy).2,λb hb hb0=>absurd (List.mem_replicate.1 hb).2 hb0,?_⟩
   rw [fY O _ _ _ λy hy=>(List.mem_replicate.1 hy).2]
  ·rintro ⟨c,h1,h2,_,h4⟩
   rw [h4,fY O _ _ _ (dk.1 h2)]
 | l+1,R,v,y=>by
  rw [sumS,j8 O h0 l (mU O h0 l) R v y]
  constructor
  ·rintro ⟨c,h1,h2,h3,h4⟩;exact ⟨c,h1,h2,l8.1 h3,h4⟩
  ·rintro ⟨c,h1,h2,h3,h4⟩;exact ⟨c,h1,h2,l8.2 h3,h4⟩
theorem jP {cs : Lz} : ∀ {c : Lz},bw c ≠ 0->(FC cs [1] c ↔ nth c (fnz c)=1/\∀j,fnz c<j->j<c.length->nth c j ≠ 0->nth c j ∈ cs)
 | [],h=>absurd rfl h
 | a :: c,h=>by
  rw [FC,fnz]
  by_cases ha : a=0
  ·rw [fq,if_pos ha] at h
   rw [if_pos ha,if_pos ha,jP (by omega)]
   constructor
   ·rintro ⟨h1,h2⟩
    refine ⟨by simpa [nth] using h1,λj h3 h4 h5=>?_⟩
    match j,h3,h4,h5 with
    | j+1,h3,h4,h5=>simpa [nth] using h2 j (by omega) (by simpa using h4) (by simpa [nth] using h5)
   ·rintro ⟨h1,h2⟩
    refine ⟨by simpa [nth] using h1,λj h3 h4 h5=>?_⟩
    simpa [nth] using h2 (j+1) (by omega) (by simpa using h4) (by simpa [nth] using h5)
  ·rw [if_neg ha,if_neg ha]
   constructor
   ·rintro ⟨h1,h2⟩
    refine ⟨by simpa [nth] using h1,λj h3 h4 h5=>?_⟩
    match j,h3,h4,h5 with
    | j+1,h3,h4,h5 =>
     have h6 : j<c.length:=by simpa using h4
     have e : nth (a :: c) (j+1)=nth c j:=by simp [nth]
     rw [e] at h5 ⊢
     exact h2 _ (aN h6) h5
   ·rintro ⟨h1,h2⟩
    refine ⟨by simpa [nth] using h1,λb hb hb0=>?_⟩
    obtain ⟨j,hj,rfl⟩:=List.mem_iff_getElem.1 hb
    have e : nth (a :: c) (j+1)=nth c j:=by simp [nth]
    have:=h2 (j+1) (by omega) (by simpa using hj) (by rw [e,ai hj];exact hb0)
    rwa [e,ai hj] at this
end
def fW (G : de) (m : Nat) (L : Ll) (S : Lz) : Ll:=sP G.ops m L (frTo false S m)
def sF (P M : Int) (mod : Lz) (m : Nat) (L : Ll) (S : Lz) (w : World) (e : Ending) (w' : World) : Prop :=
 Below w.heap.size w w'/\((bF m S=false/\e = .returned (.tuple #[.agg #[.int .i64 0,.slice none 0 0],.int .i64 6])) \/
  (bF m S=true/\∃a1 c1,e = .returned (.tuple #[.agg #[.int .i64 m,.slice a1 (fW (aa P M.toNat mod) m L S).length c1],.int .i64 0])/\bN w.heap.size w' a1 (fW (aa P M.toNat mod) m L S).length (fW (aa P M.toNat mod) m L S)))
theorem nE {P M : Int} {mod : Lz} {m : Nat} {L : Ll} (hB : bA P M mod=true) (hR : bH (aa P M.toNat mod).El m L) (hm : m<=256) (hL : L.length<=256) : dM P M mod m L=0:=by
 unfold dM
 rw [if_pos hB]
 unfold ew
 rw [if_neg (by omega)]
 have h1 : iA m L=true:=by
  unfold iA
  rw [List.all_eq_true]
  intro r hr
  have:=(hR r hr).1
  simp;omega
 rw [if_neg (by rw [h1];decide)]
 have h2 : L.all (gD (aa P M.toNat mod).q)=true:=by
  rw [List.all_eq_true]
  intro r hr
  unfold gD
  rw [List.all_eq_true]
  intro x hx
  have:=(hR r hr).2 x hx
  have h3 : 0<=x/\x<((aa P M.toNat mod).q : Int):=this
  unfold fG
  simp;exact h3
 rw [if_pos h2]
theorem aV.JZ {w : World} {g : Nat} {x y : Value} (h : aV w g [x,y]) (u : Value) : aV (w.setCell ⟨g,0,none⟩ u) g [u,y]:=by
 have hc0:=h.cell 0 rfl
 have hc1:=h.cell 1 rfl
 refine ⟨by have:=h.1;simpa using this,λi v hv=>?_,λi=>by rw [World.frozen?_setCell];exact h.2.2 i⟩
 match i,hv with
 | 0,hv=>simp at hv;subst hv;exact World.cell?_setCell_same w _ _ hc0
 | 1,hv=>simp at hv;subst hv;rw [World.cell?_setCell_other _ _ _ _ (by simp)];exact hc1
 | i+2,hv=>simp at hv
theorem aV.Kk {w : World} {g : Nat} {x y : Value} (h : aV w g [x,y]) (u : Value) : aV (w.setCell ⟨g,1,none⟩ u) g [x,u]:=by
 have hc0:=h.cell 0 rfl
 have hc1:=h.cell 1 rfl
 refine ⟨by have:=h.1;simpa using this,λi v hv=>?_,λi=>by rw [World.frozen?_setCell];exact h.2.2 i⟩
 match i,hv with
 | 0,hv=>simp at hv;subst hv;rw [World.cell?_setCell_other _ _ _ _ (by simp)];exact hc0
 | 1,hv=>simp at hv;subst hv;exact World.cell?_setCell_same w _ _ hc1
 | i+2,hv=>simp at hv
def pO (m : Int) (D : Ll) (w : World) (e : Ending) (w' : World) : Prop :=
 ∃a c,e = .returned (.tuple #[.agg #[.int .i64 m,.slice a D.length c],.int .i64 0])/\bN w.heap.size w' a D.length D/\Below w.heap.size w w'
theorem uY (P M : Int) (am : OA) (mn cm : Nat) (mod : Lz) (m : Nat) (a : OA) (n c : Nat) (L : Ll) (as' : OA) (ns cs : Nat) (S : Lz) (w : World) (hmod : Ints w am mn mod) (hi : bZ w a n L) (hs : Ints w as' ns S)
  (hE : aL P M mod m L=0) :
  Calls Tryz.prog 84 #[.agg #[.int .i64 P,.int .i64 M,.slice am mn cm],.agg #[.int .i64 m,.slice a n c],.slice as' ns cs] w (sF P M mod m L S w):=by
 obtain ⟨N',em,hm1,hm64,F,hR⟩:=ba hE
 obtain rfl : m=N':=by omega
 obtain ⟨hB,_,_,hE4⟩:=bh hE
 have hle:=kt hE
 have hnl : L.length=n:=hi.len
 have hZl:=eQ false S m
 have hZm : ∀j,j<(frTo false S m).length->0<=nth (frTo false S m) j/\nth (frTo false S m) j<m:=λj hj=>by
  obtain ⟨i,h1,h2,_⟩:=(cJ m).1 (aN hj)
  omega
 have hPk : bH (aa P M.toNat mod).El (frTo false S m).length (L.map (aG (frTo false S m))):=fo hR hZm
 have hT:=nj (Z:=frTo false S m) F hR
 have hK : bH (aa P M.toNat mod).El L.length (iQ (aa P M.toNat mod).ops L.length ((List.range (frTo false S m).length).map (bf (L.map (aG (frTo false S m)))))):=jA F hT
 have hKl : (iQ (aa P M.toNat mod).ops L.length ((List.range (frTo false S m).length).map (bf (L.map (aG (frTo false S m)))))).length<=L.length:=by
  unfold iQ
  have h1:=cU F (lD F (fh F hT) (du F hT).1 (cU F hT))
  have h2:=(fZ (aa P M.toNat mod).ops (gd (aa P M.toNat mod).ops L.length (dD (aa P M.toNat mod).ops L.length ((List.range (frTo false S m).length).map (bf (L.map (aG (frTo false S m)))))) (aA (aa P M.toNat mod).ops ((List.range (frTo false S m).length).map (bf (L.map (aG (frTo false S m))))) L.length).2 L.length) L.length).1
  omega
 have hMr:=nP F hR hK
 have HC : Hid (∀V ao co,Below w.heap.size w V->Ints V ao (frTo false S m).length (frTo false S m)->Calls Tryz.prog 155 #[.agg #[.int .i64 P,.int .i64 M,.slice am mn cm],.agg #[.int .i64 m,.slice a n c],.slice ao (frTo false S m).length co] V (pO (frTo false S m).length (L.map (aG (frTo false S m))) V)):=λV ao co hV h1=>by
  refine (mE P M am mn cm mod m a n c L ao _ co _ V (hmod.ah hV) (hi.ah hV) h1 hE hZm (by omega)).mono ?_
  rintro e w' ⟨a1,c1,rfl,h2,h3⟩
  exact ⟨a1,c1,by rw [List.length_map,hnl],by rw [List.length_map,hnl];exact h2,h3⟩
 have HT : Hid (∀V a1 c1,Below w.heap.size w V->bZ V a1 (L.map (aG (frTo false S m))).length (L.map (aG (frTo false S m)))->Calls Tryz.prog 156 #[.agg #[.int .i64 P,.int .i64 M,.slice am mn cm],.agg #[.int .i64 ((frTo false S m).length : Nat),.slice a1 (L.map (aG (frTo false S m))).length c1]] V (pO n ((List.range (frTo false S m).length).map (bf (L.map (aG (frTo false S m))))) V)):=λV a1 c1 hV h1=>by
  refine (va P M am mn cm mod _ a1 _ c1 _ V (hmod.ah hV) h1 (nE hB hPk (by omega) (by rw [List.length_map];omega))).mono ?_
  rintro e w' ⟨a2,c2,rfl,h2,h3⟩
  exact ⟨a2,c2,by rw [List.length_map,List.length_map,List.length_range,hnl],by rw [List.length_map,List.length_range];exact h2,h3⟩
 have HK : Hid (∀V a1 c1,Below w.heap.size w V->bZ V a1 ((List.range (frTo false S m).length).map (bf (L.map (aG (frTo false S m))))).length ((List.range (frTo false S m).length).map (bf (L.map (aG (frTo false S m)))))->Calls Tryz.prog 77 #[.agg #[.int .i64 P,.int .i64 M,.slice am mn cm],.agg #[.int .i64 n,.slice a1 ((List.range (frTo false S m).length).map (bf (L.map (aG (frTo false S m))))).length c1]] V (pO n (iQ (aa P M.toNat mod).ops L.length ((List.range (frTo false S m).length).map (bf (L.map (aG (frTo false S m)))))) V)):=λV a1 c1 hV h1=>by
  rw [<- hnl]
  exact yz P M am mn cm mod L.length a1 _ c1 _ V (hmod.ah hV) h1 (nE hB hT (by omega) (by rw [List.length_map,List.length_range];omega)) (by omega)
 have HM : Hid (∀V a1 c1,Below w.heap.size w V->bZ V a1 (iQ (aa P M.toNat mod).ops L.length ((List.range (frTo false S m).length).map (bf (L.map (aG (frTo false S m)))))).length (iQ (aa P M.toNat mod).ops L.length ((List.range (frTo false S m).length).map (bf (L.map (aG (frTo false S m))))))->Calls Tryz.prog 157 #[.agg #[.int .i64 P,.int .i64 M,.slice am mn cm],.agg #[.int .i64 n,.slice a1 (iQ (aa P M.toNat mod).ops L.length ((List.range (frTo false S m).length).map (bf (L.map (aG (frTo false S m)))))).length c1],.agg #[.int .i64 m,.slice a n c]] V
   (pO m (nS (aa P M.toNat mod).ops m (iQ (aa P M.toNat mod).ops L.length ((List.range (frTo false S m).length).map (bf (L.map (aG (frTo false S m)))))) L) V)):=λV a1 c1 hV h1=>by
  refine (Ct P M am mn cm mod n a1 _ c1 _ m a c L V (hmod.ah hV) h1 (hi.ah hV) hB (by rw [<- hnl];exact hK) hR (by omega) hm1 hm64 (by omega)).mono ?_
  rintro e w' ⟨a2,c2,rfl,h2,h3⟩
  exact ⟨a2,c2,by simp [nS],by simpa [nS] using h2,h3⟩
 have HN : Hid (∀V a1 c1,Below w.heap.size w V->bZ V a1 (nS (aa P M.toNat mod).ops m (iQ (aa P M.toNat mod).ops L.length ((List.range (frTo false S m).length).map (bf (L.map (aG (frTo false S m)))))) L).length (nS (aa P M.toNat mod).ops m (iQ (aa P M.toNat mod).ops L.length ((List.range (frTo false S m).length).map (bf (L.map (aG (frTo false S m)))))) L) ->
   Calls Tryz.prog 158 #[.agg #[.int .i64 P,.int .i64 M,.slice am mn cm],.agg #[.int .i64 m,.slice a1 (nS (aa P M.toNat mod).ops m (iQ (aa P M.toNat mod).ops L.length ((List.range (frTo false S m).length).map (bf (L.map (aG (frTo false S m)))))) L).length c1]] V λe w' =>
    ∃a2 c2 ap cp,e = .returned (.tuple #[.agg #[.int .i64 m,.slice a2 (fW (aa P M.toNat mod) m L S).length c2],.slice ap (fW (aa P M.toNat mod) m L S).length cp,.int .i64 0])/\bN V.heap.size w' a2 (fW (aa P M.toNat mod) m L S).length (fW (aa P M.toNat mod) m L S)/\Below V.heap.size V w'):=λV a1 c1 hV h1=>by
  refine (kR P M am mn cm mod m a1 _ c1 _ V (hmod.ah hV) h1).mono ?_
  have hf:=nE hB hMr (by omega) (by simp [nS];omega)
  rintro e w' ⟨hb1,⟨h0,_⟩ | ⟨_,m',hm',a2,c2,ap,cp,rfl,hN1,_⟩⟩
  ·exact absurd hf h0
  ·obtain rfl : m=m':=by omega
   rw [<- iS] at hN1 ⊢
   exact ⟨a2,c2,ap,cp,rfl,hN1,hb1⟩
 have HPost : Hid (∀a1 c1 w',bF m S=true->bN w.heap.size w' a1 (fW (aa P M.toNat mod) m L S).length (fW (aa P M.toNat mod) m L S)->Below w.heap.size w w'->sF P M mod m L S w (.returned (.tuple #[.agg #[.int .i64 m,.slice a1 (fW (aa P M.toNat mod) m L S).length c1],.int .i64 0])) w'):=λa1 c1 w' h0 h1 h2=>⟨h2,.inr ⟨h0,a1,c1,rfl,h1⟩⟩
 have HErr : Hid (∀w',bF m S=false->Below w.heap.size w w'->sF P M mod m L S w (.returned (.tuple #[.agg #[.int .i64 0,.slice none 0 0],.int .i64 6])) w'):=λw' h0 h2=>⟨h2,.inl ⟨h0,rfl⟩⟩
 unfold pO at HC HT HK HM
 obtain ⟨D5,hD5⟩ : ∃D,fW (aa P M.toNat mod) m L S=D:=⟨_,rfl⟩
 rw [hD5] at HN HPost
 obtain ⟨D4,hD4⟩ : ∃D,nS (aa P M.toNat mod).ops m (iQ (aa P M.toNat mod).ops L.length ((List.range (frTo false S m).length).map (bf (L.map (aG (frTo false S m)))))) L=D:=⟨_,rfl⟩
 rw [hD4] at HM HN
 obtain ⟨D3,hD3⟩ : ∃D,iQ (aa P M.toNat mod).ops L.length ((List.range (frTo false S m).length).map (bf (L.map (aG (frTo false S m)))))=D:=⟨_,rfl⟩
 rw [hD3] at HK HM
 obtain ⟨D2,hD2⟩ : ∃D,(List.range (frTo false S m).length).map (bf (L.map (aG (frTo false S m))))=D:=⟨_,rfl⟩
 rw [hD2] at HT HK
 obtain ⟨D1,hD1⟩ : ∃D,L.map (aG (frTo false S m))=D:=⟨_,rfl⟩
 rw [hD1] at HC HT
 have HG1 : Hid (∀k : Nat,decide ((k : Int) ∈ S)=false->frTo false S (k+1)=frTo false S k ++ [(k : Int)]):=λk h=>by rw [frTo,if_pos h]
 have HG2 : Hid (∀k : Nat,decide ((k : Int) ∈ S)=true->frTo false S (k+1)=frTo false S k):=λk h=>by rw [frTo,if_neg (by rw [h];decide)]
 have HGl : Hid (∀k,(frTo false S k).length<=k):=λk=>eQ _ _ _
 obtain ⟨Z,hZ⟩ : ∃Z,frTo false S=Z:=⟨_,rfl⟩
 rw [hZ] at HC HT HG1 HG2 HGl
 have HZ0 : Hid (Z 0=[]):=by rw [<- hZ];rfl
 clear hD1 hD2 hD3 hD4 hD5 hZ hMr hKl hK hT hPk hZm hZl hB F hR hE
 have Hsl:=Z5 hs.len
 have hpls:=hs.pl
 have hmaxs:=hs.max
 unfold maxLen at hmaxs
 go_enter Tryz.func84,Tryz.ntmps84
 go_wp2_with fail
 obtain ⟨W,hW⟩ : ∃W : World,W=((w.alloc (.cells #[.int .i64 P,.int .i64 M,.slice am mn cm] 24)).alloc (.cells #[.int .i64 m,.slice a n c] 82)).alloc (.cells #[.int .i64 0,.slice none 0 0] 82):=⟨_,rfl⟩
 rw [<- hW]
 have hbW : Below w.heap.size w W:=by rw [hW];exact kO _ _ _ _
 have hsW : W.heap.size=w.heap.size+3:=by rw [hW];simp
 have x0 : aV W w.heap.size [.int .i64 P,.int .i64 M,.slice am mn cm]:=by rw [hW];exact ((aV.new _ _ _ rfl).alloc _).alloc _
 have y0 : aV W (w.heap.size+1) [.int .i64 m,.slice a n c]:=by rw [hW];exact (aV.new _ _ _ (by simp)).alloc _
 have z0 : aV W (w.heap.size+1+1) [.int .i64 0,.slice none 0 0]:=by rw [hW];exact aV.new _ _ _ (by simp)
 have HS : Hid (∀V,Below W.heap.size W V->V.cell? ⟨w.heap.size,0,none⟩=some (.int .i64 P)/\V.cell? ⟨w.heap.size,1,none⟩=some (.int .i64 M)/\V.cell? ⟨w.heap.size,2,none⟩=some (.slice am mn cm)/\V.cell? ⟨w.heap.size+1,0,none⟩=some (.int .i64 m)/\V.cell? ⟨w.heap.size+1,1,none⟩=some (.slice a n c) /\
   V.cell? ⟨w.heap.size+1+1,0,none⟩=some (.int .i64 0)/\V.cell? ⟨w.heap.size+1+1,1,none⟩=some (.slice none 0 0)/\V.frozen? ⟨w.heap.size+1+1,0,none⟩=false/\V.frozen? ⟨w.heap.size+1+1,1,none⟩=false):=λV hV=>by
  have x1:=x0.ah hV
  have y1:=y0.ah hV
  have z1:=z0.ah hV
  exact ⟨x1.cell 0 rfl,x1.cell 1 rfl,x1.cell 2 rfl,y1.cell 0 rfl,y1.cell 1 rfl,z1.cell 0 rfl,z1.cell 1 rfl,z1.frozen 0,z1.frozen 1⟩
 have HbW:=Z5 hbW
 have HsW:=Z5 hsW
 have HEr2 : Hid (∀V,bF m S=false->Below W.heap.size W V->sF P M mod m L S w (.returned (.tuple #[.agg #[.int .i64 0,.slice none 0 0],.int .i64 6])) ((V.setCell ⟨w.heap.size+1+1,0,none⟩ (.int .i64 0)).setCell ⟨w.heap.size+1+1,1,none⟩ (.slice none 0 0))):=λV h0 hV=>HErr.out _ h0 (((Below.next hbW hV).setCell (p:=⟨w.heap.size+1+1,0,none⟩) (by simp;omega) _).setCell (p:=⟨w.heap.size+1+1,1,none⟩) (by simp;omega) _)
 clear hW x0 y0 z0
 refine (kM P M am mn cm mod m a n c L W (hmod.ah hbW) (hi.ah hbW)).mono ?_
 rintro e w1 ⟨hb1,⟨h0,_⟩ | ⟨_,m',b,em',ap,cp,rfl,_,_,_⟩⟩
 ·exact absurd hE4 h0
 obtain rfl : m=m':=by omega
 generalize (ek (aa P M.toNat mod) L m).length=k9 at *
 have HEs:=Z5 hE4
 clear hE4
 go_upto_region 4 with fail
 obtain ⟨X,hX⟩ : ∃X,w1.alloc (.cells #[.pointer (some ⟨b,0,none⟩),.int .i64 m,.slice a n c,.slice ap k9 cp] 162)=X:=⟨_,rfl⟩
 rw [hX]
 have hbX : Below W.heap.size W X:=by rw [<- hX];exact Below.next hb1 (an _ _)
 clear hX hb1
 obtain ⟨q0,q1,q2,q3,q4,z3,z4,f3,f4⟩:=HS.out X hbX
 go_wp2_with fail
 go_loop [32] (λiv=>∃j : Nat,j<=ns/\iv = .int .i64 j/\Hid (mg m S j=true)) (λiv=>ns - (intOf iv).toNat)
 case atStart=>exact ⟨0,Nat.zero_le _,rfl,by show _=_;simp [mg]⟩
 case round =>
  obtain ⟨j,hj,rfl,hok⟩:=hrel
  have hsX:=(hs.ah hbW).ah hbX
  by_cases hlt2 : j<ns
  ·have cj:=hsX.cell j hlt2
   have Hbad : Hid (dS m S j=false->bF m S=false):=λhb=>o7 (by rw [Hsl.out];exact hlt2) hb
   by_cases h0 : 0<=nth S j
   ·by_cases h1 : nth S j<m
    ·have d1 : decide (nth S j<0)=false:=by simp;omega
     have d2 : decide ((m : Int)<=nth S j)=false:=by simp;omega
     by_cases hj0 : j=0
     ·subst hj0
      have Hgood : Hid (dS m S 0=true):=by show _=_;unfold dS;simp [h0,h1]
      rw [Nat.add_zero] at cj
      go_wp2_with fail
      go_round
      case rel=>exact ⟨1,by omega,by go_num,eE hok.out Hgood.out⟩
      case measure=>simp [intOf] <;> omega
     ·have cp':=hsX.cell (j - 1) (by omega)
      have e1 : ((j : Int) - 1).toNat=j - 1:=by omega
      have d3 : decide (0<(j : Int))=true:=by simp;omega
      have d4 : (0 : Int)<=(j : Int) - 1:=by omega
      have d5 : (1 : Int)<=(j : Int):=by omega
      have d6 : (j : Int) - 1<ns:=by omega
      by_cases h2 : nth S (j - 1)<nth S j
      ·have Hgood : Hid (dS m S j=true):=by show _=_;unfold dS;simp [h0,h1,h2]
       have h2' : decide (nth S j<=nth S (j - 1))=false:=by simp;omega
       clear hj0 e1
       go_wp2_with fail
       go_round
       case rel=>exact ⟨j+1,by omega,by go_num,eE hok.out Hgood.out⟩
       case measure=>simp [intOf] <;> omega
      ·have Hb : Hid (bF m S=false):=Hbad.out (by unfold dS;simp [h2,hj0])
       have h2' : decide (nth S j<=nth S (j - 1))=true:=by simp;omega
       clear hj0 e1
       have HR:=Z5 (HEr2.out X Hb.out hbX)
       go_wp2_with fail
       exact bodyPost_ret (v:=.tuple #[.agg #[.int .i64 0,.slice none 0 0],.int .i64 6]) (by simp [results,Tryz.results84,go_sem,z3,z4]) rfl HR.out
    ·have Hb : Hid (bF m S=false):=Hbad.out (by unfold dS;simp [h1])
     have d1 : decide (nth S j<0)=false:=by simp;omega
     have d2 : decide ((m : Int)<=nth S j)=true:=by simp;omega
     have HR:=Z5 (HEr2.out X Hb.out hbX)
     go_wp2_with fail
     exact bodyPost_ret (v:=.tuple #[.agg #[.int .i64 0,.slice none 0 0],.int .i64 6]) (by simp [results,Tryz.results84,go_sem,z3,z4]) rfl HR.out
   ·have Hb : Hid (bF m S=false):=Hbad.out (by unfold dS;simp [h0])
    have d1 : decide (nth S j<0)=true:=by simp;omega
    have HR:=Z5 (HEr2.out X Hb.out hbX)
    go_wp2_with fail
    exact bodyPost_ret (v:=.tuple #[.agg #[.int .i64 0,.slice none 0 0],.int .i64 6]) (by simp [results,Tryz.results84,go_sem,z3,z4]) rfl HR.out
  ·obtain rfl : j=ns:=by omega
   have Hg : Hid (bF m S=true):=by show _=_;rw [bF,Hsl.out];exact hok.out
   have HP2 : Hid (∀a1 c1 w',bN w.heap.size w' a1 D5.length D5->Below w.heap.size w w'->sF P M mod m L S w (.returned (.tuple #[.agg #[.int .i64 m,.slice a1 D5.length c1],.int .i64 0])) w'):=λa1 c1 w' h1 h2=>HPost.out a1 c1 w' Hg.out h1 h2
   clear HPost HErr HEr2 z3 z4 f3 f4
   go_wp2_with fail
   go_loopw [12,62] (λov iv wr=>∃(k g : Nat) (a1 : OA) (c1 : Nat),k<=m/\iv = .int .i64 k/\Hid ((Z k).length=g)/\ov = .slice a1 g c1/\wr.ownsRow X.heap.size 3 1 (.slice a1 g c1) g ((Z k).map (Value.int .i64))/\Below X.heap.size X wr) (λ_ iv _=>m - (intOf iv).toNat)
   case atStart=>exact ⟨0,0,none,0,Nat.zero_le _,rfl,by show _=_;rw [HZ0.out];rfl,rfl,by rw [HZ0.out];exact bY,Below.refl _ _⟩
   case round =>
    obtain ⟨k,g,a1,c1,hk,rfl,Hg2,rfl,hown,hbr⟩:=hrel
    by_cases hlt : k<m
    ·have hgk : g<=64:=by have h:=HGl.out k;rw [Hg2.out] at h;omega
     have hcont:=cB as' j cs S k wr (hsX.ah hbr)
     have hG1:=HG1.out k
     have hG2:=HG2.out k
     obtain ⟨b2,hb2⟩ : ∃b2,decide ((k : Int) ∈ S)=b2:=⟨_,rfl⟩
     rw [hb2] at hcont hG1 hG2
     have Hcont:=Z5 hcont
     clear hb2 hcont
     cases b2
     ·have Hn:=Z5 (hG1 rfl)
      clear hG1 hG2
      have hsz:=hbr.size
      have hcn:=br wr (.int .i64 k) 3
      have hbn:=an wr (.cells #[.int .i64 k] 3)
      go_wp2_with (first | (go_at_call 68;refine Hcont.out.mono ?_;rintro e w3 ⟨rfl,rfl⟩) | (at_builtin;refine bk rfl _ _ 22 3 rfl (.int .i64 0) 8 Tryz.underlying22 aX rfl X.heap.size a1 g c1 _ rfl (hown.alloc _) ⟨w3.heap.size,0,none⟩ 1 (.int .i64 k) rfl hcn rfl (by omega) (by unfold maxLen;omega) (by simp;omega) ?_;intro a5 c5 w5 hown5 hgr5 hap5))
      go_roundw
      case rel =>
       refine ⟨k+1,g+1,a5,c5,by omega,by go_num,by show _=_;rw [Hn.out,List.length_append,Hg2.out];rfl,rfl,by rw [Hn.out];simpa using hown5,Below.app (Below.bQ hbr _) (hown.alloc _) hgr5 (Nat.le_refl _) (Below.bQ hbr _).size⟩
      case measure=>simp [intOf] <;> omega
     ·have Hn:=Z5 (hG2 rfl)
      clear hG1 hG2
      go_wp2_with (go_at_call 68;refine Hcont.out.mono ?_;rintro e w3 ⟨rfl,rfl⟩)
      go_roundw
      case rel=>exact ⟨k+1,g,a1,c1,by omega,by go_num,by show _=_;rw [Hn.out];exact Hg2.out,rfl,by rw [Hn.out];exact hown,hbr⟩
      case measure=>simp [intOf] <;> omega
    ·obtain rfl : k=m:=by omega
     have HCx:=HC.out wr a1 c1 (Below.next hbW (Below.next hbX hbr)) (by rw [Hg2.out];exact (Ints.own hown).1)
     rw [Hg2.out] at HCx
     have HCX:=Z5 HCx
     rw [Hg2.out] at HT
     have hbXr:=Below.next hbX hbr
     have HbXr:=Z5 hbXr
     obtain ⟨q0,q1,q2,q3,q4,z3,z4,f3,f4⟩:=HS.out wr hbXr
     generalize wr=Y at *
     obtain ⟨d1,hd1⟩ : ∃d,D1.length=d:=⟨_,rfl⟩
     obtain ⟨d2,hd2⟩ : ∃d,D2.length=d:=⟨_,rfl⟩
     obtain ⟨d3,hd3⟩ : ∃d,D3.length=d:=⟨_,rfl⟩
     obtain ⟨d4,hd4⟩ : ∃d,D4.length=d:=⟨_,rfl⟩
     obtain ⟨d5,hd5⟩ : ∃d,D5.length=d:=⟨_,rfl⟩
     rw [hd1] at HCX HT
     rw [hd2] at HT HK
     rw [hd3] at HK HM
     rw [hd4] at HM HN
     rw [hd5] at HN HP2
     have HYw : Hid (Below w.heap.size w Y):=Below.next hbW hbXr
     have HYn : Hid (∀V,Below Y.heap.size Y V->V.cell? ⟨w.heap.size,0,none⟩=some (.int .i64 P)/\V.cell? ⟨w.heap.size,1,none⟩=some (.int .i64 M)/\V.cell? ⟨w.heap.size,2,none⟩=some (.slice am mn cm)/\V.cell? ⟨w.heap.size+1,0,none⟩=some (.int .i64 k)/\V.cell? ⟨w.heap.size+1,1,none⟩=some (.slice a n c) /\
       V.cell? ⟨w.heap.size+1+1,0,none⟩=some (.int .i64 0)/\V.cell? ⟨w.heap.size+1+1,1,none⟩=some (.slice none 0 0)/\V.frozen? ⟨w.heap.size+1+1,0,none⟩=false/\V.frozen? ⟨w.heap.size+1+1,1,none⟩=false):=λV hV=>HS.out V (Below.next hbXr hV)
     have hsY:=hbXr.size
     clear hown hbr hbXr hd1 hd2 hd3 hd4 hd5 HCx hsX q3 q4 z3 z4 f3 f4 q0 q1 q2 HS hbW HbW hbX
     go_upto_region 17 with fail
     go_cut [14,15] (λv14 v15 wx=>∃(q : Nat) (a5 : OA) (c5 : Nat),v14 = .pointer (some ⟨q,0,none⟩)/\v15 = .int .i64 0/\aV wx q [.int .i64 g,.slice a5 d1 c5]/\bN Y.heap.size wx a5 d1 D1/\Y.heap.size<=q/\Below Y.heap.size Y wx)
     case first =>
      obtain ⟨q0,q1,q2,q3,q4,_⟩:=HYn.out Y (Below.refl _ _)
      go_wp2_with fail
      refine HCX.out.mono ?_
      rintro e w3 ⟨a5,c5,rfl,hN5,hb5⟩
      clear q0 q1 q2 q3 q4
      go_wp2_with fail
      go_meet
      exact ⟨_,a5,c5,rfl,rfl,aV.new _ _ _ rfl,hN5.ah (an _ _),hb5.size,Below.next hb5 (an _ _)⟩
     obtain ⟨q,a5,c5,rfl,rfl,hBq,hN5,hq,hb5⟩:=hcut
     generalize wc=V1 at *
     have HT1:=Z5 (HT.out V1 a5 c5 (Below.next HYw.out hb5) hN5.kK)
     clear hN5 HT HC HCX
     go_upto_region 20 with fail
     go_cut [14,15] (λv14 v15 wx=>∃(a5 : OA) (c5 : Nat),v14 = .pointer (some ⟨q,0,none⟩)/\aV wx q [.int .i64 n,.slice a5 d2 c5]/\bN V1.heap.size wx a5 d2 D2/\Below Y.heap.size Y wx)
     case first =>
      obtain ⟨q0,q1,q2,q3,q4,_⟩:=HYn.out V1 hb5
      have g0:=hBq.cell 0 rfl
      have g1:=hBq.cell 1 rfl
      go_wp2_with fail
      refine HT1.out.mono ?_
      rintro e w3 ⟨a6,c6,rfl,hN6,hb6⟩
      clear q0 q1 q2 q3 q4 g0 g1
      have hBq3:=hBq.ah hb6
      have g0:=hBq3.cell 0 rfl
      have g1:=hBq3.cell 1 rfl
      have g2:=hBq3.frozen 0
      have g3:=hBq3.frozen 1
      obtain ⟨q0,q1,q2,q3,q4,_⟩:=HYn.out w3 (Below.next hb5 hb6)
      have HF : Hid (aV ((w3.setCell ⟨q,0,none⟩ (.int .i64 n)).setCell ⟨q,1,none⟩ (.slice a6 d2 c6)) q [.int .i64 n,.slice a6 d2 c6]/\bN V1.heap.size ((w3.setCell ⟨q,0,none⟩ (.int .i64 n)).setCell ⟨q,1,none⟩ (.slice a6 d2 c6)) a6 d2 D2/\Below Y.heap.size Y ((w3.setCell ⟨q,0,none⟩ (.int .i64 n)).setCell ⟨q,1,none⟩ (.slice a6 d2 c6))):=by
       have hqV : q<V1.heap.size:=hBq.1
       refine ⟨(hBq3.JZ _).Kk _,?_,((Below.next hb5 hb6).setCell (p:=⟨q,0,none⟩) hq _).setCell (p:=⟨q,1,none⟩) hq _⟩
       exact (hN6.setCell (p:=⟨q,0,none⟩) hqV _).setCell (p:=⟨q,1,none⟩) hqV _
      go_wp2_with fail
      go_meet
      first | exact ⟨a6,c6,rfl,HF.out.1,HF.out.2.1,HF.out.2.2⟩ | exact ⟨a6,c6,rfl,by simpa using HF.out.1,by simpa using HF.out.2.1,by simpa using HF.out.2.2⟩
     have hqV : q<V1.heap.size:=hBq.1
     obtain ⟨a6,c6,rfl,hBq2,hN6,hb6⟩:=hcut
     generalize wc=V2 at *
     have g0:=hBq2.cell 0 rfl
     have g2:=hBq2.frozen 0
     obtain ⟨q0,q1,q2,q3,q4,_⟩:=HYn.out V2 hb6
     have hB3:=hBq2.JZ (.int .i64 n)
     have hN3:=(hN6.setCell (p:=⟨q,0,none⟩) hqV (.int .i64 n)).mono hb5.size
     have hb3:=hb6.setCell (p:=⟨q,0,none⟩) hq (.int .i64 n)
     clear hBq hb5 HT1 hN6
     go_upto_region 22 with fail
     clear q0 q1 q2 q3 q4 g0 g2 hBq2 hb6
     obtain ⟨V3,hV3⟩ : ∃V3,V2.setCell ⟨q,0,none⟩ (.int .i64 n)=V3:=⟨_,rfl⟩
     rw [hV3] at hB3 hN3 hb3 ⊢
     clear hV3
     have HK1:=Z5 (HK.out V3 a6 c6 (Below.next HYw.out hb3) hN3.kK)
     clear hN3 HK
     go_cut [16,15] (λv16 v15 wx=>∃(q : Nat) (a5 : OA) (c5 : Nat),v16 = .pointer (some ⟨q,0,none⟩)/\v15 = .int .i64 0/\aV wx q [.int .i64 n,.slice a5 d3 c5]/\bN Y.heap.size wx a5 d3 D3/\Y.heap.size<=q/\Below Y.heap.size Y wx)
     case first =>
      obtain ⟨q0,q1,q2,q3,q4,_⟩:=HYn.out V3 hb3
      have g0:=hB3.cell 0 rfl
      have g1:=hB3.cell 1 rfl
      go_wp2_with fail
      refine HK1.out.mono ?_
      rintro e w3 ⟨a5,c5,rfl,hN5,hb5⟩
      clear q0 q1 q2 q3 q4 g0 g1
      go_wp2_with fail
      go_meet
      have hs3:=hb3.size
      exact ⟨_,a5,c5,rfl,rfl,aV.new _ _ _ rfl,(hN5.ah (an _ _)).mono hs3,Nat.le_trans hs3 hb5.size,Below.next (Below.next hb3 hb5) (an _ _)⟩
     clear hB3 hb3 HK1
     obtain ⟨qk,ak,ck,rfl,rfl,hBk,hNk,hqk,hbk⟩:=hcut
     generalize wc=V4 at *
     have HM1:=Z5 (HM.out V4 ak ck (Below.next HYw.out hbk) hNk.kK)
     clear hNk HM
     go_upto_region 25 with fail
     go_cut [17,15] (λv17 v15 wx=>∃(q : Nat) (a5 : OA) (c5 : Nat),v17 = .pointer (some ⟨q,0,none⟩)/\v15 = .int .i64 0/\aV wx q [.int .i64 k,.slice a5 d4 c5]/\bN Y.heap.size wx a5 d4 D4/\Y.heap.size<=q/\Below Y.heap.size Y wx)
     case first =>
      obtain ⟨q0,q1,q2,q3,q4,_⟩:=HYn.out V4 hbk
      have g0:=hBk.cell 0 rfl
      have g1:=hBk.cell 1 rfl
      go_wp2_with fail
      refine HM1.out.mono ?_
      rintro e w3 ⟨a5,c5,rfl,hN5,hb5⟩
      clear q0 q1 q2 q3 q4 g0 g1
      go_wp2_with fail
      go_meet
      have hs3:=hbk.size
      exact ⟨_,a5,c5,rfl,rfl,aV.new _ _ _ rfl,(hN5.ah (an _ _)).mono hs3,Nat.le_trans hs3 hb5.size,Below.next (Below.next hbk hb5) (an _ _)⟩
     clear hBk hbk HM1
     obtain ⟨qm,am',cm',rfl,rfl,hBm,hNm,hqm,hbm⟩:=hcut
     generalize wc=V5 at *
     have HN1:=Z5 (HN.out V5 am' cm' (Below.next HYw.out hbm) hNm.kK)
     clear hNm HN
     go_upto_region 28 with fail
     go_cut [18,15] (λv18 v15 wx=>∃(q : Nat) (a5 : OA) (c5 : Nat),v18 = .pointer (some ⟨q,0,none⟩)/\v15 = .int .i64 0/\aV wx q [.int .i64 k,.slice a5 d5 c5]/\bN Y.heap.size wx a5 d5 D5/\Y.heap.size<=q/\Below Y.heap.size Y wx)
     case first =>
      obtain ⟨q0,q1,q2,q3,q4,_⟩:=HYn.out V5 hbm
      have g0:=hBm.cell 0 rfl
      have g1:=hBm.cell 1 rfl
      go_wp2_with fail
      refine HN1.out.mono ?_
      rintro e w3 ⟨a5,c5,apx,cpx,rfl,hN5,hb5⟩
      clear q0 q1 q2 q3 q4 g0 g1
      go_wp2_with fail
      go_meet
      have hs3:=hbm.size
      exact ⟨_,a5,c5,rfl,rfl,aV.new _ _ _ rfl,(hN5.ah (an _ _)).mono hs3,Nat.le_trans hs3 hb5.size,Below.next (Below.next hbm hb5) (an _ _)⟩
     clear hBm hbm HN1
     obtain ⟨qc,ac,cc,rfl,rfl,hBc,hNc,hqc,hbc⟩:=hcut
     generalize wc=V6 at *
     have g0:=hBc.cell 0 rfl
     have g1:=hBc.cell 1 rfl
     obtain ⟨q0,q1,q2,q3,q4,z3,z4,f3,f4⟩:=HYn.out V6 hbc
     have hs6:=HsW.out
     have hsY2 : w.heap.size+3<=Y.heap.size:=by omega
     have HF:=Z5 (HP2.out ac cc ((V6.setCell ⟨w.heap.size+1+1,0,none⟩ (.int .i64 k)).setCell ⟨w.heap.size+1+1,1,none⟩ (.slice ac d5 cc))
      (((hNc.setCell (p:=⟨w.heap.size+1+1,0,none⟩) (by simp;omega) _).setCell (p:=⟨w.heap.size+1+1,1,none⟩) (by simp;omega) _).mono (by omega))
      (((Below.next HYw.out hbc).setCell (p:=⟨w.heap.size+1+1,0,none⟩) (by simp;omega) _).setCell (p:=⟨w.heap.size+1+1,1,none⟩) (by simp;omega) _))
     clear hNc hBc q0 q1 q2 q3 q4
     go_wp2_with fail
     exact bodyPost_ret (v:=.tuple #[.agg #[.int .i64 k,.slice ac d5 cc],.int .i64 0]) (by simp [results,Tryz.results84,go_sem,z3,z4]) rfl HF.out
theorem lq {P M : Int} {mod : Lz} {m : Nat} {L : Ll} (hE : aL P M mod m L=0) {Q : Lz} (hQ : qp m Q) (hl : Q.length=L.length) (hg : (i7 (aa P M.toNat mod).ops L Q).length=Q.length)
  {v : Lz} (hvl : v.length=L.length) (hv : ∀k,k<L.length->(aa P M.toNat mod).El (nth v k)) :
  Vc (aa P M.toNat mod).El m (bj (aa P M.toNat mod).ops m v (cQ (aa P M.toNat mod).ops m L Q) L.length) /\
  (∀i,i<m->nth (redTo (aa P M.toNat mod).ops L (ek (aa P M.toNat mod) L m) (bj (aa P M.toNat mod).ops m v (cQ (aa P M.toNat mod).ops m L Q) L.length) L.length) i=0) /\
  aG Q (bj (aa P M.toNat mod).ops m v (cQ (aa P M.toNat mod).ops m L Q) L.length)=v:=by
 obtain ⟨N',e,hm1,hm64,F,hR⟩:=ba hE
 obtain rfl : m=N':=by omega
 have h6:=(dY (bh hE).2.2.2).2
 rw [Int.toNat_natCast] at h6
 have hcan : dD (aa P M.toNat mod).ops m L=L:=h6
 obtain ⟨hPv,_⟩:=du F hR
 have hcl:=cU F hR
 rw [hcan] at hPv hcl
 have hform:=λi hi=>tK F hR hQ hl hg i hi
 obtain ⟨hSr,hSl,hSu,_⟩:=jz hE hQ hl hg
 obtain ⟨c1,c2⟩:=dO F hSr (x:=v) (λk hk=>hv k (by omega)) L.length (by omega)
 have hSL : iD (aa P M.toNat mod).ops (aa P M.toNat mod).El m (cQ (aa P M.toNat mod).ops m L Q) L:=λi hi=>by
  obtain ⟨e,he,hy,_⟩:=hform i (by omega)
  exact ⟨e,he,hy⟩
 refine ⟨c1,tC F hR hPv hcl c1 (hSL.rs c2),?_⟩
 refine et (by rw [hvl,<- hl];simp [aG]) λj hj=>?_
 have hj2 : j<Q.length:=by simpa [aG] using hj
 have hqj:=hQ j hj2
 rw [dx Q _ hj2,eS F hSr (λk hk=>hv k (by omega)) (by omega) _ (by omega)]
 have hone : ∀t,t<L.length->nth (aj (cQ (aa P M.toNat mod).ops m L Q) t) (nth Q j).toNat=if t=j then 1 else 0:=λt ht=>by
  obtain ⟨e',_,hy',hj'⟩:=hform t ht
  rw [hy' _ (by omega),hj' j hj2]
 have hvj:=hv j (by omega)
 rw [jO F (x:=j) (by
  show (aa P M.toNat mod).El ((aa P M.toNat mod).ops.mul (nth v j) (nth (aj (cQ (aa P M.toNat mod).ops m L Q) j) (nth Q j).toNat))
  rw [hone j (by omega),if_pos rfl,F.je hvj];exact hvj) L.length (λp hp hpj=>by
  show (aa P M.toNat mod).ops.mul (nth v p) (nth (aj (cQ (aa P M.toNat mod).ops m L Q) p) (nth Q j).toNat)=0
  rw [hone p hp,if_neg hpj,F.dA (hv p hp)]),if_pos (by omega)]
 show (aa P M.toNat mod).ops.mul (nth v j) (nth (aj (cQ (aa P M.toNat mod).ops m L Q) j) (nth Q j).toNat)=_
 rw [hone j (by omega),if_pos rfl,F.je hvj]
theorem rM (ra : OA) (rn rc : Nat) (S : Lz) (m : Nat) (w : World) (hS : Ints w ra rn S) (hm : m<=64) :
  Calls Tryz.prog 85 #[.slice ra rn rc,.int .i64 m] w (cC w (frTo false S m)):=by
 have HG1 : Hid (∀k : Nat,decide ((k : Int) ∈ S)=false->frTo false S (k+1)=frTo false S k ++ [(k : Int)]):=λk h=>by rw [frTo,if_pos h]
 have HG2 : Hid (∀k : Nat,decide ((k : Int) ∈ S)=true->frTo false S (k+1)=frTo false S k):=λk h=>by rw [frTo,if_neg (by rw [h];decide)]
 have HGl : Hid (∀k,(frTo false S k).length<=k):=λk=>eQ _ _ _
 have HS:=Z5 hS
 obtain ⟨Z,hZ⟩ : ∃Z,frTo false S=Z:=⟨_,rfl⟩
 rw [hZ] at HG1 HG2 HGl
 have HZ0 : Hid (Z 0=[]):=by rw [<- hZ];rfl
 rw [hZ]
 clear hZ hS
 go_enter Tryz.func85,Tryz.ntmps85
 go_wp2_with fail
 go_loopw [5,8] (λov iv wr=>∃(k g : Nat) (a1 : OA) (c1 : Nat),k<=m/\iv = .int .i64 k/\Hid ((Z k).length=g)/\ov = .slice a1 g c1/\wr.ownsRow w.heap.size 3 1 (.slice a1 g c1) g ((Z k).map (Value.int .i64))/\Below w.heap.size w wr) (λ_ iv _=>m - (intOf iv).toNat)
 case atStart=>exact ⟨0,0,none,0,Nat.zero_le _,rfl,by show _=_;rw [HZ0.out];rfl,rfl,by rw [HZ0.out];exact bY,Below.refl _ _⟩
 case round =>
  obtain ⟨j,g,a2,c2,hj,rfl,Hg2,rfl,hown,hbz⟩:=hrel
  by_cases hltj : j<m
  ·have hgk : g<=64:=by have h:=HGl.out j;rw [Hg2.out] at h;omega
   have hcont:=cB ra rn rc S j wr (HS.out.ah hbz)
   have hG1:=HG1.out j
   have hG2:=HG2.out j
   obtain ⟨b2,hb2⟩ : ∃b2,decide ((j : Int) ∈ S)=b2:=⟨_,rfl⟩
   rw [hb2] at hcont hG1 hG2
   have Hcont:=Z5 hcont
   clear hb2 hcont
   cases b2
   ·have Hn:=Z5 (hG1 rfl)
    clear hG1 hG2
    have hsz:=hbz.size
    have hcn:=br wr (.int .i64 j) 3
    go_wp2_with (first | (go_at_call 68;refine Hcont.out.mono ?_;rintro e w3 ⟨rfl,rfl⟩) | (at_builtin;refine bk rfl _ _ 22 3 rfl (.int .i64 0) 8 Tryz.underlying22 aX rfl w.heap.size a2 g c2 _ rfl (hown.alloc _) ⟨w3.heap.size,0,none⟩ 1 (.int .i64 j) rfl hcn rfl (by omega) (by unfold maxLen;omega) (by simp;omega) ?_;intro a5 c5 w5 hown5 hgr5 hap5))
    go_roundw
    case rel =>
     refine ⟨j+1,g+1,a5,c5,by omega,by go_num,by show _=_;rw [Hn.out,List.length_append,Hg2.out];rfl,rfl,by rw [Hn.out];simpa using hown5,Below.app (Below.bQ hbz _) (hown.alloc _) hgr5 (Nat.le_refl _) (Below.bQ hbz _).size⟩
    case measure=>simp [intOf] <;> omega
   ·have Hn:=Z5 (hG2 rfl)
    clear hG1 hG2
    go_wp2_with (go_at_call 68;refine Hcont.out.mono ?_;rintro e w3 ⟨rfl,rfl⟩)
    go_roundw
    case rel=>exact ⟨j+1,g,a2,c2,by omega,by go_num,by show _=_;rw [Hn.out];exact Hg2.out,rfl,by rw [Hn.out];exact hown,hbz⟩
    case measure=>simp [intOf] <;> omega
  ·obtain rfl : j=m:=by omega
   have HR : Hid (∀e,e=Ending.returned (.slice a2 g c2)->cC w (Z j) e wr):=λe he=>⟨a2,c2,by rw [Hg2.out];exact he,by rw [Hg2.out];exact hown,hbz⟩
   clear hown
   go_wp2_with fail
   go_ret
   exact HR.out _ rfl
theorem uo (P M : Int) (am : OA) (mn cm : Nat) (mod : Lz) (m : Nat) (a : OA) (n c : Nat) (L : Ll) (ra : OA) (rn rc : Nat) (S : Lz) (w : World) (hmod : Ints w am mn mod) (hi : bZ w a n L) (hS : Ints w ra rn S)
  (hE : aL P M mod m L=0) (hok : bF m S=true) (hlt : rn<m) :
  Calls Tryz.prog 81 #[.agg #[.int .i64 P,.int .i64 M,.slice am mn cm,.int .i64 m,.slice a n c],.slice ra rn rc] w λe w'=>e = .returned (.int .i64 0)/\Below w.heap.size w w':=by
 have HCk : Hid (∀V,Below w.heap.size w V->Calls Tryz.prog 61 #[.agg #[.int .i64 P,.int .i64 M,.slice am mn cm,.int .i64 m,.slice a n c]] V λe w'=>e = .returned (.int .i64 0)/\Below V.heap.size V w'):=λV hV=>by
  have h:=fb P M am mn cm mod m a n c L V (hmod.ah hV) (hi.ah hV)
  rw [hE] at h;exact h
 have HSt : Hid (∀V,Below w.heap.size w V->Calls Tryz.prog 154 #[.slice ra rn rc,.int .i64 m] V λe w'=>e = .returned (.bool true)/\V=w'):=λV hV=>by
  have h:=A1 m ra rn rc S V (hS.ah hV)
  rw [hok] at h;exact h
 have hmx:=hS.max
 clear hmod hi hS hE hok
 go_enter Tryz.func81,Tryz.ntmps81
 go_upto_region 1 with fail
 obtain ⟨W,hW⟩ : ∃W : World,W=w.alloc (.cells #[.int .i64 P,.int .i64 M,.slice am mn cm,.int .i64 m,.slice a n c] 27):=⟨_,rfl⟩
 rw [<- hW]
 have hbW : Below w.heap.size w W:=by rw [hW];exact an _ _
 have x0 : aV W w.heap.size [.int .i64 P,.int .i64 M,.slice am mn cm,.int .i64 m,.slice a n c]:=by rw [hW];exact aV.new _ _ _ rfl
 have HX:=Z5 x0
 have c0:=x0.cell 0 rfl
 have c1:=x0.cell 1 rfl
 have c2:=x0.cell 2 rfl
 have c3:=x0.cell 3 rfl
 have c4:=x0.cell 4 rfl
 clear hW x0
 go_wp2_with fail
 refine (HCk.out W hbW).mono ?_
 rintro e w1 ⟨rfl,hb1⟩
 have hF:=Below.next hbW hb1
 clear c0 c1 c2 c4 c3
 have c3:=(HX.out.ah hb1).cell 3 rfl
 go_wp2_with fail
 refine (HSt.out w1 hF).mono ?_
 rintro e w2 ⟨rfl,rfl⟩
 have d1 : ((rn : Int) == (m : Int))=false:=by simp;omega
 go_wp2_with fail
 go_ret
 exact ⟨rfl,hF⟩
theorem uC (P M : Int) (am : OA) (mn cm : Nat) (N : Int) (a : OA) (n c : Nat) (w : World) :
  Calls Tryz.prog 83 #[.agg #[.int .i64 P,.int .i64 M,.slice am mn cm,.int .i64 N,.slice a n c]] w λe w'=>e = .returned (.agg #[.int .i64 N,.slice a n c])/\Below w.heap.size w w':=by
 go_enter Tryz.func83,Tryz.ntmps83
 go_wp2_with fail
 exact bodyPost_ret (v:=.agg #[.int .i64 N,.slice a n c]) (by simp [results,Tryz.results83,go_sem]) rfl ⟨rfl,dH _ _ _⟩
theorem aV.other {w : World} {b : Nat} {cs : List Value} (h : aV w b cs) {g i : Nat} (v : Value) (hb : b ≠ g) : aV (w.setCell ⟨g,i,none⟩ v) b cs:=by
 refine ⟨by rw [World.size_setCell];exact h.1,λj x hx=>?_,λj=>?_⟩
 ·rw [World.cell?_setCell_other _ _ _ _ (by simp <;> omega)]
  exact h.2.1 j x hx
 ·rw [World.frozen?_setCell]
  exact h.2.2 j
def Jt (O : aQ) (L : Ll) (m : Nat) (S : Lz) : Int:=(L.length : Int) - (sK O L (frTo false S m) : Nat)
section
variable {O : aQ} {El : Int->Prop} {m : Nat} {L : Ll}
theorem FW {t : Lz} (ht : Kt 0 m t) : frTo true t m=t:=by
 refine xF (gO true _ m) ht.1 λv=>?_
 rw [cJ]
 constructor
 ·rintro ⟨j,hj,rfl,h⟩
  exact of_decide_eq_true h
 ·intro hv
  have h1:=ht.2 v hv
  refine ⟨v.toNat,by omega,by omega,?_⟩
  rw [decide_eq_true_eq]
  have : (v.toNat : Int)=v:=by omega
  rw [this];exact hv
end
section
variable {P M : Int} {mod : Lz} {m : Nat} {L : Ll}
end
def JR (G : de) (m : Nat) (L : Ll) (S : Lz) : Ll:=kA G (kA G L m ++ (frTo false S m).map (ku m)) m
theorem G2 (G : de) (m : Nat) (L : Ll) (S : Lz) : JR G m L S=vK G.ops m L (frTo false S m):=rfl
theorem nA {P M : Int} {mod : Lz} {m : Nat} {L : Ll} (hE : aL P M mod m L=0) (S : Lz) :
  bH (aa P M.toNat mod).El m (fW (aa P M.toNat mod) m L S)/\(fW (aa P M.toNat mod) m L S).length<=m/\dr (aa P M.toNat mod) (fW (aa P M.toNat mod) m L S) m=fW (aa P M.toNat mod) m L S /\
   JR (aa P M.toNat mod) m L S=fW (aa P M.toNat mod) m L S:=by
 obtain ⟨N',em,hm1,hm64,F,hR⟩:=ba hE
 obtain rfl : m=N':=by omega
 have hT:=nj (Z:=frTo false S m) F hR
 have hMr:=nP (O:=(aa P M.toNat mod).ops) F hR (jA F hT)
 refine ⟨Fc F hR,?_,vW F hMr,?_⟩
 ·have h1:=cU F hMr
  have h2:=(fZ (aa P M.toNat mod).ops (nS (aa P M.toNat mod).ops m (iQ (aa P M.toNat mod).ops L.length ((List.range (frTo false S m).length).map (bf (L.map (aG (frTo false S m)))))) L) m).1
  show (dD (aa P M.toNat mod).ops m _).length<=m
  omega
 ·rw [G2]
  exact (DG F hR λz hz=>by
   obtain ⟨i,h1,h2,_⟩:=(cJ m).1 hz
   omega).symm
theorem uD {N : Int} {l : Lz} : ∀k,(∀i,i<k->dS N l i=true)->mg N l k=true
 | 0,_=>rfl
 | k+1,h=>eE (uD k λi hi=>h i (by omega)) (h k (by omega))
theorem AV (b : Bool) (U : Lz) (m : Nat) : bF m (frTo b U m)=true:=by
 unfold bF
 refine uD _ λi hi=>?_
 have h1:=(cJ m).1 (aN hi)
 obtain ⟨j,hj,e,_⟩:=h1
 have hp:=gO b U m
 rw [List.pairwise_iff_getElem] at hp
 unfold dS
 have h2 : 0<i->nth (frTo b U m) (i - 1)<nth (frTo b U m) i:=λh0=>by
  rw [ai hi,ai (show i - 1<_ by omega)]
  exact hp (i - 1) i (by omega) hi (by omega)
 rw [e] at h2 ⊢
 simp
 omega
end Go.Proofs.YtcfmiocdlcapoaaGreat
