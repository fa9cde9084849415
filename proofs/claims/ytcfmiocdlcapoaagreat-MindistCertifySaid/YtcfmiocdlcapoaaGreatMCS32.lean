import Derived.Test.YtcfmiocdlcapoaaGreatMCS31
namespace Go.Proofs.YtcfmiocdlcapoaaGreat
set_option linter.all false
set_option maxRecDepth 100000
set_option maxHeartbeats 8000000
open Go.RowKit Go.Proofs.Tryz
theorem oI : ∀a : Lz,dK a a=0
 | []=>rfl
 | x :: a=>by rw [dK,I5 (by omega),I5 (by omega),oI a]
theorem tH : ∀a b : Lz,dK b a = - dK a b
 | [],[]=>rfl
 | [],_ :: _=>rfl
 | _ :: _,[]=>rfl
 | x :: a,y :: b=>by
  rw [dK,dK];by_cases h1 : x<y
  ·rw [I5 (by omega),I6 h1,I6 h1];rfl
  ·by_cases h2 : y<x
   ·rw [I6 h2,I5 h1,I6 h2]
   ·rw [I5 h2,I5 h1,I5 h1,I5 h2,tH a b]
theorem Be : ∀ {a b c : Lz},dK a b<=0->dK b c<=0->dK a c<=0
 | [],_,[],_,_=>by rw [dK];omega
 | [],_,_ :: _,_,_=>by rw [dK];omega
 | _ :: _,[],_,h,_=>by rw [dK] at h;omega
 | _ :: _,_ :: _,[],_,h=>by rw [dK] at h;omega
 | x :: a,y :: b,z :: c,h,h'=>by
  rw [dK] at h h' ⊢;by_cases h1 : x<y
  ·by_cases h3 : z<y
   ·rw [I5 (by omega),I6 h3] at h';omega
   ·rw [I6 (by omega)];omega
  ·rw [I5 h1] at h;by_cases h2 : y<x
   ·rw [I6 h2] at h;omega
   ·rw [I5 h2] at h;by_cases h3 : y<z
    ·rw [I6 (by omega)];omega
    ·rw [I5 h3] at h';by_cases h4 : z<y
     ·rw [I6 h4] at h';omega
     ·rw [I5 h4] at h';rw [I5 (by omega),I5 (by omega)];exact Be h h'
def qp (b x : Lz) : Prop:=bK b<bK x\/(bK b=bK x/\dK b x<=0)
theorem qp.refl (b : Lz) : qp b b:=.inr ⟨rfl,by rw [oI];omega⟩
theorem qp.trans {a b c : Lz} (h : qp a b) (h' : qp b c) : qp a c:=by
 rcases h with h | ⟨h,g⟩
 ·rcases h' with h' | ⟨h',_⟩
  ·exact .inl (by omega)
  ·exact .inl (by omega)
 ·rcases h' with h' | ⟨h',g'⟩
  ·exact .inl (by omega)
  ·exact .inr ⟨by omega,Be g g'⟩
theorem qp.wt {a b : Lz} (h : qp a b) : bK a<=bK b:=by rcases h with h | ⟨h,_⟩ <;> omega
theorem iX {x : Lz} : bK x=0 ↔ ∀y ∈ x,y=0:=by
 unfold bK;rw [LK];constructor
 ·intro h y hy;have:=h y hy;simpa using this
 ·intro h y hy;rw [h y hy];simp
theorem AD : bK []=0:=rfl
theorem qk {v : Lz} (h : bK v ≠ 0) : fY v<v.length:=by refine K1 λhn=>h (iX.2 λy hy=>?_);obtain ⟨i,hi,rfl⟩:=List.mem_iff_getElem.1 hy;have:=jS v i (by omega);rwa [ai hi] at this
theorem jU (x : Int) (l : Lz) : bK (x :: l)=bK l+if x=0 then 0 else 1:=by unfold bK;rw [KZ];by_cases h : x=0 <;> simp [h]
section
variable {O : aS} {El : Int->Prop} {m : Nat}
theorem jF (F : dw O El) {a : Int} (ha : El a) (h0 : a ≠ 0) : El (O.inv a)/\O.inv a ≠ 0:=by have hi:=F.cl.inv a ha h0;refine ⟨hi,λe=>?_⟩;have h1:=F.mul_inv a ha h0;rw [e,F.et ha] at h1;have h2:=F.one_mul a ha;rw [<- h1,F.oD ha] at h2;exact h0 h2.symm
theorem yz (F : dw O El) {s x : Int} (hs : El s) (h0 : s ≠ 0) (hx : El x) : O.mul s x=0 ↔ x=0 :=
 ⟨λh=>F.vn hs hx h0 h,λh=>by rw [h,F.et hs]⟩
theorem pR (F : dw O El) {s : Int} (hs : El s) (h0 : s ≠ 0) : ∀ {x : Lz},(∀y ∈ x,El y)->bK (x.map (O.mul s))=bK x
 | [],_=>rfl
 | y :: x,h=>by rw [Ke,jU,jU,pR F hs h0 λz hz=>h z (by simp [hz])];simp [yz F hs h0 (h y (by simp))]
theorem uh (F : dw O El) {s : Int} (hs : El s) (h0 : s ≠ 0) : ∀ {x : Lz},(∀y ∈ x,El y)->fY (x.map (O.mul s))=fY x
 | [],_=>rfl
 | y :: x,h=>by rw [Ke,fY,fY,uh F hs h0 λz hz=>h z (by simp [hz])];simp [yz F hs h0 (h y (by simp))]
theorem jN {v : Lz} (hv : Vc El m v) (h : bK v ≠ 0) : El (nth v (fY v))/\nth v (fY v) ≠ 0 :=
 ⟨hv.at (by rw [<- hv.1];exact qk h),iY v (qk h)⟩
theorem lL (O : aS) (v : Lz) : ei O v=v.map (O.mul (O.inv (nth v (fY v)))):=rfl
theorem nD (F : dw O El) {v : Lz} (hv : Vc El m v) (h : bK v ≠ 0) : bK (ei O v)=bK v:=by obtain ⟨h1,h2⟩:=jN hv h;obtain ⟨h3,h4⟩:=jF F h1 h2;rw [lL,pR F h3 h4 hv.2]
theorem inv_mul (F : dw O El) {a b : Int} (ha : El a) (hb : El b) (h1 : a ≠ 0) (h2 : b ≠ 0) : O.mul (O.inv (O.mul a b)) a=O.inv b:=by
 have hab:=F.cl.mul a b ha hb;have h0 : O.mul a b ≠ 0:=λe=>h2 (F.vn ha hb h1 e);obtain ⟨i1,_⟩:=jF F hab h0;obtain ⟨i2,_⟩:=jF F hb h2;have hx:=F.cl.mul _ _ i1 ha;have e1 : O.mul (O.mul (O.inv (O.mul a b)) a) b=1:=by rw [F.mul_assoc _ _ _ i1 ha hb,F.mul_comm _ _ i1 hab,F.mul_inv _ hab h0]
 rw [<- F.lV hx,<- F.mul_inv b hb h2,<- F.mul_assoc _ _ _ hx hb i2,e1,F.one_mul _ i2]
theorem yi (F : dw O El) {s : Int} (hs : El s) (h0 : s ≠ 0) {v : Lz} (hv : Vc El m v) (h : bK v ≠ 0) : ei O (v.map (O.mul s))=ei O v:=by obtain ⟨h1,h2⟩:=jN hv h;have hl:=qk h;rw [lL,lL,uh F hs h0 hv.2,gR O v s hl,Lh];refine Kb λx hx=>?_;have hxe:=hv.2 x hx;obtain ⟨i1,_⟩:=jF F (F.cl.mul _ _ hs h1) λe=>h2 (F.vn hs h1 h0 e);show O.mul _ (O.mul s x)=_;rw [<- F.mul_assoc _ _ _ i1 hs hxe,inv_mul F hs h1 h0 h2]
theorem Av (F : dw O El) {v : Lz} (hv : Vc El m v) (h : bK v ≠ 0) : nth (ei O v) (fY (ei O v))=1:=by obtain ⟨h1,h2⟩:=jN hv h;obtain ⟨h3,h4⟩:=jF F h1 h2;rw [lL,uh F h3 h4 hv.2,gR O v _ (qk h),F.mul_comm _ _ h3 h1,F.mul_inv _ h1 h2]
theorem CG (F : dw O El) {v : Lz} (hv : Vc El m v) (h : bK v ≠ 0) : ei O (ei O v)=ei O v:=by obtain ⟨h1,h2⟩:=jN hv h;obtain ⟨h3,h4⟩:=jF F h1 h2;rw [lL O v,yi F h3 h4 hv h,lL]
theorem tI (F : dw O El) {b w : Lz} (hw : Vc El m w) (h0 : bK w ≠ 0) :
  ((cO O b w=b/\bK b ≠ 0)\/cO O b w=ei O w)/\bK (cO O b w) ≠ 0/\qp (cO O b w) (ei O w)/\(bK b ≠ 0->qp (cO O b w) b):=by
 have hm:=nD F hw h0;unfold cO;by_cases h1 : bK w=0\/(bK b ≠ 0/\bK b<bK w)
 ·rw [I6 h1];obtain ⟨g1,g2⟩:=h1.resolve_left h0;exact ⟨.inl ⟨rfl,g1⟩,g1,.inl (by omega),λ_=>qp.refl b⟩
 ·rw [I5 h1];by_cases h2 : bK b=0\/bK w<bK b\/dK (ei O w) b<0
  ·rw [I6 h2];refine ⟨.inr rfl,by omega,qp.refl _,λhb=>?_⟩;rcases h2 with h2 | h2 | h2
   ·exact absurd h2 hb
   ·exact .inl (by omega)
   ·by_cases e : bK w<bK b
    ·exact .inl (by omega)
    ·refine .inr ⟨?_,by omega⟩;have : ¬ bK b<bK w:=λe2=>h1 (.inr ⟨hb,e2⟩);omega
  ·rw [I5 h2];have hb : bK b ≠ 0:=λe=>h2 (.inl e);have e1 : ¬ bK b<bK w:=λe2=>h1 (.inr ⟨hb,e2⟩);have e2 : ¬ bK w<bK b:=λe=>h2 (.inr (.inl e));have e3 : ¬ dK (ei O w) b<0:=λe=>h2 (.inr (.inr e));refine ⟨.inl ⟨rfl,hb⟩,hb,.inr ⟨by omega,?_⟩,λ_=>qp.refl b⟩;rw [tH];omega
theorem tA (F : dw O El) : ∀(l : Ll) (b : Lz),(∀y ∈ l,Vc El m y/\bK y ≠ 0) ->
  ((l.foldl (cO O) b=b\/∃y ∈ l,l.foldl (cO O) b=ei O y))/\(∀y ∈ l,qp (l.foldl (cO O) b) (ei O y))/\(bK b ≠ 0->qp (l.foldl (cO O) b) b)/\(l ≠ []\/bK b ≠ 0->bK (l.foldl (cO O) b) ≠ 0)
 | [],b,_=>⟨.inl rfl,by simp,λ_=>qp.refl b,λh=>by rcases h with h | h;exact absurd rfl h;exact h⟩
 | y :: l,b,h=>by
  obtain ⟨hy,hy0⟩:=h y (by simp);obtain ⟨a1,a2,a3,a4⟩:=tI F (b:=b) hy hy0;obtain ⟨b1,b2,b3,b4⟩:=tA F l (cO O b y) λz hz=>h z (by simp [hz]);rw [KD];refine ⟨?_,λz hz=>?_,λhb=>(b3 a2).trans (a4 hb),λ_=>b4 (.inr a2)⟩
  ·rcases b1 with e | ⟨z,hz,e⟩
   ·rcases a1 with ⟨e2,_⟩ | e2
    ·exact .inl (by rw [e,e2])
    ·exact .inr ⟨y,by simp,by rw [e,e2]⟩
   ·exact .inr ⟨z,by simp [hz],e⟩
  ·rcases List.mem_cons.1 hz with rfl | hz
   ·exact (b3 a2).trans a3
   ·exact b2 z hz
def FC (cs c0 : Lz) : Lz->Prop
 | []=>True
 | a :: c=>if a=0 then FC cs c0 c else a ∈ c0/\∀b ∈ c,b ≠ 0->b ∈ cs
theorem vw {cs : Lz} : ∀ {c : Lz},FC cs cs c ↔ ∀b ∈ c,b ≠ 0->b ∈ cs
 | []=>by simp [FC]
 | a :: c=>by
  rw [FC];by_cases h : a=0
  ·rw [I6 h,vw];constructor
   ·intro h1 b hb hb0;rcases List.mem_cons.1 hb with rfl | hb
    ·exact absurd h hb0
    ·exact h1 b hb hb0
   ·intro h1 b hb hb0;exact h1 b (by simp [hb]) hb0
  ·rw [I5 h];constructor
   ·rintro ⟨h1,h2⟩ b hb hb0;rcases List.mem_cons.1 hb with rfl | hb
    ·exact h1
    ·exact h2 b hb hb0
   ·intro h1;exact ⟨h1 a (by simp) h,λb hb hb0=>h1 b (by simp [hb]) hb0⟩
theorem rU (O : aS) {cs c0 : Lz} (h0 : ∀a ∈ c0,a ≠ 0) (l : Nat) (hf : ∀R v y,y ∈ fg O cs l R v ↔ ∃c : Lz,c.length=R.length/\bK c=l/\(∀b ∈ c,b ≠ 0->b ∈ cs)/\y=iy O v c R) :
  ∀(R : Ll) (v y : Lz),y ∈ ja O (fg O cs l) c0 R v ↔ ∃c : Lz,c.length=R.length/\bK c=l+1/\FC cs c0 c/\y=iy O v c R
 | [],v,y=>by
  rw [ja];constructor
  ·intro h;simp at h
  ·rintro ⟨c,hc,h1,_⟩;rw [Jp hc,AD] at h1;omega
 | r :: R,v,y=>by
  rw [ja,JM,MY,rU O h0 l hf R v y];constructor
  ·rintro (⟨a,ha,h⟩ | ⟨c,h1,h2,h3,h4⟩)
   ·obtain ⟨c,h1,h2,h3,h4⟩:=(hf _ _ _).1 h;have ha0:=h0 a ha;exact ⟨a :: c,by simp [h1],by rw [jU,I5 ha0];omega,by rw [FC,I5 ha0];exact ⟨ha,h3⟩,h4⟩
   ·exact ⟨0 :: c,by simp [h1],by rw [jU,I6 rfl];omega,by rw [FC,I6 rfl];exact h3,by rw [h4,iy,gz,I6 rfl]⟩
  ·rintro ⟨c,h1,h2,h3,h4⟩;match c,h1,h2,h3,h4 with
   | a :: c,h1,h2,h3,h4 =>
    rw [jU] at h2
    rw [FC] at h3
    rw [iy] at h4
    by_cases ha : a=0
    ·rw [I6 ha] at h2 h3
     rw [gz,I6 ha] at h4
     exact .inr ⟨c,by simpa using h1,by omega,h3,h4⟩
    ·rw [I5 ha] at h2 h3
     exact .inl ⟨a,h3.1,(hf _ _ _).2 ⟨c,by simpa using h1,by omega,h3.2,h4⟩⟩
theorem lf (O : aS) : ∀(c : Lz) (R : Ll) (v : Lz),(∀y ∈ c,y=0)->iy O v c R=v
 | [],_,_,_=>by simp [iy]
 | _ :: _,[],_,_=>by simp [iy]
 | a :: c,r :: R,v,h=>by rw [iy,gz,I6 (h a (by simp)),lf O c R v λy hy=>h y (by simp [hy])]
theorem vY (O : aS) {cs : Lz} (h0 : ∀a ∈ cs,a ≠ 0) : ∀(l : Nat) (R : Ll) (v y : Lz),y ∈ fg O cs l R v ↔ ∃c : Lz,c.length=R.length/\bK c=l/\(∀b ∈ c,b ≠ 0->b ∈ cs)/\y=iy O v c R
 | 0,R,v,y=>by
  rw [fg,JN];constructor
  ·rintro rfl;refine ⟨List.replicate R.length 0,by simp,iX.2 λy hy=>(List.mem_replicate.1 hy).2,λb hb hb0=>absurd (List.mem_replicate.1 hb).2 hb0,?_⟩;rw [lf O _ _ _ λy hy=>(List.mem_replicate.1 hy).2]
  ·rintro ⟨c,h1,h2,_,h4⟩;rw [h4,lf O _ _ _ (iX.1 h2)]
 | l+1,R,v,y=>by
  rw [fg,rU O h0 l (vY O h0 l) R v y];constructor
  ·rintro ⟨c,h1,h2,h3,h4⟩;exact ⟨c,h1,h2,vw.1 h3,h4⟩
  ·rintro ⟨c,h1,h2,h3,h4⟩;exact ⟨c,h1,h2,vw.2 h3,h4⟩
theorem qY {cs : Lz} : ∀ {c : Lz},bK c ≠ 0->(FC cs [1] c ↔ nth c (fY c)=1/\∀j,fY c<j->j<c.length->nth c j ≠ 0->nth c j ∈ cs)
 | [],h=>absurd rfl h
 | a :: c,h=>by
  rw [FC,fY];by_cases ha : a=0
  ·rw [jU,I6 ha] at h;rw [I6 ha,I6 ha,qY (by omega)];constructor
   ·rintro ⟨h1,h2⟩;refine ⟨by simpa [nth] using h1,λj h3 h4 h5=>?_⟩;match j,h3,h4,h5 with
    | j+1,h3,h4,h5=>simpa [nth] using h2 j (by omega) (by simpa using h4) (by simpa [nth] using h5)
   ·rintro ⟨h1,h2⟩;refine ⟨by simpa [nth] using h1,λj h3 h4 h5=>?_⟩;simpa [nth] using h2 (j+1) (by omega) (by simpa using h4) (by simpa [nth] using h5)
  ·rw [I5 ha,I5 ha];constructor
   ·rintro ⟨h1,h2⟩;refine ⟨by simpa [nth] using h1,λj h3 h4 h5=>?_⟩;match j,h3,h4,h5 with
    | j+1,h3,h4,h5 =>
     have h6 : j<c.length:=by simpa using h4
     have e : nth (a :: c) (j+1)=nth c j:=by simp [nth]
     rw [e] at h5 ⊢
     exact h2 _ (aK h6) h5
   ·rintro ⟨h1,h2⟩;refine ⟨by simpa [nth] using h1,λb hb hb0=>?_⟩;obtain ⟨j,hj,rfl⟩:=List.mem_iff_getElem.1 hb;have e : nth (a :: c) (j+1)=nth c j:=by simp [nth]
    have:=h2 (j+1) (by omega) (by simpa using hj) (by rw [e,ai hj];exact hb0);rwa [e,ai hj] at this
def iI (O : aS) (b y : Lz) : Lz:=if b=[]\/bK (ei O y)<bK b\/(bK (ei O y)=bK b/\dK (ei O y) b<0) then ei O y else b
theorem Db (F : dw O El) {b y : Lz} (hy : Vc El m y) (h0 : bK y ≠ 0) (hb : b=[]\/bK b ≠ 0) : iI O b y=cO O b y:=by
 have hm:=nD F hy h0;unfold iI cO;rw [hm];by_cases hb0 : bK b=0
 ·have hbn : b=[]:=hb.resolve_right λh=>h hb0;rw [I6 (.inl hbn),I5 (by omega),I6 (.inl hb0)]
 ·have hbn : b ≠ []:=λe=>hb0 (by rw [e];rfl);by_cases h1 : bK b<bK y
  ·rw [I5 (by rintro (h | h | h);exact hbn h;omega;omega),I6 (.inr ⟨hb0,h1⟩)]
  ·rw [I5 (show ¬ (bK y=0\/(bK b ≠ 0/\bK b<bK y)) by rintro (h | h);exact h0 h;exact h1 h.2)];by_cases h2 : bK y<bK b
   ·rw [I6 (.inr (.inl h2)),I6 (.inr (.inl h2))]
   ·by_cases h3 : dK (ei O y) b<0
    ·rw [I6 (.inr (.inr ⟨by omega,h3⟩)),I6 (.inr (.inr h3))]
    ·rw [I5 (by rintro (h | h | h);exact hbn h;exact h2 h;exact h3 h.2),I5 (by rintro (h | h | h);exact hb0 h;exact h2 h;exact h3 h)]
theorem Dr (F : dw O El) {b y : Lz} (hy : Vc El m y) (h0 : bK y ≠ 0) : cO O b y=[]\/bK (cO O b y) ≠ 0:=.inr (tI F hy h0).2.1
theorem xW (F : dw O El) : ∀(l : Ll) (b : Lz),(b=[]\/bK b ≠ 0)->(∀y ∈ l,Vc El m y/\bK y ≠ 0)->l.foldl (iI O) b=l.foldl (cO O) b
 | [],_,_,_=>rfl
 | y :: l,b,hb,h=>by obtain ⟨h1,h2⟩:=h y (by simp);rw [KD,KD,Db F h1 h2 hb];exact xW F l _ (Dr F h1 h2) λz hz=>h z (by simp [hz])
end
def lP (O : aS) (q m w : Nat) (sys : List Ll) (b : Lz) : Lz:=sys.foldl (λb G=>(gW O (de q) [1] w G (List.replicate m 0)).foldl (cO O) b) b
def kD (q k s w : Nat) : Nat:=s * (dp k w * (q - 1) ^ (w - 1))
def iH (q k s n w : Nat) : Bool:=decide (dp k w<=65536) && decide ((q - 1) ^ (w - 1)<=65536) && decide (kD q k s w<=65536 - n)
def wq (O : aS) (q m k : Nat) (sys : List Ll) (rks : Lz) : Nat->Nat->Lz->Nat->Ll->Ll × Lz × Int
 | 0,_,b,_,o=>(o,b,0)
 | f+1,w,b,n,o =>
  if iH q k sys.length n w=true then
   (if dO k w rks rks.length > (bK (lP O q m w sys b) : Int) then
    (o ++ [[(w : Int),((n+kD q k sys.length w : Nat) : Int),(bK (lP O q m w sys b) : Int),dO k w rks rks.length]],lP O q m w sys b,0)
   else wq O q m k sys rks f (w+1) (lP O q m w sys b) (n+kD q k sys.length w) (o ++ [[(w : Int),((n+kD q k sys.length w : Nat) : Int),(bK (lP O q m w sys b) : Int),dO k w rks rks.length]]))
  else ([],[],8)
section
variable {P M : Int} {mod : Lz} {m : Nat} {L : Ll}
def CW (P M : Int) (mod : Lz) (m : Nat) (L : Ll) (y : Lz) : Prop :=
 Vc (ah P M.toNat mod).El m y/\RS (ah P M.toNat mod).ops (ah P M.toNat mod).El m L (λi=>nth y i)/\bK y ≠ 0
theorem dQ {O : aS} : ∀ {T : List (Lz × Int)} {U : Lz},oC O L m U T->∀t ∈ T,cF m t.1=true/\pG O L t.1=true/\1<=t.2/\t.2<=(L.length : Int)
 | [],_,_,t,ht=>by simp at ht
 | t0 :: T,U,h,t,ht=>by
  obtain ⟨h1,h2,h3,h4,h5⟩:=h;rcases List.mem_cons.1 ht with rfl | ht
  ·have hbd:=lD U t.1 t.1.length;have hl : t.1.length=L.length:=(jo.1 h2).1;exact ⟨h1,h2,h3,by omega⟩
  ·exact dQ h5 t ht
theorem jZ {O : aS} {Q : Lz} (h : cF m Q=true) (hB : pG O L Q=true) : pA m Q/\Q.length=L.length/\(gD O L Q).length=Q.length :=
 ⟨lu h,(jo.1 hB).1,(jo.1 hB).2⟩
theorem wz (hE : aJ P M mod m L=0) {Q : Lz} (hQ : cF m Q=true) (hB : pG (ah P M.toNat mod).ops L Q=true) {y : Lz} (hy : Vc (ah P M.toNat mod).El m y) (hr : RS (ah P M.toNat mod).ops (ah P M.toNat mod).El m L (λi=>nth y i)) :
  y=bw (ah P M.toNat mod).ops m (aQ Q y) (dk (ah P M.toNat mod).ops m L Q) L.length:=by
 obtain ⟨N',e,hm1,hm64,F,hR⟩:=br hE;obtain rfl : m=N':=by omega
 obtain ⟨hI,hl,hg⟩:=jZ hQ hB;obtain ⟨s1,s2,_,s4⟩:=lM hE hI hl hg;have hcan : iE (ah P M.toNat mod).ops m (dk (ah P M.toNat mod).ops m L Q)=L:=s4;have hsub:=(oG F s1).1;rw [hcan] at hsub;obtain ⟨v,hv,h2⟩:=RS.IN F s1 (hsub.rs hr);rw [s2] at hv h2;obtain ⟨w1,_,w3⟩:=sZ hE hI hl hg (v:=v) hv.1 λk hk=>hv.at hk;have h3 : y=bw (ah P M.toNat mod).ops m v (dk (ah P M.toNat mod).ops m L Q) L.length:=fQ (by rw [hy.1,w1.1]) λi hi=>h2 i (by rw [<- hy.1];exact hi);have h4 : aQ Q y=v:=by rw [h3];exact w3
 rw [h4];exact h3
theorem B1 {Q y : Lz} (h : ∀z ∈ y,z=0) : bK (aQ Q y)=0:=by
 refine iX.2 λz hz=>?_;unfold aQ at hz;obtain ⟨q,_,rfl⟩:=List.mem_map.1 hz;by_cases hq : q.toNat<y.length
 ·rw [ai hq];exact h _ (JA hq)
 ·unfold nth;rw [Jc,JZ (by omega)];rfl
theorem yj (O : aS) (m : Nat) {c : Lz} {G : Ll} (h : ∀y ∈ c,y=0) : ∀k,k<=c.length->bw O m c G k=List.replicate m 0
 | 0,_=>rfl
 | k+1,hk=>by rw [bw,I6 (h _ (aK (by omega))),yj O m h k (by omega)]
theorem EK {m : Nat} : ∀z ∈ List.replicate m (0 : Int),z=0:=λz hz=>(List.mem_replicate.1 hz).2
theorem Az (hE : aJ P M mod m L=0) {Q : Lz} (hQ : cF m Q=true) (hB : pG (ah P M.toNat mod).ops L Q=true) {y : Lz} (h : CW P M mod m L y) : bK (aQ Q y) ≠ 0:=λh0=>by obtain ⟨hI,hl,hg⟩:=jZ hQ hB;have h1:=wz hE hQ hB h.1 h.2.1;rw [yj _ _ (iX.1 h0) _ (by simp [aQ,hl])] at h1;exact h.2.2 (by rw [h1];exact iX.2 EK)
theorem FF {q : Nat} {b : Int} (h : b ∈ de q) : 0<=b/\b<q:=by have:=qa.1 h;omega
theorem mU (hE : aJ P M mod m L=0) {Q : Lz} (hQ : cF m Q=true) (hB : pG (ah P M.toNat mod).ops L Q=true) {l : Nat} {y : Lz} :
  y ∈ gW (ah P M.toNat mod).ops (de (ah P M.toNat mod).q) [1] (l+1) (dk (ah P M.toNat mod).ops m L Q) (List.replicate m 0) ↔ CW P M mod m L y/\bK (aQ Q y)=l+1/\nth (aQ Q y) (fY (aQ Q y))=1:=by
 obtain ⟨N',e,hm1,hm64,F,hR⟩:=br hE;obtain rfl : m=N':=by omega
 obtain ⟨hI,hl,hg⟩:=jZ hQ hB;obtain ⟨s1,s2,_,s4⟩:=lM hE hI hl hg;have hcan : iE (ah P M.toNat mod).ops m (dk (ah P M.toNat mod).ops m L Q)=L:=s4;have hsub:=(oG F s1).2;rw [hcan] at hsub;have hpl : ∀y,(aQ Q y).length=L.length:=λy=>by simp [aQ,hl]
 rw [gW,rU _ (by simp) l (vY _ (λa ha=>by have:=qa.1 ha;omega) l)];constructor
 ·rintro ⟨c,h1,h2,h3,h4⟩;rw [s2] at h1;have hc0 : bK c ≠ 0:=by omega
  obtain ⟨f1,f2⟩:=(qY hc0).1 h3;have hel : ∀k,k<L.length->(ah P M.toNat mod).El (nth c k):=λk hk=>by
   by_cases e0 : nth c k=0
   ·rw [e0];exact F.zero
   ·by_cases e1 : k<fY c
    ·exact absurd (jS c k e1) e0
    ·by_cases e2 : k=fY c
     ·rw [e2,f1];exact F.one
     ·exact FF (f2 k (by omega) (by omega) e0)
  obtain ⟨w1,_,w3⟩:=sZ hE hI hl hg (v:=c) h1 hel;have hy : y=bw (ah P M.toNat mod).ops m c (dk (ah P M.toNat mod).ops m L Q) L.length:=by have h5:=ml (O:=(ah P M.toNat mod).ops) (m:=m) (v:=c) (L:=dk (ah P M.toNat mod).ops m L Q) (by rw [s2];exact h1) L.length 0 (by rw [s2];omega);rw [h4,<- s2,<- h5];rfl
  rw [<- hy] at w1 w3;refine ⟨⟨w1,?_,λh0=>?_⟩,by rw [w3];exact h2,by rw [w3];exact f1⟩
  ·have:=(jc F s1 (x:=c) (by rw [s2];exact hel) L.length (by rw [s2];exact IZ _)).2;rw [<- hy] at this;exact hsub.rs this
  ·have h6:=B1 (Q:=Q) (iX.1 h0);rw [w3] at h6;omega
 ·rintro ⟨hy,h2,h3⟩;have h1:=wz hE hQ hB hy.1 hy.2.1;obtain ⟨c,hc⟩ : ∃c,aQ Q y=c:=⟨_,rfl⟩
  have hcl : c.length=L.length:=by rw [<- hc];exact hpl y
  rw [hc] at h1 h2 h3;refine ⟨c,by rw [s2];exact hcl,h2,(qY (by omega)).2 ⟨h3,λj _ hj hj0=>?_⟩,?_⟩
  ·have h7 : nth c j=nth y (nth Q j).toNat:=by rw [<- hc];exact eX Q y (by omega)
   have h8:=hI j (by omega);have h9 : (ah P M.toNat mod).El (nth c j):=by rw [h7];exact hy.1.at (by omega)
   exact qa.2 ⟨by have:=h9.1;omega,h9.2⟩
  ·have h5:=ml (O:=(ah P M.toNat mod).ops) (m:=m) (v:=c) (L:=dk (ah P M.toNat mod).ops m L Q) (by rw [s2];exact hcl) L.length 0 (by rw [s2];omega);rw [h1,<- s2,<- h5];rfl
theorem CW.Ba (hE : aJ P M mod m L=0) {y : Lz} (h : CW P M mod m L y) {s : Int} (hs : (ah P M.toNat mod).El s) (h0 : s ≠ 0) : CW P M mod m L (y.map ((ah P M.toNat mod).ops.mul s)):=by
 obtain ⟨N',e,hm1,hm64,F,hR⟩:=br hE;obtain rfl : m=N':=by omega
 refine ⟨h.1.Ba F hs,(h.2.1.smul F hs).congr λx hx=>gR _ _ _ (by rw [h.1.1];exact hx),?_⟩;rw [pR F hs h0 h.1.2];exact h.2.2
theorem CW.IW (hE : aJ P M mod m L=0) {y : Lz} (h : CW P M mod m L y) : CW P M mod m L (ei (ah P M.toNat mod).ops y):=by
 obtain ⟨N',e,hm1,hm64,F,hR⟩:=br hE;obtain rfl : m=N':=by omega
 obtain ⟨h1,h2⟩:=jN h.1 h.2.2;obtain ⟨h3,h4⟩:=jF F h1 h2;exact h.Ba hE h3 h4
theorem wW {O : aS} {Q y : Lz} (hI : pA y.length Q) (s : Int) : aQ Q (y.map (O.mul s))=(aQ Q y).map (O.mul s):=by unfold aQ;rw [Lh];refine Kb λq hq=>?_;obtain ⟨j,hj,rfl⟩:=List.mem_iff_getElem.1 hq;have h:=hI j hj;rw [ai hj] at h;exact gR O y s (by omega)
theorem Cf (hE : aJ P M mod m L=0) {Q : Lz} (hQ : cF m Q=true) (hB : pG (ah P M.toNat mod).ops L Q=true) {l : Nat} {x : Lz} (hx : CW P M mod m L x) (hl : bK (aQ Q x)=l+1) :
  ∃y ∈ gW (ah P M.toNat mod).ops (de (ah P M.toNat mod).q) [1] (l+1) (dk (ah P M.toNat mod).ops m L Q) (List.replicate m 0),ei (ah P M.toNat mod).ops y=ei (ah P M.toNat mod).ops x:=by
 obtain ⟨N',e,hm1,hm64,F,hR⟩:=br hE;obtain rfl : m=N':=by omega
 obtain ⟨hI,hql,hg⟩:=jZ hQ hB;have hc : Vc (ah P M.toNat mod).El Q.length (aQ Q x):=⟨by simp [aQ],λz hz=>by
  obtain ⟨j,hj,rfl⟩:=List.mem_iff_getElem.1 hz;have hj2 : j<Q.length:=by simpa [aQ] using hj
  have h8:=hI j hj2;rw [<- ai hj,eX Q x hj2];exact hx.1.at (by omega)⟩
 have hc0 : bK (aQ Q x) ≠ 0:=by omega
 obtain ⟨h1,h2⟩:=jN hc hc0;obtain ⟨h3,h4⟩:=jF F h1 h2;refine ⟨x.map ((ah P M.toNat mod).ops.mul ((ah P M.toNat mod).ops.inv (nth (aQ Q x) (fY (aQ Q x))))),(mU hE hQ hB).2 ⟨hx.Ba hE h3 h4,?_,?_⟩,yi F h3 h4 hx.1 hx.2.2⟩
 ·rw [wW (by rw [hx.1.1];exact hI),pR F h3 h4 hc.2];exact hl
 ·rw [wW (by rw [hx.1.1];exact hI)];exact Av F hc hc0
theorem lF {α β γ : Type} (f : γ->β->γ) (g : α->List β) : ∀(l : List α) (b : γ),l.foldl (λb a=>(g a).foldl f b) b=(l.flatMap g).foldl f b
 | [],_=>rfl
 | a :: l,b=>by rw [KD,lF f g l,L4,MS]
def gF (P M : Int) (mod : Lz) (m : Nat) (L : Ll) : List Ll:=(eo (ah P M.toNat mod).ops L m).map λt=>dk (ah P M.toNat mod).ops m L t.1
theorem vL (hE : aJ P M mod m L=0) (hk : 1<=L.length) : eo (ah P M.toNat mod).ops L m ≠ []:=λh=>by
 obtain ⟨N',e,hm1,hm64,F,hR⟩:=br hE;obtain rfl : m=N':=by omega
 have h1:=(eH hE).1;rw [h] at h1;have h6:=(dR (bl hE).2.2.2).2;rw [Jd] at h6;have hcan : iE (ah P M.toNat mod).ops m L=L:=h6;obtain ⟨hPv,_⟩:=je F hR;have hcl:=fx F hR;rw [hcan] at hPv hcl;have h2:=hPv.one 0 0 (by omega) (by omega);have h3:=hPv.lt 0 (by omega);rw [I6 rfl,h1 _ (by omega) (by simp) 0 (by omega)] at h2;exact absurd h2 (by decide)
theorem Du (hE : aJ P M mod m L=0) (l : Nat) (b : Lz) :
  (lP (ah P M.toNat mod).ops (ah P M.toNat mod).q m (l+1) (gF P M mod m L) b=b\/∃y,CW P M mod m L y/\lP (ah P M.toNat mod).ops (ah P M.toNat mod).q m (l+1) (gF P M mod m L) b=ei (ah P M.toNat mod).ops y) /\
  (∀x,CW P M mod m L x->(∃t ∈ eo (ah P M.toNat mod).ops L m,bK (aQ t.1 x)=l+1)->qp (lP (ah P M.toNat mod).ops (ah P M.toNat mod).q m (l+1) (gF P M mod m L) b) (ei (ah P M.toNat mod).ops x)) /\
  (bK b ≠ 0->qp (lP (ah P M.toNat mod).ops (ah P M.toNat mod).q m (l+1) (gF P M mod m L) b) b) /\
  (l+1<=L.length->bK (lP (ah P M.toNat mod).ops (ah P M.toNat mod).q m (l+1) (gF P M mod m L) b) ≠ 0):=by
 obtain ⟨N',e,hm1,hm64,F,hR⟩:=br hE;obtain rfl : m=N':=by omega
 have hall:=λt ht=>dQ (eH hE).1 t ht;unfold lP;rw [lF];have hin : ∀y,y ∈ (gF P M mod m L).flatMap (λG=>gW (ah P M.toNat mod).ops (de (ah P M.toNat mod).q) [1] (l+1) G (List.replicate m 0)) ↔
   ∃t ∈ eo (ah P M.toNat mod).ops L m,CW P M mod m L y/\bK (aQ t.1 y)=l+1/\nth (aQ t.1 y) (fY (aQ t.1 y))=1:=λy=>by
  rw [MY];constructor
  ·rintro ⟨G,hG,hy⟩;obtain ⟨t,ht,rfl⟩:=List.mem_map.1 hG;exact ⟨t,ht,(mU hE (hall t ht).1 (hall t ht).2.1).1 hy⟩
  ·rintro ⟨t,ht,h⟩;exact ⟨_,List.mem_map.2 ⟨t,ht,rfl⟩,(mU hE (hall t ht).1 (hall t ht).2.1).2 h⟩
 obtain ⟨a1,a2,a3,a4⟩:=tA F (m:=m) ((gF P M mod m L).flatMap λG=>gW (ah P M.toNat mod).ops (de (ah P M.toNat mod).q) [1] (l+1) G (List.replicate m 0)) b λy hy=>by obtain ⟨t,_,h,_⟩:=(hin y).1 hy;exact ⟨h.1,h.2.2⟩
 refine ⟨?_,?_,a3,λhlk=>a4 (.inl ?_)⟩
 ·rcases a1 with h | ⟨y,hy,h⟩
  ·exact .inl h
  ·obtain ⟨t,_,h2,_⟩:=(hin y).1 hy;exact .inr ⟨y,h2,h⟩
 ·rintro x hx ⟨t,ht,h⟩;obtain ⟨y,hy,h2⟩:=Cf hE (hall t ht).1 (hall t ht).2.1 hx h;rw [<- h2];exact a2 y (List.mem_flatMap.2 ⟨_,List.mem_map.2 ⟨t,ht,rfl⟩,hy⟩)
 ·intro hnil;obtain ⟨t,ht⟩:=LX _ (vL hE (by omega));rw [Me] at hnil;have h2:=hnil _ (List.mem_map.2 ⟨t,ht,rfl⟩);obtain ⟨hI,hql,hg⟩:=jZ (hall t ht).1 (hall t ht).2.1;have h3:=mH (ah P M.toNat mod).ops (de (ah P M.toNat mod).q) 1 l (dk (ah P M.toNat mod).ops m L t.1) (List.replicate m 0);rw [h2,(lM hE hI hql hg).2.1,jT] at h3;have h4:=j8 L.length (l+1) hlk;have hq : 1<=(ah P M.toNat mod).q - 1:=by have h5 : (1 : Int)<(ah P M.toNat mod).q:=F.one.2;omega
  have h6 : 0<dp L.length (l+1) * ((ah P M.toNat mod).q - 1) ^ l:=Nat.mul_pos h4 (M5 hq);simp at h3;omega
def AT (P M : Int) (mod : Lz) (m : Nat) (L : Ll) (r : Lz) : Prop :=
 ∀x,CW P M mod m L x->((∃t ∈ eo (ah P M.toNat mod).ops L m,(bK (aQ t.1 x) : Int)<=nth r 0)->nth r 2<=bK x)/\((∀t ∈ eo (ah P M.toNat mod).ops L m,nth r 0<(bK (aQ t.1 x) : Int))->nth r 3<=bK x)
def rh (P M : Int) (mod : Lz) (m : Nat) (L : Ll) (b : Lz) : Prop:=CW P M mod m L b/\ei (ah P M.toNat mod).ops b=b
theorem DQ (hE : aJ P M mod m L=0) (hk : 1<=L.length) (hk64 : L.length<=64) : ∀(f w : Nat) (b : Lz) (n : Nat) (o : Ll),w+1+f=L.length+1->((w=0/\b=[])\/rh P M mod m L b) ->
  (∀x,CW P M mod m L x->(∃t ∈ eo (ah P M.toNat mod).ops L m,bK (aQ t.1 x)<=w)->qp b (ei (ah P M.toNat mod).ops x))->(∀r ∈ o,AT P M mod m L r) ->
  ∀ {o2 : Ll} {b2 : Lz} {e : Int},wq (ah P M.toNat mod).ops (ah P M.toNat mod).q m L.length (gF P M mod m L) ((eo (ah P M.toNat mod).ops L m).map (·.2)) f (w+1) b n o=(o2,b2,e) ->
  (e=8/\o2=[]/\b2=[])\/(e=0/\rh P M mod m L b2/\(∀x,CW P M mod m L x->qp b2 (ei (ah P M.toNat mod).ops x))/\(∀r ∈ o2,AT P M mod m L r)/\o.length+(if f=0 then 0 else 1)<=o2.length)
 | 0,w,b,n,o,hw,hb,hs,ho,o2,b2,e,h=>by
  rw [wq] at h;obtain ⟨rfl,rfl,rfl⟩ : o=o2/\b=b2/\0=e:=by simpa using h
  refine .inr ⟨rfl,hb.resolve_left (λh=>by omega),λx hx=>hs x hx ?_,ho,by simp⟩;obtain ⟨t,ht⟩:=LX _ (vL hE hk);refine ⟨t,ht,?_⟩;have h1 : bK (aQ t.1 x)<=(aQ t.1 x).length:=Kd;have h2:=(jo.1 (dQ (eH hE).1 t ht).2.1).1;rw [show (aQ t.1 x).length=t.1.length by simp [aQ]] at h1;omega
 | f+1,w,b,n,o,hw,hb,hs,ho,o2,b2,e,h=>by
  obtain ⟨N',e0,hm1,hm64,F,hR⟩:=br hE;obtain rfl : m=N':=by omega
  obtain ⟨a1,a2,a3,a4⟩:=Du hE w b;have a4:=a4 (by omega);rw [wq] at h;by_cases hm : iH (ah P M.toNat mod).q L.length (gF P M mod m L).length n (w+1)=true;rotate_left
  ·rw [I5 hm] at h;obtain ⟨rfl,rfl,rfl⟩ : []=o2/\[]=b2/\8=e:=by simpa using h
   exact .inl ⟨rfl,rfl,rfl⟩
  rw [I6 hm] at h;clear hm;obtain ⟨B,hB⟩ : ∃B,lP (ah P M.toNat mod).ops (ah P M.toNat mod).q m (w+1) (gF P M mod m L) b=B:=⟨_,rfl⟩
  obtain ⟨fl,hfl⟩ : ∃fl,dO (L.length : Int) ((w+1 : Nat) : Int) ((eo (ah P M.toNat mod).ops L m).map (·.2)) ((eo (ah P M.toNat mod).ops L m).map (·.2)).length=fl:=⟨_,rfl⟩
  rw [hB,hfl] at h;rw [hB] at a1 a2 a3 a4;have hBk : rh P M mod m L B:=by
   rcases a1 with h1 | ⟨y,hy,h1⟩
   ·rcases hb with hb | hb
    ·rw [h1,hb.2] at a4;exact absurd AD a4
    ·rw [h1];exact hb
   ·rw [h1];exact ⟨hy.IW hE,CG F hy.1 hy.2.2⟩
  have hseen : ∀x,CW P M mod m L x->(∃t ∈ eo (ah P M.toNat mod).ops L m,bK (aQ t.1 x)<=w+1)->qp B (ei (ah P M.toNat mod).ops x):=by
   rintro x hx ⟨t,ht,hle⟩;by_cases e1 : bK (aQ t.1 x)=w+1
   ·exact a2 x hx ⟨t,ht,e1⟩
   ·have hc:=Az hE (dQ (eH hE).1 t ht).1 (dQ (eH hE).1 t ht).2.1 hx;rcases hb with hb | hb
    ·omega
    ·exact (a3 hb.1.2.2).trans (hs x hx ⟨t,ht,by omega⟩)
  have hfloor : ∀x,CW P M mod m L x->(∀t ∈ eo (ah P M.toNat mod).ops L m,((w+1 : Nat) : Int)<(bK (aQ t.1 x) : Int))->fl<=bK x:=λx hx hu=>by
   obtain ⟨f',h1,h2⟩:=BR hE hx.1.1 (v:=((w+1 : Nat) : Int)) (by omega) hk64 hu;unfold ql at h1;split at h1
   ·rw [hfl] at h1;obtain ⟨rfl,_⟩ : fl=f'/\True:=by simpa using h1
    exact h2
   ·simp at h1
  have hro : ∀r ∈ o ++ [[((w+1 : Nat) : Int),((n+kD (ah P M.toNat mod).q L.length (gF P M mod m L).length (w+1) : Nat) : Int),(bK B : Int),fl]],AT P M mod m L r:=λr hr=>by
   rcases List.mem_append.1 hr with hr | hr
   ·exact ho r hr
   ·rw [List.mem_singleton.1 hr];intro x hx;refine ⟨?_,λhu=>hfloor x hx hu⟩;rintro ⟨t,ht,hle⟩;have hle2 : (bK (aQ t.1 x) : Int)<=((w+1 : Nat) : Int):=hle;have h1:=(hseen x hx ⟨t,ht,by omega⟩).wt;rw [nD F hx.1 hx.2.2] at h1;show (bK B : Int)<=bK x;omega
  by_cases hst : fl > (bK B : Int)
  ·rw [I6 hst] at h;simp only [Prod.mk.injEq] at h;obtain ⟨rfl,rfl,rfl⟩:=h;refine .inr ⟨rfl,hBk,λx hx=>?_,hro,by simp⟩;by_cases hx2 : ∃t ∈ eo (ah P M.toNat mod).ops L m,bK (aQ t.1 x)<=w+1
   ·exact hseen x hx hx2
   ·have h1:=hfloor x hx λt ht=>by have : ¬ bK (aQ t.1 x)<=w+1:=λh2=>hx2 ⟨t,ht,h2⟩;omega
    left;rw [nD F hx.1 hx.2.2];omega
  ·rw [I5 hst] at h;rcases DQ hE hk hk64 f (w+1) B _ _ (by omega) (.inr hBk) hseen hro h with h1 | ⟨h1,h2,h3,h4,h5⟩
   ·exact .inl h1
   ·refine .inr ⟨h1,h2,h3,h4,?_⟩;rw [Jh,Js] at h5;split at h5 <;> simp <;> omega
end
theorem mR.aa {F : Nat->Prop} {w w' : World} {a : OA} {n : Nat} {l : Lz} (h : mR F w a n l) (hb : NS w w') : mR F w' a n l:=⟨h.ints.aa hb,h.lo⟩
theorem va.aa {F : Nat->Prop} {w w' : World} {g b : Nat} {P M : Int} {am : OA} {mn cm : Nat} {N : Int} {a : OA} {n c : Nat} {ag : OA} {ng cg : Nat} {ab : OA} {cb : Nat} {B : Lz} {k : Nat} (h : va F w g b P M am mn cm N a n c ag ng cg ab cb B k) (hb : NS w w') : va F w' g b P M am mn cm N a n c ag ng cg ab cb B k :=
 ⟨h.box.aa hb,h.best.aa hb⟩
def uL (F : Nat->Prop) (w0 : World) (g b : Nat) (G : cW) (P M : Int) (am : OA) (mn cm : Nat) (N : Int) (a : OA) (n c : Nat) (ag : OA) (ng cg : Nat) (m : Nat) (ar : OA) (nr cr : Nat) (R : Ll) (l : Nat) : Prop :=
 ∀(w : World) (ab : OA) (cb : Nat) (B : Lz) (k : Nat) (av : OA) (cv : Nat) (v : Lz) (fs : Nat) (al : Bool),(∀x,F x->x<w.heap.size)->NS w0 w->va F w g b P M am mn cm N a n c ag ng cg ab cb B k->cH (g+1) w ar nr R->dW (g+1) w av m v->G.Bz v->fs<=nr ->
  k+(gW G.ops (de G.q) (if al=true then [1] else de G.q) l (R.drop fs) v).length<=1000000 ->
  Calls prog 101 #[.pointer (some ⟨g,0,none⟩),.slice ar nr cr,.slice av m cv,.int .i64 fs,.int .i64 l,.bool al] w λe w'=>e = .returned (.tuple #[])/\∃ab' cb',
   va F w' g b P M am mn cm N a n c ag ng cg ab' cb' ((gW G.ops (de G.q) (if al=true then [1] else de G.q) l (R.drop fs) v).foldl (cO G.ops) B) (k+(gW G.ops (de G.q) (if al=true then [1] else de G.q) l (R.drop fs) v).length)/\aA w w' (One g) (One g)
theorem CI {w0 : World} {b g : Nat} {G : cW} {P M : Int} {am : OA} {mn cm : Nat} {N : Int} {a : OA} {n c : Nat} {ag : OA} {ng cg : Nat} {m : Nat} {ar : OA} {nr cr : Nat} {R : Ll}
  {F : Nat->Prop} (hF : F g) (h : dT w0 b G) (hg : w0.heap.size<=g) (hm : m<=1000000) : uL F w0 g b G P M am mn cm N a n c ag ng cg m ar nr cr R 0:=by
 intro w ab cb B k av cv v fs al hFl hb hs hR hv hve hfs hk;have hk1 : k+1<=1000000:=by cases al <;> exact hk
 have hlk:=EJ av m cv v hF hFl h hb hg hs hv hve hm (by omega);refine Calls.mono (R:=λe w'=>e = .returned (.tuple #[])/\∃ab' cb',va F w' g b P M am mn cm N a n c ag ng cg ab' cb' (cO G.ops B v) (k+1)/\aA w w' (One g) (One g)) ?_ (λe w' h=>h);clear hk;go_enter func101,ntmps101;go_wp2_with fail;refine hlk.mono ?_;rintro e w' ⟨rfl,h1⟩;go_wp2_with fail;(try simp only [Exit.inBlock,Exit.then])
 refine bodyPost_ret (results_none rfl _ _ _) rfl ?_;exact ⟨rfl,h1⟩
theorem BN {w0 : World} {b g : Nat} {G : cW} {P M : Int} {am : OA} {mn cm : Nat} {N : Int} {a : OA} {n c : Nat} {ag : OA} {ng cg : Nat} {m : Nat} {ar : OA} {nr cr : Nat} {R : Ll}
  {F : Nat->Prop} (hF : F g) (h : dT w0 b G) (hg : w0.heap.size<=g) (hm : m<=64) (hm1 : 1<=m) (hRw : cw G.El m R) (hR64 : nr<=64) (l : Nat) (hl64 : l<=64) (IH : uL F w0 g b G P M am mn cm N a n c ag ng cg m ar nr cr R l) : uL F w0 g b G P M am mn cm N a n c ag ng cg m ar nr cr R (l+1):=by
 intro w ab cb B k av cv v fs al hFl hb hs hR hv hve hfs hk;have hops:=NA h;have hq2 : 2<=G.q:=h.q2;have hq256 : G.q<=256:=h.q256;have hvl : v.length=m:=hv.ints.len;have hRl : R.length=nr:=hR.len;have Hops:=Z5 hops;have Hve:=Z5 hve;have Hvl:=Z5 hvl;have HRl:=Z5 hRl;have HRw:=Z5 hRw;have HIH:=Z5 IH;have HF0:=Z5 (Jg hF hFl);have HSW:=Z5 (Jg hs (Jg hR (Jg hv hb)));have Hh:=Z5 h;have Hg:=Z5 hg;obtain ⟨c0,hc0⟩ : ∃c0,(if al=true then [1] else de G.q)=c0:=⟨_,rfl⟩
 rw [hc0] at hk ⊢;have Hc0:=Z5 hc0;rw [gW] at hk ⊢;obtain ⟨FB,hFB⟩ : ∃FB,(ja G.ops (fg G.ops (de G.q) l) c0 (R.drop fs) v).foldl (cO G.ops) B=FB:=⟨_,rfl⟩
 obtain ⟨FK,hFK⟩ : ∃FK,k+(ja G.ops (fg G.ops (de G.q) l) c0 (R.drop fs) v).length=FK:=⟨_,rfl⟩
 rw [hFB,hFK];rw [hFK] at hk;have HS : Hid (∀V,aA w V (One g) (One g)->cH (g+1) V ar nr R/\dW (g+1) V av m v/\NS w0 V):=λV hV=>⟨HSW.out.2.1.bQ hV λx hx=>by rw [show x=g from hx];omega,HSW.out.2.2.1.bQ hV,HSW.out.2.2.2.trans (hV.below (λx hx=>by rw [show x=g from hx];exact Hg.out) HSW.out.2.2.2.size)⟩
 have HFB:=Z5 hFB;have HFK:=Z5 hFK;have hplR:=hR.pl;obtain ⟨LL,hLL⟩ : ∃LL : Int,((l+1 : Nat) : Int)=LL:=⟨_,rfl⟩
 have hL1 : LL - 1=(l : Int):=by omega
 have el0 : (LL == 0)=false:=by simp;omega
 rw [hLL];have HLL:=Z5 hLL;clear h hg hb hR hv hve hops hvl hRl hRw IH hc0 hFB hFK;go_enter func101,ntmps101;go_wp2_with fail;go_loopw [12] (λiv wr=>∃(i : Nat) (ab' : OA) (cb' : Nat) (B' : Lz) (k' : Nat),i<=nr/\iv = .int .i64 i/\Hid (va F wr g b P M am mn cm N a n c ag ng cg ab' cb' B' k')/\aA w wr (One g) (One g) /\
   Hid ((ja G.ops (fg G.ops (de G.q) l) c0 (R.drop i) v).foldl (cO G.ops) B'=FB)/\Hid (k'+(ja G.ops (fg G.ops (de G.q) l) c0 (R.drop i) v).length=FK)) (λiv _=>nr - (intOf iv).toNat)
 case atStart=>exact ⟨fs,ab,cb,B,k,hfs,rfl,hs,Ns _ _,HFB.out,HFK.out⟩
 case round =>
  clear hs HFB HFK
  obtain ⟨i,ab',cb',B',k',hi,rfl,hsea,hmv,hfb,hfk⟩:=hrel
  generalize wr=X at *
  by_cases hlt : i+l+1<=nr
  ·have d1 : decide ((i : Int)+LL<=(nr : Int))=true:=by simp;omega
   have hiR : i<R.length:=by rw [HRl.out];omega
   have Hdrop : Hid (R.drop i=an R i :: R.drop (i+1)):=lY R hiR
   have hRiE:=HRw.out.row hiR
   obtain ⟨Ri,hRi⟩ : ∃Ri,an R i=Ri:=⟨_,rfl⟩
   rw [hRi] at Hdrop hRiE
   have HRi:=Z5 hRi
   have HRiE:=Z5 hRiE
   obtain ⟨T,hT⟩ : ∃T,ja G.ops (fg G.ops (de G.q) l) c0 (R.drop (i+1)) v=T:=⟨_,rfl⟩
   have HT:=Z5 hT
   have hfb2 : Hid (((c0.drop 0).flatMap (λx=>fg G.ops (de G.q) l (R.drop (i+1)) (gz G.ops v x Ri)) ++ T).foldl (cO G.ops) B'=FB):=by have h1:=hfb.out;rw [Hdrop.out,ja,HT.out] at h1;exact h1
   have hfk2 : Hid (k'+((c0.drop 0).flatMap (λx=>fg G.ops (de G.q) l (R.drop (i+1)) (gz G.ops v x Ri)) ++ T).length=FK):=by have h1:=hfk.out;rw [Hdrop.out,ja,HT.out] at h1;exact h1
   clear hfb hfk hT hRi hRiE hiR
   go_wp2_with fail
   go_loopw [13] (λiv wr=>∃(t : Nat) (ab' : OA) (cb' : Nat) (B' : Lz) (k' : Nat),t+1<=G.q/\(al=true->t=0)/\iv = .int .i64 ((t : Int)+1)/\Hid (va F wr g b P M am mn cm N a n c ag ng cg ab' cb' B' k')/\aA w wr (One g) (One g) /\
     Hid (((c0.drop t).flatMap (λx=>fg G.ops (de G.q) l (R.drop (i+1)) (gz G.ops v x Ri)) ++ T).foldl (cO G.ops) B'=FB)/\Hid (k'+((c0.drop t).flatMap (λx=>fg G.ops (de G.q) l (R.drop (i+1)) (gz G.ops v x Ri)) ++ T).length=FK)) (λiv _=>G.q+1 - (intOf iv).toNat)
   case atStart=>exact ⟨0,ab',cb',B',k',by omega,λ_=>rfl,rfl,hsea,hmv,hfb2,hfk2⟩
   case round =>
    clear hsea hmv hfb2 hfk2
    clear ab' cb' B' k'
    obtain ⟨t,ab',cb',B',k',ht,hal,rfl,hsea,hmv,hfb,hfk⟩:=hrel
    generalize wr=X1 at *
    obtain ⟨hR1,hv1,hb1⟩:=HS.out X1 hmv
    have hG1:=Hh.out.aa hb1
    have cg0:=hsea.out.box.cell 0 rfl
    by_cases hlq : t+1<G.q
    ·have d2 : decide ((t : Int)+1<(G.q : Int))=true:=by simp;omega
     have hdt : c0.drop t=((t : Int)+1) :: c0.drop (t+1):=by
      rw [<- Hc0.out];by_cases e : al=true
      ·rw [I6 e,hal e];rfl
      ·rw [I5 e];exact ta (by omega)
     obtain ⟨rb,rm,rc,hcR,hrow⟩:=hR1.cell i (by omega)
     have hrm : rm=m:=by rw [<- hrow.ints.len,HRi.out];exact HRiE.out.1
     rw [hrm,HRi.out] at hrow
     rw [hrm] at hcR
     have Hrow:=Z5 hrow
     have Hv1:=Z5 hv1
     have HR1:=Z5 hR1
     have Hb1:=Z5 hb1
     have HG1:=Z5 hG1
     obtain ⟨A,hA⟩ : ∃A : Int,(t : Int)+1=A:=⟨_,rfl⟩
     have hA1 : 1<=A:=by omega
     have hAq : A<G.q:=by omega
     have hAE : G.El A:=⟨by omega,hAq⟩
     have HA:=Z5 hA
     rw [hA] at hdt d2 ⊢
     have Hdt:=Z5 hdt
     clear hA hrm hdt hrow hv1 hR1 hb1
     go_wp2_with fail
     refine (yO HG1.out).mono ?_
     rintro e w' ⟨rfl,rfl⟩
     go_wp2_with fail
     refine (eG av m cv v Hv1.out.ints (by omega)).mono ?_
     rintro e w4 ⟨a4,c4,rfl,ho4,hb4⟩
     have r4:=aB hb4 hcR
     have hin : (i : Int)<(nr : Int):=by omega
     have hin2 : i<nr:=by omega
     rw [Hvl.out] at ho4 ⊢
     go_wp2_with fail
     have hRil:=HRiE.out.1
     have hNl:=kY G.ops v A Ri (by rw [hRil,Hvl.out])
     have hNe:=FZ Hops.out Hve.out HRiE.out.2 hAE (by rw [hRil,Hvl.out])
     have hNth : ∀j,j<m->nth (gz G.ops v A Ri) j=if nth Ri j=0 then nth v j else G.add (nth v j) (G.mul A (nth Ri j)):=λj hj =>
      xl G.ops v A Ri j (by rw [hRil,Hvl.out]) (by rw [Hvl.out];exact hj) (by omega)
     rw [Hvl.out] at hNl
     obtain ⟨Nw,hNw⟩ : ∃Nw,gz G.ops v A Ri=Nw:=⟨_,rfl⟩
     rw [hNw] at hNl hNe hNth
     have HNl:=Z5 hNl
     have HNe:=Z5 hNe
     have HNth:=Z5 hNth
     have HNw:=Z5 hNw
     have hX1l : g<X1.heap.size:=hsea.out.box.1
     clear hNl hNe hNth hNw hRil hcR r4 hG1 cg0 d2
     go_loopw [47] (λiv wr=>∃kk : Nat,kk<=m/\iv = .int .i64 kk/\wr.ownsRow X1.heap.size 3 1 (.slice a4 m c4) m ((fc Nw v kk).map (Value.int .i64))/\NS X1 wr) (λiv _=>m - (intOf iv).toNat)
     case atStart=>exact ⟨0,I7 _,rfl,by rw [eQ];exact ho4,hb4⟩
     case round =>
      clear ho4 hb4
      obtain ⟨kk,hkk,rfl,hown,hbr⟩:=hrel
      generalize wr=Y at *
      have hseaY:=hsea.out.aa hbr
      by_cases hlk : kk<m
      ·have hir:=Hrow.out.ints.aa hbr
       have hpr:=hir.pl
       have cir:=hir.cell kk hlk
       have hkN : Nw.length=v.length:=by rw [HNl.out,Hvl.out]
       have hval:=HNth.out kk hlk
       have hmix:=ek Nw v kk kk hkN (by rw [Hvl.out];omega)
       rw [I5 (by omega)] at hmix
       by_cases hz : nth Ri kk=0
       ·rw [I6 hz] at hval
        have hsame:=qI Nw v kk hkN (by rw [Hvl.out];exact hlk) hval
        have Hsame:=Z5 hsame
        have hz2 : (nth Ri kk != 0)=false:=by simpa using hz
        clear hval hmix hsame hkN hz
        go_wp2_with fail
        go_roundw
        case rel=>exact ⟨kk+1,by omega,by go_num,by rw [Hsame.out];exact hown,hbr⟩
        case measure=>simp [intOf] <;> omega
       ·rw [I5 hz] at hval
        have hset:=ey Nw v kk hkN (by rw [Hvl.out];exact hlk)
        rw [hval] at hset
        have Hset:=Z5 hset
        obtain ⟨hiv,hmv2⟩:=Ni hown
        have hpv:=hiv.pl
        have cv1:=hiv.cell kk hlk
        have fv1:=(hmv2 (by omega)).2 kk hlk
        rw [hmix] at cv1
        have elv : G.El (nth v kk):=Hve.out _ (aK (by rw [Hvl.out];exact hlk))
        have elr : G.El (nth Ri kk):=HRiE.out.2 _ (aK (by rw [HRiE.out.1];exact hlk))
        have cgr:=hseaY.box.cell 0 rfl
        have hGr:=HG1.out.aa hbr
        have elm : ∀x y,G.El (G.mul x y):=λx y=>NJ hGr x y
        have HG : Hid (dT Y.drew b G/\∀n,dT (Y.drewN n) b G):=⟨hGr.aa (I1 _ _).drew,λn=>hGr.drewN n⟩
        have hz2 : (nth Ri kk != 0)=true:=by simpa using hz
        have Hiv:=Z5 hiv
        clear hval hmix hset hkN hz hGr hir hiv hmv2 hseaY
        go_wp2_with fail
        go_region_law ((first
         | (go_simp;go_at_call 153;((with_reducible refine (n9 A (nth Ri kk) HG.out.1 hAE elr).mono ?_);rintro e w4 ⟨m4,rfl,rfl⟩))
         | (go_simp;go_at_call 153;((with_reducible refine (n9 A (nth Ri kk) (HG.out.2 _) hAE elr).mono ?_);rintro e w4 ⟨m4,rfl,rfl⟩))
         | (go_simp;go_at_call 152;((with_reducible refine (Il (nth v kk) (G.mul A (nth Ri kk)) (HG.out.2 _) elv (elm _ _)).mono ?_);rintro e w4 ⟨m5,rfl,rfl⟩))))
        all_goals (
         go_wp2_with fail
         go_roundw
         case rel =>
          have hdr : bf Y (Y.drewN (1+m4+m5)):=⟨_,rfl⟩
          have h1:=bT (w:=Y.drewN (1+m4+m5)) hown kk hlk (.int .i64 (G.add (nth v kk) (G.mul A (nth Ri kk))))
          rw [<- Jq,Hset.out] at h1
          have hlo:=(aM hown (λe=>by have:=hpv (by omega);rw [e] at this;cases this)).1
          exact ⟨kk+1,by omega,by go_num,h1,(hbr.trans (hdr.below.mono hbr.size)).trans ((I1 _ _).setCell (p:=⟨aj a4,aL a4+kk,none⟩) hlo _)⟩
         case measure=>simp [intOf] <;> omega)
      ·obtain rfl : kk=m:=by omega
       rw [fD Nw v kk HNl.out Hvl.out] at hown
       have hvN : dW (g+1) Y a4 kk Nw:=⟨(Ni hown).1,λhn=>by have h1:=(aM hown (by intro e;have:=((Ni hown).1).pl hn;rw [e] at this;cases this)).1;omega⟩
       have hMY : aA w Y (One g) (One g):=hmv.trans (Nn hbr _)
       obtain ⟨hRY,_,hbY⟩:=HS.out Y hMY
       have hsumA : gW G.ops (de G.q) (if false=true then [1] else de G.q) l (R.drop (i+1)) Nw=fg G.ops (de G.q) l (R.drop (i+1)) Nw:=by rw [I5 (by decide)];exact sT _ _ _ _ _
       have hfb1:=hfb.out
       have hfk1:=hfk.out
       rw [Hdt.out,L4,HNw.out,JQ] at hfb1 hfk1
       rw [MS] at hfb1
       rw [Jh,<- KF] at hfk1
       have hcall:=HIH.out Y ab' cb' B' k' a4 c4 Nw (i+1) false (λx hx=>Jv (HF0.out.2 x hx) hMY.size) hbY hseaY hRY hvN HNe.out (by omega) (by rw [hsumA];omega)
       rw [hsumA] at hcall
       have Hcall:=Z5 hcall
       have Hfb1:=Z5 hfb1
       have Hfk1:=Z5 hfk1
       have Hb:=Z5 hMY
       clear hcall hfb1 hfk1 hfb hfk hown hvN hRY hsumA hseaY hMY hsea hmv
       go_wp2_with fail
       refine Hcall.out.mono ?_
       rintro e w5 ⟨rfl,ab5,cb5,hs5,hM5⟩
       have hMF:=Hb.out.trans hM5
       have Hs5:=Z5 hs5
       clear hs5
       cases al
       ·go_wp2_with fail
        go_roundw
        case rel=>exact ⟨t+1,ab5,cb5,_,_,by omega,λh=>absurd h (by decide),by rw [<- HA.out];go_num,Hs5.out,hMF,Hfb1.out,Hfk1.out⟩
        case measure=>have:=HA.out;simp [intOf] <;> omega
       ·have ht0:=hal rfl
        have hnil : c0.drop (t+1)=[]:=by rw [<- Hc0.out,I6 rfl,ht0];rfl
        have Hn1 : Hid (T.foldl (cO G.ops) ((fg G.ops (de G.q) l (R.drop (i+1)) Nw).foldl (cO G.ops) B')=FB):=by have h1:=Hfb1.out;rw [hnil] at h1;exact h1
        have Hn2 : Hid (k'+(fg G.ops (de G.q) l (R.drop (i+1)) Nw).length+T.length=FK):=by have h1:=Hfk1.out;rw [hnil] at h1;exact h1
        clear hnil Hfb1 Hfk1
        go_wp2_with fail
        go_roundw
        case rel=>exact ⟨i+1,ab5,cb5,_,_,by omega,by go_num,Hs5.out,hMF,by show _=_;rw [HT.out];exact Hn1.out,by show _=_;rw [HT.out];exact Hn2.out⟩
        case measure=>simp [intOf] <;> omega
    ·have hal2 : al=false:=by
      cases al
      ·rfl
      ·have:=hal rfl;omega
     have d2 : decide ((t : Int)+1<(G.q : Int))=false:=by simp;omega
     have hnil : c0.drop t=[]:=by rw [<- Hc0.out,hal2];rw [I5 (by decide)];exact JD (by rw [jT];omega)
     have Hn1 : Hid (T.foldl (cO G.ops) B'=FB):=by have h1:=hfb.out;rw [hnil] at h1;exact h1
     have Hn2 : Hid (k'+T.length=FK):=by have h1:=hfk.out;rw [hnil] at h1;exact h1
     clear hnil hfb hfk hR1 hv1 hb1 hal2
     go_wp2_with fail
     refine (yO hG1).mono ?_
     rintro e w' ⟨rfl,rfl⟩
     go_wp2_with fail
     go_roundw
     case rel=>exact ⟨i+1,ab',cb',B',k',by omega,by go_num,hsea,hmv,by show _=_;rw [HT.out];exact Hn1.out,by show _=_;rw [HT.out];exact Hn2.out⟩
     case measure=>simp [intOf] <;> omega
  ·have d1 : decide ((i : Int)+LL<=(nr : Int))=false:=by simp;omega
   have hnil:=mJ G.ops (de G.q) c0 l (R.drop i) v (by rw [Kg,HRl.out];omega)
   have hfb1:=hfb.out
   have hfk1:=hfk.out
   rw [hnil] at hfb1 hfk1
   have hfb2 : B'=FB:=hfb1
   have hfk2 : k'=FK:=hfk1
   subst hfb2 hfk2
   clear hnil hfb1 hfk1 hfb hfk
   go_wp2_with fail
   go_end0
   exact ⟨rfl,ab',cb',hsea.out,hmv⟩
theorem wZ {w0 : World} {b g : Nat} {G : cW} {P M : Int} {am : OA} {mn cm : Nat} {N : Int} {a : OA} {n c : Nat} {ag : OA} {ng cg : Nat} {m : Nat} {ar : OA} {nr cr : Nat} {R : Ll}
  {F : Nat->Prop} (hF : F g) (h : dT w0 b G) (hg : w0.heap.size<=g) (hm : m<=64) (hm1 : 1<=m) (hRw : cw G.El m R) (hR64 : nr<=64) : ∀l,l<=64->uL F w0 g b G P M am mn cm N a n c ag ng cg m ar nr cr R l
 | 0,_=>CI hF h hg (by omega)
 | l+1,hl=>BN hF h hg hm hm1 hRw hR64 l (by omega) (wZ hF h hg hm hm1 hRw hR64 l (by omega))
theorem mF (w : World) (x y z : Int) (e : TypeId) {g : Nat} (hg : g=w.heap.size) : Ints (w.alloc (.cells #[.int .i64 x,.int .i64 y,.int .i64 z] e)) (some ⟨g,0,none⟩) 3 [x,y,z]:=by
 subst hg;have h:=Nj w [.int .i64 x,.int .i64 y,.int .i64 z] e rfl;refine ⟨rfl,λ_=>rfl,by unfold maxLen;omega,λi hi=>?_⟩;match i,hi with
 | 0,_=>exact h.cell 0 rfl
 | 1,_=>exact h.cell 1 rfl
 | 2,_=>exact h.cell 2 rfl
theorem De {w0 w : World} {b g : Nat} {G : cW} {P M : Int} {am : OA} {mn cm : Nat} {N : Int} {a : OA} {n c : Nat} {ag : OA} {ng cg : Nat} {ab : OA} {cb : Nat} {B : Lz} {k : Nat} (W : Nat)
  (h : dT w0 b G) (hb : NS w0 w) {F : Nat->Prop} (hs : va F w g b P M am mn cm N a n c ag ng cg ab cb B k) (hk : k<=65536) (hn : n<=64) (hW : 1<=W) (hWn : W<=n) (hg1 : 1<=ng) (hg64 : ng<=64) :
  Calls prog 100 #[.pointer (some ⟨g,0,none⟩),.int .i64 W] w λe w'=>NS w w'/\∃z : Int,e = .returned (.tuple #[.int .i64 z,.int .i64 (if iH G.q n ng k W=true then 0 else 8)]):=by
 have hG:=h.aa hb;have hq2:=hG.q2;have hq256:=hG.q256;obtain ⟨er,her⟩ : ∃er : Int,(if iH G.q n ng k W=true then (0 : Int) else 8)=er:=⟨_,rfl⟩
 rw [her];obtain ⟨V,rfl⟩ : ∃V,W=V+1:=⟨W - 1,by omega⟩
 obtain ⟨q1,hq1⟩ : ∃q1,G.q=q1+1:=⟨G.q - 1,by omega⟩
 have hmB : iH G.q n ng k (V+1)=(decide (dp n (V+1)<=65536) && decide (q1 ^ V<=65536) && decide (ng * (dp n (V+1) * q1 ^ V)<=65536 - k)):=by unfold iH kD;rw [hq1,JU,JU]
 rw [hmB] at her;have hC1 : 1<=dp n (V+1):=j8 _ _ hWn;have hP1 : 1<=q1 ^ V:=M5 (by omega);have Hcho:=Z5 (λV2 : World=>y6 n (V+1) V2 hn hWn);have Hexp:=Z5 (λV2 : World=>Dy q1 V V2 (by omega) (by omega) (by omega));have hcp : ((q1 : Int) ^ V)=((q1 ^ V : Nat) : Int):=by simp
 have Hord:=Z5 (λV2 (h2 : NS w V2)=>yO (hG.aa h2));rw [hq1] at Hord;have HS : Hid (∀V2,NS w V2->V2.cell? ⟨g,0,none⟩=some (.pointer (some ⟨b,0,none⟩))/\V2.cell? ⟨g,5,none⟩=some (.slice a n c)/\V2.cell? ⟨g,6,none⟩=some (.slice ag ng cg)/\V2.cell? ⟨g,8,none⟩=some (.int .i64 k)):=λV2 h2=>by have x:=hs.box.aa h2;exact ⟨x.cell 0 rfl,x.cell 5 rfl,x.cell 6 rfl,x.cell 8 rfl⟩
 obtain ⟨C,hC⟩ : ∃C,dp n (V+1)=C:=⟨_,rfl⟩
 obtain ⟨Pw,hPw⟩ : ∃Pw,q1 ^ V=Pw:=⟨_,rfl⟩
 unfold pz ph at Hcho;unfold lQ lO at Hexp;rw [hcp,hPw] at Hexp;rw [hC] at Hcho her hC1;rw [hPw] at her hP1;have hVW : ((V+1 : Nat) : Int)=(V : Int)+1:=by omega
 rw [hVW] at Hcho;rw [hVW];obtain ⟨c0,c5,c6,c8⟩:=HS.out w (I1 _ _);have kq : wrap64 (q1 : Int)=q1:=vS (by omega) (by omega);have kV : wrap64 (V : Int)=V:=vS (by omega) (by omega);clear hmB hcp hC hPw hG h hb hs hq1;go_enter func100,ntmps100;by_cases hCb : C<=65536;rotate_left
 ·have he : er=8:=by rw [<- her,Jn hCb];rfl
  subst he;rw [I5 (by omega),I5 (by omega)] at Hcho;have Hc2:=Z5 (Hcho.out w);clear her Hcho hCb;go_wp2_with fail;refine Hc2.out.mono ?_;rintro e w1 ⟨rfl,hb1⟩;go_wp2_with fail;go_ret2;exact ⟨hb1,_,rfl⟩
 rw [I6 (by omega),I6 (by omega)] at Hcho;have Hc2:=Z5 (Hcho.out w);clear Hcho;go_wp2_with fail;refine Hc2.out.mono ?_;rintro e w1 ⟨rfl,hb1⟩;obtain ⟨c0,c5,c6,c8⟩:=HS.out w1 hb1;have Ho1:=Z5 (Hord.out w1 hb1);have He1:=Z5 (Hexp.out w1);clear Hc2 Hord Hexp;go_wp2_with fail;refine Ho1.out.mono ?_;rintro e w' ⟨rfl,rfl⟩;by_cases hPb : Pw<=65536;rotate_left
 ·have he : er=8:=by rw [<- her,Jn hPb,Lo,Nd];rfl
  subst he;rw [I5 (by omega),I5 (by omega)] at He1;clear her hPb Ho1;go_wp2_with fail;refine He1.out.mono ?_;rintro e w' ⟨rfl,rfl⟩;go_wp2_with fail;go_ret2;exact ⟨hb1,_,rfl⟩
 rw [I6 (by omega),I6 (by omega)] at He1;have hpr : bF [(ng : Int),(C : Int),(Pw : Int)] 3=((ng * (C * Pw) : Nat) : Int):=by simp only [bF,nth];simp [J1]
 have HPr : Hid (∀V2,NS w V2->∀a3 c3,Ints V2 a3 3 [(ng : Int),(C : Int),(Pw : Int)]->Calls prog 170 #[.int .i64 (65536 - (k : Int)),.slice a3 3 c3] V2 λe w'=>(∃z : Int,e = .returned (.tuple #[.int .i64 z,.int .i64 er]))/\V2=w'):=λV2 _ a3 c3 h3=>by
  refine (xS (65536 - (k : Int)) a3 3 c3 [(ng : Int),(C : Int),(Pw : Int)] V2 (by omega) h3 λx hx=>?_).mono ?_
  ·simp at hx;rcases hx with rfl | rfl | rfl <;> omega
  ·rintro e w' ⟨rfl,rfl⟩;refine ⟨⟨pr (65536 - (k : Int)) [(ng : Int),(C : Int),(Pw : Int)],?_⟩,rfl⟩;have e1 : nV (65536 - (k : Int)) [(ng : Int),(C : Int),(Pw : Int)]=er:=by
    unfold nV;show (if bF [(ng : Int),(C : Int),(Pw : Int)] 3<=65536 - (k : Int) then (0 : Int) else 8)=er;rw [hpr,<- her,Jm hCb,Jm hPb,Bool.and_self,Ku];by_cases hz : ng * (C * Pw)<=65536 - k
    ·rw [I6 (by omega),Jm hz];rfl
    ·rw [I5 (by omega),Jn hz];rfl
   rw [e1]
 have He8 : Hid (er ≠ 0->er=8):=λh=>by
  rw [<- her] at h ⊢;split at h
  ·exact absurd rfl h
  ·rename_i h1;rw [I5 h1]
 clear her hpr Ho1;go_wp2_with fail;refine He1.out.mono ?_;rintro e w' ⟨rfl,rfl⟩;obtain ⟨c0,c5,c6,c8⟩:=HS.out w1 hb1;have kk : IntKind.i64.wrap (65536 - (k : Int))=65536 - (k : Int):=Jj _ (by omega);obtain ⟨d0,d5,d6,d8⟩:=HS.out _ (Nh hb1 (aw w1 (.cells #[.int .i64 (ng : Int),.int .i64 (C : Int),.int .i64 (Pw : Int)] 3)));go_upto_region 7 with fail;go_cut [6,7] (λzv ev wx=>(∃z : Int,zv = .int .i64 z)/\ev = .int .i64 er/\NS w wx);case first =>
  go_region_law ((first
   | (go_simp;go_at_call 170;((with_reducible refine (HPr.out _ (Nh hb1 (by first | exact (aw _ _).drew | exact aw _ _ | exact ((I1 _ _).drew).alloc (IZ _) _ | exact (aw _ _).drew | exact (I1 _ _).drew | assumption)) _ _ (by first | exact (mF _ _ _ _ _ rfl).aa (I1 _ _).drew | exact mF _ _ _ _ _ rfl | assumption)).mono ?_);rintro e w3 ⟨⟨z3,rfl⟩,rfl⟩))))
  all_goals (
   go_wp2_with fail
   go_meet
   exact ⟨⟨_,rfl⟩,rfl,Nh hb1 (by first | exact (aw _ _).drew | exact aw _ _ | exact (aw _ _).drew.drew)⟩)
 obtain ⟨⟨z,rfl⟩,rfl,hbc⟩:=hcut;generalize wc=V3 at *;by_cases he0 : er=0
 ·subst he0;go_wp2_with fail;go_ret2;exact ⟨hbc,_,rfl⟩
 ·have he1 : (er != 0)=true:=by simpa using he0
  have he8 : er=8:=He8.out he0;subst he8;go_wp2_with fail;go_ret2;exact ⟨hbc,_,rfl⟩
theorem E2 {P M : Int} {mod : Lz} {N : Int} {L : Ll} {mm W : Int} (h : (dI P M mod N L mm W).1=0) : ky P M mod N L mm W (dI P M mod N L mm W).2=0:=by
 unfold dI ky at *;by_cases h0 : dB P M mod N L mm W=0
 ·rw [I6 h0] at h ⊢;rw [I6 h0];refine Co ?_;rw [<- h]
 ·rw [I5 h0] at h;exact absurd h h0
structure TX where
 a : OA
 c : Nat
 T : Ll
def IS (x : RX) : Value:=.slice x.a x.l.length x.c
def E0 (y : TX) : Value:=.slice y.a y.T.length y.c
def CA (B Bo : Nat) (as' at' : OA) : Nat->Prop:=λb=>b<B\/b=Bo\/(as' ≠ none/\b=aj as')\/(at' ≠ none/\b=aj at')
structure IL (B : Nat) (V : World) (Bo : Nat) (as' : OA) (cs : Nat) (at' : OA) (ct : Nat) (ss : List RX) (tt : List TX) : Prop where
 bo : B<=Bo
 box : aZ V Bo [.slice as' ss.length cs,.slice at' tt.length ct]
 so : V.ownsRow B 22 1 (.slice as' ss.length cs) ss.length (ss.map IS)
 tow : V.ownsRow B 47 1 (.slice at' tt.length ct) tt.length (tt.map E0)
 as1 : cJ as' Bo
 at1 : cJ at' Bo
 st : as'=none\/at'=none\/aj as' ≠ aj at'
 sx : ∀x ∈ ss,Ints V x.a x.l.length x.l/\(0<x.l.length->¬ CA B Bo as' at' (aj x.a))
 tx : ∀y ∈ tt,kE (CA B Bo as' at') V y.a y.T.length y.T/\y.T.length<=y.c
theorem AI {w w' : World} {B : Nat} {e : TypeId} {a : OA} {n c : Nat} {xs : List Value} (h : w.ownsRow B e 1 (.slice a n c) n xs) (hb : a ≠ none->w'.heap[aj a]? = w.heap[aj a]?) : w'.ownsRow B e 1 (.slice a n c) n xs:=by
 refine ⟨h.1,?_⟩;rcases h.2 with h2 | ⟨g,cap,cur,hv,hg,hh,r⟩
 ·exact .inl h2
 ·cases hv
  exact .inr ⟨g,_,cur,rfl,hg,by rw [show w'.heap[g]? = w.heap[g]? from hb (by simp)];exact hh,r⟩
theorem aA.Fm {w w' : World} {A A' : Nat->Prop} (h : aA w w' A A) (hs : ∀b,A' b->A b\/w.heap.size<=b) : aA w w' A A':=⟨h.os,h.tape,h.output,h.size,h.block,hs⟩
theorem kE.As {A A' : Nat->Prop} {w w' : World} {a : OA} {n : Nat} {L : Ll} (h : kE A w a n L) (hM : aA w w' A A') : kE A' w' a n L :=
 ⟨h.len,h.pl,h.max,λhn=>hM.not (h.l7.lt hn) (h.no hn),λi hi=>by obtain ⟨b,m,c,h1,h2,h3⟩:=h.cell i hi;exact ⟨b,m,c,hM.cell h1 (h.no (by omega)),h2.bQ hM h3,λhm=>hM.not (h2.lt hm) (h3 hm)⟩⟩
section
variable {B : Nat} {V w5 : World} {Bo : Nat} {as' : OA} {cs : Nat} {at' : OA} {ct : Nat} {ss : List RX} {tt : List TX} {o : Obj}
end
def IB (T : List Ll) (i : Nat) : Ll:=T.getD i []
structure IK (w : World) (a : OA) (n : Nat) (TT : List Ll) : Prop where
 len : TT.length=n
 pl : Pl a n
 max : n<=maxLen
 cell : ∀i,i<n->∃b m c,w.cell? ⟨aj a,aL a+i,none⟩=some (.slice b m c)/\ch w b m (IB TT i)/\m<=c
theorem cH.IF {A : Nat->Prop} {B : Nat} {w : World} {a : OA} {n : Nat} {L : Ll} (h : cH B w a n L) (hA : ∀b,A b->b<B) : kE A w a n L :=
 ⟨h.len,h.pl,h.max,λhn hc=>K3 _ (Jv (hA _ hc) (h.lo hn)),λi hi=>by obtain ⟨b,m,c,h1,h2⟩:=h.cell i hi;exact ⟨b,m,c,h1,h2.ints,λhm hc=>K3 _ (Jv (hA _ hc) (h2.lo hm))⟩⟩
section
def Ia (b : Nat) (P M : Int) (am : OA) (mn cm : Nat) (N : Int) (a : OA) (n c : Nat) (ag : OA) (ng cg : Nat) (ab : OA) (nb cb k : Nat) : List Value :=
 [.pointer (some ⟨b,0,none⟩),.int .i64 P,.int .i64 M,.slice am mn cm,.int .i64 N,.slice a n c,.slice ag ng cg,.slice ab nb cb,.int .i64 k]
def LA (g : Nat) (ag ak : OA) : Nat->Prop:=λb=>b<=g\/(ag ≠ none/\b=aj ag)\/(ak ≠ none/\b=aj ak)
structure LI (V : World) (g : Nat) (pre : List Value) (ag : OA) (cg : Nat) (ak : OA) (ck : Nat) (gs : List TX) (Q : Lz) : Prop where
 pl : pre.length=6
 box : aZ V g (pre ++ [.slice ag gs.length cg,.slice none 0 0,.int .i64 0])
 so : V.ownsRow (g+1) 25 1 (.slice ag gs.length cg) gs.length (gs.map E0)
 rk : V.ownsRow (g+1) 3 1 (.slice ak Q.length ck) Q.length (Q.map (Value.int .i64))
 st : ag=none\/ak=none\/aj ag ≠ aj ak
 gx : ∀y ∈ gs,kE (LA g ag ak) V y.a y.T.length y.T
namespace LI
variable {V V' w5 : World} {g : Nat} {pre : List Value} {ag : OA} {cg : Nat} {ak : OA} {ck : Nat} {gs : List TX} {Q : Lz} {o : Obj}
theorem aa (h : LI V g pre ag cg ak ck gs Q) (hb : NS V V') : LI V' g pre ag cg ak ck gs Q :=
 ⟨h.pl,h.box.aa hb,aX h.so hb,aX h.rk hb,h.st,λy hy=>(h.gx y hy).aa hb⟩
theorem start (hp : pre.length=6) (h : aZ V g (pre ++ [.slice none 0 0,.slice none 0 0,.int .i64 0])) : LI V g pre none 0 none 0 [] [] :=
 ⟨hp,h,by simpa using bX,by simpa using bX,.inl rfl,λy hy=>by simp at hy⟩
theorem lt (h : LI V g pre ag cg ak ck gs Q) : ∀b,LA g ag ak b->b<V.heap.size:=λb hb=>by
 rcases hb with h1 | ⟨h1,rfl⟩ | ⟨h1,rfl⟩
 ·exact Nat.lt_of_le_of_lt h1 h.box.1
 ·exact (aM h.so h1).2
 ·exact (aM h.rk h1).2
theorem Is (h : LI V g pre ag cg ak ck gs Q) : cJ ag g:=by
 by_cases h1 : ag=none
 ·exact .inl h1
 ·exact .inr λe=>by have:=(aM h.so h1).1;omega
theorem IJ (h : LI V g pre ag cg ak ck gs Q) : cJ ak g:=by
 by_cases h1 : ak=none
 ·exact .inl h1
 ·exact .inr λe=>by have:=(aM h.rk h1).1;omega
theorem c6 (h : LI V g pre ag cg ak ck gs Q) : V.cell? ⟨g,6,none⟩=some (.slice ag gs.length cg):=h.box.cell 6 (by rw [Kv (by rw [h.pl];omega),h.pl];rfl)
theorem Ij (h : LI V g pre ag cg ak ck gs Q) {r : Int} {a5 : OA} {c5 : Nat}
  (hown : w5.ownsRow (g+1) 3 1 (.slice a5 (Q.length+1) c5) (Q.length+1) (Q.map (Value.int .i64) ++ [.int .i64 r])) (hg : (V.alloc o).grownBy w5 (Value.slice ak Q.length ck).ownBlock) (hap : ∀b,b<(V.alloc o).heap.size->cJ ak b->cJ a5 b) :
  LI w5 g pre ag cg a5 c5 gs (Q ++ [r])/\Below (g+1) V w5:=by
 have hM0 : aA V w5 (LA g ag ak) (LA g ag ak):=(Nn (aw V o) _).trans (Nu hg λh1=>.inr (.inr ⟨h1,rfl⟩));have hne : a5 ≠ none:=λe=>by
  obtain ⟨y,z,hv,hp⟩:=Nx hown;cases hv
  have:=hp (by omega);rw [e] at this;cases this
 have hsz : (V.alloc o).heap.size=V.heap.size+1:=by simp
 have hsub : ∀b,LA g ag a5 b->LA g ag ak b\/V.heap.size<=b:=λb hb=>by
  rcases hb with hb | hb | ⟨_,hb⟩
  ·exact .inl (.inl hb)
  ·exact .inl (.inr (.inl hb))
  ·rcases JV b V.heap.size with h1 | h1
   ·by_cases h2 : cJ ak b
    ·rcases hap b (by omega) h2 with h3 | h3
     ·exact absurd h3 hne
     ·exact absurd hb.symm h3
    ·exact .inl (.inr (.inr ⟨λe=>h2 (.inl e),JE λe=>h2 (.inr λe2=>e e2.symm)⟩))
   ·exact .inr h1
 have hM:=hM0.Fm hsub;have hblk : ∀b,b<V.heap.size->cJ ak b->w5.heap[b]? = V.heap[b]?:=λb h1 h3=>(hg.block b (by omega) λe=>h3.own _ _ e.symm).trans (MZ _ _ _ h1);have hgl:=h.box.1;have hapg : ag ≠ none->cJ ak (aj ag):=λh1=>by
  rcases h.st with h2 | h2 | h2
  ·exact absurd h2 h1
  ·exact .inl h2
  ·exact .inr λe=>h2 e.symm
 refine ⟨⟨h.pl,?_,AI h.so λh1=>hblk _ (aM h.so h1).2 (hapg h1),?_,?_,λy hy=>(h.gx y hy).As hM⟩,Nk ((aw V o).mono (by omega)) (h.rk.alloc o) hg (IZ _) (by rw [hsz];omega)⟩
 ·have hx:=h.box.alloc o;have hb9 : w5.heap[g]? = (V.alloc o).heap[g]?:=hg.block g (by omega) λe=>h.IJ.own _ _ e.symm;exact ⟨Jv hx.1 hg.size,λj v hv=>(JG (w:=V.alloc o) (a:=⟨g,j,none⟩) hb9).trans (hx.2.1 j v hv),λj=>(JJ (w:=V.alloc o) (a:=⟨g,j,none⟩) hb9).trans (hx.2.2 j)⟩
 ·rw [Jh,JR];exact hown
 ·by_cases h1 : ag=none
  ·exact .inl h1
  ·refine .inr (.inr λe=>?_);rcases hap _ (by have:=(aM h.so h1).2;omega) (hapg h1) with h3 | h3
   ·exact hne h3
   ·exact h3 e.symm
theorem Ig (h : LI V g pre ag cg ak ck gs Q) {x : TX} (hx : kE (LA g ag ak) V x.a x.T.length x.T) {a5 : OA} {c5 : Nat}
  (hown : w5.ownsRow (g+1) 25 1 (.slice a5 (gs.length+1) c5) (gs.length+1) (gs.map E0 ++ [E0 x])) (hg : (V.alloc o).grownBy w5 (Value.slice ag gs.length cg).ownBlock) (hap : ∀b,b<(V.alloc o).heap.size->cJ ag b->cJ a5 b) :
  LI (w5.setCell ⟨g,6,none⟩ (.slice a5 (gs.length+1) c5)) g pre a5 c5 ak ck (gs ++ [x]) Q/\Below g V (w5.setCell ⟨g,6,none⟩ (.slice a5 (gs.length+1) c5))/\aA V (w5.setCell ⟨g,6,none⟩ (.slice a5 (gs.length+1) c5)) (LA g ag ak) (LA g a5 ak):=by
 have hM0 : aA V (w5.setCell ⟨g,6,none⟩ (.slice a5 (gs.length+1) c5)) (LA g ag ak) (LA g ag ak) :=
  ((Nn (aw V o) _).trans (Nu hg λh1=>.inr (.inl ⟨h1,rfl⟩))).trans (aA.GC (I:=LA g ag ak) (p:=⟨g,6,none⟩) _ (.inl (IZ _)) _)
 have hne : a5 ≠ none:=λe=>by
  obtain ⟨y,z,hv,hp⟩:=Nx hown;cases hv
  have:=hp (by omega);rw [e] at this;cases this
 have hsz : (V.alloc o).heap.size=V.heap.size+1:=by simp
 have hsub : ∀b,LA g a5 ak b->LA g ag ak b\/V.heap.size<=b:=λb hb=>by
  rcases hb with hb | ⟨_,hb⟩ | hb
  ·exact .inl (.inl hb)
  ·rcases JV b V.heap.size with h1 | h1
   ·by_cases h2 : cJ ag b
    ·rcases hap b (by omega) h2 with h3 | h3
     ·exact absurd h3 hne
     ·exact absurd hb.symm h3
    ·exact .inl (.inr (.inl ⟨λe=>h2 (.inl e),JE λe=>h2 (.inr λe2=>e e2.symm)⟩))
   ·exact .inr h1
  ·exact .inl (.inr (.inr hb))
 have hM:=hM0.Fm hsub;have hblk : ∀b,b<V.heap.size->b ≠ g->cJ ag b->(w5.setCell ⟨g,6,none⟩ (.slice a5 (gs.length+1) c5)).heap[b]? = V.heap[b]?:=λb h1 h2 h3 =>
  (Jr _ _ _ _ h2).trans ((hg.block b (by omega) λe=>h3.own _ _ e.symm).trans (MZ _ _ _ h1))
 have hgl:=h.box.1;have hb5 : aZ w5 g (pre ++ [.slice ag gs.length cg,.slice none 0 0,.int .i64 0]):=by have hx:=h.box.alloc o;have hb9 : w5.heap[g]? = (V.alloc o).heap[g]?:=hg.block g (by omega) λe=>h.Is.own _ _ e.symm;exact ⟨Jv hx.1 hg.size,λj v hv=>(JG (w:=V.alloc o) (a:=⟨g,j,none⟩) hb9).trans (hx.2.1 j v hv),λj=>(JJ (w:=V.alloc o) (a:=⟨g,j,none⟩) hb9).trans (hx.2.2 j)⟩
 have hapB : cJ a5 g:=hap g (by omega) h.Is;have hapk : ak ≠ none->cJ ag (aj ak):=λh1=>by
  rcases h.st with h2 | h2 | h2
  ·exact .inl h2
  ·exact absurd h2 h1
  ·exact .inr h2
 have hset : (pre ++ [.slice ag gs.length cg,.slice none 0 0,.int .i64 0] : List Value).set 6 (.slice a5 (gs.length+1) c5)=pre ++ [.slice a5 (gs.length+1) c5,.slice none 0 0,.int .i64 0]:=by rw [Lr _ _ (by rw [h.pl];omega),h.pl];rfl
 refine ⟨⟨h.pl,?_,?_,AI h.rk λh1=>hblk _ (aM h.rk h1).2 (by have:=(aM h.rk h1).1;omega) (hapk h1),?_,λy hy=>?_⟩,?_⟩
 ·rw [Jh];have h9:=hb5.gv 6 (.slice a5 (gs.length+1) c5);rw [hset] at h9;exact h9
 ·rw [Jh,JR];exact dS hown _ (hapB.elim (λe=>.inl e) λe=>.inr e)
 ·by_cases h1 : ak=none
  ·exact .inr (.inl h1)
  ·refine .inr (.inr λe=>?_);rcases hap _ (by have:=(aM h.rk h1).2;omega) (hapk h1) with h3 | h3
   ·exact hne h3
   ·exact h3 e
 ·rcases List.mem_append.1 hy with hy | hy
  ·exact (h.gx y hy).As hM
  ·rw [List.mem_singleton.1 hy];exact hx.As hM
 ·refine ⟨?_,hM⟩;exact ((Nk ((aw V o).mono (show g+1<=V.heap.size by omega)) (h.so.alloc o) hg (IZ _) (by rw [hsz];omega)).mono (Nat.le_succ g)).setCell (p:=⟨g,6,none⟩) (IZ g) _
end LI
structure lT (w : World) (a : OA) (n : Nat) (l : Ll) : Prop where
 len : l.length=n
 pl : Pl a n
 max : n<=maxLen
 cell : ∀i,i<n->∀j,j<4->w.cell? ⟨aj a,aL a+i * 4+j,none⟩=some (.int .i64 (nth (an l i) j))
theorem lT.nil (w : World) (a : OA) : lT w a 0 []:=⟨rfl,λh=>by omega,by unfold maxLen;omega,λi h=>by omega⟩
def rW : Ll->List Value
 | []=>[]
 | r :: l=>.int .i64 (nth r 0) :: .int .i64 (nth r 1) :: .int .i64 (nth r 2) :: .int .i64 (nth r 3) :: rW l
theorem DL : ∀(l : Ll) (i j : Nat),i<l.length->j<4->(rW l)[i * 4+j]? = some (.int .i64 (nth (an l i) j))
 | [],i,j,h,_=>by simp at h
 | r :: l,0,j,_,hj=>by
  have e : an (r :: l) 0=r:=rfl;rw [e,rW];match j,hj with
  | 0,_=>rfl
  | 1,_=>rfl
  | 2,_=>rfl
  | 3,_=>rfl
 | r :: l,i+1,j,hi,hj=>by have e : an (r :: l) (i+1)=an l i:=rfl;have h:=DL l i j (by simpa using hi) hj;rw [e,rW,show (i+1) * 4+j=(i * 4+j)+1+1+1+1 by omega];simpa using h
theorem lT.own {w : World} {B : Nat} {e : TypeId} {a : OA} {k c : Nat} {l : Ll} (h : w.ownsRow B e 4 (.slice a k c) k (rW l)) (hl : l.length=k) : lT w a k l:=by
 rcases h.2 with ⟨hv,h0⟩ | ⟨g,cap,cur,hv,hg,hh,hn,hm,hs,ht⟩
 ·cases hv
  have hT : l=[]:=Jp hl;subst hT;exact lT.nil _ _
 ·cases hv
  refine ⟨hl,λ_=>rfl,by omega,λi hi j hj=>?_⟩;have hc:=World.ownsRow.cells h (g:=g) rfl _ _ (DL l i j (by omega) hj);rw [MF] at hc;simpa [aj,aL,KF] using hc
theorem z8 {P : Program} {w : World} {ops : Array Oper} {o : Oper} {ac : Act} {K : Act->World->Prop} {Q : Exit->Act->World->Prop} {E : Prop}
  (hg : o.guard=none) (s x : Operand) (t e : TypeId) (hop : o.op = .call { callee:=.builtin .append,args:=#[s,x],argTypes:=#[t,t] }) (z : Value) (bytes : Nat)
  (h1 : P.underlying t=some (.slice e)) (h2 : (P.info? e).map (λi=>(i.zero,i.size,i.bytes))=some (some z,4,bytes)) (hz : z.cells.size=4)
  (B : Nat) (a : OA) (n c : Nat) (xs : List Value) (hs : ac.eval s = .slice a n c) (hown : w.ownsRow B e 4 (.slice a n c) n xs)
  (g cc : Nat) (u0 u1 u2 u3 : Value) (hx : ac.eval x = .slice (some ⟨g,0,none⟩) 1 cc) (hu0 : w.cell? ⟨g,0,none⟩=some u0) (hu1 : w.cell? ⟨g,1,none⟩=some u1) (hu2 : w.cell? ⟨g,2,none⟩=some u2) (hu3 : w.cell? ⟨g,3,none⟩=some u3)
  (h1c : ∀u ∈ [u0,u1,u2,u3],u.oneCell'=true)
  (b2 : (n+1) * bytes<=140737488355328) (b3 : n+1<=maxLen) (hB : B<=w.heap.size)
  (hK : ∀a' c' w',w'.ownsRow B e 4 (.slice a' (n+1) c') (n+1) (xs ++ [u0,u1,u2,u3])->w.grownBy w' (Value.slice a n c).ownBlock->(∀b,b<w.heap.size->cJ a b->cJ a' b)->K (ac.put o.dst (.slice a' (n+1) c')) w') :
  if Region.wanted o (yielded ops ac.tmps)=true then Oper.wp P o ac w K Q else E:=by
 have hw : Region.wanted o (yielded ops ac.tmps)=true:=by simp [Region.wanted,hg]
 rw [I6 hw];obtain ⟨i,hi,hz0,hz1,hz2⟩ : ∃i,P.info? e=some i/\i.zero=some z/\i.size=4/\i.bytes=bytes:=by
  cases hp : P.info? e with
  | none=>rw [hp] at h2;cases h2
  | some i=>rw [hp] at h2;simp at h2;exact ⟨i,rfl,h2.1,h2.2.1,h2.2.2⟩
 obtain ⟨v',w',hr,h3,h4,_,h6⟩:=run_append_own_at (P:=P) w B t o.type e i z 4 bytes h1 hi hz0 hz1 hz2 hz (by decide) _ n xs hown ⟨g,0,none⟩ 1 cc [u0,u1,u2,u3] rfl
  (λj y hj=>by
   match j,hj with
   | 0,hj=>simp at hj;subst hj;simpa [Addr.add] using hu0
   | 1,hj=>simp at hj;subst hj;simpa [Addr.add] using hu1
   | 2,hj=>simp at hj;subst hj;simpa [Addr.add] using hu2
   | 3,hj=>simp at hj;subst hj;simpa [Addr.add] using hu3) h1c b3 b2 hB
 obtain ⟨a',c',rfl⟩ : ∃a' c',v' = .slice a' (n+1) c':=by
  rcases h3.2 with ⟨_,h0⟩ | ⟨g',cap,cur,rfl,_⟩
  ·omega
  ·exact ⟨_,cap,rfl⟩
 unfold Oper.wp execOp;simp only [hop,resolve,invoke,builtin,MG,MH,L0,Mb,Ke,MI,hs,hx,hr];refine hK a' c' w' h3 h4 λb hb hapt=>?_;have h:=hapt.own n c;rcases h6 with h6 | h6
 ·exact NQ (n:=n+1) (c:=c') (by rw [h6];exact h)
 ·exact NQ (n:=n+1) (c:=c') (by rw [h6];intro h7;cases h7;omega)
theorem kE.F0 {g : Nat} {ag ak : OA} {w : World} {a : OA} {n : Nat} {L : Ll} (h : kE (LA g ag ak) w a n L) : cH (g+1) w a n L :=
 ⟨h.len,h.pl,h.max,λhn=>M0 λh2=>h.no hn (.inl h2),λi hi=>by obtain ⟨b,m,c,h1,h2,h3⟩:=h.cell i hi;exact ⟨b,m,c,h1,h2,λhm=>M0 λh4=>h3 hm (.inl h4)⟩⟩
theorem fO {w : World} {B s : Nat} {e : TypeId} {a : OA} {n c : Nat} {xs : List Value} (h : w.ownsRow B e s (.slice a n c) n xs) (ha : a ≠ none) : B<=aj a/\aj a<w.heap.size:=by
 rcases h.2 with ⟨hv,_⟩ | ⟨g,cap,cur,hv,hg,hh,_⟩
 ·cases hv;exact absurd rfl ha
 ·cases hv;exact ⟨hg,(Array.getElem?_eq_some_iff.1 hh).1⟩
theorem iT {w w' : World} {B s : Nat} {e : TypeId} {a : OA} {n c : Nat} {xs : List Value} (h : w.ownsRow B e s (.slice a n c) n xs) (h1 : a ≠ none->w'.heap[aj a]? = w.heap[aj a]?) : w'.ownsRow B e s (.slice a n c) n xs:=by
 refine ⟨h.1,?_⟩;rcases h.2 with h2 | ⟨g,cap,cur,hv,hg,hh,r⟩
 ·exact .inl h2
 ·cases hv
  exact .inr ⟨g,_,cur,rfl,hg,by rw [show w'.heap[g]? = w.heap[g]? from h1 (by simp)];exact hh,r⟩
theorem EW {P M : Int} {mod : Lz} {m : Nat} {L : Ll} (hE : aJ P M mod m L=0) {v : Int} (hv : 0<=v/\v<=(L.length : Int)) (hl : L.length<=64) :
  ql L.length ((eo (ah P M.toNat mod).ops L m).map (·.2)) v=(dO L.length v ((eo (ah P M.toNat mod).ops L m).map (·.2)) ((eo (ah P M.toNat mod).ops L m).map (·.2)).length,0):=by
 obtain ⟨m',e,hm1,hm64,_,_⟩:=br hE;obtain ⟨h1,h2⟩:=eH hE;unfold ql;rw [I6];refine ⟨?_,List.all_eq_true.2 λx hx=>?_⟩
 ·unfold Dp;simp [Jl];omega
 ·obtain ⟨t,ht,rfl⟩:=List.mem_map.1 hx;have h3:=dQ h1 t ht;unfold qw;simp;omega
theorem aA.Ih {w w' : World} {M M' I : Nat->Prop} (h : aA w w' M M') (h1 : ∀x,M x->I x) (h2 : ∀x,M' x->I x) : aA w w' I I :=
 ⟨h.os,h.tape,h.output,h.size,λb hb hI=>h.block b hb λhm=>hI (h1 b hm),λb hb=>.inl hb⟩
theorem A5 : (prog.info? 62).map (λi=>(i.zero,i.size,i.bytes))=some (some (.agg #[.int .i64 0,.int .i64 0,.int .i64 0,.int .i64 0]),4,32):=by kernel_rfl
end
section
variable {O : aS} {El : Int->Prop} {m : Nat} {L : Ll}
structure IP (O : aS) (El : Int->Prop) (m : Nat) (L : Ll) (y t : Lz) (k : Nat) (st : LS) : Prop where
 rws : cw El m st.rows
 len : st.rows.length=L.length
 vc : Vc El m st.sum
 top : st.top=k
 kl : k<=L.length
 sup : iB O El m L st.rows
 sub : iB O El m st.rows L
 cos : ∃f,RS O El m L f/\(∀x,x<m->El (f x))/\∀x,x<m->nth st.sum x=O.add (nth y x) (f x)
 one : ∀i,i<k->nth (an st.rows i) (nth t i).toNat=1
 zero : ∀j i,j<k->j<i->i<L.length->nth (an st.rows i) (nth t j).toNat=0
 sz : ∀j,j<k->nth st.sum (nth t j).toNat=0
end
section
variable {P M : Int} {mod : Lz} {m : Nat} {L : Ll}
end
def lU (P M : Int) (mod : Lz) (N : Int) (L : Ll) (y : Lz) : Int:=if aJ P M mod N L=0 then rj (aN P M) y N.toNat else aJ P M mod N L
theorem lT.aa {w w' : World} {a : OA} {n : Nat} {l : Ll} (h : lT w a n l) (hb : NS w w') : lT w' a n l:=⟨h.len,h.pl,h.max,λi hi j hj=>aB hb (h.cell i hi j hj)⟩
theorem sD (a : OA) (n c : Nat) (l : Ll) (a' : OA) (n' c' : Nat) (w : World) (h : lT w a n l) (h' : lT w a' n' l) (hn : n<=1000) :
  Calls prog 18 #[.slice a n c,.slice a' n' c'] w λe w'=>e = .returned (.bool true)/\NS w w':=by
 obtain rfl : n'=n:=by rw [<- h.len,h'.len]
 have hpl:=h.pl;have hpl':=h'.pl;go_enter func18,ntmps18;go_wp2_with fail;go_loopw [5] (λiv wr=>∃k : Nat,k<=n'/\iv = .int .i64 k/\NS w wr) (λiv _=>n' - (intOf iv).toNat);case atStart=>exact ⟨0,I7 _,rfl,I1 _ _⟩
 case round =>
  obtain ⟨k,hk,rfl,hbr⟩:=hrel
  generalize wr=V at *
  by_cases hlt : k<n'
  ·have r1:=(h.aa hbr).cell k hlt
   have r2:=(h'.aa hbr).cell k hlt
   have a0:=r1 0 (by omega)
   have a1:=r1 1 (by omega)
   have a2:=r1 2 (by omega)
   have a3:=r1 3 (by omega)
   have b0:=r2 0 (by omega)
   have b1:=r2 1 (by omega)
   have b2:=r2 2 (by omega)
   have b3:=r2 3 (by omega)
   rw [MQ] at a0 b0
   clear r1 r2
   generalize nth (an l k) 0=x0 at *
   generalize nth (an l k) 1=x1 at *
   generalize nth (an l k) 2=x2 at *
   generalize nth (an l k) 3=x3 at *
   go_wp2_with fail
   go_quiet (fail)
   go_wp2_with fail
   go_roundw
   case rel=>exact ⟨k+1,by omega,by go_num,Nh hbr (Nq ⟨_,rfl⟩)⟩
   case measure=>simp [intOf] <;> omega
  ·obtain rfl : k=n':=by omega
   go_wp2_with fail
   go_ret
   exact ⟨rfl,hbr⟩
end Go.Proofs.YtcfmiocdlcapoaaGreat
