import Derived.Test.YtcfmiocdlcapoaaGreatK16
import Derived.Test.YtcfmiocdlcapoaaGreatK17
import Derived.Test.YtcfmiocdlcapoaaGreatK9
import Derived.Test.YtcfmiocdlcapoaaGreatK10
import Derived.Test.YtcfmiocdlcapoaaGreatK18
import Derived.Test.YtcfmiocdlcapoaaGreatK7
import Derived.Test.YtcfmiocdlcapoaaGreatK8
import Derived.Test.YtcfmiocdlcapoaaGreatK12
namespace Go.Proofs.YtcfmiocdlcapoaaGreat
set_option linter.unusedVariables false
set_option linter.unusedSimpArgs false
set_option linter.unusedSectionVars false
set_option maxRecDepth 100000
set_option maxHeartbeats 4000000
open Go.RowKit
theorem tA (f : Int->Int) : ∀(n : Nat) (y z : Int),y<=z->z<y+n->f z=1->f (invTo f n y)=1/\y<=invTo f n y/\invTo f n y<y+n
 | 0,y,z,h1,h2,_=>by omega
 | n+1,y,z,h1,h2,hz=>by
  unfold invTo
  split
  ·exact ⟨by assumption,by omega,by omega⟩
  ·rename_i hn
   have hne : y ≠ z:=λe=>hn (e ▸ hz)
   have:=tA f n (y+1) z (by omega) (by omega) hz
   exact ⟨this.1,by omega,by omega⟩
theorem fU {P M : Int} {mod : Lz} (h : bA P M mod=true) : ∃m : Nat,M=m/\ee P m=(aa P m mod).El/\((aa P m mod).q : Int)=aK P M/\cK (aa P m mod).ops (ee P m)/\IL (aa P m mod).ops (fw P m mod) (ee P m) /\
  ∀p,ee P m p->p ≠ 0->(ei P m mod p=1 ↔ p=1):=by
 have hF:=eX h
 obtain ⟨m,y,rfl,hr,h256,hsh,hq,g⟩:=tL h
 have hrf : RF P m:=by
  obtain ⟨m',e,h2,_⟩:=eW (by rw [cP];exact h)
  have : m=m':=by omega
  rw [this];exact h2
 rw [Int.toNat_natCast] at hF
 have e : ee P m=(aa P m mod).El:=by
  funext x;simp only [de.El,aa,ee];rw [hq]
 rw [<- e] at hF
 have hq2:=g.q2
 have hmul : ∀x z,ee P m x->ee P m z->(aa P m mod).ops.mul x z=mulR P m mod x z:=λx z hx hz=>by
  rw [Iu hrf];exact g.B8 hx hz
 have hqo : ((aK P m).toNat : Int)=aK P m:=by omega
 have hinv : ∀x,ee P m x->x ≠ 0->(aa P m mod).ops.inv x=ei P m mod x:=by
  intro x hx h0
  have hi:=hF.cl.inv x hx h0
  have hm:=hF.mul_inv x hx h0
  rw [hmul x _ hx hi] at hm
  have hi0 : (aa P m mod).ops.inv x ≠ 0:=by
   intro e0
   have h2:=hF.mul_inv x hx h0
   rw [e0,hF.dA hx] at h2
   exact absurd h2 (by decide)
  have hb1:=hi.1
  have hb2:=hi.2
  obtain ⟨h1,h2,h3⟩:=tA (mulR P m mod x) ((aK P m).toNat - 1) 1 _ (by omega) (by omega) hm
  have hel : ee P m (ei P m mod x):=⟨by unfold ei;omega,by unfold ei;omega⟩
  have h4 : (aa P m mod).ops.mul x (ei P m mod x)=1:=by rw [hmul x _ hx hel];exact h1
  have h5:=hF.mul_inv x hx h0
  have e1 : (aa P m mod).ops.mul ((aa P m mod).ops.inv x) ((aa P m mod).ops.mul x (ei P m mod x))=ei P m mod x:=by
   rw [<- hF.mul_assoc _ x _ hi hx hel,hF.mul_comm _ x hi hx,h5,hF.one_mul _ hel]
  rw [h4,hF.je hi] at e1
  exact e1
 refine ⟨m,rfl,e,hqo,hF,⟨λx z _ _=>rfl,hmul,λx _=>rfl,hinv⟩,λp hp h0=>?_⟩
 rw [<- hinv p hp h0]
 have hi:=hF.cl.inv p hp h0
 have hm:=hF.mul_inv p hp h0
 constructor
 ·intro e1;rw [e1,hF.je hp] at hm;exact hm
 ·intro e1;rw [e1] at hm hi ⊢;rw [hF.one_mul _ hi] at hm;exact hm
theorem ba {P M : Int} {mod : Lz} {N : Int} {L : Ll} (h : aL P M mod N L=0) : ∃n : Nat,N=n/\1<=n/\n<=64/\cK (aa P M.toNat mod).ops (aa P M.toNat mod).El/\bH (aa P M.toNat mod).El n L:=by
 obtain ⟨m,rfl,h1,h2,_,hR⟩:=eJ h
 exact ⟨m,rfl,h1,h2,eX (bh h).1,hR⟩
section
variable {P M : Int} {mod : Lz} {n : Nat} {L : Ll}
end
def qp (n : Nat) (Q : Lz) : Prop:=∀j,j<Q.length->0<=nth Q j/\nth Q j<n
theorem ql (f : Lz->Lz) (L : Ll) {k : Nat} (hk : k<L.length) : aj (L.map f) k=f (aj L k):=by
 rw [aE (by simpa using hk),aE hk];simp
section
open Go.RowKit
end
section
open Go.RowKit
end
theorem DZ (a : OA) (n c : Nat) (l : Lz) (v : Int) (w : World) (h : Ints w a n l) :
  Calls Tryz.prog 131 #[.slice a n c,.int .i64 v] w λe w'=>∃z : Int,e = .returned (.int .i64 z)/\(0<=z ↔ v ∈ l)/\w'=w:=by
 have Hl:=Z5 h.len
 have hpl:=h.pl
 have hmax:=h.max
 unfold maxLen at hmax
 go_enter Tryz.func131,Tryz.ntmps131
 go_wp2_with fail
 go_loopw [8] (λiv wr=>∃k : Nat,k<=n/\iv = .int .i64 k/\Hid (∀j,j<k->nth l j ≠ v)/\wr=w) (λi _=>n - (intOf i).toNat)
 case atStart=>exact ⟨0,Nat.zero_le _,rfl,λj hj=>by omega,rfl⟩
 case round =>
  obtain ⟨k,hk,rfl,hno,rfl⟩:=hrel
  by_cases hlt : k<n
  ·have c1:=h.cell k hlt
   by_cases he : nth l k=v
   ·have he' : (v == nth l k)=true:=by rw [he];simp
    have Hm : Hid (v ∈ l):=by show v ∈ l;rw [<- he];exact aN (by rw [Hl.out];exact hlt)
    clear he
    go_wp2_with fail
    go_ret
    exact ⟨k,rfl,⟨λ_=>Hm.out,λ_=>Int.natCast_nonneg _⟩,rfl⟩
   ·have he' : (v == nth l k)=false:=by simpa using λe=>he e.symm
    have Hn2 : Hid (∀j,j<k+1->nth l j ≠ v):=λj hj=>by
     by_cases e : j=k
     ·subst e;exact he
     ·exact hno.out j (by omega)
    clear he
    go_wp2_with fail
    go_roundw
    case rel=>exact ⟨k+1,by omega,by go_num,Hn2.out,by simp⟩
    case measure=>simp [intOf] <;> omega
  ·obtain rfl : k=n:=by omega
   have Hm : Hid (¬ v ∈ l):=λhm=>by
    obtain ⟨j,hj,e⟩:=List.mem_iff_getElem.1 hm
    rw [<- ai hj] at e
    exact hno.out j (by have:=Hl.out;omega) e
   go_wp2_with fail
   go_ret
   exact ⟨-1,rfl,⟨λh=>absurd h (by omega),λh=>absurd h Hm.out⟩,rfl⟩
theorem cB (a : OA) (n c : Nat) (l : Lz) (v : Int) (w : World) (h : Ints w a n l) :
  Calls Tryz.prog 68 #[.slice a n c,.int .i64 v] w λe w'=>e = .returned (.bool (decide (v ∈ l)))/\w'=w:=by
 go_enter Tryz.func68,Tryz.ntmps68
 go_wp2_with fail
 refine (DZ a n c l v w h).mono ?_
 rintro e w1 ⟨z,rfl,hz,rfl⟩
 by_cases h0 : 0<=z
 ·have Hz : Hid (decide (v ∈ l)=true):=by show _=_;simpa using hz.1 h0
  have h0' : decide (0<=z)=true:=by simpa using h0
  clear hz h0
  go_wp2_with fail
  go_ret
  exact ⟨aY Hz.out.symm,rfl⟩
 ·have Hz : Hid (decide (v ∈ l)=false):=by show _=_;simpa using λh=>h0 (hz.2 h)
  have h0' : decide (0<=z)=false:=by simpa using h0
  clear hz h0
  go_wp2_with fail
  go_ret
  exact ⟨aY Hz.out.symm,rfl⟩

theorem zN {l : Lz} {x : Int} {i : Nat} (h : i<l.length) : nth (l ++ [x]) i=nth l i:=by
 simp only [nth,List.getD_eq_getElem?_getD];rw [List.getElem?_append_left h]
theorem Gf (l : Lz) (x : Int) : nth (l ++ [x]) l.length=x:=by simp [nth]
theorem zY (l : Lz) (x : Int) : ∀k,k<=l.length->grL (l ++ [x]) k=grL l k
 | 0,_=>rfl
 | k+1,h=>by rw [grL,grL,zN (by omega),zY l x k (by omega)]
theorem wq (l : Lz) (x : Int) : grL (l ++ [x]) (l ++ [x]).length=x.toNat :: grL l l.length:=by
 rw [List.length_append,List.length_singleton,grL,Gf,zY l x l.length (Nat.le_refl _)]
def gA (Q : Lz) : LN:=grL Q Q.length
theorem wD (l : Lz) (x : Int) : gA (l ++ [x])=x.toNat :: gA l:=wq l x
theorem mM {Q : Lz} {x : Nat} : x ∈ gA Q ↔ ∃y ∈ Q,y.toNat=x:=by
 unfold gA
 rw [gV]
 constructor
 ·rintro ⟨j,hj,e⟩;exact ⟨nth Q j,aN hj,e⟩
 ·rintro ⟨y,hy,e⟩
  obtain ⟨j,hj,rfl⟩:=List.mem_iff_getElem.1 hy
  exact ⟨j,hj,by rw [ai hj];exact e⟩
section
variable {O : aQ} {El : Int->Prop} {m : Nat} {L : Ll}
def sK (O : aQ) (L : Ll) (Q : Lz) : Nat:=(i7 O L Q).length
theorem lU (F : cK O El) (hL : bH El m L) (Q : Lz) : Rk (nR O El L.length (bf L)) (gA Q) (sK O L Q):=EF F hL Q
theorem xx (F : cK O El) (hL : bH El m L) (Q : Lz) : ∀k,Rk (nR O El L.length (bf L)) (gA (cI O L Q k).2) (cI O L Q k).2.length /\
  (∀x ∈ gA (cI O L Q k).2,x ∈ grL Q k)/\(∀x ∈ grL Q k,nR O El L.length (bf L) (gA (cI O L Q k).2) x)
 | 0=>⟨.nil,λx hx=>by simp [gA,cI,grL] at hx,λx hx=>by simp [grL] at hx⟩
 | k+1=>by
  obtain ⟨h1,h2,h3⟩:=xx F hL Q k
  obtain ⟨g1,g2,_⟩:=xu F hL Q k
  have hC:=iI F hL
  have hc:=dN hL F.zero
  have htk:=kD F g1 (hc (nth Q k).toNat)
  have hcl : nR O El L.length (bf L) (grL Q k) (nth Q k).toNat ↔ (cI O L Q k).1.dQ O (bf L (nth Q k).toNat)=false:=by
   rw [htk]
   exact ⟨λh φ hφ h0=>h φ hφ ((g2 φ hφ).2 h0),λh φ hφ h0=>h φ hφ ((g2 φ hφ).1 h0)⟩
  rw [cI]
  by_cases ht : (cI O L Q k).1.dQ O (bf L (nth Q k).toNat)=true
  ·simp only [if_pos ht]
   rw [wD,List.length_append,List.length_singleton]
   refine ⟨.ind _ (λh=>?_) h1,λx hx=>?_,λx hx=>?_⟩
   ·have:=hcl.1 (hC.sub h2 h)
    rw [ht] at this;exact absurd this (by decide)
   ·rw [grL]
    rcases List.mem_cons.1 hx with rfl | hx
    ·exact List.mem_cons_self ..
    ·exact List.mem_cons_of_mem _ (h2 x hx)
   ·rw [grL] at hx
    rcases List.mem_cons.1 hx with rfl | hx
    ·exact hC.mem _ _ (List.mem_cons_self ..)
    ·exact hC.sub (λy hy=>List.mem_cons_of_mem _ hy) (h3 x hx)
  ·simp only [if_neg ht]
   have hf : (cI O L Q k).1.dQ O (bf L (nth Q k).toNat)=false:=by simpa using ht
   refine ⟨h1,λx hx=>?_,λx hx=>?_⟩
   ·rw [grL];exact List.mem_cons_of_mem _ (h2 x hx)
   ·rw [grL] at hx
    rcases List.mem_cons.1 hx with rfl | hx
    ·exact hC.mono _ _ h3 _ (hcl.2 hf)
    ·exact h3 x hx
theorem GD (F : cK O El) (hL : bH El m L) {Q Q' : Lz} (h : ∀x,x ∈ gA Q ↔ x ∈ gA Q') : sK O L Q=sK O L Q':=Rk.same (iI F hL) (lU F hL Q) (lU F hL Q') h
theorem F1 (F : cK O El) (hL : bH El m L) {Q Q' : Lz} (h : Q.Perm Q') : sK O L Q=sK O L Q' :=
 GD F hL λx=>by
  rw [mM,mM]
  exact ⟨λ⟨y,hy,e⟩=>⟨y,h.mem_iff.1 hy,e⟩,λ⟨y,hy,e⟩=>⟨y,h.mem_iff.2 hy,e⟩⟩
end
def frTo (b : Bool) (U : Lz) : Nat->Lz
 | 0=>[]
 | k+1=>if decide ((k : Int) ∈ U)=b then frTo b U k ++ [(k : Int)] else frTo b U k
theorem cJ {b : Bool} {U : Lz} {x : Int} : ∀k,x ∈ frTo b U k ↔ ∃j : Nat,j<k/\x=j/\decide ((j : Int) ∈ U)=b
 | 0=>by simp [frTo]
 | k+1=>by
  rw [frTo]
  by_cases h : decide ((k : Int) ∈ U)=b
  ·rw [if_pos h,List.mem_append,cJ k,List.mem_singleton]
   constructor
   ·rintro (⟨j,hj,e,hb⟩ | e)
    ·exact ⟨j,by omega,e,hb⟩
    ·exact ⟨k,by omega,e,h⟩
   ·rintro ⟨j,hj,e,hb⟩
    by_cases ejk : j=k
    ·subst ejk;exact .inr e
    ·exact .inl ⟨j,by omega,e,hb⟩
  ·rw [if_neg h,cJ k]
   constructor
   ·rintro ⟨j,hj,e,hb⟩;exact ⟨j,by omega,e,hb⟩
   ·rintro ⟨j,hj,e,hb⟩
    by_cases ejk : j=k
    ·subst ejk;exact absurd hb h
    ·exact ⟨j,by omega,e,hb⟩
theorem eQ (b : Bool) (U : Lz) : ∀k,(frTo b U k).length<=k
 | 0=>Nat.le_refl _
 | k+1=>by
  have:=eQ b U k
  rw [frTo];split <;> simp <;> omega
theorem pd (U : Lz) : ∀k,(frTo false U k).length+(frTo true U k).length=k
 | 0=>rfl
 | k+1=>by
  have:=pd U k
  rw [frTo,frTo]
  by_cases h : (k : Int) ∈ U
  ·simp [h];omega
  ·simp [h];omega
def fA (m : Nat) (U : Lz) : Lz:=frTo false U m ++ frTo true U m
theorem mN (m : Nat) (U : Lz) : (fA m U).length=m:=by rw [fA,List.length_append,pd]
theorem uy {m : Nat} {U : Lz} {x : Int} : x ∈ fA m U ↔ ∃j : Nat,j<m/\x=j:=by
 rw [fA,List.mem_append,cJ,cJ]
 constructor
 ·rintro (⟨j,hj,e,_⟩ | ⟨j,hj,e,_⟩) <;> exact ⟨j,hj,e⟩
 ·rintro ⟨j,hj,e⟩
  by_cases h : (j : Int) ∈ U
  ·exact .inr ⟨j,hj,e,by simpa using h⟩
  ·exact .inl ⟨j,hj,e,by simpa using h⟩
theorem Ci (m : Nat) (U : Lz) : qp m (fA m U):=λj hj=>by
 obtain ⟨i,hi,e⟩:=uy.1 (aN hj)
 omega
def dI (U S : Lz) : Nat->Int
 | 0=>0
 | k+1=>if nth S k ∈ U then dI U S k else dI U S k+1
theorem nf (U S : Lz) : ∀k,0<=dI U S k/\dI U S k<=k
 | 0=>by simp [dI]
 | k+1=>by
  have:=nf U S k
  rw [dI];split <;> omega
theorem yS {U S : Lz} : ∀k,k<=S.length->dI U S k ≠ 0->∃x ∈ S,¬ x ∈ U
 | 0,_,h=>absurd rfl h
 | k+1,hk,h=>by
  rw [dI] at h
  split at h
  ·exact yS k (by omega) h
  ·rename_i h1;exact ⟨_,aN (by omega),h1⟩
def cX (O : aQ) (L : Ll) (m : Nat) (U : Lz) : Lz:=i7 O L (fA m U)
def famGo (O : aQ) (L : Ll) (m : Nat) : Nat->Lz->List (Lz × Int)->List (Lz × Int)
 | 0,_,T=>T
 | f+1,U,T=>if dI U (cX O L m U) (cX O L m U).length=0 then T else famGo O L m f (U ++ bP (cX O L m U)) (T ++ [(bP (cX O L m U),dI U (cX O L m U) (cX O L m U).length)])
def fu (O : aQ) (L : Ll) (m : Nat) : List (Lz × Int):=famGo O L m (m+1) [] []
theorem vJ {U V : Lz} (h : ∀x ∈ U,x ∈ V) : ∀k,(frTo false V k).length<=(frTo false U k).length
 | 0=>Nat.le_refl _
 | k+1=>by
  have ih:=vJ h k
  rw [frTo,frTo]
  by_cases h1 : (k : Int) ∈ U
  ·simp [h1,h _ h1];exact ih
  ·by_cases h2 : (k : Int) ∈ V
   ·simp [h1,h2];omega
   ·simp [h1,h2];exact ih
theorem vP {U V : Lz} (h : ∀x ∈ U,x ∈ V) {x : Nat} (hx : ¬ (x : Int) ∈ U) (hv : (x : Int) ∈ V) : ∀k,x<k->(frTo false V k).length<(frTo false U k).length
 | 0,hk=>by omega
 | k+1,hk=>by
  by_cases e : x=k
  ·subst e
   have ih:=vJ h x
   rw [frTo,frTo]
   simp [hx,hv];omega
  ·have ih:=vP h hx hv k (by omega)
   rw [frTo,frTo]
   by_cases h1 : (k : Int) ∈ U
   ·simp [h1,h _ h1];exact ih
   ·by_cases h2 : (k : Int) ∈ V
    ·simp [h1,h2];omega
    ·simp [h1,h2];exact ih
theorem mV (O : aQ) (L : Ll) (Q : Lz) : ∀k,k<=Q.length->∀x ∈ (cI O L Q k).2,x ∈ Q
 | 0,_,x,hx=>by simp [cI] at hx
 | k+1,hk,x,hx=>by
  rw [cI] at hx
  split at hx
  ·rcases List.mem_append.1 hx with hx | hx
   ·exact mV O L Q k (by omega) x hx
   ·rw [List.mem_singleton] at hx;rw [hx];exact aN (by omega)
  ·exact mV O L Q k (by omega) x hx
theorem CB {O : aQ} {L : Ll} {m : Nat} {U : Lz} {x : Int} (hx : x ∈ cX O L m U) : ∃j : Nat,j<m/\x=j:=uy.1 (mV O L (fA m U) _ (Nat.le_refl _) x hx)
theorem tU {O : aQ} {L : Ll} {m : Nat} {U : Lz} (h : dI U (cX O L m U) (cX O L m U).length ≠ 0) : (frTo false (U ++ bP (cX O L m U)) m).length<(frTo false U m).length:=by
 obtain ⟨x,hx,hn⟩:=yS _ (Nat.le_refl _) h
 obtain ⟨j,hj,rfl⟩:=CB hx
 exact vP (λy hy=>List.mem_append.2 (.inl hy)) hn (List.mem_append.2 (.inr ((dw _).mem_iff.2 hx))) m hj
def zX (O : aQ) (L : Ll) (Q : Lz) (most : Nat) : Lz:=(i7 O L Q).take most
def kd (m : Nat) (s z : Lz) : Lz:=bP z ++ frTo false (s ++ z) m
structure lB where
 M : Nat
 W : Nat
 cos : Bool
 y : Lz
def vT (m : Nat) (s t : Lz) : Bool:=bF m t && t.all λx=>decide (¬ x ∈ s)
structure LS where
 rows : Ll
 sum : Lz
 top : Nat
def wP (O : aQ) (v : Lz) (i : Nat) (r : Lz) : Lz :=
 if nth v i=0 then v else List.zipWith (λa y=>if y=0 then a else O.add a (O.neg (O.mul (nth v i) y))) v r
def pY (O : aQ) (t i : Nat) (L : Ll) : Nat->Ll
 | 0=>L
 | l+1=>if t<l then (pY O t i L l).set l (wP O (aj (pY O t i L l) l) i (aj (pY O t i L l) t)) else pY O t i L l
def Fw (O : aQ) (L : Ll) (t k i : Nat) : Ll :=
 pY O t i ((bm L t k).set t ((aj (bm L t k) t).map (O.mul (O.inv (nth (aj (bm L t k) t) i))))) L.length
def Iq (O : aQ) (st : LS) (i : Nat) : LS :=
 if bu st.rows i st.top=st.rows.length then st
 else ⟨Fw O st.rows st.top (bu st.rows i st.top) i,wP O st.sum i (aj (Fw O st.rows st.top (bu st.rows i st.top) i) st.top),st.top+1⟩
def ER (O : aQ) (L : Ll) (y t : Lz) : Nat->LS
 | 0=>⟨L,y,0⟩
 | k+1=>Iq O (ER O L y t k) (nth t k).toNat
def Gw (s v : Lz) : Nat->Nat
 | 0=>0
 | k+1=>if nth v k ≠ 0/\¬ (k : Int) ∈ s then Gw s v k+1 else Gw s v k
def A3 (O : aQ) (L : Ll) (y s t : Lz) : Nat:=Gw s (ER O L y t t.length).sum (ER O L y t t.length).sum.length
def eY (O : aQ) (L : Ll) (m : Nat) (C : lB) (s t : Lz) : Bool :=
 vT m s t && (decide ((i7 O L t).length=t.length) &&
  if C.cos=true then decide ((i7 O L (frTo false s m)).length=t.length) && decide (C.W<s.length+A3 O L C.y s t) else decide (t.length=C.M))
def yK (C : lB) (s z t : Lz) : Lz:=if s.length<C.W then t.filter λx=>decide (¬ x ∈ z) else []
def kfol (F : Lz->Lz->Ll->Option Ll) (s : Lz) : Lz->Lz->Ll->Option Ll
 | _,[],ts=>some ts
 | z,k :: ks,ts=>match F (s ++ [k]) z ts with
  | none=>none
  | some ts'=>kfol F s (z ++ [k]) ks ts'
def folS (O : aQ) (L : Ll) (m : Nat) (C : lB) : Nat->Lz->Lz->Ll->Option Ll
 | 0,s,_,ts=>match ts with
  | []=>none
  | t :: ts=>if eY O L m C s t=true then some ts else none
 | d+1,s,z,ts=>match ts with
  | []=>none
  | t :: ts=>if eY O L m C s t=true then kfol (folS O L m C d) s z (yK C s z t) ts else none
def Cc (O : aQ) (L : Ll) (m : Nat) (C : lB) (T : Ll) : Int :=
 match folS O L m C C.W [] [] T with
 | some []=>0
 | _=>13
def fS (O : aQ) (L : Ll) (m : Nat) (C : lB) (s z : Lz) : Lz:=bP (zX O L (kd m s z) (if C.cos=true then m else C.M))
def iF (F : Lz->Lz->Ll->Int × Ll) (s : Lz) : Lz->Lz->Ll->Int × Ll
 | _,[],T=>(0,T)
 | z,k :: ks,T=>if (F (s ++ [k]) z T).1=0 then iF F s (z ++ [k]) ks (F (s ++ [k]) z T).2 else ((F (s ++ [k]) z T).1,[])
def kU (O : aQ) (L : Ll) (m : Nat) (C : lB) : Nat->Lz->Lz->Ll->Int × Ll
 | 0,s,z,T=>if eY O L m C s (fS O L m C s z)=true then if T.length=65536 then (8,[]) else (0,T ++ [fS O L m C s z]) else (11,[])
 | d+1,s,z,T=>if eY O L m C s (fS O L m C s z)=true then if T.length=65536 then (8,[]) else iF (kU O L m C d) s z (yK C s z (fS O L m C s z)) (T ++ [fS O L m C s z]) else (11,[])
def vj (O : aQ) (L : Ll) (m : Nat) (C : lB) : Int × Ll:=kU O L m C C.W [] [] []
theorem ze (O : aQ) (L : Ll) (Q : Lz) {k : Nat} : ∀j,k<=j->(cI O L Q k).2 <+: (cI O L Q j).2
 | 0, h => by
     obtain rfl : k = 0 := by omega
     exact List.prefix_rfl
 | j+1,h=>by
  by_cases e : k=j+1
  ·subst e;exact List.prefix_rfl
  ·refine (ze O L Q j (by omega)).trans ?_
   rw [cI]
   split
   ·exact List.prefix_append _ _
   ·exact List.prefix_rfl
theorem FT {O : aQ} {L : Ll} {Q : Lz} {k most : Nat} (hk : k<=Q.length) (h : (cI O L Q k).2.length=most) : zX O L Q most=(cI O L Q k).2:=by
 obtain ⟨l,hl⟩:=ze O L Q Q.length hk
 rw [zX,i7,<- hl,<- h,List.take_left]
theorem IG {O : aQ} {L : Ll} {Q : Lz} {most : Nat} (h : (cI O L Q Q.length).2.length<=most) : zX O L Q most=(cI O L Q Q.length).2:=by
 rw [zX,i7,List.take_of_length_le h]
theorem Cb (O : aQ) (L : Ll) (Q : Lz) : ∀k,(cI O L Q k).2.length<=k
 | 0=>Nat.le_refl _
 | k+1=>by
  have ih:=Cb O L Q k
  rw [cI]
  split
  ·simp;omega
  ·dsimp only;omega
theorem E9 (O : aQ) (L : Ll) (Q : Lz) : (i7 O L Q).length<=Q.length:=Cb O L Q _
theorem Gz {O : aQ} {L : Ll} {Q : Lz} {most : Nat} (h : Q.length<=most) : zX O L Q most=i7 O L Q :=
 List.take_of_length_le (Nat.le_trans (E9 O L Q) h)
theorem Cw {O : aQ} {L : Ll} {Q : Lz} {most : Nat} : ∀x ∈ zX O L Q most,x ∈ Q:=λx hx =>
 mV O L Q Q.length (Nat.le_refl _) x (List.mem_of_mem_take hx)
theorem FE (m : Nat) (s z : Lz) : (kd m s z).length<=z.length+m:=by
 unfold kd
 have:=eQ false (s ++ z) m
 rw [List.length_append,eG];omega
theorem zo {m : Nat} {s z : Lz} {x : Int} (h : x ∈ kd m s z) : x ∈ z\/(0<=x/\x<m/\¬ x ∈ s/\¬ x ∈ z):=by
 unfold kd at h
 rcases List.mem_append.1 h with h | h
 ·exact .inl ((dw z).mem_iff.1 h)
 ·obtain ⟨j,hj,rfl,hd⟩:=(cJ m).1 h
  have : ¬ (j : Int) ∈ s ++ z:=by simpa using hd
  rw [List.mem_append] at this
  exact .inr ⟨by omega,by omega,λh=>this (.inl h),λh=>this (.inr h)⟩
theorem F8 {m : Nat} {s t : Lz} (h : vT m s t=true) : bF m t=true/\∀x ∈ t,¬ x ∈ s:=by
 unfold vT at h
 rw [Bool.and_eq_true,List.all_eq_true] at h
 exact ⟨h.1,λx hx=>by simpa using h.2 x hx⟩
theorem En {O : aQ} {L : Ll} {m : Nat} {C : lB} {s t : Lz} (h : eY O L m C s t=true) : bF m t=true/\∀x ∈ t,¬ x ∈ s:=by
 unfold eY at h
 rw [Bool.and_eq_true] at h
 exact F8 h.1
section
theorem mX (O : aQ) (v : Lz) (i : Nat) (r : Lz) (h : r.length=v.length) : (wP O v i r).length=v.length:=by
 unfold wP;split <;> simp [h]
theorem Fk (O : aQ) (v : Lz) (i : Nat) (r : Lz) (j : Nat) (h : r.length=v.length) (hj : j<v.length) (h0 : nth v i ≠ 0) :
  nth (wP O v i r) j=if nth r j=0 then nth v j else O.add (nth v j) (O.neg (O.mul (nth v i) (nth r j))):=by
 unfold wP
 rw [if_neg h0,ai (show j<_ by simp [h];omega),ai hj,ai (show j<r.length by omega)]
 simp
theorem Ic {O : aQ} {El : Int->Prop} (hO : sr O El) {v r : Lz} {i : Nat} (hv : ∀x ∈ v,El x) (hr : ∀x ∈ r,El x) (hl : r.length=v.length) (hi : i<v.length) : ∀x ∈ wP O v i r,El x:=by
 intro x hx
 by_cases h0 : nth v i=0
 ·unfold wP at hx;rw [if_pos h0] at hx;exact hv x hx
 ·obtain ⟨j,hj,rfl⟩:=List.mem_iff_getElem.1 hx
  rw [mX O v i r hl] at hj
  have h1:=Fk O v i r j hl hj h0
  rw [ai (show j<(wP O v i r).length by rw [mX O v i r hl];exact hj)] at h1
  rw [h1]
  have e1 : El (nth v j):=hv _ (aN hj)
  have e2 : El (nth r j):=hr _ (aN (by omega))
  have e3 : El (nth v i):=hv _ (aN hi)
  split
  ·exact e1
  ·exact hO.add _ _ e1 (hO.neg _ (hO.mul _ _ e3 e2))
variable {w : World} {b : Nat} {G : de}
end
section
theorem js (O : aQ) (t i : Nat) (L : Ll) : ∀l,(pY O t i L l).length=L.length
 | 0=>rfl
 | l+1=>by
  rw [pY]
  split
  ·rw [List.length_set];exact js O t i L l
  ·exact js O t i L l
theorem bH.Ky {O : aQ} {El : Int->Prop} {m : Nat} (hO : sr O El) {L : Ll} {t i : Nat} (hL : bH El m L) (ht : t<L.length) (hi : i<m) : ∀l,l<=L.length->bH El m (pY O t i L l)
 | 0,_=>hL
 | l+1,hl=>by
  have ih:=bH.Ky hO hL ht hi l (by omega)
  rw [pY]
  split
  ·have h1:=ih.row (i:=l) (by rw [js];omega)
   have h2:=ih.row (i:=t) (by rw [js];omega)
   exact ih.set l ⟨by rw [mX _ _ _ _ (by rw [h1.1,h2.1])];exact h1.1,Ic hO h1.2 h2.2 (by rw [h1.1,h2.1]) (by rw [h1.1];exact hi)⟩
  ·exact ih
variable {w : World} {b : Nat} {G : de}
end
theorem wA (pb : Nat) (a : OA) (n c : Nat) (L : Ll) (i : Nat) (w : World) (p5 : w.cell? ⟨pb,5,none⟩=some (.slice a n c)) (hi : bZ w a n L) (hL : ∀r ∈ L,i<r.length) (hn : n<=1000000) :
  Calls Tryz.prog 269 #[.pointer (some ⟨pb,0,none⟩),.int .i64 i] w (cC w (bf L i)):=by
 have Hlen:=Z5 hi.len
 have hpl:=hi.pl
 have HL:=Z5 hL
 clear hL
 go_enter Tryz.func269,Tryz.ntmps269
 go_wp2_with (at_make;refine bV rfl _ _ 22 3 rfl (.int .i64 0) 8 Tryz.underlying22 aX rfl n rfl rfl (by omega) (by unfold maxLen;omega) ?_;intro a1 w1 hown hbel hge hlt;have c5 : w1.cell? ⟨pb,5,none⟩=some (.slice a n c):=aw hbel p5)
 have hbw : Below w.heap.size w w1:=hbel
 have hown1 : w1.ownsRow w.heap.size 3 1 (.slice a1 n n) n (List.replicate n (.int .i64 0)):=hown
 clear hown hbel
 go_loopw [21] (λiv wr=>∃k : Nat,k<=n/\iv = .int .i64 k /\
   wr.ownsRow w.heap.size 3 1 (.slice a1 n n) n ((bT ((bf L i).take k) k n).map (Value.int .i64))/\Below w.heap.size w wr)
  (λi _=>n - (intOf i).toNat)
 case atStart=>exact ⟨0,Nat.zero_le _,rfl,by simpa [bT] using hown1,hbw⟩
 case round =>
  obtain ⟨k,hk,rfl,hown,hbel⟩:=hrel
  obtain ⟨hints,hmine⟩:=Ints.own hown
  have hpl1:=hints.pl
  by_cases hlt : k<n
  ·obtain ⟨ra,rn,rc,hcell,hrow⟩:=(hi.ah hbel).cell k hlt
   have hkL : k<L.length:=by rw [Hlen.out];exact hlt
   have hri : i<rn:=by rw [<- hrow.len,aE hkL];exact HL.out _ (List.getElem_mem hkL)
   have ci:=hrow.cell i hri
   have hpr:=hrow.pl
   have hf:=(hmine (by omega)).2 k hlt
   have hc2:=hints.cell k hlt
   have hB:=(hmine (by omega)).1
   have Hv:=Z5 (cZ L i k hkL)
   go_wp2_with fail
   go_roundw
   case rel =>
    refine ⟨k+1,by omega,by go_num,?_,hbel.setCell hB _⟩
    have h:=bC hown k hlt (.int .i64 (nth (aj L k) i))
    rw [<- List.map_set,dC _ _ _ _ (by rw [List.length_take,dc];omega) hlt] at h
    rw [List.take_succ_eq_append_getElem (by rw [dc];omega),<- ai,Hv.out]
    exact h
   case measure=>simp [intOf] <;> omega
  ·obtain rfl : k=n:=by omega
   have hl : (bf L i).length=k:=by rw [dc];exact Hlen.out
   rw [eh,List.take_of_length_le (by omega)] at hown
   have Hl:=Z5 hl
   clear hl
   go_wp2_with fail
   go_ret
   exact ⟨a1,k,by rw [Hl.out];rfl,by rw [Hl.out];exact hown,hbel⟩
theorem pM {w : World} {b : Nat} {G : de} (pb : Nat) (a : OA) (n c : Nat) (L : Ll) (m : Nat) (ao : OA) (no co : Nat) (Q : Lz) (most : Nat)
  (p0 : w.cell? ⟨pb,0,none⟩=some (.pointer (some ⟨b,0,none⟩))) (p5 : w.cell? ⟨pb,5,none⟩=some (.slice a n c))
  (h : eD w b G) (hi : bZ w a n L) (hR : bH G.El m L) (hq : Ints w ao no Q) (hQ : ∀k,k<no->0<=nth Q k/\nth Q k<m) (hn : n<=1000000) (hno : no<=1000000) :
  Calls Tryz.prog 261 #[.pointer (some ⟨pb,0,none⟩),.slice ao no co,.int .i64 most] w (cC w (zX G.ops L Q most)):=by
 have Hlen:=Z5 hi.len
 have HR:=Z5 hR
 have HQ:=Z5 hQ
 have Hql:=Z5 hq.len
 have hplq:=hq.pl
 have hcl:=Z5 (de.cl h)
 have HP:=Z5 (λ(V : World) (hV : Below w.heap.size w V)=>aw hV p5)
 clear hR hQ
 go_enter Tryz.func261,Tryz.ntmps261
 go_wp2_with fail
 obtain ⟨V,hV⟩ : ∃V : World,V=w.alloc (.cells #[.pointer (some ⟨b,0,none⟩),.slice none 0 0,.slice none 0 0] 260):=⟨_,rfl⟩
 rw [<- hV]
 have hbV : Below w.heap.size w V:=by rw [hV];exact an _ _
 have hB0 : oP V w.heap.size w.heap.size b none 0 [] none 0 ⟨[],[]⟩:=oP.start (Nat.le_refl _) (by rw [hV];exact aV.new _ _ _ rfl)
 clear hV p0 p5
 go_loopw [8,19] (λqv iv wr=>∃(k : Nat) (aq : OA) (cq : Nat) (out : Lz) (s : BS) (ar : OA) (cr : Nat) (R : La) (ap : OA) (cp : Nat),k<=no/\iv = .int .i64 k/\qv = .slice aq out.length cq /\
   Hid (cI G.ops L Q k=(s,out))/\oP wr w.heap.size w.heap.size b ar cr R ap cp s/\wr.ownsRow w.heap.size 3 1 (.slice aq out.length cq) out.length (out.map (Value.int .i64))/\Hid (aq ≠ none->¬ sT w.heap.size ar R ap (ablk aq)) /\
   Below w.heap.size w wr/\Hid (s.Ok G.El n)/\s.rows.length<=k/\out.length<=k/\Hid (out.length<=most))
  (λ_ iv _=>no - (intOf iv).toNat)
 case atStart=>exact ⟨0,none,0,[],⟨[],[]⟩,none,0,[],none,0,Nat.zero_le _,rfl,rfl,rfl,hB0,bY,λh0=>absurd rfl h0,hbV,⟨λr hr=>by simp at hr,rfl,λi hi=>by simp at hi⟩,Nat.zero_le _,Nat.zero_le _,Nat.zero_le _⟩
 case round =>
  obtain ⟨k,aq,cq,out,s,ar,cr,R,ap,cp,hk,rfl,rfl,hst,hBr,hop,hdq,hbr,hok,hsk,hok2,hom⟩:=hrel
  generalize wr=U at *
  by_cases hlt : k<no
  ·have cq1:=(hq.ah hbr).cell k hlt
   have hQk:=HQ.out k hlt
   obtain ⟨i,hik⟩ : ∃i : Nat,nth Q k=i:=⟨(nth Q k).toNat,by omega⟩
   rw [hik] at cq1 hQk
   by_cases hmo : out.length=most
   ·have Ho : Hid (zX G.ops L Q most=out):=by
     show _=_
     have h1:=FT (O:=G.ops) (L:=L) (Q:=Q) (k:=k) (most:=most) (by rw [Hql.out];exact hk) (by rw [hst.out];exact hmo)
     rw [h1,hst.out]
    have hd : ((out.length : Int) == (most : Int))=true:=by simp;omega
    clear hmo
    go_wp2_with fail
    go_ret
    exact ⟨aq,cq,by rw [Ho.out];rfl,by rw [Ho.out];exact hop,hbr⟩
   have hd : ((out.length : Int) == (most : Int))=false:=by simp;omega
   have Hom : Hid (out.length+1<=most):=by have:=hom.out;show _<=_;omega
   have him : i<m:=by omega
   have p5:=HP.out U hbr
   have hcol:=CN HR.out him
   rw [Hlen.out] at hcol
   have hstep : cI G.ops L Q (k+1)=(s.next G.ops (bf L i),if s.dQ G.ops (bf L i)=true then out ++ [(i : Int)] else out):=by rw [cI,hst.out,hik,Int.toNat_natCast]
   have Hstep:=Z5 hstep
   have Hcol:=Z5 hcol
   clear hstep hcol hik hmo
   go_wp2_with fail
   refine (wA pb a n c L i U p5 (hi.ah hbr) (λr hr=>by rw [(HR.out r hr).1];exact him) hn).mono ?_
   rintro e w3 ⟨a3,c3,rfl,hown3,hb3⟩
   rw [Hcol.out.1] at hown3
   rw [Hcol.out.1]
   have hB3:=hBr.ah hb3
   have hbw3:=Below.next hbr hb3
   have hn3 : a3 ≠ none->¬ sT w.heap.size ar R ap (ablk a3):=λh0 hI=>by
    have h1:=(aR hown3 h0).1
    have h2:=(hBr.lt _ hI).2
    omega
   clear p5
   go_wp2_with fail
   refine (D8 w.heap.size ar cr R ap cp s a3 c3 n (bf L i) h hbw3 hB3 hok.out (aP hown3 hbr.size) hn3 Hcol.out.2 hn (by omega)).mono ?_
   rintro e w4 ⟨ar',cr',R',ap',cp',rfl,hB4,hM4⟩
   have hbw4 : Below w.heap.size w w4:=hbw3.trans (hM4.below (λx hx=>by
    rcases hx with h1 | ⟨h1,h2⟩
    ·exact (hB3.lt x h1).1
    ·rw [h2];exact Nat.le_trans hbr.size (aR hown3 h1).1) hbw3.size)
   have hop3:=aW hop hb3
   have hnI : aq ≠ none->¬ (sT w.heap.size ar R ap (ablk aq)\/(a3 ≠ none/\ablk aq=ablk a3)):=λh0 hI=>by
    rcases hI with h1 | ⟨h1,h2⟩
    ·exact hdq.out h0 h1
    ·have e1:=(aR hop h0).2
     have e2:=(aR hown3 h1).1
     omega
   have hop4:=hM4.own hop3 hnI
   have hdq4 : aq ≠ none->¬ sT w.heap.size ar' R' ap' (ablk aq):=λh0=>hM4.not (aR hop3 h0).2 (hnI h0)
   have hok4 : (s.next G.ops (bf L i)).Ok G.El n:=BS.Ok.next hcl.out hok.out Hcol.out
   have hlen4:=BS.Ai G.ops s (bf L i)
   have Hok4:=Z5 hok4
   have Hdq4:=Z5 hdq4
   clear hnI hdq4 hok4
   by_cases ht : s.dQ G.ops (bf L i)=true
   ·rw [ht]
    have Hst : Hid (cI G.ops L Q (k+1)=(s.next G.ops (bf L i),out ++ [(i : Int)])):=by show _=_;rw [Hstep.out,if_pos ht]
    clear ht
    generalize s.next G.ops (bf L i)=s' at *
    have hcn:=br w4 (.int .i64 i) 3
    have hbn:=an w4 (.cells #[.int .i64 i] 3)
    have hsz4:=hbw4.size
    go_wp2_with (at_builtin;refine bk rfl _ _ 22 3 rfl (.int .i64 0) 8 Tryz.underlying22 aX rfl w.heap.size aq out.length cq _ rfl (hop4.alloc _) ⟨w4.heap.size,0,none⟩ 1 (.int .i64 i) rfl hcn rfl (by omega) (by unfold maxLen;omega) (by simp;omega) ?_;intro a5 c5 w5 hown5 hgr5 hap5)
    go_roundw
    case rel =>
     have hBn:=hB4.ah hbn
     have haq : ∀x,sT w.heap.size ar' R' ap' x->db aq x:=λx hx=>by
      by_cases h0 : aq=none
      ·exact .inl h0
      ·exact .inr λe=>Hdq4.out h0 (e ▸ hx)
     have hB5 : oP w5 w.heap.size w.heap.size b ar' cr' R' ap' cp' s':=hBn.bz λx hx=>hgr5.block x (hBn.lt x hx).2 λe=>(haq x hx).own _ _ e.symm
     have hb5 : Below w.heap.size w w5:=Below.app (Below.trans hbw4 (hbn.mono hsz4)) (hop4.alloc _) hgr5 (Nat.le_refl _) (Nat.le_trans hsz4 hbn.size)
     refine ⟨k+1,a5,c5,out ++ [(i : Int)],s',ar',cr',R',ap',cp',by omega,by go_num,by simp,Hst.out,hB5,?_,?_,hb5,Hok4.out,by omega,by simp;omega,?_⟩
     ·simpa using hown5
     ·show a5 ≠ none->_
      intro h0 hI
      rcases hap5 _ (hBn.lt _ hI).2 (haq _ hI) with h1 | h1
      ·exact h0 h1
      ·exact h1 rfl
     ·show _<=_
      rw [List.length_append];exact Hom.out
    case measure=>simp [intOf] <;> omega
   ·have ht' : s.dQ G.ops (bf L i)=false:=by simpa using ht
    rw [ht']
    have Hst : Hid (cI G.ops L Q (k+1)=(s.next G.ops (bf L i),out)):=by show _=_;rw [Hstep.out,if_neg ht]
    clear ht ht'
    generalize s.next G.ops (bf L i)=s' at *
    go_wp2_with fail
    go_roundw
    case rel=>exact ⟨k+1,aq,cq,out,s',ar',cr',R',ap',cp',by omega,by go_num,rfl,Hst.out,hB4,hop4,Hdq4.out,hbw4,Hok4.out,by omega,by omega,hom.out⟩
    case measure=>simp [intOf] <;> omega
  ·obtain rfl : k=no:=by omega
   have Ho : Hid (zX G.ops L Q most=out):=by
    show _=_
    have h1:=IG (O:=G.ops) (L:=L) (Q:=Q) (most:=most) (by rw [Hql.out,hst.out];exact hom.out)
    rw [h1,Hql.out,hst.out]
   go_wp2_with fail
   go_ret
   exact ⟨aq,cq,by rw [Ho.out];rfl,by rw [Ho.out];exact hop,hbr⟩
theorem vz (U : Lz) (k : Nat) : frTo false U (k+1)=if decide ((k : Int) ∈ U)=false then frTo false U k ++ [(k : Int)] else frTo false U k:=rfl
theorem uT (pb m : Nat) (sa : OA) (ns cs : Nat) (s : Lz) (az : OA) (nz cz : Nat) (z : Lz) (w : World) (p4 : w.cell? ⟨pb,4,none⟩=some (.int .i64 m)) (hs : Ints w sa ns s) (hz : Ints w az nz z)
  (hnz : nz<=1000000) (hm : m<=1000) :
  Calls Tryz.prog 262 #[.pointer (some ⟨pb,0,none⟩),.slice sa ns cs,.slice az nz cz] w (cC w (kd m s z)):=by
 have Hzl:=Z5 hz.len
 have HP:=Z5 (λ(V : World) (hV : Below w.heap.size w V)=>aw hV p4)
 go_enter Tryz.func262,Tryz.ntmps262
 go_wp2_with fail
 refine (Bd az nz cz w).mono ?_
 rintro e w1 ⟨rfl,rfl⟩
 have hb1 : Below w.heap.size w (w.alloc (.cells #[.slice az nz cz] 22)):=an _ _
 have HSo:=Z5 (Bm w.heap.size az nz cz z hnz (w.alloc (.cells #[.slice az nz cz] 22)) (by simp) (aH _ _ _ rfl 0) (hz.ah hb1))
 have hsz1 : w.heap.size<=(w.alloc (.cells #[.slice az nz cz] 22)).heap.size:=hb1.size
 generalize w.alloc (.cells #[.slice az nz cz] 22)=w1 at *
 go_wp2_with fail
 refine HSo.out.mono ?_
 rintro e w2 ⟨a2,c2,rfl,hown2,hb2⟩
 have hbw2:=Below.next hb1 hb2
 have p4':=HP.out w2 hbw2
 have hO2 : w2.ownsRow w.heap.size 3 1 (.slice a2 nz c2) nz ((bP z).map (Value.int .i64)):=aP hown2 hsz1
 clear hown2 p4
 go_wp2_with fail
 go_loopw [7,17] (λqv iv wr=>∃(k : Nat) (aq : OA) (cq : Nat) (out : Lz),k<=m/\iv = .int .i64 k/\qv = .slice aq out.length cq/\Hid (out=bP z ++ frTo false (s ++ z) k)/\Hid (out.length<=nz+k) /\
   wr.ownsRow w.heap.size 3 1 (.slice aq out.length cq) out.length (out.map (Value.int .i64))/\Below w.heap.size w wr)
  (λ_ iv _=>m - (intOf iv).toNat)
 case atStart =>
  refine ⟨0,a2,c2,bP z,Nat.zero_le _,rfl,?_,?_,?_,?_,hbw2⟩
  ·rw [eG,Hzl.out]
  ·show _=_;simp [frTo]
  ·show _<=_;rw [eG,Hzl.out];omega
  ·rw [eG,Hzl.out];exact hO2
 case round =>
  obtain ⟨k,aq,cq,out,hk,rfl,rfl,hst,hln,hop,hbr⟩:=hrel
  generalize wr=U at *
  by_cases hlt : k<m
  ·have hsU:=hs.ah hbr
   have hzU:=hz.ah hbr
   have hlen:=hln.out
   have Hskip : Hid (((k : Int) ∈ s ++ z)->out=bP z ++ frTo false (s ++ z) (k+1)):=λhmem=>by
    rw [vz,if_neg (by rw [decide_eq_true hmem];decide)];exact hst.out
   have Htake : Hid (¬ ((k : Int) ∈ s ++ z)->out ++ [(k : Int)]=bP z ++ frTo false (s ++ z) (k+1)):=λhmem=>by
    rw [vz,if_pos (by rw [decide_eq_false hmem]),<- List.append_assoc,<- hst.out]
   by_cases h1 : (k : Int) ∈ s
   ·have hmd : decide ((k : Int) ∈ s)=true:=by simpa using h1
    have HcA:=Z5 (cB sa ns cs s k U hsU)
    rw [hmd] at HcA
    have Hst : Hid (out=bP z ++ frTo false (s ++ z) (k+1)):=Hskip.out (List.mem_append.2 (.inl h1))
    clear h1 hmd
    go_wp2_with fail
    refine HcA.out.mono ?_
    rintro e w6 ⟨rfl,rfl⟩
    go_wp2_with fail
    go_roundw
    case rel=>exact ⟨k+1,aq,cq,out,by omega,by go_num,rfl,Hst.out,(show _<=_ by omega),hop,hbr⟩
    case measure=>simp [intOf] <;> omega
   ·have hmd : decide ((k : Int) ∈ s)=false:=by simpa using h1
    have HcA:=Z5 (cB sa ns cs s k U hsU)
    rw [hmd] at HcA
    by_cases h2 : (k : Int) ∈ z
    ·have hmd2 : decide ((k : Int) ∈ z)=true:=by simpa using h2
     have HcB:=Z5 (cB az nz cz z k U hzU)
     rw [hmd2] at HcB
     have Hst : Hid (out=bP z ++ frTo false (s ++ z) (k+1)):=Hskip.out (List.mem_append.2 (.inr h2))
     clear h1 hmd h2 hmd2
     go_wp2_with fail
     refine HcA.out.mono ?_
     rintro e w6 ⟨rfl,rfl⟩
     go_wp2_with fail
     refine HcB.out.mono ?_
     rintro e w7 ⟨rfl,rfl⟩
     go_wp2_with fail
     go_roundw
     case rel=>exact ⟨k+1,aq,cq,out,by omega,by go_num,rfl,Hst.out,(show _<=_ by omega),hop,hbr⟩
     case measure=>simp [intOf] <;> omega
    ·have hmd2 : decide ((k : Int) ∈ z)=false:=by simpa using h2
     have HcB:=Z5 (cB az nz cz z k U hzU)
     rw [hmd2] at HcB
     have Hst : Hid (out ++ [(k : Int)]=bP z ++ frTo false (s ++ z) (k+1)):=Htake.out λh=>by
      rcases List.mem_append.1 h with h | h
      ·exact h1 h
      ·exact h2 h
     have hcn:=br U (.int .i64 k) 3
     have hbn:=an U (.cells #[.int .i64 k] 3)
     have hszU:=hbr.size
     clear h1 hmd h2 hmd2
     go_wp2_with fail
     refine HcA.out.mono ?_
     rintro e w6 ⟨rfl,rfl⟩
     go_wp2_with fail
     refine HcB.out.mono ?_
     rintro e w7 ⟨rfl,rfl⟩
     go_wp2_with (at_builtin;refine bk rfl _ _ 22 3 rfl (.int .i64 0) 8 Tryz.underlying22 aX rfl w.heap.size aq out.length cq _ rfl (hop.alloc _) ⟨w7.heap.size,0,none⟩ 1 (.int .i64 k) rfl hcn rfl (by omega) (by unfold maxLen;omega) (by simp;omega) ?_;intro a5 c5 w5 hown5 hgr5 hap5)
     go_roundw
     case rel =>
      have hb5 : Below w.heap.size w w5:=Below.app (Below.trans hbr (hbn.mono hszU)) (hop.alloc _) hgr5 (Nat.le_refl _) (Nat.le_trans hszU hbn.size)
      refine ⟨k+1,a5,c5,out ++ [(k : Int)],by omega,by go_num,by simp,Hst.out,(show _<=_ by rw [List.length_append,List.length_singleton];omega),?_,hb5⟩
      simpa using hown5
     case measure=>simp [intOf] <;> omega
  ·obtain rfl : k=m:=by omega
   have Ho : Hid (kd k s z=out):=by show _=_;rw [kd,hst.out]
   go_wp2_with fail
   go_ret
   exact ⟨aq,cq,by rw [Ho.out];rfl,by rw [Ho.out];exact hop,hbr⟩
section
open Go.RowKit
end
def rh (O : aQ) (L : Ll) (Q : Lz) : Bool:=decide (Q.length=L.length) && decide ((i7 O L Q).length=Q.length)
theorem ka (U S : Lz) : ∀k,k<=S.length->dI U S k=((S.take k).countP λx=>decide (¬ x ∈ U) : Nat)
 | 0,_=>by simp [dI]
 | k+1,h=>by
  rw [dI,ka U S k (by omega),List.take_succ_eq_append_getElem (by omega),List.countP_append,ai (by omega)]
  by_cases h1 : S[k] ∈ U
  ·simp [h1]
  ·simp [h1]
theorem vV {U S S' : Lz} (h : S.Perm S') : dI U S S.length=dI U S' S'.length:=by
 rw [ka _ _ _ (Nat.le_refl _),ka _ _ _ (Nat.le_refl _),List.take_of_length_le (Nat.le_refl _),List.take_of_length_le (Nat.le_refl _),h.countP_eq]
theorem gO (b : Bool) (U : Lz) : ∀k,(frTo b U k).Pairwise (λx y=>x<y)
 | 0=>List.Pairwise.nil
 | k+1=>by
  have ih:=gO b U k
  rw [frTo]
  split
  ·rw [List.pairwise_append]
   refine ⟨ih,by simp,λx hx y hy=>?_⟩
   rw [List.mem_singleton] at hy
   obtain ⟨j,hj,rfl,_⟩:=(cJ k).1 hx
   omega
  ·exact ih
theorem vS {m : Nat} {U : Lz} (hn : U.Nodup) (hU : ∀x ∈ U,0<=x/\x<(m : Int)) : bP U=frTo true U m:=by
 have h:=gO true U m
 refine (lR (h.imp λh=>by omega) ((List.perm_ext_iff_of_nodup (h.imp λh=>by omega) hn).2 λx=>?_)).symm
 rw [cJ]
 constructor
 ·rintro ⟨j,_,rfl,h1⟩;simpa using h1
 ·intro hx
  have h1:=hU x hx
  exact ⟨x.toNat,by omega,by omega,by rw [show ((x.toNat : Nat) : Int)=x by omega];simpa using hx⟩
theorem mZ {m : Nat} {U : Lz} (hn : U.Nodup) (hU : ∀x ∈ U,0<=x/\x<(m : Int)) : U.length<=m:=by
 rw [<- eG,vS hn hU];exact eQ _ _ _
theorem rL {N : Int} {A : Lz} (h : bF N A=true) : A.Nodup:=by
 refine uX λi j hij hj=>?_
 have key : ∀d i,i+d<A.length->0<d->nth A i<nth A (i+d):=λd=>by
  induction d with
  | zero=>intro i _ h0;omega
  | succ d ih =>
   intro i hi _
   have h1:=(gh h hi).2.2 (by omega)
   rw [show i+(d+1) - 1=i+d by omega] at h1
   by_cases h0 : d=0
   ·subst h0;exact h1
   ·have:=ih i (by omega) (by omega);omega
 have:=key (j - i) i (by omega) (by omega)
 rw [show i+(j - i)=j by omega] at this
 omega
section
variable {O : aQ} {El : Int->Prop} {m : Nat} {L : Ll}
theorem Fb (F : cK O El) (hL : bH El m L) {Q Q' : Lz} (h : Q.Perm Q') : rh O L Q=rh O L Q':=by
 have h1:=F1 F hL h
 unfold sK at h1
 rw [rh,rh,h1,h.length_eq]
end
section
variable {f : Nat->Int} {N : Nat} (hf : ∀y,f y<=N)
include hf
end

section
variable {O : aQ} {El : Int->Prop} {m : Nat}
end
section
variable {P M : Int} {mod : Lz} {m : Nat} {L : Ll} {Q : Lz}
end
section
variable {O : aQ} {L : Ll} {m : Nat} {C : lB}
end
section
variable {O : aQ} {El : Int->Prop} {m : Nat} {R : Ll} {P : Lz}
theorem wo (hR : bH El m R) (hP : nw R P m) (hlen : R.length=P.length) : BS.Inv El m ⟨R,P⟩ where
 ok:=⟨hR,hlen.symm,λi hi=>hP.lt i (by rw [<- hlen];exact hi)⟩
 one:=λi hi=>by
  show nth (aj R i) (nth P i).toNat=1
  rw [hP.one i i (by rw [<- hlen];exact hi) hi,if_pos rfl]
 zero:=λj i hj hi=>by
  have hi' : i<R.length:=hi
  show nth (aj R i) (nth P j).toNat=0
  rw [hP.one j i (by omega) hi',if_neg (by omega)]
def bj (O : aQ) (m : Nat) (x : Lz) (L : Ll) : Nat->Lz
 | 0=>List.replicate m 0
 | k+1=>if nth x k=0 then bj O m x L k else bJ O (bj O m x L k) (nth x k) (aj L k)
theorem RS.add (F : cK O El) {L : Ll} {f g : Nat->Int} (hL : bH El m L) (hf : RS O El m L f) (hg : RS O El m L g) {s : Int} (hs : El s) : RS O El m L (λx=>O.add (f x) (O.mul (g x) s)):=by
 refine (hf.comb F hg (F.cl.neg s hs)).congr λx hx=>?_
 obtain ⟨e,he,h⟩:=hg
 have hgx : El (g x):=by rw [h x hx];exact he.el _ (dN hL F.zero x)
 rw [F.mul_neg hgx hs,F.neg_neg (F.cl.mul _ _ hgx hs)]
theorem dO (F : cK O El) {L : Ll} (hL : bH El m L) {x : Lz} (hx : ∀k,k<L.length->El (nth x k)) : ∀k,k<=L.length->Vc El m (bj O m x L k)/\RS O El m L (λi=>nth (bj O m x L k) i)
 | 0,_=>by
  have h0 : ∀i,nth (List.replicate m (0 : Int)) i=0:=λi=>by
   unfold nth
   simp only [List.getD_eq_getElem?_getD,List.getElem?_replicate]
   split <;> rfl
  exact ⟨⟨by simp [bj],λy hy=>by rw [List.eq_of_mem_replicate hy];exact F.zero⟩,RS.GG F λi _=>h0 i⟩
 | k+1,hk=>by
  obtain ⟨h1,h2⟩:=dO F hL hx k (by omega)
  have hr:=hL.row (i:=k) (by omega)
  have hs:=hx k (by omega)
  rw [bj]
  split
  ·exact ⟨h1,h2⟩
  ·have hl : (aj L k).length=(bj O m x L k).length:=by rw [hr.1,h1.1]
   refine ⟨⟨by rw [cH _ _ _ _ hl];exact h1.1,qH F.cl h1.2 hr.2 hs⟩,(RS.add F hL h2 (.row F (i:=k) (by omega)) hs).congr λi hi=>?_⟩
   have hri : El (nth (aj L k) i):=Vc.at hr hi
   rw [gL O _ _ _ i hl (by rw [h1.1];exact hi)]
   split
   ·rename_i e0
    rw [e0,F.mO hs,F.add_zero _ (h1.at hi)]
   ·rw [F.mul_comm _ _ hs hri]
end

section
open Go.RowKit
end
section
open Go.RowKit
end
end Go.Proofs.YtcfmiocdlcapoaaGreat
