/-  -/
import Derived.Test.YtcfmiocdlcapoaaGreatK16
import Derived.Test.YtcfmiocdlcapoaaGreatK17
import Derived.Test.YtcfmiocdlcapoaaGreatK9
import Derived.Test.YtcfmiocdlcapoaaGreatK10
import Derived.Test.YtcfmiocdlcapoaaGreatK18
import Derived.Test.YtcfmiocdlcapoaaGreatK7
import Derived.Test.YtcfmiocdlcapoaaGreatK8
import Derived.Test.YtcfmiocdlcapoaaGreatK12
namespace Go.Proofs.YtcfmiocdlcapoaaGreat
set_option linter.unusedVariables false
set_option linter.unusedSimpArgs false
set_option linter.unusedSectionVars false

section
theorem invTo_find (f : Int->Int) : ∀(n : Nat) (y z : Int),y<=z->z<y+n->f z=1->f (invTo f n y)=1/\y<=invTo f n y/\invTo f n y<y+n
 | 0,y,z,h1,h2,_=>by omega
 | n+1,y,z,h1,h2,hz=>by
  unfold invTo
  split
  ·exact ⟨by assumption,by omega,by omega⟩
  ·rename_i hn
   have hne : y ≠ z:=λe=>hn (e ▸ hz)
   have:=invTo_find f n (y+1) z (by omega) (by omega) hz
   exact ⟨this.1,by omega,by omega⟩
theorem eq_ops {P M : Int} {mod : List Int} (h : fieldB P M mod=true) : ∃m : Nat,M=m/\ElP P m=(tblOf P m mod).El/\((tblOf P m mod).q : Int)=orderS P M/\Fld (tblOf P m mod).ops (ElP P m)/\Agr (tblOf P m mod).ops (rops P m mod) (ElP P m) /\
  ∀p,ElP P m p->p ≠ 0->(invR P m mod p=1 ↔ p=1):=by
 have hF:=fieldB_fld h
 obtain ⟨m,y,rfl,hr,h256,hsh,hq,g⟩:=fieldB_gen h
 have hrf : RF P m:=by
  obtain ⟨m',e,h2,_⟩:=fieldRB_rf (by rw [fieldRB_eq];exact h)
  have : m=m':=by omega
  rw [this];exact h2
 rw [Int.toNat_natCast] at hF
 have e : ElP P m=(tblOf P m mod).El:=by
  funext x;simp only [Tbl.El,tblOf,ElP];rw [hq]
 rw [<- e] at hF
 have hq2:=g.q2
 have hmul : ∀x z,ElP P m x->ElP P m z->(tblOf P m mod).ops.mul x z=mulR P m mod x z:=λx z hx hz=>by
  rw [mulR_eq hrf];exact g.mulT_eq hx hz
 have hqo : ((orderS P m).toNat : Int)=orderS P m:=by omega
 have hinv : ∀x,ElP P m x->x ≠ 0->(tblOf P m mod).ops.inv x=invR P m mod x:=by
  intro x hx h0
  have hi:=hF.cl.inv x hx h0
  have hm:=hF.mul_inv x hx h0
  rw [hmul x _ hx hi] at hm
  have hi0 : (tblOf P m mod).ops.inv x ≠ 0:=by
   intro e0
   have h2:=hF.mul_inv x hx h0
   rw [e0,hF.mzero hx] at h2
   exact absurd h2 (by decide)
  have hb1:=hi.1
  have hb2:=hi.2
  obtain ⟨h1,h2,h3⟩:=invTo_find (mulR P m mod x) ((orderS P m).toNat - 1) 1 _ (by omega) (by omega) hm
  have hel : ElP P m (invR P m mod x):=⟨by unfold invR;omega,by unfold invR;omega⟩
  have h4 : (tblOf P m mod).ops.mul x (invR P m mod x)=1:=by rw [hmul x _ hx hel];exact h1
  have h5:=hF.mul_inv x hx h0
  have e1 : (tblOf P m mod).ops.mul ((tblOf P m mod).ops.inv x) ((tblOf P m mod).ops.mul x (invR P m mod x))=invR P m mod x:=by
   rw [<- hF.mul_assoc _ x _ hi hx hel,hF.mul_comm _ x hi hx,h5,hF.one_mul _ hel]
  rw [h4,hF.mone hi] at e1
  exact e1
 refine ⟨m,rfl,e,hqo,hF,⟨λx z _ _=>rfl,hmul,λx _=>rfl,hinv⟩,λp hp h0=>?_⟩
 rw [<- hinv p hp h0]
 have hi:=hF.cl.inv p hp h0
 have hm:=hF.mul_inv p hp h0
 constructor
 ·intro e1;rw [e1,hF.mone hp] at hm;exact hm
 ·intro e1;rw [e1] at hm hi ⊢;rw [hF.one_mul _ hi] at hm;exact hm
theorem codeE_fld {P M : Int} {mod : List Int} {N : Int} {L : List (List Int)} (h : codeE P M mod N L=0) : ∃n : Nat,N=n/\1<=n/\n<=64/\Fld (tblOf P M.toNat mod).ops (tblOf P M.toNat mod).El/\Rws (tblOf P M.toNat mod).El n L:=by
 obtain ⟨m,rfl,h1,h2,_,hR⟩:=codeE_rws h
 exact ⟨m,rfl,h1,h2,fieldB_fld (codeE_zero h).1,hR⟩
end

section
variable {P M : Int} {mod : List Int} {n : Nat} {L : List (List Int)}
end

section
open Go.RowKit
def InN (n : Nat) (Q : List Int) : Prop:=∀j,j<Q.length->0<=nth Q j/\nth Q j<n
theorem nthR_map (f : List Int->List Int) (L : List (List Int)) {k : Nat} (hk : k<L.length) : nthR (L.map f) k=f (nthR L k):=by
 rw [nthR_getElem (by simpa using hk),nthR_getElem hk];simp
end

section
open Go.RowKit
end

section
open Go.RowKit
end

section
set_option maxRecDepth 100000
set_option maxHeartbeats 1600000

open Go.RowKit
theorem index_any (a : Option Addr) (n c : Nat) (l : List Int) (v : Int) (w : World) (h : Ints w a n l) :
  Calls Tryz.prog 131 #[.slice a n c,.int .i64 v] w λe w'=>∃z : Int,e = .returned (.int .i64 z)/\(0<=z ↔ v ∈ l)/\w'=w:=by
 have Hl:=Lib.hid h.len
 have hpl:=h.pl
 have hmax:=h.max
 unfold maxLen at hmax
 go_enter Tryz.func131,Tryz.ntmps131
 go_wp2_with fail
 go_loopw [8] (λiv wr=>∃k : Nat,k<=n/\iv = .int .i64 k/\Hid (∀j,j<k->nth l j ≠ v)/\wr=w) (λi _=>n - (intOf i).toNat)
 case atStart=>exact ⟨0,Nat.zero_le _,rfl,λj hj=>by omega,rfl⟩
 case round =>
  obtain ⟨k,hk,rfl,hno,rfl⟩:=hrel
  by_cases hlt : k<n
  ·have c1:=h.cell k hlt
   by_cases he : nth l k=v
   ·have he' : (v == nth l k)=true:=by rw [he];simp
    have Hm : Hid (v ∈ l):=by show v ∈ l;rw [<- he];exact nth_mem (by rw [Hl.out];exact hlt)
    clear he
    go_wp2_with fail
    go_ret
    exact ⟨k,rfl,⟨λ_=>Hm.out,λ_=>Int.natCast_nonneg _⟩,rfl⟩
   ·have he' : (v == nth l k)=false:=by simpa using λe=>he e.symm
    have Hn2 : Hid (∀j,j<k+1->nth l j ≠ v):=λj hj=>by
     by_cases e : j=k
     ·subst e;exact he
     ·exact hno.out j (by omega)
    clear he
    go_wp2_with fail
    go_roundw
    case rel=>exact ⟨k+1,by omega,by go_num,Hn2.out,by simp⟩
    case measure=>simp [intOf] <;> omega
  ·obtain rfl : k=n:=by omega
   have Hm : Hid (¬ v ∈ l):=λhm=>by
    obtain ⟨j,hj,e⟩:=List.mem_iff_getElem.1 hm
    rw [<- nth_getElem hj] at e
    exact hno.out j (by have:=Hl.out;omega) e
   go_wp2_with fail
   go_ret
   exact ⟨-1,rfl,⟨λh=>absurd h (by omega),λh=>absurd h Hm.out⟩,rfl⟩
theorem contains_any (a : Option Addr) (n c : Nat) (l : List Int) (v : Int) (w : World) (h : Ints w a n l) :
  Calls Tryz.prog 68 #[.slice a n c,.int .i64 v] w λe w'=>e = .returned (.bool (decide (v ∈ l)))/\w'=w:=by
 go_enter Tryz.func68,Tryz.ntmps68
 go_wp2_with fail
 refine (index_any a n c l v w h).mono ?_
 rintro e w1 ⟨z,rfl,hz,rfl⟩
 by_cases h0 : 0<=z
 ·have Hz : Hid (decide (v ∈ l)=true):=by show _=_;simpa using hz.1 h0
  have h0' : decide (0<=z)=true:=by simpa using h0
  clear hz h0
  go_wp2_with fail
  go_ret
  exact ⟨ret_bool Hz.out.symm,rfl⟩
 ·have Hz : Hid (decide (v ∈ l)=false):=by show _=_;simpa using λh=>h0 (hz.2 h)
  have h0' : decide (0<=z)=false:=by simpa using h0
  clear hz h0
  go_wp2_with fail
  go_ret
  exact ⟨ret_bool Hz.out.symm,rfl⟩
end

section

end

section
theorem nth_snoc_lt {l : List Int} {x : Int} {i : Nat} (h : i<l.length) : nth (l ++ [x]) i=nth l i:=by
 simp only [nth,List.getD_eq_getElem?_getD];rw [List.getElem?_append_left h]
theorem nth_snoc (l : List Int) (x : Int) : nth (l ++ [x]) l.length=x:=by simp [nth]
theorem grL_snoc (l : List Int) (x : Int) : ∀k,k<=l.length->grL (l ++ [x]) k=grL l k
 | 0,_=>rfl
 | k+1,h=>by rw [grL,grL,nth_snoc_lt (by omega),grL_snoc l x k (by omega)]
theorem grL_snoc_all (l : List Int) (x : Int) : grL (l ++ [x]) (l ++ [x]).length=x.toNat :: grL l l.length:=by
 rw [List.length_append,List.length_singleton,grL,nth_snoc,grL_snoc l x l.length (Nat.le_refl _)]
def gA (Q : List Int) : List Nat:=grL Q Q.length
theorem gA_snoc (l : List Int) (x : Int) : gA (l ++ [x])=x.toNat :: gA l:=grL_snoc_all l x
theorem mem_gA {Q : List Int} {x : Nat} : x ∈ gA Q ↔ ∃y ∈ Q,y.toNat=x:=by
 unfold gA
 rw [mem_grL]
 constructor
 ·rintro ⟨j,hj,e⟩;exact ⟨nth Q j,nth_mem hj,e⟩
 ·rintro ⟨y,hy,e⟩
  obtain ⟨j,hj,rfl⟩:=List.mem_iff_getElem.1 hy
  exact ⟨j,hj,by rw [nth_getElem hj];exact e⟩
section
variable {O : FOps} {El : Int->Prop} {m : Nat} {L : List (List Int)}
def rkQ (O : FOps) (L : List (List Int)) (Q : List Int) : Nat:=(grS O L Q).length
theorem rkQ_rk (F : Fld O El) (hL : Rws El m L) (Q : List Int) : Rk (clV O El L.length (colS L)) (gA Q) (rkQ O L Q):=grS_rk F hL Q
theorem gr_out (F : Fld O El) (hL : Rws El m L) (Q : List Int) : ∀k,Rk (clV O El L.length (colS L)) (gA (grTo O L Q k).2) (grTo O L Q k).2.length /\
  (∀x ∈ gA (grTo O L Q k).2,x ∈ grL Q k)/\(∀x ∈ grL Q k,clV O El L.length (colS L) (gA (grTo O L Q k).2) x)
 | 0=>⟨.nil,λx hx=>by simp [gA,grTo,grL] at hx,λx hx=>by simp [grL] at hx⟩
 | k+1=>by
  obtain ⟨h1,h2,h3⟩:=gr_out F hL Q k
  obtain ⟨g1,g2,_⟩:=gr_inv F hL Q k
  have hC:=col_clo F hL
  have hc:=colS_vc hL F.zero
  have htk:=takes_false F g1 (hc (nth Q k).toNat)
  have hcl : clV O El L.length (colS L) (grL Q k) (nth Q k).toNat ↔ (grTo O L Q k).1.takes O (colS L (nth Q k).toNat)=false:=by
   rw [htk]
   exact ⟨λh φ hφ h0=>h φ hφ ((g2 φ hφ).2 h0),λh φ hφ h0=>h φ hφ ((g2 φ hφ).1 h0)⟩
  rw [grTo]
  by_cases ht : (grTo O L Q k).1.takes O (colS L (nth Q k).toNat)=true
  ·simp only [if_pos ht]
   rw [gA_snoc,List.length_append,List.length_singleton]
   refine ⟨.ind _ (λh=>?_) h1,λx hx=>?_,λx hx=>?_⟩
   ·have:=hcl.1 (hC.sub h2 h)
    rw [ht] at this;exact absurd this (by decide)
   ·rw [grL]
    rcases List.mem_cons.1 hx with rfl | hx
    ·exact List.mem_cons_self ..
    ·exact List.mem_cons_of_mem _ (h2 x hx)
   ·rw [grL] at hx
    rcases List.mem_cons.1 hx with rfl | hx
    ·exact hC.mem _ _ (List.mem_cons_self ..)
    ·exact hC.sub (λy hy=>List.mem_cons_of_mem _ hy) (h3 x hx)
  ·simp only [if_neg ht]
   have hf : (grTo O L Q k).1.takes O (colS L (nth Q k).toNat)=false:=by simpa using ht
   refine ⟨h1,λx hx=>?_,λx hx=>?_⟩
   ·rw [grL];exact List.mem_cons_of_mem _ (h2 x hx)
   ·rw [grL] at hx
    rcases List.mem_cons.1 hx with rfl | hx
    ·exact hC.mono _ _ h3 _ (hcl.2 hf)
    ·exact h3 x hx
theorem rkQ_same (F : Fld O El) (hL : Rws El m L) {Q Q' : List Int} (h : ∀x,x ∈ gA Q ↔ x ∈ gA Q') : rkQ O L Q=rkQ O L Q':=Rk.same (col_clo F hL) (rkQ_rk F hL Q) (rkQ_rk F hL Q') h
theorem rkQ_perm (F : Fld O El) (hL : Rws El m L) {Q Q' : List Int} (h : Q.Perm Q') : rkQ O L Q=rkQ O L Q' :=
 rkQ_same F hL λx=>by
  rw [mem_gA,mem_gA]
  exact ⟨λ⟨y,hy,e⟩=>⟨y,h.mem_iff.1 hy,e⟩,λ⟨y,hy,e⟩=>⟨y,h.mem_iff.2 hy,e⟩⟩
end
end

section
def frTo (b : Bool) (U : List Int) : Nat->List Int
 | 0=>[]
 | k+1=>if decide ((k : Int) ∈ U)=b then frTo b U k ++ [(k : Int)] else frTo b U k
theorem mem_frTo {b : Bool} {U : List Int} {x : Int} : ∀k,x ∈ frTo b U k ↔ ∃j : Nat,j<k/\x=j/\decide ((j : Int) ∈ U)=b
 | 0=>by simp [frTo]
 | k+1=>by
  rw [frTo]
  by_cases h : decide ((k : Int) ∈ U)=b
  ·rw [if_pos h,List.mem_append,mem_frTo k,List.mem_singleton]
   constructor
   ·rintro (⟨j,hj,e,hb⟩ | e)
    ·exact ⟨j,by omega,e,hb⟩
    ·exact ⟨k,by omega,e,h⟩
   ·rintro ⟨j,hj,e,hb⟩
    by_cases ejk : j=k
    ·subst ejk;exact .inr e
    ·exact .inl ⟨j,by omega,e,hb⟩
  ·rw [if_neg h,mem_frTo k]
   constructor
   ·rintro ⟨j,hj,e,hb⟩;exact ⟨j,by omega,e,hb⟩
   ·rintro ⟨j,hj,e,hb⟩
    by_cases ejk : j=k
    ·subst ejk;exact absurd hb h
    ·exact ⟨j,by omega,e,hb⟩
theorem frTo_len (b : Bool) (U : List Int) : ∀k,(frTo b U k).length<=k
 | 0=>Nat.le_refl _
 | k+1=>by
  have:=frTo_len b U k
  rw [frTo];split <;> simp <;> omega
theorem frTo_two (U : List Int) : ∀k,(frTo false U k).length+(frTo true U k).length=k
 | 0=>rfl
 | k+1=>by
  have:=frTo_two U k
  rw [frTo,frTo]
  by_cases h : (k : Int) ∈ U
  ·simp [h];omega
  ·simp [h];omega
def ordF (m : Nat) (U : List Int) : List Int:=frTo false U m ++ frTo true U m
theorem ordF_len (m : Nat) (U : List Int) : (ordF m U).length=m:=by rw [ordF,List.length_append,frTo_two]
theorem mem_ordF {m : Nat} {U : List Int} {x : Int} : x ∈ ordF m U ↔ ∃j : Nat,j<m/\x=j:=by
 rw [ordF,List.mem_append,mem_frTo,mem_frTo]
 constructor
 ·rintro (⟨j,hj,e,_⟩ | ⟨j,hj,e,_⟩) <;> exact ⟨j,hj,e⟩
 ·rintro ⟨j,hj,e⟩
  by_cases h : (j : Int) ∈ U
  ·exact .inr ⟨j,hj,e,by simpa using h⟩
  ·exact .inl ⟨j,hj,e,by simpa using h⟩
theorem ordF_in (m : Nat) (U : List Int) : InN m (ordF m U):=λj hj=>by
 obtain ⟨i,hi,e⟩:=mem_ordF.1 (nth_mem hj)
 omega
def newF (U S : List Int) : Nat->Int
 | 0=>0
 | k+1=>if nth S k ∈ U then newF U S k else newF U S k+1
theorem newF_bd (U S : List Int) : ∀k,0<=newF U S k/\newF U S k<=k
 | 0=>by simp [newF]
 | k+1=>by
  have:=newF_bd U S k
  rw [newF];split <;> omega
theorem newF_new {U S : List Int} : ∀k,k<=S.length->newF U S k ≠ 0->∃x ∈ S,¬ x ∈ U
 | 0,_,h=>absurd rfl h
 | k+1,hk,h=>by
  rw [newF] at h
  split at h
  ·exact newF_new k (by omega) h
  ·rename_i h1;exact ⟨_,nth_mem (by omega),h1⟩
def choF (O : FOps) (L : List (List Int)) (m : Nat) (U : List Int) : List Int:=grS O L (ordF m U)
def famGo (O : FOps) (L : List (List Int)) (m : Nat) : Nat->List Int->List (List Int × Int)->List (List Int × Int)
 | 0,_,T=>T
 | f+1,U,T=>if newF U (choF O L m U) (choF O L m U).length=0 then T else famGo O L m f (U ++ sortL (choF O L m U)) (T ++ [(sortL (choF O L m U),newF U (choF O L m U) (choF O L m U).length)])
def famL (O : FOps) (L : List (List Int)) (m : Nat) : List (List Int × Int):=famGo O L m (m+1) [] []
theorem frTo_mono {U V : List Int} (h : ∀x ∈ U,x ∈ V) : ∀k,(frTo false V k).length<=(frTo false U k).length
 | 0=>Nat.le_refl _
 | k+1=>by
  have ih:=frTo_mono h k
  rw [frTo,frTo]
  by_cases h1 : (k : Int) ∈ U
  ·simp [h1,h _ h1];exact ih
  ·by_cases h2 : (k : Int) ∈ V
   ·simp [h1,h2];omega
   ·simp [h1,h2];exact ih
theorem frTo_less {U V : List Int} (h : ∀x ∈ U,x ∈ V) {x : Nat} (hx : ¬ (x : Int) ∈ U) (hv : (x : Int) ∈ V) : ∀k,x<k->(frTo false V k).length<(frTo false U k).length
 | 0,hk=>by omega
 | k+1,hk=>by
  by_cases e : x=k
  ·subst e
   have ih:=frTo_mono h x
   rw [frTo,frTo]
   simp [hx,hv];omega
  ·have ih:=frTo_less h hx hv k (by omega)
   rw [frTo,frTo]
   by_cases h1 : (k : Int) ∈ U
   ·simp [h1,h _ h1];exact ih
   ·by_cases h2 : (k : Int) ∈ V
    ·simp [h1,h2];omega
    ·simp [h1,h2];exact ih
theorem grTo_sub (O : FOps) (L : List (List Int)) (Q : List Int) : ∀k,k<=Q.length->∀x ∈ (grTo O L Q k).2,x ∈ Q
 | 0,_,x,hx=>by simp [grTo] at hx
 | k+1,hk,x,hx=>by
  rw [grTo] at hx
  split at hx
  ·rcases List.mem_append.1 hx with hx | hx
   ·exact grTo_sub O L Q k (by omega) x hx
   ·rw [List.mem_singleton] at hx;rw [hx];exact nth_mem (by omega)
  ·exact grTo_sub O L Q k (by omega) x hx
theorem choF_in {O : FOps} {L : List (List Int)} {m : Nat} {U : List Int} {x : Int} (hx : x ∈ choF O L m U) : ∃j : Nat,j<m/\x=j:=mem_ordF.1 (grTo_sub O L (ordF m U) _ (Nat.le_refl _) x hx)
theorem fam_less {O : FOps} {L : List (List Int)} {m : Nat} {U : List Int} (h : newF U (choF O L m U) (choF O L m U).length ≠ 0) : (frTo false (U ++ sortL (choF O L m U)) m).length<(frTo false U m).length:=by
 obtain ⟨x,hx,hn⟩:=newF_new _ (Nat.le_refl _) h
 obtain ⟨j,hj,rfl⟩:=choF_in hx
 exact frTo_less (λy hy=>List.mem_append.2 (.inl hy)) hn (List.mem_append.2 (.inr ((sortL_perm _).mem_iff.2 hx))) m hj
end

section
def grM (O : FOps) (L : List (List Int)) (Q : List Int) (most : Nat) : List Int:=(grS O L Q).take most
def outS (m : Nat) (s z : List Int) : List Int:=sortL z ++ frTo false (s ++ z) m
structure Clm where
 M : Nat
 W : Nat
 cos : Bool
 y : List Int
def setOk (m : Nat) (s t : List Int) : Bool:=okSet m t && t.all λx=>decide (¬ x ∈ s)
structure LS where
 rows : List (List Int)
 sum : List Int
 top : Nat
def clrS (O : FOps) (v : List Int) (i : Nat) (r : List Int) : List Int :=
 if nth v i=0 then v else List.zipWith (λa y=>if y=0 then a else O.add a (O.neg (O.mul (nth v i) y))) v r
def clrTo (O : FOps) (t i : Nat) (L : List (List Int)) : Nat->List (List Int)
 | 0=>L
 | l+1=>if t<l then (clrTo O t i L l).set l (clrS O (nthR (clrTo O t i L l) l) i (nthR (clrTo O t i L l) t)) else clrTo O t i L l
def lgtPiv (O : FOps) (L : List (List Int)) (t k i : Nat) : List (List Int) :=
 clrTo O t i ((swapRow L t k).set t ((nthR (swapRow L t k) t).map (O.mul (O.inv (nth (nthR (swapRow L t k) t) i))))) L.length
def lgtStep (O : FOps) (st : LS) (i : Nat) : LS :=
 if findRow st.rows i st.top=st.rows.length then st
 else ⟨lgtPiv O st.rows st.top (findRow st.rows i st.top) i,clrS O st.sum i (nthR (lgtPiv O st.rows st.top (findRow st.rows i st.top) i) st.top),st.top+1⟩
def lgtTo (O : FOps) (L : List (List Int)) (y t : List Int) : Nat->LS
 | 0=>⟨L,y,0⟩
 | k+1=>lgtStep O (lgtTo O L y t k) (nth t k).toNat
def cntTo (s v : List Int) : Nat->Nat
 | 0=>0
 | k+1=>if nth v k ≠ 0/\¬ (k : Int) ∈ s then cntTo s v k+1 else cntTo s v k
def lightS (O : FOps) (L : List (List Int)) (y s t : List Int) : Nat:=cntTo s (lgtTo O L y t t.length).sum (lgtTo O L y t t.length).sum.length
def rightS (O : FOps) (L : List (List Int)) (m : Nat) (C : Clm) (s t : List Int) : Bool :=
 setOk m s t && (decide ((grS O L t).length=t.length) &&
  if C.cos=true then decide ((grS O L (frTo false s m)).length=t.length) && decide (C.W<s.length+lightS O L C.y s t) else decide (t.length=C.M))
def kidsS (C : Clm) (s z t : List Int) : List Int:=if s.length<C.W then t.filter λx=>decide (¬ x ∈ z) else []
def kfol (F : List Int->List Int->List (List Int)->Option (List (List Int))) (s : List Int) : List Int->List Int->List (List Int)->Option (List (List Int))
 | _,[],ts=>some ts
 | z,k :: ks,ts=>match F (s ++ [k]) z ts with
  | none=>none
  | some ts'=>kfol F s (z ++ [k]) ks ts'
def folS (O : FOps) (L : List (List Int)) (m : Nat) (C : Clm) : Nat->List Int->List Int->List (List Int)->Option (List (List Int))
 | 0,s,_,ts=>match ts with
  | []=>none
  | t :: ts=>if rightS O L m C s t=true then some ts else none
 | d+1,s,z,ts=>match ts with
  | []=>none
  | t :: ts=>if rightS O L m C s t=true then kfol (folS O L m C d) s z (kidsS C s z t) ts else none
def provS (O : FOps) (L : List (List Int)) (m : Nat) (C : Clm) (T : List (List Int)) : Int :=
 match folS O L m C C.W [] [] T with
 | some []=>0
 | _=>13
def csetS (O : FOps) (L : List (List Int)) (m : Nat) (C : Clm) (s z : List Int) : List Int:=sortL (grM O L (outS m s z) (if C.cos=true then m else C.M))
def kbld (F : List Int->List Int->List (List Int)->Int × List (List Int)) (s : List Int) : List Int->List Int->List (List Int)->Int × List (List Int)
 | _,[],T=>(0,T)
 | z,k :: ks,T=>if (F (s ++ [k]) z T).1=0 then kbld F s (z ++ [k]) ks (F (s ++ [k]) z T).2 else ((F (s ++ [k]) z T).1,[])
def bldS (O : FOps) (L : List (List Int)) (m : Nat) (C : Clm) : Nat->List Int->List Int->List (List Int)->Int × List (List Int)
 | 0,s,z,T=>if rightS O L m C s (csetS O L m C s z)=true then if T.length=65536 then (8,[]) else (0,T ++ [csetS O L m C s z]) else (11,[])
 | d+1,s,z,T=>if rightS O L m C s (csetS O L m C s z)=true then if T.length=65536 then (8,[]) else kbld (bldS O L m C d) s z (kidsS C s z (csetS O L m C s z)) (T ++ [csetS O L m C s z]) else (11,[])
def treeS (O : FOps) (L : List (List Int)) (m : Nat) (C : Clm) : Int × List (List Int):=bldS O L m C C.W [] [] []
theorem grTo_pfx (O : FOps) (L : List (List Int)) (Q : List Int) {k : Nat} : ∀j,k<=j->(grTo O L Q k).2 <+: (grTo O L Q j).2
 | 0, h => by obtain rfl : k = 0 := by omega
              exact List.prefix_rfl
 | j+1,h=>by
  by_cases e : k=j+1
  ·subst e;exact List.prefix_rfl
  ·refine (grTo_pfx O L Q j (by omega)).trans ?_
   rw [grTo]
   split
   ·exact List.prefix_append _ _
   ·exact List.prefix_rfl
theorem grM_stop {O : FOps} {L : List (List Int)} {Q : List Int} {k most : Nat} (hk : k<=Q.length) (h : (grTo O L Q k).2.length=most) : grM O L Q most=(grTo O L Q k).2:=by
 obtain ⟨l,hl⟩:=grTo_pfx O L Q Q.length hk
 rw [grM,grS,<- hl,<- h,List.take_left]
theorem grM_all {O : FOps} {L : List (List Int)} {Q : List Int} {most : Nat} (h : (grTo O L Q Q.length).2.length<=most) : grM O L Q most=(grTo O L Q Q.length).2:=by
 rw [grM,grS,List.take_of_length_le h]
theorem grTo_le (O : FOps) (L : List (List Int)) (Q : List Int) : ∀k,(grTo O L Q k).2.length<=k
 | 0=>Nat.le_refl _
 | k+1=>by
  have ih:=grTo_le O L Q k
  rw [grTo]
  split
  ·simp;omega
  ·dsimp only;omega
theorem grS_le (O : FOps) (L : List (List Int)) (Q : List Int) : (grS O L Q).length<=Q.length:=grTo_le O L Q _
theorem grM_full {O : FOps} {L : List (List Int)} {Q : List Int} {most : Nat} (h : Q.length<=most) : grM O L Q most=grS O L Q :=
 List.take_of_length_le (Nat.le_trans (grS_le O L Q) h)
theorem grM_sub {O : FOps} {L : List (List Int)} {Q : List Int} {most : Nat} : ∀x ∈ grM O L Q most,x ∈ Q:=λx hx =>
 grTo_sub O L Q Q.length (Nat.le_refl _) x (List.mem_of_mem_take hx)
theorem outS_len (m : Nat) (s z : List Int) : (outS m s z).length<=z.length+m:=by
 unfold outS
 have:=frTo_len false (s ++ z) m
 rw [List.length_append,sortL_len];omega
theorem mem_outS {m : Nat} {s z : List Int} {x : Int} (h : x ∈ outS m s z) : x ∈ z\/(0<=x/\x<m/\¬ x ∈ s/\¬ x ∈ z):=by
 unfold outS at h
 rcases List.mem_append.1 h with h | h
 ·exact .inl ((sortL_perm z).mem_iff.1 h)
 ·obtain ⟨j,hj,rfl,hd⟩:=(mem_frTo m).1 h
  have : ¬ (j : Int) ∈ s ++ z:=by simpa using hd
  rw [List.mem_append] at this
  exact .inr ⟨by omega,by omega,λh=>this (.inl h),λh=>this (.inr h)⟩
theorem setOk_ok {m : Nat} {s t : List Int} (h : setOk m s t=true) : okSet m t=true/\∀x ∈ t,¬ x ∈ s:=by
 unfold setOk at h
 rw [Bool.and_eq_true,List.all_eq_true] at h
 exact ⟨h.1,λx hx=>by simpa using h.2 x hx⟩
theorem right_ok {O : FOps} {L : List (List Int)} {m : Nat} {C : Clm} {s t : List Int} (h : rightS O L m C s t=true) : okSet m t=true/\∀x ∈ t,¬ x ∈ s:=by
 unfold rightS at h
 rw [Bool.and_eq_true] at h
 exact setOk_ok h.1
end

section
set_option maxRecDepth 100000
set_option maxHeartbeats 4000000

open Go.RowKit
theorem clrS_length (O : FOps) (v : List Int) (i : Nat) (r : List Int) (h : r.length=v.length) : (clrS O v i r).length=v.length:=by
 unfold clrS;split <;> simp [h]
theorem nth_clrS (O : FOps) (v : List Int) (i : Nat) (r : List Int) (j : Nat) (h : r.length=v.length) (hj : j<v.length) (h0 : nth v i ≠ 0) :
  nth (clrS O v i r) j=if nth r j=0 then nth v j else O.add (nth v j) (O.neg (O.mul (nth v i) (nth r j))):=by
 unfold clrS
 rw [if_neg h0,nth_getElem (show j<_ by simp [h];omega),nth_getElem hj,nth_getElem (show j<r.length by omega)]
 simp
theorem clrS_el {O : FOps} {El : Int->Prop} (hO : FCl O El) {v r : List Int} {i : Nat} (hv : ∀x ∈ v,El x) (hr : ∀x ∈ r,El x) (hl : r.length=v.length) (hi : i<v.length) : ∀x ∈ clrS O v i r,El x:=by
 intro x hx
 by_cases h0 : nth v i=0
 ·unfold clrS at hx;rw [if_pos h0] at hx;exact hv x hx
 ·obtain ⟨j,hj,rfl⟩:=List.mem_iff_getElem.1 hx
  rw [clrS_length O v i r hl] at hj
  have h1:=nth_clrS O v i r j hl hj h0
  rw [nth_getElem (show j<(clrS O v i r).length by rw [clrS_length O v i r hl];exact hj)] at h1
  rw [h1]
  have e1 : El (nth v j):=hv _ (nth_mem hj)
  have e2 : El (nth r j):=hr _ (nth_mem (by omega))
  have e3 : El (nth v i):=hv _ (nth_mem hi)
  split
  ·exact e1
  ·exact hO.add _ _ e1 (hO.neg _ (hO.mul _ _ e3 e2))
variable {w : World} {b : Nat} {G : Tbl}
theorem exClear_any (w0 : World) (pb : Nat) (av : Option Addr) (cv n : Nat) (v : List Int) (i : Nat) (au : Option Addr) (cu : Nat) (u : List Int) (h : GFw w0 b G) (hb : Below w0.heap.size w0 w)
  (p0 : w0.cell? ⟨pb,0,none⟩=some (.pointer (some ⟨b,0,none⟩)))
  (hv : w.ownsRow w0.heap.size 3 1 (.slice av n cv) n (v.map (Value.int .i64))) (hu : Ints w au n u) (hap : av=none\/au=none\/ablk au ≠ ablk av)
  (hve : ∀x ∈ v,G.El x) (hue : ∀x ∈ u,G.El x) (hin : i<n) :
  Calls Tryz.prog 278 #[.pointer (some ⟨pb,0,none⟩),.slice av n cv,.int .i64 i,.slice au n cu] w
   λe w'=>e = .returned (.tuple #[])/\w'.ownsRow w0.heap.size 3 1 (.slice av n cv) n ((clrS G.ops v i u).map (Value.int .i64))/\Only av w w':=by
 have hul:=hu.len
 have hvl : v.length=n:=by simpa using own_len hv
 have hmax:=hu.max
 unfold maxLen at hmax
 have hpu:=hu.pl
 obtain ⟨iv0,mv0⟩:=Ints.own hv
 have hpv:=iv0.pl
 have ci:=iv0.cell i hin
 have hav : 0<n->av ≠ none:=λhn e=>by have:=hpv hn;rw [e] at this;cases this
 have hxe : G.El (nth v i):=hve _ (nth_mem (by omega))
 have Hul:=Lib.hid hul
 have Hvl:=Lib.hid hvl
 have Hav:=Lib.hid hav
 have Hve:=Lib.hid hve
 have Hue:=Lib.hid hue
 have HP:=Lib.hid (λ(V : World) (hV : Below w0.heap.size w0 V)=>cell_keep hV p0)
 clear hav hve hue
 by_cases hx : nth v i=0
 ·have Hn : Hid (clrS G.ops v i u=v):=by show _=_;rw [clrS,if_pos hx]
  have hx' : (nth v i != 0)=false:=by simpa using hx
  clear hx hul hvl
  go_enter Tryz.func278,Tryz.ntmps278
  go_wp2_with fail
  go_end0
  exact ⟨rfl,by rw [Hn.out];exact hv,Only.refl _ _⟩
 have hx' : (nth v i != 0)=true:=by simpa using hx
 have Hnl:=Lib.hid (clrS_length G.ops v i u (by omega))
 have Hnth:=Lib.hid (λj hj=>nth_clrS G.ops v i u j (by omega) hj hx)
 clear hx hul hvl
 generalize clrS G.ops v i u=N at *
 go_enter Tryz.func278,Tryz.ntmps278
 go_wp2_with fail
 generalize nth v i=x at *
 go_loopw [19] (λiv wr=>∃k : Nat,k<=n/\iv = .int .i64 k/\wr.ownsRow w0.heap.size 3 1 (.slice av n cv) n ((mixTo N v k).map (Value.int .i64))/\Only av w wr) (λiv _=>n - (intOf iv).toNat)
 case atStart=>exact ⟨0,Nat.zero_le _,rfl,by rw [mixTo_zero];exact hv,Only.refl _ _⟩
 case round =>
  obtain ⟨k,hk,rfl,hown,honly⟩:=hrel
  by_cases hlt : k<n
  ·have hiu:=honly.ints hu hap
   have cu1:=hiu.cell k hlt
   have hkN : N.length=v.length:=Hnl.out
   have hkv : k<v.length:=by rw [Hvl.out];exact hlt
   have hval:=Hnth.out k hkv
   have hmix:=nth_mixTo N v k k hkN (by omega)
   rw [if_neg (by omega)] at hmix
   by_cases hz : nth u k=0
   ·rw [if_pos hz] at hval
    have hsame:=mixTo_same N v k hkN hkv hval
    have Hsame:=Lib.hid hsame
    have hz' : (nth u k != 0)=false:=by simpa using hz
    clear hval hmix hsame hkN hkv hz
    go_wp2_with fail
    go_roundw
    case rel=>exact ⟨k+1,by omega,by go_num,by rw [Hsame.out];exact hown,honly⟩
    case measure=>simp [intOf] <;> omega
   ·rw [if_neg hz] at hval
    have hset:=mixTo_set N v k hkN hkv
    obtain ⟨hiv,hmv⟩:=Ints.own hown
    have cv1:=hiv.cell k hlt
    have fv1:=(hmv (by omega)).2 k hlt
    rw [hmix] at cv1
    have elv : G.El (nth v k):=Hve.out _ (nth_mem hkv)
    have elu : G.El (nth u k):=Hue.out _ (nth_mem (by rw [Hul.out];exact hlt))
    have hbr : Below w0.heap.size w0 wr:=Below.trans hb (honly.below (λha=>(own_ne hv ha).1) hb.size)
    have p0r:=HP.out wr hbr
    have hGr : GFw wr b G:=h.keep hbr
    have elm : ∀x y,G.El (G.mul x y):=λx y=>Tbl.mul_el h x y
    have HG : Hid (GFw wr.drew b G/\∀n,GFw (wr.drewN n) b G):=⟨hGr.keep (Below.refl _ _).drew,λn=>hGr.drewN n⟩
    rw [hval] at hset
    have Hset:=Lib.hid hset
    have hz' : (nth u k != 0)=true:=by simpa using hz
    clear hval hmix hset hkN hkv hz
    go_wp2_with fail
    go_region_law ((first
     | (go_simp;go_at_call 153;((with_reducible refine (gMul x (nth u k) HG.out.1 hxe elu).mono ?_);rintro e w4 ⟨m4,rfl,rfl⟩))
     | (go_simp;go_at_call 153;((with_reducible refine (gMul x (nth u k) (HG.out.2 _) hxe elu).mono ?_);rintro e w4 ⟨m4,rfl,rfl⟩))
     | (go_simp;go_at_call 191;((with_reducible refine (gSub (nth v k) (G.mul x (nth u k)) (HG.out.2 _) elv (elm _ _)).mono ?_);rintro e w4 ⟨m5,rfl,rfl⟩))))
    all_goals (
     go_wp2_with fail
     go_roundw
     case rel =>
      have hdr : Drawn wr (wr.drewN (1+m4+m5)):=⟨_,rfl⟩
      refine ⟨k+1,by omega,by go_num,?_,honly.trans ((Only.drawn hdr).trans (Only.set _ k _ (Hav.out (by omega))))⟩
      have h1:=own_set (w:=wr.drewN (1+m4+m5)) hown k hlt (.int .i64 (G.sub (nth v k) (G.mul x (nth u k))))
      rw [<- List.map_set,show G.sub (nth v k) (G.mul x (nth u k))=G.ops.add (nth v k) (G.ops.neg (G.ops.mul x (nth u k))) from rfl,Hset.out] at h1
      exact h1
     case measure=>simp [intOf] <;> omega)
  ·obtain rfl : k=n:=by omega
   rw [mixTo_all N v k (by rw [Hnl.out,Hvl.out]) Hvl.out] at hown
   go_wp2_with fail
   go_end0
   exact ⟨rfl,hown,honly⟩
end

section
open Go.RowKit
theorem clrTo_length (O : FOps) (t i : Nat) (L : List (List Int)) : ∀l,(clrTo O t i L l).length=L.length
 | 0=>rfl
 | l+1=>by
  rw [clrTo]
  split
  ·rw [List.length_set];exact clrTo_length O t i L l
  ·exact clrTo_length O t i L l
theorem lgtPiv_length (O : FOps) (L : List (List Int)) (t k i : Nat) : (lgtPiv O L t k i).length=L.length:=by
 unfold lgtPiv;rw [clrTo_length,List.length_set,swapRow_length]
theorem Rws.clr {O : FOps} {El : Int->Prop} {m : Nat} (hO : FCl O El) {L : List (List Int)} {t i : Nat} (hL : Rws El m L) (ht : t<L.length) (hi : i<m) : ∀l,l<=L.length->Rws El m (clrTo O t i L l)
 | 0,_=>hL
 | l+1,hl=>by
  have ih:=Rws.clr hO hL ht hi l (by omega)
  rw [clrTo]
  split
  ·have h1:=ih.row (i:=l) (by rw [clrTo_length];omega)
   have h2:=ih.row (i:=t) (by rw [clrTo_length];omega)
   exact ih.set l ⟨by rw [clrS_length _ _ _ _ (by rw [h1.1,h2.1])];exact h1.1,clrS_el hO h1.2 h2.2 (by rw [h1.1,h2.1]) (by rw [h1.1];exact hi)⟩
  ·exact ih
theorem cntTo_le (s v : List Int) : ∀k,cntTo s v k<=k
 | 0=>Nat.le_refl _
 | k+1=>by
  have:=cntTo_le s v k
  rw [cntTo];split <;> omega
variable {w : World} {b : Nat} {G : Tbl}
theorem exClearRow (w0 : World) (pb : Nat) (a : Option Addr) (n c : Nat) (R : List (Option Addr × Nat)) (L : List (List Int)) (m i l t : Nat) (hO : OMat w w0.heap.size a n c R L)
  (h : GFw w0 b G) (hb : Below w0.heap.size w0 w) (p0 : w0.cell? ⟨pb,0,none⟩=some (.pointer (some ⟨b,0,none⟩))) (hl : l<n) (ht : t<n) (hlt : l ≠ t) (hi : i<m) (hR : Rws G.El m L) (V : World) (hd : Drawn w V) :
  Calls Tryz.prog 278 #[.pointer (some ⟨pb,0,none⟩),.slice (nthA R l).1 m (nthA R l).2,.int .i64 i,.slice (nthA R t).1 m (nthA R t).2] V
   λe w'=>e = .returned (.tuple #[])/\(w'.cell? ⟨ablk a,aoff a+l,none⟩=some (.slice (nthA R l).1 m (nthA R l).2)/\w'.cell? ⟨ablk a,aoff a+t,none⟩=some (.slice (nthA R t).1 m (nthA R t).2)) /\
    OMat w' w0.heap.size a n c R (L.set l (clrS G.ops (nthR L l) i (nthR L t)))/\Moves w w' (OIn a R) (OIn a R):=by
 have rl:=hR.row (i:=l) (by rw [hO.ll];exact hl)
 have rt:=hR.row (i:=t) (by rw [hO.ll];exact ht)
 have cl:=hO.cell hl
 have ct:=hO.cell ht
 have ol:=hO.row l hl
 have it:=hO.ints ht
 rw [rl.1] at cl ol
 rw [rt.1] at ct it
 have hap : (nthA R l).1=none\/(nthA R t).1=none\/ablk (nthA R t).1 ≠ ablk (nthA R l).1:=hO.sep l t hl ht hlt
 refine (exClear_any w0 pb _ _ m (nthR L l) i _ _ (nthR L t) h (hd.below' hb) p0 (own_keep ol hd.below) (it.keep hd.below) hap rl.2 rt.2 hi).mono ?_
 rintro e w' ⟨rfl,hown,honly⟩
 have hmv : Moves w w' (OIn a R) (OIn a R):=(Moves.of_below hd.below _).trans (honly.moves (λhn=>OMat.inRow (by rw [hO.rl];exact hl) hn))
 have hne2 : ¬ ((nthA R l).1 ≠ none/\ablk a=ablk (nthA R l).1):=by
  rintro ⟨h1,h2⟩
  rcases hO.apt l hl with h3 | h3
  ·exact h1 h3
  ·exact h3 h2.symm
 refine ⟨rfl,⟨Moves.cell (Moves.trans (Moves.of_below hd.below _) honly) cl hne2,Moves.cell (Moves.trans (Moves.of_below hd.below _) honly) ct hne2⟩,?_,hmv⟩
 have hOr:=hO.keep hd.below
 have hll : (clrS G.ops (nthR L l) i (nthR L t)).length=(nthR L l).length:=clrS_length _ _ _ _ (by rw [rl.1,rt.1])
 refine hOr.rowTo hl hll (by rw [rl.1];exact hown) λb hb hne=>honly.block b hb λ⟨h1,h2⟩=>?_
 rcases hne with h3 | h3
 ·exact h1 h3
 ·exact h3 h2
theorem exScaleRow (w0 V : World) (a : Option Addr) (n c : Nat) (R : List (Option Addr × Nat)) (L : List (List Int)) (t m : Nat) (r : List Int) (hO : OMat w w0.heap.size a n c R L) (hb : Below w0.heap.size w0 w) (ht : t<n) (hr : r.length=m)
  (hV : Below w.heap.size w V) {a4 : Option Addr} {c4 : Nat} (hown : V.ownsRow w.heap.size 3 1 (.slice a4 m c4) m (r.map (Value.int .i64))) :
  ∃R',OMat (V.setCell ⟨ablk a,aoff a+t,none⟩ (.slice a4 m c4)) w0.heap.size a n c R' (L.set t r)/\Moves w (V.setCell ⟨ablk a,aoff a+t,none⟩ (.slice a4 m c4)) (OIn a R) (OIn a R'):=by
 subst hr
 have hO4:=hO.keep hV
 have hnew : ∀b,b<w.heap.size->Apt a4 b:=λb hb=>own_apt hown hb
 have h1:=hO4.setRow ht (own_mono hown hb.size) (hnew _ (hO.lt _ (.inl ⟨hO.ne (by omega),rfl⟩)).2) (λj hj _=>by
  by_cases hn : (nthA R j).1=none
  ·exact .inl hn
  ·exact .inr (hnew _ (hO.lt _ (OMat.inRow (by rw [hO.rl];exact hj) hn)).2))
 have h2:=hO.setRow_moves' hV ht (r:=a4) (rc:=c4) (.slice a4 r.length c4) (λha=>.inr (own_ne hown ha).1)
 exact ⟨_,h1,h2⟩
end

section
set_option maxRecDepth 100000
set_option maxHeartbeats 4000000

open Go.RowKit
theorem exColumn_any (pb : Nat) (a : Option Addr) (n c : Nat) (L : List (List Int)) (i : Nat) (w : World) (p5 : w.cell? ⟨pb,5,none⟩=some (.slice a n c)) (hi : Mat w a n L) (hL : ∀r ∈ L,i<r.length) (hn : n<=1000000) :
  Calls Tryz.prog 269 #[.pointer (some ⟨pb,0,none⟩),.int .i64 i] w (NewInts w (colS L i)):=by
 have Hlen:=Lib.hid hi.len
 have hpl:=hi.pl
 have HL:=Lib.hid hL
 clear hL
 go_enter Tryz.func269,Tryz.ntmps269
 go_wp2_with (at_make;refine wpList_mk rfl _ _ 22 3 rfl (.int .i64 0) 8 Tryz.underlying22 infoInt rfl n rfl rfl (by omega) (by unfold maxLen;omega) ?_;intro a1 w1 hown hbel hge hlt;have c5 : w1.cell? ⟨pb,5,none⟩=some (.slice a n c):=cell_keep hbel p5)
 have hbw : Below w.heap.size w w1:=hbel
 have hown1 : w1.ownsRow w.heap.size 3 1 (.slice a1 n n) n (List.replicate n (.int .i64 0)):=hown
 clear hown hbel
 go_loopw [21] (λiv wr=>∃k : Nat,k<=n/\iv = .int .i64 k /\
   wr.ownsRow w.heap.size 3 1 (.slice a1 n n) n ((fillTo ((colS L i).take k) k n).map (Value.int .i64))/\Below w.heap.size w wr)
  (λi _=>n - (intOf i).toNat)
 case atStart=>exact ⟨0,Nat.zero_le _,rfl,by simpa [fillTo] using hown1,hbw⟩
 case round =>
  obtain ⟨k,hk,rfl,hown,hbel⟩:=hrel
  obtain ⟨hints,hmine⟩:=Ints.own hown
  have hpl1:=hints.pl
  by_cases hlt : k<n
  ·obtain ⟨ra,rn,rc,hcell,hrow⟩:=(hi.keep hbel).cell k hlt
   have hkL : k<L.length:=by rw [Hlen.out];exact hlt
   have hri : i<rn:=by rw [<- hrow.len,nthR_getElem hkL];exact HL.out _ (List.getElem_mem hkL)
   have ci:=hrow.cell i hri
   have hpr:=hrow.pl
   have hf:=(hmine (by omega)).2 k hlt
   have hc2:=hints.cell k hlt
   have hB:=(hmine (by omega)).1
   have Hv:=Lib.hid (nth_colS L i k hkL)
   go_wp2_with fail
   go_roundw
   case rel =>
    refine ⟨k+1,by omega,by go_num,?_,hbel.setCell hB _⟩
    have h:=own_set hown k hlt (.int .i64 (nth (nthR L k) i))
    rw [<- List.map_set,fillTo_set _ _ _ _ (by rw [List.length_take,colS_length];omega) hlt] at h
    rw [List.take_succ_eq_append_getElem (by rw [colS_length];omega),<- nth_getElem,Hv.out]
    exact h
   case measure=>simp [intOf] <;> omega
  ·obtain rfl : k=n:=by omega
   have hl : (colS L i).length=k:=by rw [colS_length];exact Hlen.out
   rw [fillTo_all,List.take_of_length_le (by omega)] at hown
   have Hl:=Lib.hid hl
   clear hl
   go_wp2_with fail
   go_ret
   exact ⟨a1,k,by rw [Hl.out];rfl,by rw [Hl.out];exact hown,hbel⟩
theorem exGreedy_any {w : World} {b : Nat} {G : Tbl} (pb : Nat) (a : Option Addr) (n c : Nat) (L : List (List Int)) (m : Nat) (ao : Option Addr) (no co : Nat) (Q : List Int) (most : Nat)
  (p0 : w.cell? ⟨pb,0,none⟩=some (.pointer (some ⟨b,0,none⟩))) (p5 : w.cell? ⟨pb,5,none⟩=some (.slice a n c))
  (h : GFw w b G) (hi : Mat w a n L) (hR : Rws G.El m L) (hq : Ints w ao no Q) (hQ : ∀k,k<no->0<=nth Q k/\nth Q k<m) (hn : n<=1000000) (hno : no<=1000000) :
  Calls Tryz.prog 261 #[.pointer (some ⟨pb,0,none⟩),.slice ao no co,.int .i64 most] w (NewInts w (grM G.ops L Q most)):=by
 have Hlen:=Lib.hid hi.len
 have HR:=Lib.hid hR
 have HQ:=Lib.hid hQ
 have Hql:=Lib.hid hq.len
 have hplq:=hq.pl
 have hcl:=Lib.hid (Tbl.cl h)
 have HP:=Lib.hid (λ(V : World) (hV : Below w.heap.size w V)=>cell_keep hV p5)
 clear hR hQ
 go_enter Tryz.func261,Tryz.ntmps261
 go_wp2_with fail
 obtain ⟨V,hV⟩ : ∃V : World,V=w.alloc (.cells #[.pointer (some ⟨b,0,none⟩),.slice none 0 0,.slice none 0 0] 260):=⟨_,rfl⟩
 rw [<- hV]
 have hbV : Below w.heap.size w V:=by rw [hV];exact below1 _ _
 have hB0 : Bas V w.heap.size w.heap.size b none 0 [] none 0 ⟨[],[]⟩:=Bas.start (Nat.le_refl _) (by rw [hV];exact Box.new _ _ _ rfl)
 clear hV p0 p5
 go_loopw [8,19] (λqv iv wr=>∃(k : Nat) (aq : Option Addr) (cq : Nat) (out : List Int) (s : BS) (ar : Option Addr) (cr : Nat) (R : List (Option Addr × Nat)) (ap : Option Addr) (cp : Nat),k<=no/\iv = .int .i64 k/\qv = .slice aq out.length cq /\
   Hid (grTo G.ops L Q k=(s,out))/\Bas wr w.heap.size w.heap.size b ar cr R ap cp s/\wr.ownsRow w.heap.size 3 1 (.slice aq out.length cq) out.length (out.map (Value.int .i64))/\Hid (aq ≠ none->¬ BIn w.heap.size ar R ap (ablk aq)) /\
   Below w.heap.size w wr/\Hid (s.Ok G.El n)/\s.rows.length<=k/\out.length<=k/\Hid (out.length<=most))
  (λ_ iv _=>no - (intOf iv).toNat)
 case atStart=>exact ⟨0,none,0,[],⟨[],[]⟩,none,0,[],none,0,Nat.zero_le _,rfl,rfl,rfl,hB0,own_none,λh0=>absurd rfl h0,hbV,⟨λr hr=>by simp at hr,rfl,λi hi=>by simp at hi⟩,Nat.zero_le _,Nat.zero_le _,Nat.zero_le _⟩
 case round =>
  obtain ⟨k,aq,cq,out,s,ar,cr,R,ap,cp,hk,rfl,rfl,hst,hBr,hop,hdq,hbr,hok,hsk,hok2,hom⟩:=hrel
  generalize wr=U at *
  by_cases hlt : k<no
  ·have cq1:=(hq.keep hbr).cell k hlt
   have hQk:=HQ.out k hlt
   obtain ⟨i,hik⟩ : ∃i : Nat,nth Q k=i:=⟨(nth Q k).toNat,by omega⟩
   rw [hik] at cq1 hQk
   by_cases hmo : out.length=most
   ·have Ho : Hid (grM G.ops L Q most=out):=by
     show _=_
     have h1:=grM_stop (O:=G.ops) (L:=L) (Q:=Q) (k:=k) (most:=most) (by rw [Hql.out];exact hk) (by rw [hst.out];exact hmo)
     rw [h1,hst.out]
    have hd : ((out.length : Int) == (most : Int))=true:=by simp;omega
    clear hmo
    go_wp2_with fail
    go_ret
    exact ⟨aq,cq,by rw [Ho.out];rfl,by rw [Ho.out];exact hop,hbr⟩
   have hd : ((out.length : Int) == (most : Int))=false:=by simp;omega
   have Hom : Hid (out.length+1<=most):=by have:=hom.out;show _<=_;omega
   have him : i<m:=by omega
   have p5:=HP.out U hbr
   have hcol:=colS_el HR.out him
   rw [Hlen.out] at hcol
   have hstep : grTo G.ops L Q (k+1)=(s.next G.ops (colS L i),if s.takes G.ops (colS L i)=true then out ++ [(i : Int)] else out):=by rw [grTo,hst.out,hik,Int.toNat_natCast]
   have Hstep:=Lib.hid hstep
   have Hcol:=Lib.hid hcol
   clear hstep hcol hik hmo
   go_wp2_with fail
   refine (exColumn_any pb a n c L i U p5 (hi.keep hbr) (λr hr=>by rw [(HR.out r hr).1];exact him) hn).mono ?_
   rintro e w3 ⟨a3,c3,rfl,hown3,hb3⟩
   rw [Hcol.out.1] at hown3
   rw [Hcol.out.1]
   have hB3:=hBr.keep hb3
   have hbw3:=Below.next hbr hb3
   have hn3 : a3 ≠ none->¬ BIn w.heap.size ar R ap (ablk a3):=λh0 hI=>by
    have h1:=(own_ne hown3 h0).1
    have h2:=(hBr.lt _ hI).2
    omega
   clear p5
   go_wp2_with fail
   refine (baddE_any w.heap.size ar cr R ap cp s a3 c3 n (colS L i) h hbw3 hB3 hok.out (own_mono hown3 hbr.size) hn3 Hcol.out.2 hn (by omega)).mono ?_
   rintro e w4 ⟨ar',cr',R',ap',cp',rfl,hB4,hM4⟩
   have hbw4 : Below w.heap.size w w4:=hbw3.trans (hM4.below (λx hx=>by
    rcases hx with h1 | ⟨h1,h2⟩
    ·exact (hB3.lt x h1).1
    ·rw [h2];exact Nat.le_trans hbr.size (own_ne hown3 h1).1) hbw3.size)
   have hop3:=own_keep hop hb3
   have hnI : aq ≠ none->¬ (BIn w.heap.size ar R ap (ablk aq)\/(a3 ≠ none/\ablk aq=ablk a3)):=λh0 hI=>by
    rcases hI with h1 | ⟨h1,h2⟩
    ·exact hdq.out h0 h1
    ·have e1:=(own_ne hop h0).2
     have e2:=(own_ne hown3 h1).1
     omega
   have hop4:=hM4.own hop3 hnI
   have hdq4 : aq ≠ none->¬ BIn w.heap.size ar' R' ap' (ablk aq):=λh0=>hM4.not (own_ne hop3 h0).2 (hnI h0)
   have hok4 : (s.next G.ops (colS L i)).Ok G.El n:=BS.Ok.next hcl.out hok.out Hcol.out
   have hlen4:=BS.next_len G.ops s (colS L i)
   have Hok4:=Lib.hid hok4
   have Hdq4:=Lib.hid hdq4
   clear hnI hdq4 hok4
   by_cases ht : s.takes G.ops (colS L i)=true
   ·rw [ht]
    have Hst : Hid (grTo G.ops L Q (k+1)=(s.next G.ops (colS L i),out ++ [(i : Int)])):=by show _=_;rw [Hstep.out,if_pos ht]
    clear ht
    generalize s.next G.ops (colS L i)=s' at *
    have hcn:=cell_new w4 (.int .i64 i) 3
    have hbn:=below1 w4 (.cells #[.int .i64 i] 3)
    have hsz4:=hbw4.size
    go_wp2_with (at_builtin;refine wpList_push rfl _ _ 22 3 rfl (.int .i64 0) 8 Tryz.underlying22 infoInt rfl w.heap.size aq out.length cq _ rfl (hop4.alloc _) ⟨w4.heap.size,0,none⟩ 1 (.int .i64 i) rfl hcn rfl (by omega) (by unfold maxLen;omega) (by simp;omega) ?_;intro a5 c5 w5 hown5 hgr5 hap5)
    go_roundw
    case rel =>
     have hBn:=hB4.keep hbn
     have haq : ∀x,BIn w.heap.size ar' R' ap' x->Apt aq x:=λx hx=>by
      by_cases h0 : aq=none
      ·exact .inl h0
      ·exact .inr λe=>Hdq4.out h0 (e ▸ hx)
     have hB5 : Bas w5 w.heap.size w.heap.size b ar' cr' R' ap' cp' s':=hBn.of_blocks λx hx=>hgr5.block x (hBn.lt x hx).2 λe=>(haq x hx).own _ _ e.symm
     have hb5 : Below w.heap.size w w5:=Below.app (Below.trans hbw4 (hbn.mono hsz4)) (hop4.alloc _) hgr5 (Nat.le_refl _) (Nat.le_trans hsz4 hbn.size)
     refine ⟨k+1,a5,c5,out ++ [(i : Int)],s',ar',cr',R',ap',cp',by omega,by go_num,by simp,Hst.out,hB5,?_,?_,hb5,Hok4.out,by omega,by simp;omega,?_⟩
     ·simpa using hown5
     ·show a5 ≠ none->_
      intro h0 hI
      rcases hap5 _ (hBn.lt _ hI).2 (haq _ hI) with h1 | h1
      ·exact h0 h1
      ·exact h1 rfl
     ·show _<=_
      rw [List.length_append];exact Hom.out
    case measure=>simp [intOf] <;> omega
   ·have ht' : s.takes G.ops (colS L i)=false:=by simpa using ht
    rw [ht']
    have Hst : Hid (grTo G.ops L Q (k+1)=(s.next G.ops (colS L i),out)):=by show _=_;rw [Hstep.out,if_neg ht]
    clear ht ht'
    generalize s.next G.ops (colS L i)=s' at *
    go_wp2_with fail
    go_roundw
    case rel=>exact ⟨k+1,aq,cq,out,s',ar',cr',R',ap',cp',by omega,by go_num,rfl,Hst.out,hB4,hop4,Hdq4.out,hbw4,Hok4.out,by omega,by omega,hom.out⟩
    case measure=>simp [intOf] <;> omega
  ·obtain rfl : k=no:=by omega
   have Ho : Hid (grM G.ops L Q most=out):=by
    show _=_
    have h1:=grM_all (O:=G.ops) (L:=L) (Q:=Q) (most:=most) (by rw [Hql.out,hst.out];exact hom.out)
    rw [h1,Hql.out,hst.out]
   go_wp2_with fail
   go_ret
   exact ⟨aq,cq,by rw [Ho.out];rfl,by rw [Ho.out];exact hop,hbr⟩
end

section
set_option maxRecDepth 100000
set_option maxHeartbeats 4000000

open Go.RowKit
theorem frTo_step (U : List Int) (k : Nat) : frTo false U (k+1)=if decide ((k : Int) ∈ U)=false then frTo false U k ++ [(k : Int)] else frTo false U k:=rfl
theorem exOutside_any (pb m : Nat) (sa : Option Addr) (ns cs : Nat) (s : List Int) (az : Option Addr) (nz cz : Nat) (z : List Int) (w : World) (p4 : w.cell? ⟨pb,4,none⟩=some (.int .i64 m)) (hs : Ints w sa ns s) (hz : Ints w az nz z)
  (hnz : nz<=1000000) (hm : m<=1000) :
  Calls Tryz.prog 262 #[.pointer (some ⟨pb,0,none⟩),.slice sa ns cs,.slice az nz cz] w (NewInts w (outS m s z)):=by
 have Hzl:=Lib.hid hz.len
 have HP:=Lib.hid (λ(V : World) (hV : Below w.heap.size w V)=>cell_keep hV p4)
 go_enter Tryz.func262,Tryz.ntmps262
 go_wp2_with fail
 refine (values_any az nz cz w).mono ?_
 rintro e w1 ⟨rfl,rfl⟩
 have hb1 : Below w.heap.size w (w.alloc (.cells #[.slice az nz cz] 22)):=below1 _ _
 have HSo:=Lib.hid (sorted_any w.heap.size az nz cz z hnz (w.alloc (.cells #[.slice az nz cz] 22)) (by simp) (cell_alloc_at _ _ _ rfl 0) (hz.keep hb1))
 have hsz1 : w.heap.size<=(w.alloc (.cells #[.slice az nz cz] 22)).heap.size:=hb1.size
 generalize w.alloc (.cells #[.slice az nz cz] 22)=w1 at *
 go_wp2_with fail
 refine HSo.out.mono ?_
 rintro e w2 ⟨a2,c2,rfl,hown2,hb2⟩
 have hbw2:=Below.next hb1 hb2
 have p4':=HP.out w2 hbw2
 have hO2 : w2.ownsRow w.heap.size 3 1 (.slice a2 nz c2) nz ((sortL z).map (Value.int .i64)):=own_mono hown2 hsz1
 clear hown2 p4
 go_wp2_with fail
 go_loopw [7,17] (λqv iv wr=>∃(k : Nat) (aq : Option Addr) (cq : Nat) (out : List Int),k<=m/\iv = .int .i64 k/\qv = .slice aq out.length cq/\Hid (out=sortL z ++ frTo false (s ++ z) k)/\Hid (out.length<=nz+k) /\
   wr.ownsRow w.heap.size 3 1 (.slice aq out.length cq) out.length (out.map (Value.int .i64))/\Below w.heap.size w wr)
  (λ_ iv _=>m - (intOf iv).toNat)
 case atStart =>
  refine ⟨0,a2,c2,sortL z,Nat.zero_le _,rfl,?_,?_,?_,?_,hbw2⟩
  ·rw [sortL_len,Hzl.out]
  ·show _=_;simp [frTo]
  ·show _<=_;rw [sortL_len,Hzl.out];omega
  ·rw [sortL_len,Hzl.out];exact hO2
 case round =>
  obtain ⟨k,aq,cq,out,hk,rfl,rfl,hst,hln,hop,hbr⟩:=hrel
  generalize wr=U at *
  by_cases hlt : k<m
  ·have hsU:=hs.keep hbr
   have hzU:=hz.keep hbr
   have hlen:=hln.out
   have Hskip : Hid (((k : Int) ∈ s ++ z)->out=sortL z ++ frTo false (s ++ z) (k+1)):=λhmem=>by
    rw [frTo_step,if_neg (by rw [decide_eq_true hmem];decide)];exact hst.out
   have Htake : Hid (¬ ((k : Int) ∈ s ++ z)->out ++ [(k : Int)]=sortL z ++ frTo false (s ++ z) (k+1)):=λhmem=>by
    rw [frTo_step,if_pos (by rw [decide_eq_false hmem]),<- List.append_assoc,<- hst.out]
   by_cases h1 : (k : Int) ∈ s
   ·have hmd : decide ((k : Int) ∈ s)=true:=by simpa using h1
    have HcA:=Lib.hid (contains_any sa ns cs s k U hsU)
    rw [hmd] at HcA
    have Hst : Hid (out=sortL z ++ frTo false (s ++ z) (k+1)):=Hskip.out (List.mem_append.2 (.inl h1))
    clear h1 hmd
    go_wp2_with fail
    refine HcA.out.mono ?_
    rintro e w6 ⟨rfl,rfl⟩
    go_wp2_with fail
    go_roundw
    case rel=>exact ⟨k+1,aq,cq,out,by omega,by go_num,rfl,Hst.out,(show _<=_ by omega),hop,hbr⟩
    case measure=>simp [intOf] <;> omega
   ·have hmd : decide ((k : Int) ∈ s)=false:=by simpa using h1
    have HcA:=Lib.hid (contains_any sa ns cs s k U hsU)
    rw [hmd] at HcA
    by_cases h2 : (k : Int) ∈ z
    ·have hmd2 : decide ((k : Int) ∈ z)=true:=by simpa using h2
     have HcB:=Lib.hid (contains_any az nz cz z k U hzU)
     rw [hmd2] at HcB
     have Hst : Hid (out=sortL z ++ frTo false (s ++ z) (k+1)):=Hskip.out (List.mem_append.2 (.inr h2))
     clear h1 hmd h2 hmd2
     go_wp2_with fail
     refine HcA.out.mono ?_
     rintro e w6 ⟨rfl,rfl⟩
     go_wp2_with fail
     refine HcB.out.mono ?_
     rintro e w7 ⟨rfl,rfl⟩
     go_wp2_with fail
     go_roundw
     case rel=>exact ⟨k+1,aq,cq,out,by omega,by go_num,rfl,Hst.out,(show _<=_ by omega),hop,hbr⟩
     case measure=>simp [intOf] <;> omega
    ·have hmd2 : decide ((k : Int) ∈ z)=false:=by simpa using h2
     have HcB:=Lib.hid (contains_any az nz cz z k U hzU)
     rw [hmd2] at HcB
     have Hst : Hid (out ++ [(k : Int)]=sortL z ++ frTo false (s ++ z) (k+1)):=Htake.out λh=>by
      rcases List.mem_append.1 h with h | h
      ·exact h1 h
      ·exact h2 h
     have hcn:=cell_new U (.int .i64 k) 3
     have hbn:=below1 U (.cells #[.int .i64 k] 3)
     have hszU:=hbr.size
     clear h1 hmd h2 hmd2
     go_wp2_with fail
     refine HcA.out.mono ?_
     rintro e w6 ⟨rfl,rfl⟩
     go_wp2_with fail
     refine HcB.out.mono ?_
     rintro e w7 ⟨rfl,rfl⟩
     go_wp2_with (at_builtin;refine wpList_push rfl _ _ 22 3 rfl (.int .i64 0) 8 Tryz.underlying22 infoInt rfl w.heap.size aq out.length cq _ rfl (hop.alloc _) ⟨w7.heap.size,0,none⟩ 1 (.int .i64 k) rfl hcn rfl (by omega) (by unfold maxLen;omega) (by simp;omega) ?_;intro a5 c5 w5 hown5 hgr5 hap5)
     go_roundw
     case rel =>
      have hb5 : Below w.heap.size w w5:=Below.app (Below.trans hbr (hbn.mono hszU)) (hop.alloc _) hgr5 (Nat.le_refl _) (Nat.le_trans hszU hbn.size)
      refine ⟨k+1,a5,c5,out ++ [(k : Int)],by omega,by go_num,by simp,Hst.out,(show _<=_ by rw [List.length_append,List.length_singleton];omega),?_,hb5⟩
      simpa using hown5
     case measure=>simp [intOf] <;> omega
  ·obtain rfl : k=m:=by omega
   have Ho : Hid (outS k s z=out):=by show _=_;rw [outS,hst.out]
   go_wp2_with fail
   go_ret
   exact ⟨aq,cq,by rw [Ho.out];rfl,by rw [Ho.out];exact hop,hbr⟩
end

section
open Go.RowKit
end

section
open Go.RowKit
def isB (O : FOps) (L : List (List Int)) (Q : List Int) : Bool:=decide (Q.length=L.length) && decide ((grS O L Q).length=Q.length)
end

section
theorem newF_count (U S : List Int) : ∀k,k<=S.length->newF U S k=((S.take k).countP λx=>decide (¬ x ∈ U) : Nat)
 | 0,_=>by simp [newF]
 | k+1,h=>by
  rw [newF,newF_count U S k (by omega),List.take_succ_eq_append_getElem (by omega),List.countP_append,nth_getElem (by omega)]
  by_cases h1 : S[k] ∈ U
  ·simp [h1]
  ·simp [h1]
theorem newF_perm {U S S' : List Int} (h : S.Perm S') : newF U S S.length=newF U S' S'.length:=by
 rw [newF_count _ _ _ (Nat.le_refl _),newF_count _ _ _ (Nat.le_refl _),List.take_of_length_le (Nat.le_refl _),List.take_of_length_le (Nat.le_refl _),h.countP_eq]
theorem frTo_pair (b : Bool) (U : List Int) : ∀k,(frTo b U k).Pairwise (λx y=>x<y)
 | 0=>List.Pairwise.nil
 | k+1=>by
  have ih:=frTo_pair b U k
  rw [frTo]
  split
  ·rw [List.pairwise_append]
   refine ⟨ih,by simp,λx hx y hy=>?_⟩
   rw [List.mem_singleton] at hy
   obtain ⟨j,hj,rfl,_⟩:=(mem_frTo k).1 hx
   omega
  ·exact ih
theorem used_sort {m : Nat} {U : List Int} (hn : U.Nodup) (hU : ∀x ∈ U,0<=x/\x<(m : Int)) : sortL U=frTo true U m:=by
 have h:=frTo_pair true U m
 refine (sortL_unique (h.imp λh=>by omega) ((List.perm_ext_iff_of_nodup (h.imp λh=>by omega) hn).2 λx=>?_)).symm
 rw [mem_frTo]
 constructor
 ·rintro ⟨j,_,rfl,h1⟩;simpa using h1
 ·intro hx
  have h1:=hU x hx
  exact ⟨x.toNat,by omega,by omega,by rw [show ((x.toNat : Nat) : Int)=x by omega];simpa using hx⟩
theorem used_len {m : Nat} {U : List Int} (hn : U.Nodup) (hU : ∀x ∈ U,0<=x/\x<(m : Int)) : U.length<=m:=by
 rw [<- sortL_len,used_sort hn hU];exact frTo_len _ _ _
theorem okSet_nodup {N : Int} {A : List Int} (h : okSet N A=true) : A.Nodup:=by
 refine nth_inj_nodup λi j hij hj=>?_
 have key : ∀d i,i+d<A.length->0<d->nth A i<nth A (i+d):=λd=>by
  induction d with
  | zero=>intro i _ h0;omega
  | succ d ih =>
   intro i hi _
   have h1:=(okSet_at h hi).2.2 (by omega)
   rw [show i+(d+1) - 1=i+d by omega] at h1
   by_cases h0 : d=0
   ·subst h0;exact h1
   ·have:=ih i (by omega) (by omega);omega
 have:=key (j - i) i (by omega) (by omega)
 rw [show i+(j - i)=j by omega] at this
 omega
section
variable {O : FOps} {El : Int->Prop} {m : Nat} {L : List (List Int)}
theorem isB_perm (F : Fld O El) (hL : Rws El m L) {Q Q' : List Int} (h : Q.Perm Q') : isB O L Q=isB O L Q':=by
 have h1:=rkQ_perm F hL h
 unfold rkQ at h1
 rw [isB,isB,h1,h.length_eq]
end
end

section
section
variable {f : Nat->Int} {N : Nat} (hf : ∀y,f y<=N)
include hf
end
end

section

end

section
section
variable {O : FOps} {El : Int->Prop} {m : Nat}
end
section
variable {P M : Int} {mod : List Int} {m : Nat} {L : List (List Int)} {Q : List Int}
end
end

section
variable {O : FOps} {L : List (List Int)} {m : Nat} {C : Clm}
end

section
section
variable {O : FOps} {El : Int->Prop} {m : Nat} {R : List (List Int)} {P : List Int}
theorem piv_inv (hR : Rws El m R) (hP : Piv R P m) (hlen : R.length=P.length) : BS.Inv El m ⟨R,P⟩ where
 ok:=⟨hR,hlen.symm,λi hi=>hP.lt i (by rw [<- hlen];exact hi)⟩
 one:=λi hi=>by
  show nth (nthR R i) (nth P i).toNat=1
  rw [hP.one i i (by rw [<- hlen];exact hi) hi,if_pos rfl]
 zero:=λj i hj hi=>by
  have hi' : i<R.length:=hi
  show nth (nthR R i) (nth P j).toNat=0
  rw [hP.one j i (by omega) hi',if_neg (by omega)]
def cmbTo (O : FOps) (m : Nat) (x : List Int) (L : List (List Int)) : Nat->List Int
 | 0=>List.replicate m 0
 | k+1=>if nth x k=0 then cmbTo O m x L k else addRow O (cmbTo O m x L k) (nth x k) (nthR L k)
theorem RS.add (F : Fld O El) {L : List (List Int)} {f g : Nat->Int} (hL : Rws El m L) (hf : RS O El m L f) (hg : RS O El m L g) {s : Int} (hs : El s) : RS O El m L (λx=>O.add (f x) (O.mul (g x) s)):=by
 refine (hf.comb F hg (F.cl.neg s hs)).congr λx hx=>?_
 obtain ⟨e,he,h⟩:=hg
 have hgx : El (g x):=by rw [h x hx];exact he.el _ (colS_vc hL F.zero x)
 rw [F.mul_neg hgx hs,F.neg_neg (F.cl.mul _ _ hgx hs)]
theorem cmb_rs (F : Fld O El) {L : List (List Int)} (hL : Rws El m L) {x : List Int} (hx : ∀k,k<L.length->El (nth x k)) : ∀k,k<=L.length->Vc El m (cmbTo O m x L k)/\RS O El m L (λi=>nth (cmbTo O m x L k) i)
 | 0,_=>by
  have h0 : ∀i,nth (List.replicate m (0 : Int)) i=0:=λi=>by
   unfold nth
   simp only [List.getD_eq_getElem?_getD,List.getElem?_replicate]
   split <;> rfl
  exact ⟨⟨by simp [cmbTo],λy hy=>by rw [List.eq_of_mem_replicate hy];exact F.zero⟩,RS.nul F λi _=>h0 i⟩
 | k+1,hk=>by
  obtain ⟨h1,h2⟩:=cmb_rs F hL hx k (by omega)
  have hr:=hL.row (i:=k) (by omega)
  have hs:=hx k (by omega)
  rw [cmbTo]
  split
  ·exact ⟨h1,h2⟩
  ·have hl : (nthR L k).length=(cmbTo O m x L k).length:=by rw [hr.1,h1.1]
   refine ⟨⟨by rw [addRow_length _ _ _ _ hl];exact h1.1,addRow_el F.cl h1.2 hr.2 hs⟩,(RS.add F hL h2 (.row F (i:=k) (by omega)) hs).congr λi hi=>?_⟩
   have hri : El (nth (nthR L k) i):=Vc.at hr hi
   rw [nth_addRow O _ _ _ i hl (by rw [h1.1];exact hi)]
   split
   ·rename_i e0
    rw [e0,F.zmul hs,F.add_zero _ (h1.at hi)]
   ·rw [F.mul_comm _ _ hs hri]
end
end

section

end

section
open Go.RowKit
end

section
open Go.RowKit
end

end Go.Proofs.YtcfmiocdlcapoaaGreat
