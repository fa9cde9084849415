import Derived.Test.YtcfmiocdlcapoaaGreatK17
import Derived.Test.YtcfmiocdlcapoaaGreatK7
import Derived.WalkKit
import Derived.ProofKit
import Derived.OpenShut
import Derived.ShutString
import Derived.ChangeOld
import Derived.Below
import Derived.Deep.Matrix
namespace Go.Proofs.YtcfmiocdlcapoaaGreat
set_option linter.unusedVariables false
set_option linter.unusedSimpArgs false
set_option linter.unusedSectionVars false
set_option maxRecDepth 100000
set_option maxHeartbeats 3200000
open Go.RowKit
section
variable {O : aQ} {El : Int->Prop} {m n : Nat}
theorem iE (F : cK O El) {a b : Nat->Int} : ∀t,(∀p,p<t->El (a p))->(∀p,p<t->El (b p))->dE O a b t=dE O b a t
 | 0,_,_=>rfl
 | t+1,ha,hb=>by
  rw [dE,dE,iE F t (λp hp=>ha p (by omega)) λp hp=>hb p (by omega),F.mul_comm _ _ (ha t (by omega)) (hb t (by omega))]
theorem vu (F : cK O El) {a b : Nat->Int} : ∀t,(∀p,p<t->O.mul (a p) (b p)=0)->dE O a b t=0
 | 0,_=>rfl
 | t+1,h=>by rw [dE,vu F t λp hp=>h p (by omega),h t (by omega),F.add_zero 0 F.zero]
theorem Ae (F : cK O El) {a b : Nat->Int} {x y : Nat} (hxy : x ≠ y) (hx : El (O.mul (a x) (b x))) (hy : El (O.mul (a y) (b y))) : ∀t,(∀p,p<t->p ≠ x->p ≠ y->O.mul (a p) (b p)=0) ->
  dE O a b t=O.add (if x<t then O.mul (a x) (b x) else 0) (if y<t then O.mul (a y) (b y) else 0)
 | 0,_=>by rw [if_neg (by omega),if_neg (by omega)];exact (F.add_zero 0 F.zero).symm
 | t+1,h=>by
  rw [dE,Ae F hxy hx hy t λp hp=>h p (by omega)]
  by_cases e : t=x
  ·subst e
   rw [if_neg (Nat.lt_irrefl t),if_pos (Nat.lt_succ_self t)]
   by_cases e2 : y<t
   ·rw [if_pos e2,if_pos (show y<t+1 by omega),F.Aj hy,F.add_comm _ _ hy hx]
   ·rw [if_neg e2,if_neg (show ¬ y<t+1 by omega),F.Aj F.zero,F.Aj hx,F.add_zero _ hx]
  ·by_cases e1 : t=y
   ·subst e1
    by_cases e2 : x<t
    ·rw [if_pos e2,if_neg (by omega),if_pos (by omega),if_pos (by omega),F.add_zero _ hx]
    ·rw [if_neg e2,if_neg (by omega),if_neg (by omega),if_pos (by omega),F.add_zero 0 F.zero]
   ·rw [h t (by omega) e e1]
    by_cases e2 : x<t
    ·by_cases e3 : y<t
     ·rw [if_pos e2,if_pos e3,if_pos (by omega),if_pos (by omega),F.add_zero _ (F.cl.add _ _ hx hy)]
     ·rw [if_pos e2,if_neg e3,if_pos (by omega),if_neg (by omega),F.add_zero _ (F.cl.add _ _ hx F.zero)]
    ·by_cases e3 : y<t
     ·rw [if_neg e2,if_pos e3,if_neg (by omega),if_pos (by omega),F.add_zero _ (F.cl.add _ _ F.zero hy)]
     ·rw [if_neg e2,if_neg e3,if_neg (by omega),if_neg (by omega),F.add_zero _ (F.cl.add _ _ F.zero F.zero)]
def wU (O : aQ) (r : Nat->Int) (K : Ll) : Nat->Lz
 | 0=>List.replicate K.length 0
 | t+1=>dP O (wU O r K t) (O.neg (r t)) (bf K t)
theorem o6 (F : cK O El) {r : Nat->Int} {K : Ll} (hK : bH El m K) : ∀t,(∀p,p<t->El (r p))->Vc El K.length (wU O r K t)
 | 0,_=>⟨by simp [wU],λy hy=>by
  have:=List.eq_of_mem_replicate hy
  rw [this];exact F.zero⟩
 | t+1,hr=>(o6 F hK t λp hp=>hr p (by omega)).sub F (dN hK F.zero t) (F.cl.neg _ (hr t (by omega)))
theorem wQ (F : cK O El) {r : Nat->Int} {K : Ll} (hK : bH El m K) {j : Nat} (hj : j<K.length) : ∀t,t<=m->(∀p,p<t->El (r p))->nth (wU O r K t) j=dE O r (λp=>nth (aj K j) p) t
 | 0,_,_=>by simp [wU,dE,nth,List.getD_eq_getElem?_getD,List.getElem?_replicate,hj]
 | t+1,ht,hr=>by
  have hv:=o6 F hK t λp hp=>hr p (by omega)
  have hc:=dN hK F.zero t
  have hrt:=hr t (by omega)
  have hx : El (nth (aj K j) t):=Vc.at (hK.row hj) (by omega)
  rw [wU,e8 O _ _ _ j (by rw [hc.1,hv.1]) (by rw [hv.1];exact hj),wQ F hK hj t (by omega) λp hp=>hr p (by omega),cZ K t j hj,F.neg_mul hrt hx,F.neg_neg (F.cl.mul _ _ hrt hx)]
  rfl
theorem qy (F : cK O El) {r : Nat->Int} {K : Ll} (hK : bH El m K) {φ : Lz->Int} (hφ : kc O El K.length φ) : ∀t,(∀p,p<t->El (r p))->φ (wU O r K t)=dE O r (λp=>φ (bf K p)) t
 | 0,_=>hφ.zero F (o6 F hK 0 λp hp=>by omega) λi hi=>by simp [wU,nth,List.getD_eq_getElem?_getD,List.getElem?_replicate,hi]
 | t+1,hr=>by
  have hv:=o6 F hK t λp hp=>hr p (by omega)
  have hc:=dN hK F.zero t
  have hrt:=hr t (by omega)
  have hx:=hφ.el _ hc
  rw [wU,hφ.sub _ _ _ hv hc (F.cl.neg _ hrt),qy F hK hφ t λp hp=>hr p (by omega),F.neg_mul hrt hx,F.neg_neg (F.cl.mul _ _ hrt hx)]
  rfl
theorem zl (F : cK O El) {r : Nat->Int} {K : Ll} (hK : bH El m K) {φ : Lz->Int} (hφ : kc O El K.length φ) (hr : ∀p,p<m->El (r p)) (h : ∀j,j<K.length->dE O r (λp=>nth (aj K j) p) m=0) :
  dE O r (λp=>φ (bf K p)) m=0:=by
 rw [<- qy F hK hφ m hr]
 exact hφ.zero F (o6 F hK m hr) λi hi=>by rw [wQ F hK hi m (Nat.le_refl _) hr];exact h i hi
def zq (O : aQ) (m : Nat) (G K : Ll) : Prop:=∀i j,i<G.length->j<K.length->dE O (λp=>nth (aj G i) p) (λp=>nth (aj K j) p) m=0
variable {G K : Ll}
theorem zq.symm (F : cK O El) (hG : bH El m G) (hK : bH El m K) (h : zq O m G K) : zq O m K G:=λi j hi hj=>by
 rw [iE F m (λp hp=>Vc.at (hK.row hi) hp) λp hp=>Vc.at (hG.row hj) hp]
 exact h j i hj hi
end
section
variable {O : aQ} {El : Int->Prop} {m n : Nat}
theorem vW (F : cK O El) {L : Ll} (hL : bH El m L) : dD O m (dD O m L)=dD O m L:=by
 obtain ⟨h1,h2⟩:=du F hL
 have hl:=cU F hL
 have h3:=tJ F h1 h2 hl
 have e : dD O m (dD O m L)=(dD O m L).take (aA O L m).2.length:=by
  show (aA O (dD O m L) m).1.take (aA O (dD O m L) m).2.length=_
  rw [h3]
 rw [e,List.take_of_length_le (by omega)]
def kerTo (O : aQ) (m : Nat) (R : Ll) (P : Lz) (c : Nat) : Nat->Lz
 | 0=>(List.replicate m 0).set c 1
 | i+1=>(kerTo O m R P c i).set (nth P i).toNat (O.neg (nth (aj R i) c))
def gd (O : aQ) (m : Nat) (R : Ll) (P : Lz) : Nat->Ll
 | 0=>[]
 | k+1=>if (k : Int) ∈ P then gd O m R P k else gd O m R P k ++ [kerTo O m R P k P.length]
def jk (P : Lz) : Nat->LN
 | 0=>[]
 | k+1=>if (k : Int) ∈ P then jk P k else jk P k ++ [k]
theorem iy (O : aQ) (m : Nat) (R : Ll) (P : Lz) (c : Nat) : ∀i,(kerTo O m R P c i).length=m
 | 0=>by simp [kerTo]
 | i+1=>by rw [kerTo,List.length_set,iy O m R P c i]
theorem la (O : aQ) (m : Nat) (R : Ll) (P : Lz) : ∀k,(gd O m R P k).length=(jk P k).length
 | 0=>rfl
 | k+1=>by
  rw [gd,jk]
  split
  ·exact la O m R P k
  ·rw [List.length_append,List.length_append,la O m R P k];rfl
theorem sl {P : Lz} {x : Nat} : ∀k,x ∈ jk P k ↔ x<k/\¬ (x : Int) ∈ P
 | 0=>by simp [jk]
 | k+1=>by
  rw [jk]
  split
  ·rename_i h
   rw [sl k]
   constructor
   ·rintro ⟨h1,h2⟩;exact ⟨by omega,h2⟩
   ·rintro ⟨h1,h2⟩
    by_cases e : x=k
    ·subst e;exact absurd h h2
    ·exact ⟨by omega,h2⟩
  ·rename_i h
   rw [List.mem_append,sl k,List.mem_singleton]
   constructor
   ·rintro (⟨h1,h2⟩ | rfl)
    ·exact ⟨by omega,h2⟩
    ·exact ⟨by omega,h⟩
   ·rintro ⟨h1,h2⟩
    by_cases e : x=k
    ·exact .inr e
    ·exact .inl ⟨by omega,h2⟩
theorem oV (O : aQ) (m : Nat) (R : Ll) (P : Lz) {j : Nat} : ∀k,j<(jk P k).length->aj (gd O m R P k) j=kerTo O m R P ((jk P k).getD j 0) P.length
 | 0,h=>by simp [jk] at h
 | k+1,h=>by
  rw [gd,jk] at *
  split
  ·rename_i hc
   rw [if_pos hc] at h
   exact oV O m R P k h
  ·rename_i hc
   rw [if_neg hc,List.length_append,List.length_singleton] at h
   have hl:=la O m R P k
   by_cases e : j<(jk P k).length
   ·have e1 : aj (gd O m R P k ++ [kerTo O m R P k P.length]) j=aj (gd O m R P k) j:=by
     unfold aj;simp only [List.getD_eq_getElem?_getD];rw [List.getElem?_append_left (by omega)]
    have e2 : (jk P k ++ [k]).getD j 0=(jk P k).getD j 0:=by simp only [List.getD_eq_getElem?_getD];rw [List.getElem?_append_left e]
    rw [e1,e2];exact oV O m R P k e
   ·have ej : j=(jk P k).length:=by omega
    have e1 : aj (gd O m R P k ++ [kerTo O m R P k P.length]) j=kerTo O m R P k P.length:=by
     unfold aj;simp only [List.getD_eq_getElem?_getD];rw [List.getElem?_append_right (by omega)];simp [ej,hl]
    have e2 : (jk P k ++ [k]).getD j 0=k:=by simp only [List.getD_eq_getElem?_getD];rw [List.getElem?_append_right (by omega)];simp [ej]
    rw [e1,e2]
variable {R : Ll} {P : Lz}
theorem mP (hP : nw R P m) {c x : Nat} (hx : x<m) (hxc : x ≠ c) : ∀i,i<=P.length->(∀j,j<i->(nth P j).toNat ≠ x)->nth (kerTo O m R P c i) x=0
 | 0,_,_=>by
  by_cases hc : c<m
  ·rw [kerTo,ff _ _ _ _ (by simpa using hc),if_neg hxc];simp [nth,List.getD_eq_getElem?_getD,List.getElem?_replicate];split <;> rfl
  ·rw [kerTo,List.set_eq_of_length_le (by simp;omega)];simp [nth,List.getD_eq_getElem?_getD,List.getElem?_replicate];split <;> rfl
 | i+1,hi,h=>by
  have hb:=hP.lt i (by omega)
  rw [kerTo,ff _ _ _ _ (by rw [iy];omega),if_neg (λe=>h i (by omega) e.symm)]
  exact mP hP hx hxc i (by omega) λj hj=>h j (by omega)
theorem og (hP : nw R P m) {c : Nat} (hc : c<m) (hn : ¬ (c : Int) ∈ P) : ∀i,i<=P.length->nth (kerTo O m R P c i) c=1
 | 0,_=>by rw [kerTo,ff _ _ _ _ (by simpa using hc),if_pos rfl]
 | i+1,hi=>by
  have hb:=hP.lt i (by omega)
  have hne : c ≠ (nth P i).toNat:=λe=>hn (by
   have : nth P i ∈ P:=aN (by omega)
   rwa [show nth P i=(c : Int) by omega] at this)
  rw [kerTo,ff _ _ _ _ (by rw [iy];omega),if_neg hne]
  exact og hP hc hn i (by omega)
theorem vZ (hP : nw R P m) (hl : se R P) {c j : Nat} : ∀i,i<=P.length->j<i->nth (kerTo O m R P c i) (nth P j).toNat=O.neg (nth (aj R j) c)
 | 0,_,h=>by omega
 | i+1,hi,h=>by
  have hb:=hP.lt i (by omega)
  have hbj:=hP.lt j (by omega)
  rw [kerTo,ff _ _ _ _ (by rw [iy];omega)]
  by_cases e : j=i
  ·subst e;rw [if_pos rfl]
  ·have:=hl.asc j i (by omega) (by omega)
   rw [if_neg (by omega)]
   exact vZ hP hl i (by omega) (by omega)
theorem pP (F : cK O El) (hR : bH El m R) (hP : nw R P m) (hlen : R.length=P.length) {c : Nat} (hc : c<m) : ∀i,i<=P.length->Vc El m (kerTo O m R P c i)
 | 0,_=>⟨iy O m R P c 0,λy hy=>by
  rw [kerTo] at hy
  rcases List.mem_or_eq_of_mem_set hy with h | rfl
  ·rw [List.eq_of_mem_replicate h];exact F.zero
  ·exact F.one⟩
 | i+1,hi=>⟨iy O m R P c (i+1),λy hy=>by
  rw [kerTo] at hy
  rcases List.mem_or_eq_of_mem_set hy with h | rfl
  ·exact (pP F hR hP hlen hc i (by omega)).2 y h
  ·exact F.cl.neg _ (Vc.at (hR.row (by omega)) hc)⟩
theorem qN {P : Lz} {k j : Nat} (h : j<(jk P k).length) : (jk P k).getD j 0<k/\¬ (((jk P k).getD j 0 : Nat) : Int) ∈ P:=by
 have e : (jk P k).getD j 0=(jk P k)[j]:=by simp [List.getD_eq_getElem?_getD,h]
 rw [e]
 exact (sl k).1 (List.getElem_mem h)
theorem lD (F : cK O El) (hR : bH El m R) (hP : nw R P m) (hlen : R.length=P.length) : bH El m (gd O m R P m):=λr hr=>by
 obtain ⟨j,hj,rfl⟩:=List.mem_iff_getElem.1 hr
 have hj' : j<(jk P m).length:=by rw [<- la O m R P m];exact hj
 rw [<- aE hj,oV O m R P m hj']
 exact pP F hR hP hlen (qN hj').1 P.length (Nat.le_refl _)
theorem zZ (F : cK O El) (hR : bH El m R) (hP : nw R P m) (hl : se R P) (hlen : R.length=P.length) : zq O m R (gd O m R P m):=λi j hi hj=>by
 rw [la] at hj
 rw [oV O m R P m hj]
 obtain ⟨hc,hn⟩:=qN hj
 generalize (jk P m).getD j 0=c at *
 have hb:=hP.lt i (by omega)
 have hne : c ≠ (nth P i).toNat:=λe=>hn (by
  have : nth P i ∈ P:=aN (by omega)
  rwa [show nth P i=(c : Int) by omega] at this)
 have hx : El (nth (aj R i) c):=Vc.at (hR.row hi) hc
 have e1 : nth (kerTo O m R P c P.length) c=1:=og hP hc hn _ (Nat.le_refl _)
 have e2 : nth (kerTo O m R P c P.length) (nth P i).toNat=O.neg (nth (aj R i) c):=vZ hP hl _ (Nat.le_refl _) (by omega)
 have e3 : nth (aj R i) (nth P i).toNat=1:=by rw [hP.one i i (by omega) hi,if_pos rfl]
 rw [Ae F hne (by rw [e1,F.je hx];exact hx) (by rw [e2,e3,F.one_mul _ (F.cl.neg _ hx)];exact F.cl.neg _ hx) m λp hp hpc hpi=>?_,if_pos hc,if_pos (by omega),e1,e2,e3,F.je hx,F.one_mul _ (F.cl.neg _ hx),F.add_neg _ hx]
 show O.mul (nth (aj R i) p) (nth (kerTo O m R P c P.length) p)=0
 have hxp : El (nth (aj R i) p):=Vc.at (hR.row hi) hp
 by_cases hpp : ∃q,q<P.length/\(nth P q).toNat=p
 ·obtain ⟨q,hq,rfl⟩:=hpp
  have hqi : i ≠ q:=λe=>hpi (by rw [e])
  rw [hP.one q i hq hi,if_neg hqi,F.mO ((pP F hR hP hlen hc _ (Nat.le_refl _)).at hp)]
 ·rw [mP hP hp hpc _ (Nat.le_refl _) λq hq e=>hpp ⟨q,hq,e⟩,F.dA hxp]
end
def gZ (w : World) (e : Ending) (w' : World) : Prop:=∃z,e = .returned (.bool z)/\Below w.heap.size w w'
theorem qZ (a : OA) (n c K : Nat) (L : Ll) (w : World) (hi : bZ w a n L) (hK : K<=100000) :
  Calls Tryz.prog 63 #[.agg #[.int .i64 0,.slice a n c],.int .i64 K] w (gZ w):=by
 have Hlen:=Z5 hi.len
 have hpl:=hi.pl
 have hmax:=hi.max
 unfold maxLen at hmax
 go_enter Tryz.func63,Tryz.ntmps63
 go_upto_region 1 with fail
 obtain ⟨W,hW⟩ : ∃W : World,W=w.alloc (.cells #[.int .i64 0,.slice a n c] 82):=⟨_,rfl⟩
 rw [<- hW]
 have hbW : Below w.heap.size w W:=by rw [hW];exact an _ _
 have x0 : aV W w.heap.size [.int .i64 0,.slice a n c]:=by rw [hW];exact aV.new _ _ _ rfl
 have c0:=x0.cell 0 rfl
 have c1:=x0.cell 1 rfl
 have hiW:=hi.ah hbW
 have HbW:=Z5 hbW
 clear hW x0 hi hbW
 by_cases h1 : K<n
 ·have d1 : decide (K<n)=true:=by simpa using h1
  have d1' : decide ((K : Int)<n)=true:=by simp;omega
  go_wp2_with fail
  go_ret
  exact ⟨_,rfl,HbW.out⟩
 ·have d1 : decide (K<n)=false:=by simpa using h1
  have d1' : decide ((K : Int)<n)=false:=by simp;omega
  go_wp2_with fail
  go_loopw [5,6] (λlv iv wr=>∃k m : Nat,k<=n/\m<=K/\lv = .int .i64 m/\iv = .int .i64 k/\wr=W) (λ_ iv _=>n - (intOf iv).toNat)
  case atStart=>exact ⟨0,K - n,Nat.zero_le _,by omega,by go_num,rfl,rfl⟩
  case round =>
   obtain ⟨k,m,hk,hm,rfl,rfl,rfl⟩:=hrel
   by_cases hlt : k<n
   ·obtain ⟨ra,rn,rc,hcell,hrow⟩:=hiW.cell k hlt
    by_cases h2 : m<rn
    ·have d2 : decide (m<rn)=true:=by simpa using h2
     have d2' : decide ((m : Int)<rn)=true:=by simp;omega
     go_wp2_with fail
     go_ret
     exact ⟨_,rfl,HbW.out⟩
    ·have d2 : decide (m<rn)=false:=by simpa using h2
     have d2' : decide ((m : Int)<rn)=false:=by simp;omega
     have d3 : (rn : Int)<=m:=by omega
     go_wp2_with fail
     go_roundw
     case rel=>exact ⟨k+1,m - rn,by omega,by omega,by go_num,by go_num,by first | rfl | trivial⟩
     case measure=>simp [intOf] <;> omega
   ·obtain rfl : k=n:=by omega
    go_wp2_with fail
    go_ret
    exact ⟨_,rfl,HbW.out⟩
theorem kb (P M : Int) (am : OA) (mn cm : Nat) (N : Int) (a : OA) (n c K : Nat) (L : Ll) (w : World) (hi : bZ w a n L) (hK : K<=100000) :
  Calls Tryz.prog 28 #[.agg #[.int .i64 P,.int .i64 M,.slice am mn cm,.int .i64 N,.slice a n c],.int .i64 K] w (gZ w):=by
 have H:=Z5 (λV hV=>qZ a n c K L V (hi.ah hV) hK : ∀V,Below w.heap.size w V->_)
 clear hi
 go_enter Tryz.func28,Tryz.ntmps28
 go_wp2_with fail
 have hbW:=an w (.cells #[.int .i64 P,.int .i64 M,.slice am mn cm,.int .i64 N,.slice a n c] 27)
 refine (H.out _ hbW).mono ?_
 rintro e w1 ⟨z,rfl,hb1⟩
 have hF:=Below.next hbW hb1
 go_wp2_with fail
 go_ret
 exact ⟨z,rfl,hF⟩
theorem F7 {b : Nat} {G : de} (a : OA) (n c : Nat) (l : Lz) (w : World) (h : eD w b G) (hi : Ints w a n l) (hl : G.B9 l) (h0 : G.El 0) :
  Calls Tryz.prog 89 #[.pointer (some ⟨b,0,none⟩),.slice a n c] w λe w'=>∃x,G.El x/\e = .returned (.int .i64 x)/\Below w.heap.size w w':=by
 have Hln:=Z5 hi.len
 have hpl:=hi.pl
 have hmx:=hi.max
 unfold maxLen at hmx
 have Had : Hid (∀x y,G.El (G.add x y)):=λx y=>de.EA h x y
 have HG:=Z5 (λV (hV : Below w.heap.size w V)=>And.intro (h.ah hV) (hi.ah hV))
 clear h hi
 go_enter Tryz.func89,Tryz.ntmps89
 go_wp2_with fail
 go_loopw [5,10] (λsv iv wr=>∃(k : Nat) (s : Int),k<=n/\iv = .int .i64 k/\sv = .int .i64 s/\G.El s/\Below w.heap.size w wr) (λ_ iv _=>n - (intOf iv).toNat)
 case atStart=>exact ⟨0,0,Nat.zero_le _,rfl,rfl,h0,Below.refl _ _⟩
 case round =>
  obtain ⟨k,s,hk,rfl,rfl,hs,hbr⟩:=hrel
  generalize wr=V at *
  by_cases hlt : k<n
  ·obtain ⟨hG,hI⟩:=HG.out V hbr
   have ck:=hI.cell k hlt
   have hx:=hl.nth (i:=k) (by rw [Hln.out];exact hlt)
   obtain ⟨x,hx'⟩ : ∃x,nth l k=x:=⟨_,rfl⟩
   rw [hx'] at ck hx
   have Hc:=Z5 (JD s x hG hs hx)
   have Hs:=Z5 (Had.out s x)
   obtain ⟨z,hz⟩ : ∃z,G.add s x=z:=⟨_,rfl⟩
   rw [hz] at Hc Hs
   clear hx' hG hI hx hs hz h0
   go_wp2_with fail
   refine Hc.out.mono ?_
   rintro e w4 ⟨m5,rfl,rfl⟩
   have hbN : Below w.heap.size w (V.drewN m5):=Below.next hbr (bd.below ⟨_,rfl⟩)
   have HbN:=Z5 hbN
   clear hbN
   go_wp2_with fail
   go_roundw
   case rel=>exact ⟨k+1,z,by omega,by go_num,rfl,Hs.out,HbN.out⟩
   case measure=>simp [intOf] <;> omega
  ·obtain rfl : k=n:=by omega
   have Hs:=Z5 hs
   clear hs
   go_wp2_with fail
   go_ret
   exact ⟨s,Hs.out,rfl,hbr⟩
section
open Go.ChangeShapes Go.WideShapes Go.ChangeAt Go.RowKit
theorem Tryz.own : ownKnob Tryz.prog.godebug=none:=by kernel_rfl
theorem Tryz.laid : laidOutB Tryz.prog=true:=by kernel_rfl
section
variable {H : Type} {enc : TypeId × Value->H} {W : World} {held : Bool} {fuel : Nat} {cs : List Value} {x : DataW H × List MemPlace}
theorem jX {a : Addr} {v : Value} {i : Nat} (h : W.cell? (a.add i)=some v) : W.cell? ⟨a.block,a.off+i,none⟩=some v:=by
 have hs:=World.cell?_spot h
 obtain ⟨b,o,s⟩:=a
 by_cases h0 : i=0
 ·subst h0
  simp only [Addr.add,if_true] at hs h
  subst hs
  exact h
 ·simpa [Addr.add,h0] using h
theorem jI {a : Addr} {v : Value} (h : W.cell? (a.add 0)=some v) : a=⟨a.block,a.off,none⟩:=by
 have hs:=World.cell?_spot h
 obtain ⟨b,o,s⟩:=a
 simp only [Addr.add,if_true] at hs
 subst hs
 rfl
theorem gy (l : Lz) (n i : Nat) (h : i<n) : nth (l.take n) i=l.getD i 0:=by
 unfold nth
 simp only [List.getD_eq_getElem?_getD,List.getElem?_take]
 rw [if_pos h]
theorem mA (h : DataW.trod enc Tryz.prog W 0 (λ_=>true) held fuel 22 cs=some x) : ∃a n c l,cs=[.slice a n c]/\Ints W a n l:=by
 rcases open_ints Tryz.underlying22 Tryz.underlying3 (by kernel_rfl) h with ⟨hcs,_⟩ | ⟨a,len,cap,zs,hcs,_,hl,hm,hz,_,hcell,_⟩
 ·exact ⟨none,0,0,[],hcs,Ints.nil _ _⟩
 ·simp only [if_true] at hz
  refine ⟨some a,len,cap,zs.take len,hcs,⟨by simp;omega,λh0=>?_,by omega,λi hi=>?_⟩⟩
  ·exact congrArg some (jI (hcell 0 (by omega)))
  ·rw [gy _ _ _ hi]
   exact jX (hcell i (by omega))
theorem oJ (h : DataW.trod enc Tryz.prog W 0 (λ_=>true) held fuel 25 cs=some x) : ∃a n c L,cs=[.slice a n c]/\bZ W a n L:=by
 rcases Go.Deep.open_int_rows Tryz.underlying25 Tryz.underlying22 Tryz.underlying3 (by kernel_rfl) (by kernel_rfl) h with ⟨hcs,_⟩ | ⟨a,len,cap,A,Ln,C,Z,hcs,_,hl,hm,_,hrows⟩
 ·exact ⟨none,0,0,[],hcs,⟨rfl,λh0=>by omega,by unfold maxLen;omega,λi hi=>by omega⟩⟩
 ·refine ⟨some a,len,cap,(List.range len).map (λr=>(Z r).take (Ln r)),hcs,⟨by simp,λh0=>congrArg some (jI (hrows 0 (by omega)).1),by omega,λr hr=>?_⟩⟩
  obtain ⟨h1,h2,h3,h4,_,h5,h6⟩:=hrows r (by omega)
  refine ⟨A r,Ln r,C r,jX h1,?_⟩
  have e : aj ((List.range len).map (λr=>(Z r).take (Ln r))) r=(Z r).take (Ln r):=by
   unfold aj
   simp [List.getD_eq_getElem?_getD,List.getElem?_map,List.getElem?_range hr]
  rw [e]
  match hA : A r,h5,h6 with
  | none,h5,_ =>
   have h0 : Ln r=0:=by have:=h5 rfl;omega
   rw [h0]
   exact Ints.nil _ _
  | some b,_,h6 =>
   obtain ⟨_,h7⟩:=h6 b rfl
   exact ⟨by simp;omega,λh0=>congrArg some (jI (h7 0 (by omega))),by omega,λi hi=>by
    rw [gy _ _ _ hi]
    exact jX (h7 i (by omega))⟩
end
section
variable {H : Type} {enc : TypeId × Value->H} {W : World} {held : Bool} {b0 : Nat} {v : Value} {d : DataW H} {p : List MemPlace}
theorem sR (hv : Value.okWide Tryz.prog W .any b0 27 v) (h : DataW.Trod enc Tryz.prog W 0 (λ_=>true) held 27 v d p) :
  ∃(P M : Int) (am : OA) (mn cm : Nat) (mod : Lz) (N : Int) (a : OA) (n c : Nat) (L : Ll),v = .agg #[.int .i64 P,.int .i64 M,.slice am mn cm,.int .i64 N,.slice a n c]/\Ints W am mn mod/\bZ W a n L:=by
 obtain ⟨cs,rfl,hsz⟩:=okWide_struct Tryz.underlying27 hv
 rw [show Tryz.prog.cellsOf 27 = 5 by kernel_rfl] at hsz
 obtain ⟨l⟩:=cs
 match l,hsz with
 | [v0,v1,v2,v3,v4],_ =>
 obtain ⟨fuel,hf⟩:=h
 obtain ⟨xs,n0,_,_,_,hlen,hfs⟩:=DataW.trod_struct Tryz.underlying27 hf
 obtain ⟨y0,y1,y2,rfl⟩ : ∃y0 y1 y2,xs=[y0,y1,y2]:=by
  match xs,hlen with
  | [y0,y1,y2],_=>exact ⟨y0,y1,y2,rfl⟩
 have k24 : Tryz.prog.cellsOf 24 = 3:=by kernel_rfl
 have k3 : Tryz.prog.cellsOf 3 = 1:=by kernel_rfl
 have k22 : Tryz.prog.cellsOf 22 = 1:=by kernel_rfl
 have k25 : Tryz.prog.cellsOf 25 = 1:=by kernel_rfl
 have g0 : DataW.trod enc Tryz.prog W 0 (λ_=>true) held n0 24 [v0,v1,v2]=some y0:=by simpa [Value.cells,k24] using hfs 0 _ rfl
 have g1 : DataW.trod enc Tryz.prog W 0 (λ_=>true) held n0 3 [v3]=some y1:=by simpa [Value.cells,k3] using hfs 1 _ rfl
 have g2 : DataW.trod enc Tryz.prog W 0 (λ_=>true) held n0 25 [v4]=some y2:=by simpa [Value.cells,k25] using hfs 2 _ rfl
 obtain ⟨xs',n1,_,_,_,hlen',hfs'⟩:=DataW.trod_struct Tryz.underlying24 g0
 obtain ⟨z0,z1,z2,rfl⟩ : ∃z0 z1 z2,xs'=[z0,z1,z2]:=by
  match xs',hlen' with
  | [z0,z1,z2],_=>exact ⟨z0,z1,z2,rfl⟩
 have q0 : DataW.trod enc Tryz.prog W 0 (λ_=>true) held n1 3 [v0]=some z0:=by simpa [k3] using hfs' 0 _ rfl
 have q1 : DataW.trod enc Tryz.prog W 0 (λ_=>true) held n1 3 [v1]=some z1:=by simpa [k3] using hfs' 1 _ rfl
 have q2 : DataW.trod enc Tryz.prog W 0 (λ_=>true) held n1 22 [v2]=some z2:=by simpa [k22] using hfs' 2 _ rfl
 obtain ⟨P,eP,_,_⟩:=DataW.trod_int Tryz.underlying3 q0
 obtain ⟨M,eM,_,_⟩:=DataW.trod_int Tryz.underlying3 q1
 obtain ⟨N,eN,_,_⟩:=DataW.trod_int Tryz.underlying3 g1
 obtain ⟨am,mn,cm,mod,eI,hI⟩:=mA q2
 obtain ⟨a,n,c,L,eL,hL⟩:=oJ g2
 simp at eP eM eN eI eL
 subst eP eM eN eI eL
 exact ⟨P,M,am,mn,cm,mod,N,a,n,c,L,rfl,hI,hL⟩
end
end
end Go.Proofs.YtcfmiocdlcapoaaGreat
