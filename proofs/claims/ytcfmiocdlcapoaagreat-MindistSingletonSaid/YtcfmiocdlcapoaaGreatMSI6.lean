/-  -/
import Derived.Test.YtcfmiocdlcapoaaGreatK19
import Derived.Test.YtcfmiocdlcapoaaGreatMSI5
import Derived.Test.YtcfmiocdlcapoaaGreatMSI2
import Derived.Test.YtcfmiocdlcapoaaGreatK4
import Derived.Test.YtcfmiocdlcapoaaGreatK21
import Derived.Test.YtcfmiocdlcapoaaGreatK22
import Derived.Test.YtcfmiocdlcapoaaGreatK28
import Derived.Test.YtcfmiocdlcapoaaGreatK12
import Derived.Test.YtcfmiocdlcapoaaGreatK25
import Derived.Test.YtcfmiocdlcapoaaGreatK29
import Derived.Test.YtcfmiocdlcapoaaGreatK31
import Derived.Test.YtcfmiocdlcapoaaGreatK17
import Derived.Test.YtcfmiocdlcapoaaGreatMSI1
namespace Go.Proofs.YtcfmiocdlcapoaaGreat
set_option linter.unusedVariables false
set_option linter.unusedSimpArgs false
set_option linter.unusedSectionVars false

section
variable {O : FOps} {El : Int->Prop} {m : Nat} {L : List (List Int)}
theorem rkQ_snoc_le (F : Fld O El) (hL : Rws El m L) (Q : List Int) (x : Int) : rkQ O L (Q ++ [x])<=rkQ O L Q+1:=by
 have h1:=rkQ_rk F hL (Q ++ [x])
 rw [gA_snoc] at h1
 have h2:=rkQ_rk F hL Q
 generalize rkQ O L (Q ++ [x])=n at *
 cases h1 with
 | dep _ _ h=>rw [h2.uniq h];omega
 | ind _ _ h=>rw [h2.uniq h];omega
theorem rkQ_le (O : FOps) (L : List (List Int)) (Q : List Int) : rkQ O L Q<=Q.length:=grS_le O L Q
theorem rkQ_mono (F : Fld O El) (hL : Rws El m L) {Q Q' : List Int} (h : ∀x ∈ Q,x ∈ Q') : rkQ O L Q<=rkQ O L Q' :=
 rkQ_span F hL λx hx=>by
  obtain ⟨y,hy,e⟩:=mem_gA.1 hx
  exact (col_clo F hL).mem _ _ (mem_gA.2 ⟨y,h y hy,e⟩)
variable {C : Clm}
end

section
open Go.RowKit
def wRow (O : FOps) (p : List Int) (i : Nat) (r : List Int) : List Int :=
 if nth r i=0 then r else List.zipWith (λa x=>O.add a (O.neg (O.mul (O.mul (nth r i) (O.inv (nth p i))) x))) r p
def woTo (O : FOps) (R : List (List Int)) (p i : Nat) : Nat->List (List Int)
 | 0=>[]
 | l+1=>if l=p then woTo O R p i l else woTo O R p i l ++ [wRow O (nthR R p) i (nthR R l)]
def woS (O : FOps) (R : List (List Int)) (i : Nat) : List (List Int) :=
 if findRow R i 0=R.length then R else woTo O R (findRow R i 0) i R.length
def hfrom (O : FOps) (n : Nat) : Nat->List (List Int)->Nat->List Int->List Int
 | 0,R,x,o=>if R.length=0 then o else o.set x R.length
 | d+1,R,x,o=>if R.length=0 then o else hfrom O n d (woS O R (n - (d+1))) x (hfrom O n d R (x+2 ^ (n - (d+1))) o)
def dimsS (O : FOps) (n : Nat) (L : List (List Int)) : List Int:=hfrom O n n L 0 (List.replicate (2 ^ n) 0)
def leafS (O : FOps) (n x : Nat) : Nat->List (List Int)->List (List Int)
 | 0,R=>R
 | d+1,R=>leafS O n x d (if x.testBit (n - (d+1))=true then R else woS O R (n - (d+1)))
variable {O : FOps} {El : Int->Prop} {m : Nat} {L : List (List Int)}
theorem wRow_length (O : FOps) {p r : List Int} {i : Nat} (h : p.length=r.length) : (wRow O p i r).length=r.length:=by
 unfold wRow
 split
 ·rfl
 ·rw [List.length_zipWith];omega
theorem nth_wRow (O : FOps) {p r : List Int} {i j : Nat} (h : p.length=r.length) (hj : j<r.length) : nth (wRow O p i r) j=if nth r i=0 then nth r j else O.add (nth r j) (O.neg (O.mul (O.mul (nth r i) (O.inv (nth p i))) (nth p j))):=by
 have hl:=wRow_length O (i:=i) h
 unfold wRow at hl ⊢
 split
 ·rfl
 ·rename_i h0
  rw [if_neg h0] at hl
  rw [nth_getElem (by omega),nth_getElem hj,nth_getElem (show j<p.length by omega)]
  simp
theorem mem_woTo {R : List (List Int)} {p i : Nat} {r : List Int} : ∀ {l},r ∈ woTo O R p i l ↔ ∃j,j<l/\j ≠ p/\r=wRow O (nthR R p) i (nthR R j)
 | 0=>by simp [woTo]
 | l+1=>by
  have ih:=mem_woTo (R:=R) (p:=p) (i:=i) (r:=r) (l:=l)
  rw [woTo]
  constructor
  ·intro h
   by_cases e : l=p
   ·rw [if_pos e] at h
    obtain ⟨j,h1,h2⟩:=ih.1 h
    exact ⟨j,by omega,h2⟩
   ·rw [if_neg e] at h
    rcases List.mem_append.1 h with h | h
    ·obtain ⟨j,h1,h2⟩:=ih.1 h
     exact ⟨j,by omega,h2⟩
    ·exact ⟨l,by omega,e,List.mem_singleton.1 h⟩
  ·rintro ⟨j,h1,h2,h3⟩
   by_cases e : l=p
   ·rw [if_pos e]
    exact ih.2 ⟨j,by omega,h2,h3⟩
   ·rw [if_neg e]
    by_cases e2 : j=l
    ·subst e2;exact List.mem_append.2 (.inr (List.mem_singleton.2 h3))
    ·exact List.mem_append.2 (.inl (ih.2 ⟨j,by omega,h2,h3⟩))
theorem woTo_length (O : FOps) (R : List (List Int)) (p i : Nat) : ∀l,(woTo O R p i l).length=if p<l then l - 1 else l
 | 0=>by simp [woTo]
 | l+1=>by
  have ih:=woTo_length O R p i l
  rw [woTo]
  split
  ·rename_i e
   subst e
   rw [ih,if_neg (by omega),if_pos (by omega)];rfl
  ·rename_i e
   rw [List.length_append,ih,List.length_singleton]
   by_cases h : p<l
   ·rw [if_pos h,if_pos (by omega)];omega
   ·rw [if_neg h,if_neg (by omega)]
theorem mem_nthR {R : List (List Int)} {r : List Int} (h : r ∈ R) : ∃j,j<R.length/\nthR R j=r:=by
 obtain ⟨j,hj,e⟩:=List.mem_iff_getElem.1 h
 exact ⟨j,hj,by rw [nthR_getElem hj];exact e⟩
theorem RS.mem (F : Fld O El) {r : List Int} (h : r ∈ L) : RS O El m L (λx=>nth r x):=by
 obtain ⟨j,hj,rfl⟩:=mem_nthR h
 exact .row F hj
theorem RS.el (F : Fld O El) (hL : Rws El m L) {f : Nat->Int} (h : RS O El m L f) {x : Nat} (hx : x<m) : El (f x):=by
 obtain ⟨e,he,h2⟩:=h
 rw [h2 x hx];exact he.el _ (colS_vc hL F.zero x)
theorem RS.at0 (F : Fld O El) (hL : Rws El m L) {f : Nat->Int} (h : RS O El m L f) {x : Nat} (hx : x<m) (h0 : ∀r ∈ L,nth r x=0) : f x=0:=by
 obtain ⟨e,he,h2⟩:=h
 rw [h2 x hx,form_unit F he (colS_vc hL F.zero x)]
 refine dotN_zero F _ λp hp=>?_
 show O.mul (e (unitR L.length p)) (nth (colS L x) p)=0
 rw [nth_colS _ _ p hp,h0 _ (nthR_mem hp),F.mzero (he.el _ (unitR_vc F _ p))]
theorem rs_snoc (F : Fld O El) (hL : Rws El m L) {r : List Int} (hr : Vc El m r) {f : Nat->Int} (h : RS O El m (L ++ [r]) f) : ∃s g,El s/\RS O El m L g/\∀x,x<m->f x=O.add (g x) (O.mul s (nth r x)):=by
 obtain ⟨e,he,h2⟩:=h
 have hLr : Rws El m (L ++ [r]):=λy hy=>by
  rcases List.mem_append.1 hy with hy | hy
  ·exact hL y hy
  ·rw [List.mem_singleton.1 hy];exact hr
 have hlen : (L ++ [r]).length=L.length+1:=by simp
 obtain ⟨c,hc⟩ : ∃c,((List.range L.length).map λt=>e (unitR (L.length+1) t))=c:=⟨_,rfl⟩
 have hcn : ∀t,t<L.length->nth c t=e (unitR (L.length+1) t):=λt ht=>by
  rw [<- hc,nth_getElem (by simpa using ht)];simp
 have hel : ∀t,El (e (unitR (L.length+1) t)):=λt=>by
  refine he.el _ ?_
  rw [hlen];exact unitR_vc F _ t
 have hce : ∀k,k<L.length->El (nth c k):=λk hk=>by rw [hcn k hk];exact hel k
 obtain ⟨c1,c2⟩:=cmb_rs F hL hce L.length (Nat.le_refl _)
 refine ⟨e (unitR (L.length+1) L.length),_,hel _,c2,λx hx=>?_⟩
 rw [h2 x hx,form_unit F he (colS_vc hLr F.zero x),cmb_dot F hL hce hx _ (Nat.le_refl _)]
 rw [hlen,dotN]
 have h3 : nth (colS (L ++ [r]) x) L.length=nth r x:=by
  rw [nth_colS _ _ _ (by rw [hlen];omega)]
  congr 1
  rw [nthR_getElem (by rw [hlen];omega)];simp
 rw [h3]
 congr 1
 refine dotN_congr _ λp hp=>⟨(hcn p hp).symm,?_⟩
 rw [nth_colS _ _ _ (by rw [hlen];omega)]
 congr 1
 rw [nthR_getElem (by rw [hlen];omega),nthR_getElem hp,List.getElem_append_left]
theorem wRow_vc (hO : FCl O El) {p r : List Int} (hp : Vc El m p) (hr : Vc El m r) {i : Nat} (hi : i<m) (h0 : nth p i ≠ 0) : Vc El m (wRow O p i r):=by
 have hl : p.length=r.length:=by rw [hp.1,hr.1]
 refine ⟨by rw [wRow_length O hl];exact hr.1,λx hx=>?_⟩
 obtain ⟨j,hj,rfl⟩:=List.mem_iff_getElem.1 hx
 rw [<- nth_getElem]
 rw [wRow_length O hl] at hj
 rw [nth_wRow O hl hj]
 have hj' : j<m:=by rw [hr.1] at hj;exact hj
 split
 ·exact hr.at hj'
 ·exact hO.add _ _ (hr.at hj') (hO.neg _ (hO.mul _ _ (hO.mul _ _ (hr.at hi) (hO.inv _ (hp.at hi) h0)) (hp.at hj')))
theorem wRow_zero (F : Fld O El) {p r : List Int} (hp : Vc El m p) (hr : Vc El m r) {i : Nat} (hi : i<m) (h0 : nth p i ≠ 0) : nth (wRow O p i r) i=0:=by
 have hl : p.length=r.length:=by rw [hp.1,hr.1]
 rw [nth_wRow O hl (by rw [hr.1];exact hi)]
 split
 ·assumption
 ·have h1:=hp.at hi
  have h2:=hr.at hi
  have h3:=F.cl.inv _ h1 h0
  rw [F.mul_assoc _ _ _ h2 h3 h1,F.mul_comm _ _ h3 h1,F.mul_inv _ h1 h0,F.mone h2,F.add_neg _ h2]
theorem HInv.init (F : Fld O El) (hL : Rws El m L) : HInv O El m L L [] :=
 ⟨hL,RSub.refl F L,λ_ _ z hz=>by simp at hz,λ_ h _=>h,by
  have:=rkQ_le O L []
  simp at this;omega⟩
theorem rkQ_dep (F : Fld O El) (hL : Rws El m L) {Q : List Int} {x : Int} (h : clV O El L.length (colS L) (gA Q) x.toNat) : rkQ O L (Q ++ [x])=rkQ O L Q:=by
 have h1:=rkQ_rk F hL (Q ++ [x])
 rw [gA_snoc] at h1
 exact h1.uniq (Rk.dep _ h (rkQ_rk F hL Q))
theorem HInv.step (F : Fld O El) (hL : Rws El m L) {R : List (List Int)} {Z : List Int} (h : HInv O El m L R Z) (hZ : ∀z ∈ Z,0<=z/\z<(m : Int)) {i : Nat} (hi : i<m) : HInv O El m L (woS O R i) (Z ++ [(i : Int)]):=by
 unfold woS
 by_cases hf : findRow R i 0=R.length
 ·rw [if_pos hf]
  have h0 : ∀r ∈ R,nth r i=0:=λr hr=>by
   obtain ⟨j,hj,rfl⟩:=mem_nthR hr
   refine findTo_zero R i (R.length - 0) 0 j (Nat.zero_le _) ?_
   unfold findRow at hf
   omega
  have hall : ∀f,RS O El m L f->(∀z ∈ Z,f z.toNat=0)->f i=0:=λf hf hz=>RS.at0 F h.rws (h.all f hf hz) hi h0
  refine ⟨h.rws,h.sub,λr hr z hz=>?_,λf hf hz=>h.all f hf λz hz'=>hz z (List.mem_append.2 (.inl hz')),?_⟩
  ·rcases List.mem_append.1 hz with hz | hz
   ·exact h.zero r hr z hz
   ·rw [List.mem_singleton.1 hz];simpa using h0 r hr
  ·rw [rkQ_dep F hL λφ hφ h1=>?_]
   ·exact h.cnt
   ·refine hall (λx=>φ (colS L x)) ⟨φ,hφ,λ_ _=>rfl⟩ λz hz=>h1 _ (mem_gA.2 ⟨z,hz,rfl⟩)
 ·rw [if_neg hf]
  obtain ⟨_,hp,hp0⟩:=find_lt (Nat.zero_le _) hf
  obtain ⟨p,hpe⟩ : ∃p,findRow R i 0=p:=⟨_,rfl⟩
  rw [hpe] at hp hp0 ⊢
  clear hf hpe
  have hpv : Vc El m (nthR R p):=h.rws.row hp
  have hR' : Rws El m (woTo O R p i R.length):=λr hr=>by
   obtain ⟨j,hj,_,rfl⟩:=mem_woTo.1 hr
   exact wRow_vc F.cl hpv (h.rws.row hj) hi hp0
  have hpr : RS O El m R (λx=>nth (nthR R p) x):=.row F hp
  have hpi:=hpv.at hi
  have hinv:=F.cl.inv _ hpi hp0
  have hat : ∀j x,j<R.length->x<m->nth (wRow O (nthR R p) i (nthR R j)) x=O.add (nth (nthR R j) x) (O.neg (O.mul (nth (nthR R p) x) (if nth (nthR R j) i=0 then 0 else O.mul (nth (nthR R j) i) (O.inv (nth (nthR R p) i))))):=λj x hj hx=>by
   have hjv : Vc El m (nthR R j):=h.rws.row hj
   rw [nth_wRow O (by rw [hpv.1,hjv.1]) (by rw [hjv.1];exact hx)]
   by_cases h0 : nth (nthR R j) i=0
   ·rw [if_pos h0,if_pos h0,F.mzero (hpv.at hx),F.nzero,F.add_zero _ (hjv.at hx)]
   ·rw [if_neg h0,if_neg h0,F.mul_comm _ _ (hpv.at hx) (F.cl.mul _ _ (hjv.at hi) hinv)]
  have hs : ∀j,j<R.length->El (if nth (nthR R j) i=0 then 0 else O.mul (nth (nthR R j) i) (O.inv (nth (nthR R p) i))):=λj hj=>by
   split
   ·exact F.zero
   ·exact F.cl.mul _ _ (Vc.at (h.rws.row hj) hi) hinv
  have hsub : RSub O El m (woTo O R p i R.length) R:=λk hk=>by
   obtain ⟨j,hj,_,e⟩:=mem_woTo.1 (nthR_mem hk)
   rw [e]
   exact ((RS.row F hj).comb F hpr (hs j hj)).congr λx hx=>hat j x hj hx
  have hz' : ∀r ∈ woTo O R p i R.length,nth r i=0:=λr hr=>by
   obtain ⟨j,hj,_,rfl⟩:=mem_woTo.1 hr
   exact wRow_zero F hpv (h.rws.row hj) hi hp0
  refine ⟨hR',hsub.trans h.sub,λr hr z hz=>?_,λf hf hz=>?_,?_⟩
  ·rcases List.mem_append.1 hz with hz | hz
   ·obtain ⟨j,hj,_,rfl⟩:=mem_woTo.1 hr
    have hzb:=hZ z hz
    rw [hat j _ hj (by omega),h.zero _ (nthR_mem hj) z hz,h.zero _ (nthR_mem hp) z hz,F.zmul (hs j hj),F.nzero,F.add_zero _ F.zero]
   ·rw [List.mem_singleton.1 hz];simpa using hz' r hr
  ·have hfR := h.all f hf λz hz'' => hz z (List.mem_append.2 (.inl hz''))
   have hRJ : Rws El m (woTo O R p i R.length ++ [nthR R p]):=λy hy=>by
    rcases List.mem_append.1 hy with hy | hy
    ·exact hR' y hy
    ·rw [List.mem_singleton.1 hy];exact hpv
   have hback : RSub O El m R (woTo O R p i R.length ++ [nthR R p]):=λj hj=>by
    have hlast : RS O El m (woTo O R p i R.length ++ [nthR R p]) (λx=>nth (nthR R p) x):=RS.mem F (List.mem_append.2 (.inr (List.mem_singleton.2 rfl)))
    by_cases e : j=p
    ·subst e;exact hlast
    ·have hj' : RS O El m (woTo O R p i R.length ++ [nthR R p]) (λx=>nth (wRow O (nthR R p) i (nthR R j)) x):=RS.mem F (List.mem_append.2 (.inl (mem_woTo.2 ⟨j,hj,e,rfl⟩)))
     refine (RS.add F hRJ hj' hlast (hs j hj)).congr λx hx=>?_
     have hq:=F.cl.mul _ _ (hpv.at hx) (hs j hj)
     have hjx : El (nth (nthR R j) x):=Vc.at (h.rws.row hj) hx
     rw [hat j x hj hx,F.add_assoc _ _ _ hjx (F.cl.neg _ hq) hq,F.negadd hq,F.add_zero _ hjx]
   obtain ⟨s,g,hse,hg,hfx⟩:=rs_snoc F hR' hpv (hback.rs hfR)
   have hgi:=RS.at0 F hR' hg hi hz'
   have hfi:=hz i (List.mem_append.2 (.inr (List.mem_singleton.2 rfl)))
   rw [Int.toNat_natCast,hfx i hi,hgi,F.zadd (F.cl.mul _ _ hse hpi)] at hfi
   have hs0 : s=0:=by
    have h1:=congrArg (λy=>O.mul y (O.inv (nth (nthR R p) i))) hfi
    change O.mul (O.mul s (nth (nthR R p) i)) (O.inv (nth (nthR R p) i))=O.mul 0 (O.inv (nth (nthR R p) i)) at h1
    rw [F.mul_assoc _ _ _ hse hpi hinv,F.mul_inv _ hpi hp0,F.mone hse,F.zmul hinv] at h1
    exact h1
   refine hg.congr λx hx=>?_
   rw [hfx x hx,hs0,F.zmul (hpv.at hx),F.add_zero _ (RS.el F hR' hg hx)]
  ·have hne : ¬ clV O El L.length (colS L) (gA Z) ((i : Int)).toNat:=λhcl=>by
    obtain ⟨φ,hφ,h2'⟩:=h.sub p hp
    have h2 : ∀x,x<m->nth (nthR R p) x=φ (colS L x):=h2'
    rw [Int.toNat_natCast] at hcl
    refine hp0 ?_
    rw [h2 i hi]
    refine hcl φ hφ λy hy=>?_
    obtain ⟨z,hz,rfl⟩:=mem_gA.1 hy
    have hzb:=hZ z hz
    rw [<- h2 _ (by omega)]
    exact h.zero _ (nthR_mem hp) z hz
   rw [rkQ_out F hL hne,woTo_length,if_pos hp]
   have:=h.cnt
   omega
def offTo (x : Nat) : Nat->List Int
 | 0=>[]
 | k+1=>if x.testBit k=true then offTo x k else offTo x k ++ [(k : Int)]
theorem mem_offTo {x : Nat} {y : Int} : ∀ {k},y ∈ offTo x k ↔ ∃j : Nat,j<k/\y=j/\x.testBit j=false
 | 0=>by simp [offTo]
 | k+1=>by
  have ih:=mem_offTo (x:=x) (y:=y) (k:=k)
  rw [offTo]
  constructor
  ·intro h
   split at h
   ·obtain ⟨j,h1,h2⟩:=ih.1 h
    exact ⟨j,by omega,h2⟩
   ·rename_i hb
    rcases List.mem_append.1 h with h | h
    ·obtain ⟨j,h1,h2⟩:=ih.1 h
     exact ⟨j,by omega,h2⟩
    ·exact ⟨k,by omega,List.mem_singleton.1 h,by simpa using hb⟩
  ·rintro ⟨j,h1,h2,h3⟩
   by_cases e : j=k
   ·subst e
    rw [if_neg (by rw [h3];decide)]
    exact List.mem_append.2 (.inr (List.mem_singleton.2 h2))
   ·split
    ·exact ih.2 ⟨j,by omega,h2,h3⟩
    ·exact List.mem_append.2 (.inl (ih.2 ⟨j,by omega,h2,h3⟩))
theorem leaf_inv (F : Fld O El) (hL : Rws El m L) {n x : Nat} (hn : n<=m) : ∀(d : Nat) (R : List (List Int)),d<=n->HInv O El m L R (offTo x (n - d))->HInv O El m L (leafS O n x d R) (offTo x n)
 | 0,R,_,h=>by rw [leafS];exact h
 | d+1,R,hd,h=>by
  rw [leafS]
  refine leaf_inv F hL hn d _ (by omega) ?_
  have e : n - d=(n - (d+1))+1:=by omega
  rw [e,offTo]
  split
  ·exact h
  ·refine h.step F hL (λz hz=>?_) (by omega)
   obtain ⟨j,h1,h2,_⟩:=mem_offTo.1 hz
   omega
theorem leaf_len (F : Fld O El) (hL : Rws El m L) (x : Nat) : (leafS O m x m L).length+rkQ O L (offTo x m)=L.length :=
 (leaf_inv F hL (Nat.le_refl m) m L (Nat.le_refl m) (by rw [Nat.sub_self];exact HInv.init F hL)).cnt
theorem woS_nil (O : FOps) {R : List (List Int)} (h : R.length=0) (i : Nat) : (woS O R i).length=0:=by
 obtain rfl:=List.eq_nil_of_length_eq_zero h
 unfold woS;simp [findRow,findTo]
theorem leaf_nil (O : FOps) (n x : Nat) : ∀(d : Nat) (R : List (List Int)),R.length=0->(leafS O n x d R).length=0
 | 0,R,h=>by rw [leafS];exact h
 | d+1,R,h=>by
  rw [leafS]
  refine leaf_nil O n x d _ ?_
  split
  ·exact h
  ·exact woS_nil O h _
theorem hfrom_len (O : FOps) (n : Nat) : ∀(d : Nat) (R : List (List Int)) (x : Nat) (o : List Int),(hfrom O n d R x o).length=o.length
 | 0,R,x,o=>by
  rw [hfrom]
  split
  ·rfl
  ·rw [List.length_set]
 | d+1,R,x,o=>by
  rw [hfrom]
  split
  ·rfl
  ·rw [hfrom_len O n d,hfrom_len O n d]
theorem mod_succ (y k : Nat) : y % 2 ^ (k+1)=y % 2 ^ k+(if y.testBit k=true then 2 ^ k else 0):=by
 rw [Nat.mod_pow_succ,testBit_div]
 rcases Nat.mod_two_eq_zero_or_one (y / 2 ^ k) with h | h <;> simp [h]
theorem hfrom_nth (O : FOps) (n : Nat) : ∀(d : Nat) (R : List (List Int)) (x : Nat) (o : List Int),d<=n->o.length=2 ^ n->x<2 ^ (n - d)->∀y,y<2 ^ n ->
  nth (hfrom O n d R x o) y=if y % 2 ^ (n - d)=x/\(leafS O n y d R).length ≠ 0 then ((leafS O n y d R).length : Int) else nth o y
 | 0,R,x,o,_,ho,hx,y,hy=>by
  rw [hfrom,leafS,Nat.sub_zero,Nat.mod_eq_of_lt hy]
  by_cases h : R.length=0
  ·rw [if_pos h,if_neg λhh=>hh.2 h]
  ·rw [if_neg h,nth_set _ _ _ _ (by rw [ho];simpa using hx)]
   by_cases e : y=x
   ·rw [if_pos e,if_pos ⟨e,h⟩]
   ·rw [if_neg e,if_neg λhh=>e hh.1]
 | d+1,R,x,o,hd,ho,hx,y,hy=>by
  rw [hfrom,leafS]
  by_cases h : R.length=0
  ·rw [if_pos h,if_neg]
   refine λhh=>hh.2 (leaf_nil O n y d _ ?_)
   split
   ·exact h
   ·exact woS_nil O h _
  ·rw [if_neg h]
   obtain ⟨k,hk⟩ : ∃k,n - (d+1)=k:=⟨_,rfl⟩
   have e : n - d=k+1:=by omega
   rw [hk] at hx ⊢
   have hx2 : x<2 ^ (n - d):=by rw [e,Nat.pow_succ];omega
   have hx3 : x+2 ^ k<2 ^ (n - d):=by rw [e,Nat.pow_succ];omega
   rw [hfrom_nth O n d _ _ _ (by omega) (by rw [hfrom_len];exact ho) hx2 y hy,hfrom_nth O n d _ _ _ (by omega) ho hx3 y hy,e,mod_succ]
   have hym : y % 2 ^ k<2 ^ k:=Nat.mod_lt _ (Nat.two_pow_pos k)
   by_cases hb : y.testBit k=true
   ·rw [if_pos hb,if_pos hb,if_neg λhh=>by omega]
    by_cases e2 : y % 2 ^ k=x
    ·simp only [e2,true_and]
    ·rw [if_neg λhh=>e2 (by omega),if_neg λhh=>e2 hh.1]
   ·rw [if_neg hb,if_neg hb,Nat.add_zero]
    by_cases e2 : y % 2 ^ k=x/\(leafS O n y d (woS O R k)).length ≠ 0
    ·rw [if_pos e2,if_pos e2]
    ·rw [if_neg e2,if_neg e2,if_neg λhh=>by omega]
theorem dims_nth (F : Fld O El) (hL : Rws El m L) {x : Nat} (hx : x<2 ^ m) : nth (dimsS O m L) x=((L.length - rkQ O L (offTo x m) : Nat) : Int):=by
 have h:=leaf_len F hL x
 unfold dimsS
 rw [hfrom_nth O m m L 0 _ (Nat.le_refl _) (by simp) (by simp) x hx]
 rw [show m - m=0 by omega,Nat.pow_zero,Nat.mod_one]
 by_cases h0 : (leafS O m x m L).length=0
 ·rw [if_neg λhh=>hh.2 h0]
  have e : nth (List.replicate (2 ^ m) (0 : Int)) x=0:=by
   unfold nth;simp only [List.getD_eq_getElem?_getD,List.getElem?_replicate];split <;> rfl
  rw [e];omega
 ·rw [if_pos ⟨rfl,h0⟩];omega
end

section
section
variable {O : FOps} {El : Int->Prop} {m : Nat} {L : List (List Int)}
end
def wtU (x : List Int) (U : List Int) (m : Nat) : Nat:=(List.range m).countP λj=>decide (nth x j ≠ 0/\(j : Int) ∈ U)
theorem countP_point {p p' : Nat->Bool} {s : Nat} (h : ∀j,j ≠ s->p j=p' j) : ∀m,(List.range m).countP p'+(if s<m/\p s=true then 1 else 0)=(List.range m).countP p+(if s<m/\p' s=true then 1 else 0)
 | 0=>by simp
 | m+1=>by
  have ih:=countP_point h m
  rw [List.range_succ,List.countP_append,List.countP_append,List.countP_singleton,List.countP_singleton]
  by_cases e : s=m
  ·subst e
   simp at ih
   by_cases h1 : p s=true <;> by_cases h2 : p' s=true <;> simp [h1,h2] <;> omega
  ·have h3:=h m (λe2=>e e2.symm)
   rw [h3]
   by_cases h4 : s<m
   ·simp only [h4,show s<m+1 by omega,true_and] at ih ⊢;omega
   ·simp only [h4,show ¬ s<m+1 by omega,false_and] at ih ⊢;simp at ih ⊢;omega
theorem wtU_one (x U : List Int) (m : Nat) {s : Int} (h0 : 0<=s) (hm : s<m) : wtU x (U ++ [s]) m=wtU x U m+(if nth x s.toNat ≠ 0/\¬ s ∈ U then 1 else 0):=by
 have h:=countP_point (p:=λj=>decide (nth x j ≠ 0/\(j : Int) ∈ U)) (p':=λj=>decide (nth x j ≠ 0/\(j : Int) ∈ U ++ [s])) (s:=s.toNat) (λj hj=>by
  have : ((j : Int) ∈ U ++ [s]) ↔ ((j : Int) ∈ U):=by
   rw [List.mem_append,List.mem_singleton]
   exact ⟨λh=>h.elim id λe=>absurd (by omega) hj,.inl⟩
  simp [this]) m
 have e : ((s.toNat : Nat) : Int)=s:=by omega
 have hlt : s.toNat<m:=by omega
 unfold wtU
 simp only [e,hlt,true_and,decide_eq_true_eq,List.mem_append,List.mem_singleton,or_true,and_true] at h
 have h' : (List.range m).countP (λj=>decide (nth x j ≠ 0/\(j : Int) ∈ U ++ [s]))=(List.range m).countP (λj=>decide (nth x j ≠ 0/\((j : Int) ∈ U\/(j : Int)=s))):=by simp
 rw [h']
 by_cases h1 : nth x s.toNat=0
 ·simp [h1] at h ⊢;exact h
 ·by_cases h2 : s ∈ U
  ·simp [h1,h2] at h ⊢;omega
  ·simp [h1,h2] at h ⊢;omega
theorem wtU_add (x : List Int) (m : Nat) : ∀(S U : List Int),S.Nodup->(∀s ∈ S,0<=s/\s<(m : Int))->wtU x (U ++ S) m=wtU x U m+S.countP λs=>decide (nth x s.toNat ≠ 0/\¬ s ∈ U)
 | [],U,_,_=>by simp
 | s :: S,U,hn,hb=>by
  rw [List.nodup_cons] at hn
  have h1:=hb s (List.mem_cons_self ..)
  have ih:=wtU_add x m S (U ++ [s]) hn.2 λy hy=>hb y (List.mem_cons_of_mem _ hy)
  rw [List.append_assoc,List.singleton_append] at ih
  rw [ih,wtU_one x U m h1.1 h1.2,List.countP_cons]
  have e : S.countP (λy=>decide (nth x y.toNat ≠ 0/\¬ y ∈ U ++ [s]))=S.countP (λy=>decide (nth x y.toNat ≠ 0/\¬ y ∈ U)):=by
   refine List.countP_congr λy hy=>?_
   have : y ≠ s:=λe=>hn.1 (e ▸ hy)
   simp [this]
  rw [e]
  simp only [decide_eq_true_eq]
  omega
theorem wtU_le (x U : List Int) (m : Nat) (hx : x.length=m) : wtU x U m<=wtL x:=by
 have h : wtL x=(List.range m).countP λj=>decide (nth x j ≠ 0):=by
  have e : x=(List.range m).map (nth x):=by
   refine List.ext_getElem (by simp [hx]) λi h1 h2=>?_
   rw [List.getElem_map,List.getElem_range,nth_getElem h1]
  conv=>lhs;rw [wtL,e,List.countP_map]
  rfl
 rw [h]
 exact List.countP_mono_left λj _ h=>by simp at h ⊢;exact h.1
theorem chain_bound {O : FOps} {L : List (List Int)} {m : Nat} {x : List Int} {v : Int} : ∀(T : List (List Int × Int)) (U : List Int),chainF O L m U T->(∀t ∈ T,v<(wtL (pickL t.1 x) : Int)) ->
  flTo L.length v (T.map (·.2)) T.length+wtU x U m<=(wtU x (U ++ (T.map (·.1)).flatten) m : Int)
 | [],U,_,_=>by simp [flTo]
 | t :: T,U,h,hw=>by
  obtain ⟨h1,h2,h3,h4,h5⟩:=h
  have ih:=chain_bound T (U ++ t.1) h5 λy hy=>hw y (List.mem_cons_of_mem _ hy)
  have hl : t.1.length=L.length:=(isB_iff.1 h2).1
  have hin : ∀s ∈ t.1,0<=s/\s<(m : Int):=λs hs=>by
   obtain ⟨k,hk,rfl⟩:=List.mem_iff_getElem.1 hs
   have:=okSet_at h1 hk
   rw [nth_getElem hk] at this
   exact ⟨this.1,this.2.1⟩
  have ha:=wtU_add x m t.1 U (okSet_nodup h1) hin
  have hwt:=hw t (List.mem_cons_self ..)
  have hfl : ∀(r : Int) (R : List Int),∀k,flTo L.length v (r :: R) (k+1)=max 0 (v+1 - (L.length - r))+flTo L.length v R k:=λr R k=>by
   induction k with
   | zero=>simp [flTo,nth]
   | succ k ih=>rw [flTo,ih,flTo];simp [nth];omega
  have hc : (wtL (pickL t.1 x) : Int)<=(t.1.countP λs=>decide (nth x s.toNat ≠ 0/\¬ s ∈ U) : Nat)+(L.length - t.2):=by
   have e1 : wtL (pickL t.1 x)=t.1.countP λs=>decide (nth x s.toNat ≠ 0):=by
    unfold wtL pickL;rw [List.countP_map];rfl
   have e2 : t.2=(t.1.countP (λs=>decide (¬ s ∈ U)) : Nat):=by
    rw [h4,newF_count _ _ _ (Nat.le_refl _),List.take_of_length_le (Nat.le_refl _)]
   have e3 : ∀S : List Int,(S.countP λs=>decide (nth x s.toNat ≠ 0))+S.countP (λs=>decide (¬ s ∈ U))<=(S.countP λs=>decide (nth x s.toNat ≠ 0/\¬ s ∈ U))+S.length:=λS=>by
    induction S with
    | nil=>simp
    | cons s S ih =>
     rw [List.countP_cons,List.countP_cons,List.countP_cons,List.length_cons]
     by_cases p1 : nth x s.toNat=0 <;> by_cases p2 : s ∈ U <;> simp [p1,p2] at ih ⊢ <;> omega
   have:=e3 t.1
   omega
  rw [List.map_cons,List.length_cons,hfl,List.map_cons,List.flatten_cons,<- List.append_assoc]
  omega
theorem fam_bound {P M : Int} {mod : List Int} {m : Nat} {L : List (List Int)} (hE : codeE P M mod m L=0) {x : List Int} (hx : x.length=m) {v : Int} (hv : 0<=v/\v<=(L.length : Int)) (hl : L.length<=64)
  (hw : ∀t ∈ famL (tblOf P M.toNat mod).ops L m,v<(wtL (pickL t.1 x) : Int)) :
  ∃f : Int,flV L.length ((famL (tblOf P M.toNat mod).ops L m).map (·.2)) v=(f,0)/\f<=(wtL x : Int):=by
 obtain ⟨h1,h2⟩:=fam_all hE
 obtain ⟨m',e,hm1,hm64,_,_⟩:=codeE_fld hE
 generalize famL (tblOf P M.toNat mod).ops L m=T at *
 have hb:=chain_bound T [] h1 hw
 have hle:=wtU_le x ([] ++ (T.map (·.1)).flatten) m hx
 have hr : ∀(T : List (List Int × Int)) (U : List Int),chainF (tblOf P M.toNat mod).ops L m U T->(T.map (·.2)).all (flQ L.length)=true:=λT=>by
  induction T with
  | nil=>intro U _;rfl
  | cons t T ih =>
   rintro U ⟨q1,q2,q3,q4,q5⟩
   have hbd:=newF_bd U t.1 t.1.length
   have hl : t.1.length=L.length:=(isB_iff.1 q2).1
   rw [List.map_cons,List.all_cons,ih _ q5,Bool.and_true]
   unfold flQ
   simp;omega
 refine ⟨flTo L.length v (T.map (·.2)) T.length,?_,?_⟩
 ·rw [flV,if_pos,List.length_map]
  refine ⟨?_,hr T [] h1⟩
  unfold flB
  simp [List.length_map]
  omega
 ·omega
end

section
section
variable {O : FOps} {El : Int->Prop} {m : Nat} {L : List (List Int)} {C : Clm}
end
def supp (x : List Int) (m : Nat) : List Int:=((List.range m).filter λj=>decide (nth x j ≠ 0)).map Int.ofNat
theorem mem_supp {x : List Int} {m : Nat} {y : Int} : y ∈ supp x m ↔ ∃j : Nat,j<m/\nth x j ≠ 0/\y=j:=by
 unfold supp
 rw [List.mem_map]
 constructor
 ·rintro ⟨j,hj,rfl⟩
  rw [List.mem_filter,List.mem_range] at hj
  exact ⟨j,hj.1,by simpa using hj.2,rfl⟩
 ·rintro ⟨j,h1,h2,rfl⟩
  exact ⟨j,by rw [List.mem_filter,List.mem_range];exact ⟨h1,by simpa using h2⟩,rfl⟩
theorem supp_len {x : List Int} {m : Nat} (h : x.length=m) : (supp x m).length=wtL x:=by
 have e : x=(List.range m).map (nth x):=by
  refine List.ext_getElem (by simp [h]) λi h1 h2=>?_
  rw [List.getElem_map,List.getElem_range,nth_getElem h1]
 unfold supp wtL
 rw [List.length_map,<- List.countP_eq_length_filter]
 conv=>rhs;rw [e,List.countP_map]
 rfl
theorem wtL_zero {x : List Int} : wtL x=0 ↔ ∀k,k<x.length->nth x k=0:=by
 unfold wtL
 rw [List.countP_eq_zero]
 constructor
 ·intro h k hk
  have h1:=h _ (nth_mem hk)
  simpa using h1
 ·intro h y hy
  obtain ⟨k,hk,rfl⟩:=List.mem_iff_getElem.1 hy
  have h1:=h k hk
  rw [nth_getElem hk] at h1
  simp [h1]
section
variable {P M : Int} {mod : List Int} {m : Nat} {L : List (List Int)}
theorem code_piv (hE : codeE P M mod m L=0) : ∃p : List Int,Piv L p m/\L.length=p.length:=by
 obtain ⟨N',e,hm1,hm64,F,hR⟩:=codeE_fld hE
 obtain rfl : m=N':=by omega
 have h6:=(spaceE_zero (codeE_zero hE).2.2.2).2
 rw [Int.toNat_natCast] at h6
 have hcan : canO (tblOf P M.toNat mod).ops m L=L:=h6
 obtain ⟨hPv,hLd⟩:=canO_piv F hR
 have hcl:=canO_len F hR
 rw [hcan] at hPv hcl
 exact ⟨_,hPv,hcl⟩
theorem full_clo (hE : codeE P M mod m L=0) {Q : List Int} (hr : L.length<=rkQ (tblOf P M.toNat mod).ops L Q) (hQ : ∀x ∈ Q,0<=x/\x<(m : Int)) {x : Nat} (hx : x<m) : clV (tblOf P M.toNat mod).ops (tblOf P M.toNat mod).El L.length (colS L) (gA Q) x:=by
 obtain ⟨N',e,hm1,hm64,F,hR⟩:=codeE_fld hE
 obtain rfl : m=N':=by omega
 have hfull:=code_full hE
 refine Classical.byContradiction λhn=>?_
 have h1:=rkQ_out F hR (Q:=Q) (x:=(x : Int)) (by simpa using hn)
 have h2:=Rk.le (col_clo F hR) (rkQ_rk F hR (Q ++ [(x : Int)])) hfull λy hy=>by
  refine (col_clo F hR).mem _ _ ?_
  rw [List.mem_range]
  obtain ⟨z,hz,rfl⟩:=mem_gA.1 hy
  rcases List.mem_append.1 hz with hz | hz
  ·have:=hQ z hz
   omega
  ·rw [List.mem_singleton] at hz;subst hz;simpa using hx
 omega
theorem cmb_piv (hE : codeE P M mod m L=0) {p : List Int} (hp : Piv L p m) (hl : L.length=p.length) {v : List Int} (hv : ∀k,k<L.length->(tblOf P M.toNat mod).El (nth v k)) {k : Nat} (hk : k<L.length) :
  nth (cmbTo (tblOf P M.toNat mod).ops m v L L.length) (nth p k).toNat=nth v k:=by
 obtain ⟨N',e,hm1,hm64,F,hR⟩:=codeE_fld hE
 obtain rfl : m=N':=by omega
 have hpk:=hp.lt k (by omega)
 rw [cmb_dot F hR hv (by omega) _ (Nat.le_refl _)]
 have hone : ∀t,t<L.length->nth (nthR L t) (nth p k).toNat=if t=k then 1 else 0:=λt ht=>hp.one k t (by omega) ht
 have hvj:=hv k hk
 rw [dotN_one F (x:=k) (by
  show (tblOf P M.toNat mod).El ((tblOf P M.toNat mod).ops.mul (nth v k) (nth (nthR L k) (nth p k).toNat))
  rw [hone k hk,if_pos rfl,F.mone hvj];exact hvj) L.length (λq hq hqk=>by
  show (tblOf P M.toNat mod).ops.mul (nth v q) (nth (nthR L q) (nth p k).toNat)=0
  rw [hone q hq,if_neg hqk,F.mzero (hv q hq)]),if_pos hk]
 show (tblOf P M.toNat mod).ops.mul (nth v k) (nth (nthR L k) (nth p k).toNat)=_
 rw [hone k hk,if_pos rfl,F.mone hvj]
theorem zero_msg (hE : codeE P M mod m L=0) {Q : List Int} (hr : L.length<=rkQ (tblOf P M.toNat mod).ops L Q) (hQ : ∀x ∈ Q,0<=x/\x<(m : Int)) {v : List Int} (hv : ∀k,k<L.length->(tblOf P M.toNat mod).El (nth v k))
  (h0 : ∀x ∈ Q,nth (cmbTo (tblOf P M.toNat mod).ops m v L L.length) x.toNat=0) : ∀k,k<L.length->nth v k=0:=λk hk=>by
 obtain ⟨N',e,hm1,hm64,F,hR⟩:=codeE_fld hE
 obtain rfl : m=N':=by omega
 obtain ⟨p,hp,hl⟩:=code_piv hE
 obtain ⟨c1,f,hf,c2⟩:=cmb_rs F hR hv L.length (Nat.le_refl _)
 have hpk:=hp.lt k (by omega)
 rw [<- cmb_piv hE hp hl hv hk]
 have h1 : nth (cmbTo (tblOf P M.toNat mod).ops m v L L.length) (nth p k).toNat=f (colS L (nth p k).toNat):=c2 _ (by omega)
 rw [h1]
 refine full_clo hE hr hQ (x:=(nth p k).toNat) (by omega) f hf λy hy=>?_
 obtain ⟨z,hz,rfl⟩:=mem_gA.1 hy
 have h2:=hQ z hz
 have h3 : nth (cmbTo (tblOf P M.toNat mod).ops m v L L.length) z.toNat=f (colS L z.toNat):=c2 _ (by omega)
 rw [<- h3]
 exact h0 z hz
end
end

section
open Go.RowKit
def setsS (n : Nat) : Nat->Nat->List (List Int)
 | 0,_=>[[]]
 | s+1,lo=>(List.range' lo (n - lo)).flatMap λi=>(setsS n s (i+1)).map λt=>(i : Int) :: t
def Asc (lo n : Nat) (t : List Int) : Prop:=t.Pairwise (· < ·)/\∀x ∈ t,(lo : Int)<=x/\x<n
theorem mem_setsS {n : Nat} : ∀ {s lo : Nat} {t : List Int},t ∈ setsS n s lo ↔ t.length=s/\Asc lo n t
 | 0,lo,t=>by
  rw [setsS,List.mem_singleton]
  constructor
  ·rintro rfl;exact ⟨rfl,List.Pairwise.nil,λx hx=>by simp at hx⟩
  ·rintro ⟨h,_⟩;exact List.eq_nil_of_length_eq_zero h
 | s+1,lo,t=>by
  rw [setsS,List.mem_flatMap]
  constructor
  ·rintro ⟨i,hi,h⟩
   rw [List.mem_range'_1] at hi
   obtain ⟨u,hu,rfl⟩:=List.mem_map.1 h
   obtain ⟨h1,h2,h3⟩:=mem_setsS.1 hu
   refine ⟨by simp [h1],List.pairwise_cons.2 ⟨λy hy=>by have:=h3 y hy;omega,h2⟩,λx hx=>?_⟩
   rcases List.mem_cons.1 hx with rfl | hx
   ·omega
   ·have:=h3 x hx;omega
  ·rintro ⟨h1,h2,h3⟩
   match t,h1,h2,h3 with
   | x :: u,h1,h2,h3 =>
    have hx:=h3 x (by simp)
    obtain ⟨h4,h5⟩:=List.pairwise_cons.1 h2
    refine ⟨x.toNat,List.mem_range'_1.2 (by omega),List.mem_map.2 ⟨u,mem_setsS.2 ⟨by simpa using h1,h5,λy hy=>?_⟩,?_⟩⟩
    ·have:=h4 y hy
     have:=h3 y (by simp [hy])
     omega
    ·rw [Int.toNat_of_nonneg (by omega)]
theorem asc_ext : ∀ {a b : List Int},a.Pairwise (· < ·)->b.Pairwise (· < ·)->(∀x,x ∈ a ↔ x ∈ b)->a=b
 | [],[],_,_,_=>rfl
 | [],y :: b,_,_,h=>by have:=(h y).2 (by simp);simp at this
 | x :: a,[],_,_,h=>by have:=(h x).1 (by simp);simp at this
 | x :: a,y :: b,ha,hb,h=>by
  obtain ⟨a1,a2⟩:=List.pairwise_cons.1 ha
  obtain ⟨b1,b2⟩:=List.pairwise_cons.1 hb
  have e : x=y:=by
   rcases List.mem_cons.1 ((h x).1 (by simp)) with e | e
   ·exact e
   ·rcases List.mem_cons.1 ((h y).2 (by simp)) with e2 | e2
    ·exact e2.symm
    ·have:=a1 _ e2;have:=b1 _ e;omega
  subst e
  rw [asc_ext a2 b2 λz=>?_]
  constructor
  ·intro hz
   rcases List.mem_cons.1 ((h z).1 (by simp [hz])) with e | e
   ·have:=a1 z hz;omega
   ·exact e
  ·intro hz
   rcases List.mem_cons.1 ((h z).2 (by simp [hz])) with e | e
   ·have:=b1 z hz;omega
   ·exact e
theorem bits_asc (x : Nat) : ∀n,Asc 0 n (bitsTo x n)
 | 0=>⟨List.Pairwise.nil,λy hy=>by simp [bitsTo] at hy⟩
 | n+1=>by
  obtain ⟨h1,h2⟩:=bits_asc x n
  unfold bitsTo
  split
  ·refine ⟨?_,λy hy=>?_⟩
   ·rw [List.pairwise_append]
    refine ⟨h1,List.pairwise_singleton _ _,λa ha b hb=>?_⟩
    rw [List.mem_singleton] at hb
    have:=h2 a ha;omega
   ·rcases List.mem_append.1 hy with hy | hy
    ·have:=h2 y hy;omega
    ·rw [List.mem_singleton] at hy;omega
  ·exact ⟨h1,λy hy=>by have:=h2 y hy;omega⟩
theorem asc_bits {n : Nat} (hn : n<=64) {t : List Int} (h : Asc 0 n t) : ∃x,x<2 ^ n/\bitsTo x n=t:=by
 have hT : ∀j,j<t.length->0<=nth t j/\nth t j<64:=λj hj=>by
  have:=h.2 _ (nth_mem hj);omega
 have hm : ∀i,(maskS t).testBit i=true ↔ (i : Int) ∈ t:=λi=>by
  rw [maskS,maskTo_test t.length hT i]
  constructor
  ·rintro ⟨j,hj,e⟩;rw [<- e];exact nth_mem hj
  ·intro hi
   obtain ⟨j,hj,e⟩:=List.mem_iff_getElem.1 hi
   exact ⟨j,hj,by rw [nth_getElem hj];exact e⟩
 refine ⟨maskS t,?_,asc_ext (bits_asc _ _).1 h.1 λx=>?_⟩
 ·refine Nat.lt_pow_two_of_testBit _ λi hi=>?_
  rw [Bool.eq_false_iff];intro hb
  have:=h.2 _ ((hm i).1 hb);omega
 ·rw [mem_bitsTo]
  constructor
  ·rintro ⟨j,_,rfl,hb⟩;exact (hm j).1 hb
  ·intro hx
   have:=h.2 x hx
   exact ⟨x.toNat,by omega,by omega,(hm _).2 (by rw [Int.toNat_of_nonneg (by omega)];exact hx)⟩
end

section
def addAll (O : FOps) : List Int->List Int->List (List Int)->List Int
 | u,a :: s,r :: R=>addAll O (addS O u a r) s R
 | u,_,_=>u
variable {O : FOps} {m : Nat}
theorem addAll_cmb {v : List Int} {L : List (List Int)} (h : v.length=L.length) : ∀(d j : Nat),j+d=L.length->addAll O (cmbTo O m v L j) (v.drop j) (L.drop j)=cmbTo O m v L L.length
 | 0,j,hj=>by
  obtain rfl : j=L.length:=by omega
  rw [List.drop_of_length_le (Nat.le_refl _),List.drop_of_length_le (by omega)]
  rfl
 | d+1,j,hj=>by
  rw [List.drop_eq_getElem_cons (show j<v.length by omega),List.drop_eq_getElem_cons (show j<L.length by omega),addAll]
  rw [<- addAll_cmb h d (j+1) (by omega)]
  congr 1
  rw [cmbTo,nth_getElem (show j<v.length by omega),nthR_getElem (show j<L.length by omega)]
  rfl
end

section
open Go.RowKit
theorem rCheck_any (P M : Int) (am : Option Addr) (mn cm : Nat) (mod : List Int) (N : Int) (a : Option Addr) (n c : Nat) (L : List (List Int)) (w : World) (hmod : Ints w am mn mod) (hi : Mat w a n L) :
  Calls Tryz.prog 22 #[.agg #[.int .i64 P,.int .i64 M,.slice am mn cm,.int .i64 N,.slice a n c]] w λe w'=>e = .returned (.int .i64 (codeE P M mod N L))/\Below w.heap.size w w':=by
 rw [<- rcodeE_eq]
 exact rCodeCheck_any P M am mn cm mod N a n c L w hmod hi hinv_all
end

section
open Go.RowKit
section
variable {O : FOps} {El : Int->Prop} {m : Nat} {A B L : List (List Int)}
theorem RS.cmb (F : Fld O El) (hL : Rws El m L) {f : Nat->Int} (h : RS O El m L f) : ∃v,Vc El L.length v/\∀x,x<m->f x=nth (cmbTo O m v L L.length) x:=by
 obtain ⟨e,he,h2⟩:=h
 obtain ⟨c,hc⟩ : ∃c,((List.range L.length).map λt=>e (unitR L.length t))=c:=⟨_,rfl⟩
 have hcl : c.length=L.length:=by rw [<- hc];simp
 have hcn : ∀t,t<L.length->nth c t=e (unitR L.length t):=λt ht=>by rw [<- hc,nth_mapRange _ _ _ ht]
 have hcv : Vc El L.length c:=⟨hcl,λy hy=>by
  obtain ⟨t,ht,rfl⟩:=List.mem_iff_getElem.1 hy
  rw [<- nth_getElem ht,hcn t (by omega)]
  exact he.el _ (unitR_vc F _ _)⟩
 refine ⟨c,hcv,λx hx=>?_⟩
 rw [h2 x hx,form_unit F he (colS_vc hL F.zero x),cmb_dot F hL (λk hk=>hcv.at hk) hx _ (Nat.le_refl _)]
 exact dotN_congr _ λp hp=>⟨(hcn p hp).symm,nth_colS _ _ _ hp⟩
end
end

section
open Go.RowKit
theorem mem_elsN {q : Nat} {x : Int} : x ∈ elsN q ↔ 1<=x/\x<q:=by
 unfold elsN
 rw [List.mem_map]
 constructor
 ·rintro ⟨i,hi,rfl⟩
  rw [List.mem_range] at hi
  omega
 ·intro h
  exact ⟨(x - 1).toNat,by rw [List.mem_range];omega,by omega⟩
end

section
open Go.RowKit
theorem cmpM_self : ∀a : List Int,cmpL a a=0
 | []=>rfl
 | x :: a=>by rw [cmpL,if_neg (by omega),if_neg (by omega),cmpM_self a]
theorem cmpM_anti : ∀a b : List Int,cmpL b a = - cmpL a b
 | [],[]=>rfl
 | [],_ :: _=>rfl
 | _ :: _,[]=>rfl
 | x :: a,y :: b=>by
  rw [cmpL,cmpL]
  by_cases h1 : x<y
  ·rw [if_neg (by omega),if_pos h1,if_pos h1];rfl
  ·by_cases h2 : y<x
   ·rw [if_pos h2,if_neg h1,if_pos h2]
   ·rw [if_neg h2,if_neg h1,if_neg h1,if_neg h2,cmpM_anti a b]
theorem cmpM_le : ∀ {a b c : List Int},cmpL a b<=0->cmpL b c<=0->cmpL a c<=0
 | [],_,[],_,_=>by rw [cmpL];omega
 | [],_,_ :: _,_,_=>by rw [cmpL];omega
 | _ :: _,[],_,h,_=>by rw [cmpL] at h;omega
 | _ :: _,_ :: _,[],_,h=>by rw [cmpL] at h;omega
 | x :: a,y :: b,z :: c,h,h'=>by
  rw [cmpL] at h h' ⊢
  by_cases h1 : x<y
  ·by_cases h3 : z<y
   ·rw [if_neg (by omega),if_pos h3] at h';omega
   ·rw [if_pos (by omega)];omega
  ·rw [if_neg h1] at h
   by_cases h2 : y<x
   ·rw [if_pos h2] at h;omega
   ·rw [if_neg h2] at h
    by_cases h3 : y<z
    ·rw [if_pos (by omega)];omega
    ·rw [if_neg h3] at h'
     by_cases h4 : z<y
     ·rw [if_pos h4] at h';omega
     ·rw [if_neg h4] at h'
      rw [if_neg (by omega),if_neg (by omega)]
      exact cmpM_le h h'
def leK (b x : List Int) : Prop:=wtL b<wtL x\/(wtL b=wtL x/\cmpL b x<=0)
theorem leK.refl (b : List Int) : leK b b:=.inr ⟨rfl,by rw [cmpM_self];omega⟩
theorem leK.trans {a b c : List Int} (h : leK a b) (h' : leK b c) : leK a c:=by
 rcases h with h | ⟨h,g⟩
 ·rcases h' with h' | ⟨h',_⟩
  ·exact .inl (by omega)
  ·exact .inl (by omega)
 ·rcases h' with h' | ⟨h',g'⟩
  ·exact .inl (by omega)
  ·exact .inr ⟨by omega,cmpM_le g g'⟩
theorem leK.wt {a b : List Int} (h : leK a b) : wtL a<=wtL b:=by rcases h with h | ⟨h,_⟩ <;> omega
theorem wtM_zero {x : List Int} : wtL x=0 ↔ ∀y ∈ x,y=0:=by
 unfold wtL
 rw [List.countP_eq_zero]
 constructor
 ·intro h y hy;have:=h y hy;simpa using this
 ·intro h y hy;rw [h y hy];simp
theorem wtM_nil : wtL []=0:=rfl
theorem fnz_lt {v : List Int} (h : wtL v ≠ 0) : fnz v<v.length:=by
 refine Decidable.byContradiction λhn=>h (wtM_zero.2 λy hy=>?_)
 obtain ⟨i,hi,rfl⟩:=List.mem_iff_getElem.1 hy
 have:=fnz_zero v i (by omega)
 rwa [nth_getElem hi] at this
theorem wtM_cons (x : Int) (l : List Int) : wtL (x :: l)=wtL l+if x=0 then 0 else 1:=by
 unfold wtL
 rw [List.countP_cons]
 by_cases h : x=0 <;> simp [h]
section
variable {O : FOps} {El : Int->Prop} {m : Nat}
theorem inv_ne (F : Fld O El) {a : Int} (ha : El a) (h0 : a ≠ 0) : El (O.inv a)/\O.inv a ≠ 0:=by
 have hi:=F.cl.inv a ha h0
 refine ⟨hi,λe=>?_⟩
 have h1:=F.mul_inv a ha h0
 rw [e,F.mzero ha] at h1
 have h2:=F.one_mul a ha
 rw [<- h1,F.zmul ha] at h2
 exact h0 h2.symm
theorem scl_zero (F : Fld O El) {s x : Int} (hs : El s) (h0 : s ≠ 0) (hx : El x) : O.mul s x=0 ↔ x=0 :=
 ⟨λh=>F.mul_ne hs hx h0 h,λh=>by rw [h,F.mzero hs]⟩
theorem wtL_scl (F : Fld O El) {s : Int} (hs : El s) (h0 : s ≠ 0) : ∀ {x : List Int},(∀y ∈ x,El y)->wtL (x.map (O.mul s))=wtL x
 | [],_=>rfl
 | y :: x,h=>by
  rw [List.map_cons,wtM_cons,wtM_cons,wtL_scl F hs h0 λz hz=>h z (by simp [hz])]
  simp [scl_zero F hs h0 (h y (by simp))]
theorem fnz_scl (F : Fld O El) {s : Int} (hs : El s) (h0 : s ≠ 0) : ∀ {x : List Int},(∀y ∈ x,El y)->fnz (x.map (O.mul s))=fnz x
 | [],_=>rfl
 | y :: x,h=>by
  rw [List.map_cons,fnz,fnz,fnz_scl F hs h0 λz hz=>h z (by simp [hz])]
  simp [scl_zero F hs h0 (h y (by simp))]
theorem first_el {v : List Int} (hv : Vc El m v) (h : wtL v ≠ 0) : El (nth v (fnz v))/\nth v (fnz v) ≠ 0 :=
 ⟨hv.at (by rw [<- hv.1];exact fnz_lt h),fnz_ne v (fnz_lt h)⟩
theorem monS_eq (O : FOps) (v : List Int) : monS O v=v.map (O.mul (O.inv (nth v (fnz v)))):=rfl
theorem monS_wt (F : Fld O El) {v : List Int} (hv : Vc El m v) (h : wtL v ≠ 0) : wtL (monS O v)=wtL v:=by
 obtain ⟨h1,h2⟩:=first_el hv h
 obtain ⟨h3,h4⟩:=inv_ne F h1 h2
 rw [monS_eq,wtL_scl F h3 h4 hv.2]
theorem inv_mul (F : Fld O El) {a b : Int} (ha : El a) (hb : El b) (h1 : a ≠ 0) (h2 : b ≠ 0) : O.mul (O.inv (O.mul a b)) a=O.inv b:=by
 have hab:=F.cl.mul a b ha hb
 have h0 : O.mul a b ≠ 0:=λe=>h2 (F.mul_ne ha hb h1 e)
 obtain ⟨i1,_⟩:=inv_ne F hab h0
 obtain ⟨i2,_⟩:=inv_ne F hb h2
 have hx:=F.cl.mul _ _ i1 ha
 have e1 : O.mul (O.mul (O.inv (O.mul a b)) a) b=1:=by
  rw [F.mul_assoc _ _ _ i1 ha hb,F.mul_comm _ _ i1 hab,F.mul_inv _ hab h0]
 rw [<- F.mone hx,<- F.mul_inv b hb h2,<- F.mul_assoc _ _ _ hx hb i2,e1,F.one_mul _ i2]
theorem monS_scl (F : Fld O El) {s : Int} (hs : El s) (h0 : s ≠ 0) {v : List Int} (hv : Vc El m v) (h : wtL v ≠ 0) : monS O (v.map (O.mul s))=monS O v:=by
 obtain ⟨h1,h2⟩:=first_el hv h
 have hl:=fnz_lt h
 rw [monS_eq,monS_eq,fnz_scl F hs h0 hv.2,nth_scl O v s hl,List.map_map]
 refine List.map_congr_left λx hx=>?_
 have hxe:=hv.2 x hx
 obtain ⟨i1,_⟩:=inv_ne F (F.cl.mul _ _ hs h1) λe=>h2 (F.mul_ne hs h1 h0 e)
 show O.mul _ (O.mul s x)=_
 rw [<- F.mul_assoc _ _ _ i1 hs hxe,inv_mul F hs h1 h0 h2]
theorem monS_first (F : Fld O El) {v : List Int} (hv : Vc El m v) (h : wtL v ≠ 0) : nth (monS O v) (fnz (monS O v))=1:=by
 obtain ⟨h1,h2⟩:=first_el hv h
 obtain ⟨h3,h4⟩:=inv_ne F h1 h2
 rw [monS_eq,fnz_scl F h3 h4 hv.2,nth_scl O v _ (fnz_lt h),F.mul_comm _ _ h3 h1,F.mul_inv _ h1 h2]
theorem monS_idem (F : Fld O El) {v : List Int} (hv : Vc El m v) (h : wtL v ≠ 0) : monS O (monS O v)=monS O v:=by
 obtain ⟨h1,h2⟩:=first_el hv h
 obtain ⟨h3,h4⟩:=inv_ne F h1 h2
 rw [monS_eq O v,monS_scl F h3 h4 hv h,monS_eq]
theorem look_spec (F : Fld O El) {b w : List Int} (hw : Vc El m w) (h0 : wtL w ≠ 0) :
  ((lookS O b w=b/\wtL b ≠ 0)\/lookS O b w=monS O w)/\wtL (lookS O b w) ≠ 0/\leK (lookS O b w) (monS O w)/\(wtL b ≠ 0->leK (lookS O b w) b):=by
 have hm:=monS_wt F hw h0
 unfold lookS
 by_cases h1 : wtL w=0\/(wtL b ≠ 0/\wtL b<wtL w)
 ·rw [if_pos h1]
  obtain ⟨g1,g2⟩:=h1.resolve_left h0
  exact ⟨.inl ⟨rfl,g1⟩,g1,.inl (by omega),λ_=>leK.refl b⟩
 ·rw [if_neg h1]
  by_cases h2 : wtL b=0\/wtL w<wtL b\/cmpL (monS O w) b<0
  ·rw [if_pos h2]
   refine ⟨.inr rfl,by omega,leK.refl _,λhb=>?_⟩
   rcases h2 with h2 | h2 | h2
   ·exact absurd h2 hb
   ·exact .inl (by omega)
   ·by_cases e : wtL w<wtL b
    ·exact .inl (by omega)
    ·refine .inr ⟨?_,by omega⟩
     have : ¬ wtL b<wtL w:=λe2=>h1 (.inr ⟨hb,e2⟩)
     omega
  ·rw [if_neg h2]
   have hb : wtL b ≠ 0:=λe=>h2 (.inl e)
   have e1 : ¬ wtL b<wtL w:=λe2=>h1 (.inr ⟨hb,e2⟩)
   have e2 : ¬ wtL w<wtL b:=λe=>h2 (.inr (.inl e))
   have e3 : ¬ cmpL (monS O w) b<0:=λe=>h2 (.inr (.inr e))
   refine ⟨.inl ⟨rfl,hb⟩,hb,.inr ⟨by omega,?_⟩,λ_=>leK.refl b⟩
   rw [cmpM_anti];omega
theorem fold_spec (F : Fld O El) : ∀(l : List (List Int)) (b : List Int),(∀y ∈ l,Vc El m y/\wtL y ≠ 0) ->
  ((l.foldl (lookS O) b=b\/∃y ∈ l,l.foldl (lookS O) b=monS O y))/\(∀y ∈ l,leK (l.foldl (lookS O) b) (monS O y))/\(wtL b ≠ 0->leK (l.foldl (lookS O) b) b)/\(l ≠ []\/wtL b ≠ 0->wtL (l.foldl (lookS O) b) ≠ 0)
 | [],b,_=>⟨.inl rfl,by simp,λ_=>leK.refl b,λh=>by rcases h with h | h;exact absurd rfl h;exact h⟩
 | y :: l,b,h=>by
  obtain ⟨hy,hy0⟩:=h y (by simp)
  obtain ⟨a1,a2,a3,a4⟩:=look_spec F (b:=b) hy hy0
  obtain ⟨b1,b2,b3,b4⟩:=fold_spec F l (lookS O b y) λz hz=>h z (by simp [hz])
  rw [List.foldl_cons]
  refine ⟨?_,λz hz=>?_,λhb=>(b3 a2).trans (a4 hb),λ_=>b4 (.inr a2)⟩
  ·rcases b1 with e | ⟨z,hz,e⟩
   ·rcases a1 with ⟨e2,_⟩ | e2
    ·exact .inl (by rw [e,e2])
    ·exact .inr ⟨y,by simp,by rw [e,e2]⟩
   ·exact .inr ⟨z,by simp [hz],e⟩
  ·rcases List.mem_cons.1 hz with rfl | hz
   ·exact (b3 a2).trans a3
   ·exact b2 z hz
def FC (cs c0 : List Int) : List Int->Prop
 | []=>True
 | a :: c=>if a=0 then FC cs c0 c else a ∈ c0/\∀b ∈ c,b ≠ 0->b ∈ cs
theorem FC_self {cs : List Int} : ∀ {c : List Int},FC cs cs c ↔ ∀b ∈ c,b ≠ 0->b ∈ cs
 | []=>by simp [FC]
 | a :: c=>by
  rw [FC]
  by_cases h : a=0
  ·rw [if_pos h,FC_self]
   constructor
   ·intro h1 b hb hb0
    rcases List.mem_cons.1 hb with rfl | hb
    ·exact absurd h hb0
    ·exact h1 b hb hb0
   ·intro h1 b hb hb0;exact h1 b (by simp [hb]) hb0
  ·rw [if_neg h]
   constructor
   ·rintro ⟨h1,h2⟩ b hb hb0
    rcases List.mem_cons.1 hb with rfl | hb
    ·exact h1
    ·exact h2 b hb hb0
   ·intro h1;exact ⟨h1 a (by simp) h,λb hb hb0=>h1 b (by simp [hb]) hb0⟩
theorem mem_sumL (O : FOps) {cs c0 : List Int} (h0 : ∀a ∈ c0,a ≠ 0) (l : Nat) (hf : ∀R v y,y ∈ sumS O cs l R v ↔ ∃c : List Int,c.length=R.length/\wtL c=l/\(∀b ∈ c,b ≠ 0->b ∈ cs)/\y=addAll O v c R) :
  ∀(R : List (List Int)) (v y : List Int),y ∈ sumL O (sumS O cs l) c0 R v ↔ ∃c : List Int,c.length=R.length/\wtL c=l+1/\FC cs c0 c/\y=addAll O v c R
 | [],v,y=>by
  rw [sumL]
  constructor
  ·intro h;simp at h
  ·rintro ⟨c,hc,h1,_⟩
   rw [List.eq_nil_of_length_eq_zero hc,wtM_nil] at h1
   omega
 | r :: R,v,y=>by
  rw [sumL,List.mem_append,List.mem_flatMap,mem_sumL O h0 l hf R v y]
  constructor
  ·rintro (⟨a,ha,h⟩ | ⟨c,h1,h2,h3,h4⟩)
   ·obtain ⟨c,h1,h2,h3,h4⟩:=(hf _ _ _).1 h
    have ha0:=h0 a ha
    exact ⟨a :: c,by simp [h1],by rw [wtM_cons,if_neg ha0];omega,by rw [FC,if_neg ha0];exact ⟨ha,h3⟩,h4⟩
   ·exact ⟨0 :: c,by simp [h1],by rw [wtM_cons,if_pos rfl];omega,by rw [FC,if_pos rfl];exact h3,by rw [h4,addAll,addS,if_pos rfl]⟩
  ·rintro ⟨c,h1,h2,h3,h4⟩
   match c,h1,h2,h3,h4 with
   | a :: c,h1,h2,h3,h4 =>
    rw [wtM_cons] at h2
    rw [FC] at h3
    rw [addAll] at h4
    by_cases ha : a=0
    ·rw [if_pos ha] at h2 h3
     rw [addS,if_pos ha] at h4
     exact .inr ⟨c,by simpa using h1,by omega,h3,h4⟩
    ·rw [if_neg ha] at h2 h3
     exact .inl ⟨a,h3.1,(hf _ _ _).2 ⟨c,by simpa using h1,by omega,h3.2,h4⟩⟩
theorem addAll_zero (O : FOps) : ∀(c : List Int) (R : List (List Int)) (v : List Int),(∀y ∈ c,y=0)->addAll O v c R=v
 | [],_,_,_=>by simp [addAll]
 | _ :: _,[],_,_=>by simp [addAll]
 | a :: c,r :: R,v,h=>by
  rw [addAll,addS,if_pos (h a (by simp)),addAll_zero O c R v λy hy=>h y (by simp [hy])]
theorem mem_sumS (O : FOps) {cs : List Int} (h0 : ∀a ∈ cs,a ≠ 0) : ∀(l : Nat) (R : List (List Int)) (v y : List Int),y ∈ sumS O cs l R v ↔ ∃c : List Int,c.length=R.length/\wtL c=l/\(∀b ∈ c,b ≠ 0->b ∈ cs)/\y=addAll O v c R
 | 0,R,v,y=>by
  rw [sumS,List.mem_singleton]
  constructor
  ·rintro rfl
   refine ⟨List.replicate R.length 0,by simp,wtM_zero.2 λy hy=>(List.mem_replicate.1 hy).2,λb hb hb0=>absurd (List.mem_replicate.1 hb).2 hb0,?_⟩
   rw [addAll_zero O _ _ _ λy hy=>(List.mem_replicate.1 hy).2]
  ·rintro ⟨c,h1,h2,_,h4⟩
   rw [h4,addAll_zero O _ _ _ (wtM_zero.1 h2)]
 | l+1,R,v,y=>by
  rw [sumS,mem_sumL O h0 l (mem_sumS O h0 l) R v y]
  constructor
  ·rintro ⟨c,h1,h2,h3,h4⟩;exact ⟨c,h1,h2,FC_self.1 h3,h4⟩
  ·rintro ⟨c,h1,h2,h3,h4⟩;exact ⟨c,h1,h2,FC_self.2 h3,h4⟩
theorem FC_first {cs : List Int} : ∀ {c : List Int},wtL c ≠ 0->(FC cs [1] c ↔ nth c (fnz c)=1/\∀j,fnz c<j->j<c.length->nth c j ≠ 0->nth c j ∈ cs)
 | [],h=>absurd rfl h
 | a :: c,h=>by
  rw [FC,fnz]
  by_cases ha : a=0
  ·rw [wtM_cons,if_pos ha] at h
   rw [if_pos ha,if_pos ha,FC_first (by omega)]
   constructor
   ·rintro ⟨h1,h2⟩
    refine ⟨by simpa [nth] using h1,λj h3 h4 h5=>?_⟩
    match j,h3,h4,h5 with
    | j+1,h3,h4,h5=>simpa [nth] using h2 j (by omega) (by simpa using h4) (by simpa [nth] using h5)
   ·rintro ⟨h1,h2⟩
    refine ⟨by simpa [nth] using h1,λj h3 h4 h5=>?_⟩
    simpa [nth] using h2 (j+1) (by omega) (by simpa using h4) (by simpa [nth] using h5)
  ·rw [if_neg ha,if_neg ha]
   constructor
   ·rintro ⟨h1,h2⟩
    refine ⟨by simpa [nth] using h1,λj h3 h4 h5=>?_⟩
    match j,h3,h4,h5 with
    | j+1,h3,h4,h5 =>
     have h6 : j<c.length:=by simpa using h4
     have e : nth (a :: c) (j+1)=nth c j:=by simp [nth]
     rw [e] at h5 ⊢
     exact h2 _ (nth_mem h6) h5
   ·rintro ⟨h1,h2⟩
    refine ⟨by simpa [nth] using h1,λb hb hb0=>?_⟩
    obtain ⟨j,hj,rfl⟩:=List.mem_iff_getElem.1 hb
    have e : nth (a :: c) (j+1)=nth c j:=by simp [nth]
    have:=h2 (j+1) (by omega) (by simpa using hj) (by rw [e,nth_getElem hj];exact hb0)
    rwa [e,nth_getElem hj] at this
end
end

section
theorem words_law {P M : Int} {mod : List Int} {m : Nat} {L : List (List Int)} (hE : codeE P M mod m L=0) {Q : List Int} (hQ : InN m Q) (hl : Q.length=L.length) (hg : (grS (tblOf P M.toNat mod).ops L Q).length=Q.length)
  {v : List Int} (hvl : v.length=L.length) (hv : ∀k,k<L.length->(tblOf P M.toNat mod).El (nth v k)) :
  Vc (tblOf P M.toNat mod).El m (cmbTo (tblOf P M.toNat mod).ops m v (sysL (tblOf P M.toNat mod).ops m L Q) L.length) /\
  (∀i,i<m->nth (redTo (tblOf P M.toNat mod).ops L (pivS (tblOf P M.toNat mod) L m) (cmbTo (tblOf P M.toNat mod).ops m v (sysL (tblOf P M.toNat mod).ops m L Q) L.length) L.length) i=0) /\
  pickL Q (cmbTo (tblOf P M.toNat mod).ops m v (sysL (tblOf P M.toNat mod).ops m L Q) L.length)=v:=by
 obtain ⟨N',e,hm1,hm64,F,hR⟩:=codeE_fld hE
 obtain rfl : m=N':=by omega
 have h6:=(spaceE_zero (codeE_zero hE).2.2.2).2
 rw [Int.toNat_natCast] at h6
 have hcan : canO (tblOf P M.toNat mod).ops m L=L:=h6
 obtain ⟨hPv,_⟩:=canO_piv F hR
 have hcl:=canO_len F hR
 rw [hcan] at hPv hcl
 have hform:=λi hi=>sys_form F hR hQ hl hg i hi
 obtain ⟨hSr,hSl,hSu,_⟩:=sys_law hE hQ hl hg
 obtain ⟨c1,c2⟩:=cmb_rs F hSr (x:=v) (λk hk=>hv k (by omega)) L.length (by omega)
 have hSL : RSub (tblOf P M.toNat mod).ops (tblOf P M.toNat mod).El m (sysL (tblOf P M.toNat mod).ops m L Q) L:=λi hi=>by
  obtain ⟨e,he,hy,_⟩:=hform i (by omega)
  exact ⟨e,he,hy⟩
 refine ⟨c1,red_zero F hR hPv hcl c1 (hSL.rs c2),?_⟩
 refine nth_ext (by rw [hvl,<- hl];simp [pickL]) λj hj=>?_
 have hj2 : j<Q.length:=by simpa [pickL] using hj
 have hqj:=hQ j hj2
 rw [nth_pickL Q _ hj2,cmb_dot F hSr (λk hk=>hv k (by omega)) (by omega) _ (by omega)]
 have hone : ∀t,t<L.length->nth (nthR (sysL (tblOf P M.toNat mod).ops m L Q) t) (nth Q j).toNat=if t=j then 1 else 0:=λt ht=>by
  obtain ⟨e',_,hy',hj'⟩:=hform t ht
  rw [hy' _ (by omega),hj' j hj2]
 have hvj:=hv j (by omega)
 rw [dotN_one F (x:=j) (by
  show (tblOf P M.toNat mod).El ((tblOf P M.toNat mod).ops.mul (nth v j) (nth (nthR (sysL (tblOf P M.toNat mod).ops m L Q) j) (nth Q j).toNat))
  rw [hone j (by omega),if_pos rfl,F.mone hvj];exact hvj) L.length (λp hp hpj=>by
  show (tblOf P M.toNat mod).ops.mul (nth v p) (nth (nthR (sysL (tblOf P M.toNat mod).ops m L Q) p) (nth Q j).toNat)=0
  rw [hone p hp,if_neg hpj,F.mzero (hv p hp)]),if_pos (by omega)]
 show (tblOf P M.toNat mod).ops.mul (nth v j) (nth (nthR (sysL (tblOf P M.toNat mod).ops m L Q) j) (nth Q j).toNat)=_
 rw [hone j (by omega),if_pos rfl,F.mone hvj]
end

section
open Go.RowKit
def dimZ (O : FOps) (L : List (List Int)) (m : Nat) (S : List Int) : Int:=(L.length : Int) - (rkQ O L (frTo false S m) : Nat)
end

section
open Go.RowKit
section
variable {O : FOps} {El : Int->Prop} {m : Nat} {L : List (List Int)}
theorem frTo_bits (x m : Nat) : ∀k,k<=m->frTo false (bitsTo x m) k=offTo x k
 | 0,_=>rfl
 | k+1,hk=>by
  have e : decide ((k : Int) ∈ bitsTo x m)=x.testBit k:=by
   rw [Bool.eq_iff_iff,decide_eq_true_eq,mem_bitsTo]
   constructor
   ·rintro ⟨j,_,h2,h3⟩
    have : j=k:=by omega
    rw [<- this];exact h3
   ·intro h;exact ⟨k,by omega,rfl,h⟩
  rw [frTo,offTo,e,frTo_bits x m k (by omega)]
  cases x.testBit k <;> rfl
theorem dimZ_bits (F : Fld O El) (hL : Rws El m L) {x : Nat} (hx : x<2 ^ m) : dimZ O L m (bitsTo x m)=nth (dimsS O m L) x:=by
 have h:=leaf_len F hL x
 rw [dims_nth F hL hx,dimZ,frTo_bits x m m (Nat.le_refl m)]
 omega
theorem dims_nn (F : Fld O El) (hL : Rws El m L) {x : Nat} (hx : x<2 ^ m) : 0<=nth (dimsS O m L) x/\nth (dimsS O m L) x<=L.length:=by
 rw [dims_nth F hL hx];omega
def mxTo (f : List Int->Int) (T : List (List Int)) : Nat->Int
 | 0=>0
 | j+1=>max (mxTo f T j) (f (nthR T j))
def prfR (O : FOps) (L : List (List Int)) (m i : Nat) : Int:=mxTo (dimZ O L m) (setsS m i 0) (setsS m i 0).length
theorem mx_iff (f : List Int->Int) (T : List (List Int)) : ∀k,0<=mxTo f T k/\(∀j,j<k->f (nthR T j)<=mxTo f T k)/\(mxTo f T k=0\/∃j,j<k/\mxTo f T k=f (nthR T j))
 | 0=>⟨Int.le_refl _,λj hj=>by omega,.inl rfl⟩
 | k+1=>by
  obtain ⟨h1,h2,h3⟩:=mx_iff f T k
  rw [mxTo]
  refine ⟨by omega,λj hj=>?_,?_⟩
  ·by_cases e : j=k
   ·subst e;omega
   ·have:=h2 j (by omega);omega
  ·by_cases h4 : f (nthR T k)<=mxTo f T k
   ·rw [Int.max_eq_left h4]
    rcases h3 with h3 | ⟨j,a1,a2⟩
    ·exact .inl h3
    ·exact .inr ⟨j,by omega,a2⟩
   ·rw [Int.max_eq_right (by omega)]
    exact .inr ⟨k,by omega,rfl⟩
end
end

section
variable {P M : Int} {mod : List Int} {m : Nat} {L : List (List Int)}
theorem low_word (hE : codeE P M mod m L=0) {Q : List Int} (hr : rkQ (tblOf P M.toNat mod).ops L Q<L.length) (hQ : ∀x ∈ Q,0<=x/\x<(m : Int)) :
  ∃v : List Int,v.length=L.length/\(∀x ∈ v,(tblOf P M.toNat mod).El x)/\wtL v ≠ 0/\∀x ∈ Q,nth (cmbTo (tblOf P M.toNat mod).ops m v L L.length) x.toNat=0:=by
 obtain ⟨N',e,hm1,hm64,F,hR⟩:=codeE_fld hE
 obtain rfl : m=N':=by omega
 obtain ⟨y,hy,hn⟩ : ∃y,y<m/\¬ clV (tblOf P M.toNat mod).ops (tblOf P M.toNat mod).El L.length (colS L) (gA Q) y:=by
  refine Classical.byContradiction λhno=>?_
  have h1:=Rk.le (col_clo F hR) (code_full hE) (rkQ_rk F hR Q) λy hy=>by
   refine Classical.byContradiction λhn=>hno ⟨y,List.mem_range.1 hy,hn⟩
  omega
 obtain ⟨φ,hφ,h0,h1⟩ : ∃φ,Lin (tblOf P M.toNat mod).ops (tblOf P M.toNat mod).El L.length φ/\(∀z ∈ gA Q,φ (colS L z)=0)/\φ (colS L y) ≠ 0:=by
  refine Classical.byContradiction λhno=>hn λφ hφ h0=>?_
  refine Classical.byContradiction λh1=>hno ⟨φ,hφ,h0,h1⟩
 obtain ⟨v,hv⟩ : ∃v,v=(List.range L.length).map λt=>φ (unitR L.length t):=⟨_,rfl⟩
 have hvl : v.length=L.length:=by rw [hv];simp
 have hvn : ∀t,t<L.length->nth v t=φ (unitR L.length t):=λt ht=>by
  rw [nth_getElem (by omega)];simp [hv]
 have hve : ∀x ∈ v,(tblOf P M.toNat mod).El x:=λx hx=>by
  rw [hv] at hx
  obtain ⟨t,_,rfl⟩:=List.mem_map.1 hx
  exact hφ.el _ (unitR_vc F _ _)
 have hval : ∀z,z<m->nth (cmbTo (tblOf P M.toNat mod).ops m v L L.length) z=φ (colS L z):=λz hz=>by
  rw [cmb_dot F hR (λk hk=>hve _ (nth_mem (by omega))) hz _ (Nat.le_refl _),form_unit F hφ (colS_vc hR F.zero z)]
  exact dotN_congr _ λp hp=>⟨hvn p hp,(nth_colS L z p hp).symm⟩
 refine ⟨v,hvl,hve,λhz=>h1 ?_,λx hx=>?_⟩
 ·rw [form_unit F hφ (colS_vc hR F.zero y)]
  refine dotN_zero F _ λp hp=>?_
  rw [<- hvn p hp,wtL_zero.1 hz p (by omega)]
  exact F.zmul (by rw [nth_colS L y p hp];exact (hR _ (nthR_mem hp)).2 _ (nth_mem (by rw [(hR _ (nthR_mem hp)).1];exact hy)))
 ·have:=hQ x hx
  rw [hval _ (by omega)]
  exact h0 _ (mem_gA.2 ⟨x,hx,rfl⟩)
end

end Go.Proofs.YtcfmiocdlcapoaaGreat
