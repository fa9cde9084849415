import Derived.Test.YtcfmiocdlcapoaaGreatK6
import Derived.Test.YtcfmiocdlcapoaaGreatK4
namespace Go.Proofs.YtcfmiocdlcapoaaGreat
set_option linter.unusedVariables false
set_option linter.unusedSimpArgs false
set_option linter.unusedSectionVars false
set_option maxRecDepth 100000
set_option maxHeartbeats 1600000
open Go.RowKit
section
variable {w : World} {b : Nat} {G : de}
theorem Ints.E5 {w : World} {n : Nat} {l : Lz} (h : Ints w none n l) : n=0/\l=[]:=by
 have h0 : n=0:=by
  rcases Nat.eq_zero_or_pos n with h0 | h0
  ·exact h0
  ·have:=h.pl h0;cases this
 exact ⟨h0,List.eq_nil_of_length_eq_zero (by rw [h.len];exact h0)⟩
theorem ef (a : OA) (n c : Nat) (l : Lz) (hi : Ints w a n l) (hn : n<=1000000) :
  Calls Tryz.prog 87 #[.slice a n c] w (cC w l):=by
 have heq:=λ(w : World) (a : OA) (l c : Nat)=>Go.run_eql_slice_nil (P:=Tryz.prog) w 22 3 a l c Tryz.underlying22
 by_cases ha : a=none
 ·subst ha
  obtain ⟨rfl,rfl⟩:=hi.E5
  have hin : (none : OA).isNone=true:=rfl
  go_enter Tryz.func87,Tryz.ntmps87
  go_wp2_with fail
  go_ret
  exact ⟨none,0,rfl,bY,Below.refl _ _⟩
 ·have hin : a.isNone=false:=by cases a with | none=>exact absurd rfl ha | some x=>rfl
  have hlen:=hi.len
  have Hlen:=Z5 hlen
  have hO:=fK w 3
  have hal:=Z5 ((Below.refl w.heap.size w).alloc (Nat.le_refl _) (.cells #[] 3))
  clear ha hlen
  go_enter Tryz.func87,Tryz.ntmps87
  go_upto_region 3 with fail
  iterate 7 go_step
  have hbal:=hal.out
  generalize w.alloc (.cells #[] 3)=W0 at *
  have hiW:=hi.ah hbal
  refine eZ (by rfl) (.tmp 5) (.tmp 6) 22 3 (by rfl) (.int .i64 0) 8 Tryz.underlying22 aX (by rfl) w.heap.size _ 0 0 [] (by rfl) hO a n c (l.map (Value.int .i64)) (by rfl) hiW.pl (by simp [Hlen.out]) (Ints.news hiW) (ints_oneCell _ _) (by omega) (by unfold maxLen;omega) (Below.size hbal) ?_
  intro a3 c3 w3 hown3 hgr3 hap3
  have hb3 : Below w.heap.size w w3:=Below.app (B:=w.heap.size) (e:=3) (xs:=[]) hbal hO hgr3 (Nat.le_refl _) (Below.size hbal)
  rw [Nat.zero_add] at hown3 ⊢
  rw [List.nil_append] at hown3
  go_wp2_with fail
  go_ret
  exact ⟨a3,c3,by rw [Hlen.out];rfl,by rw [Hlen.out];exact hown3,hb3⟩
def wT (w : World) (L : Ll) (e : Ending) (w' : World) : Prop :=
 ∃a c R,e = .returned (.slice a L.length c)/\aU w' w.heap.size a L.length c R L/\Below w.heap.size w w'
theorem ch : (Tryz.prog.info? 22).map (λi=>(i.zero,i.size,i.bytes))=some (some (.slice none 0 0),1,24):=by kernel_rfl
def dL (n k : Nat) (L : Ll) : Ll:=L.take k ++ List.replicate (n - k) []
theorem ow {n k : Nat} {L : Ll} (hk : k<n) (hL : L.length=n) : (dL n k L).set k (aj L k)=dL n (k+1) L:=by
 unfold dL
 have e1 : (L.take k).length=k:=by simp;omega
 rw [List.take_succ_eq_append_getElem (by omega),List.set_append_right (h:=by omega),e1,show n - k=(n - (k+1))+1 by omega,List.replicate_succ,Nat.sub_self,List.set_cons_zero,List.append_assoc,aE (by omega)]
 rfl
theorem oL {n : Nat} {L : Ll} (hL : L.length=n) : dL n n L=L:=by
 simp [dL,List.take_of_length_le (show L.length<=n by omega)]
theorem vy (a : OA) (n c : Nat) (L : Ll) (hi : bZ w a n L) (hn : n<=1000000) (hL : ∀l ∈ L,l.length<=1000000) :
  Calls Tryz.prog 213 #[.slice a n c] w (wT w L):=by
 have hpl:=hi.pl
 have Hlen:=Z5 hi.len
 have HL:=Z5 hL
 clear hL
 go_enter Tryz.func213,Tryz.ntmps213
 go_wp2_with (at_make;refine bV rfl _ _ 25 22 rfl (.slice none 0 0) 24 Tryz.underlying25 ch rfl n rfl rfl (by omega) (by unfold maxLen;omega) ?_;intro a1 w1 hown hbel hge hlt)
 have hO:=qL hown
 have hO1 : ∃R,aU w1 w.heap.size a1 n n R (dL n 0 L):=⟨_,by simpa [dL] using hO⟩
 clear hO hown
 go_loopw [11] (λiv wr=>∃k : Nat,k<=n/\iv = .int .i64 k/\(∃R,aU wr w.heap.size a1 n n R (dL n k L))/\Below w.heap.size w wr) (λiv _=>n - (intOf iv).toNat)
 case atStart=>exact ⟨0,Nat.zero_le _,rfl,hO1,hbel⟩
 case round =>
  obtain ⟨k,hk,rfl,⟨R,hO⟩,hbr⟩:=hrel
  by_cases hlt : k<n
  ·have hiW:=hi.ah hbr
   obtain ⟨ra,rn,rc,hcell,hrow⟩:=hiW.cell k hlt
   have hkL : k<L.length:=by rw [Hlen.out];exact hlt
   have hrl : rn<=1000000:=by rw [<- hrow.len,aE hkL];exact HL.out _ (List.getElem_mem hkL)
   have hset:=ow hlt Hlen.out
   have Hset:=Z5 hset
   clear hset
   have hpl1:=hO.pl
   generalize aj L k=l at *
   go_wp2_with fail
   refine (ef ra rn rc l hrow hrl).mono ?_
   rintro e w3 ⟨a3,c3,rfl,hown3,hb3⟩
   have hO3:=hO.ah hb3
   have hf:=hO3.frozen hlt
   have hc:=hO3.cell hlt
   have hB:=(aU.lt hO3 (ablk a1) (.inl ⟨hO3.ne (by omega),rfl⟩)).1
   have hbr3:=Below.next hbr hb3
   have hsz:=hbr.size
   have hnew:=aU.setRow hO3 hlt (aP hown3 hsz) (ml hown3 (aU.lt hO (ablk a1) (.inl ⟨hO.ne (by omega),rfl⟩)).2) (λj hj _=>by
    by_cases hn : (aM R j).1=none
    ·exact .inl hn
    ·exact .inr (ml hown3 (aU.lt hO _ (aU.mw (by rw [hO.rl];exact hj) hn)).2))
   rw [Hset.out] at hnew
   have Hnew:=Z5 hnew
   clear hnew
   go_wp2_with fail
   go_roundw
   case rel=>exact ⟨k+1,by omega,by go_num,⟨_,Hnew.out⟩,hbr3.setCell hB _⟩
   case measure=>simp [intOf] <;> omega
  ·obtain rfl : k=n:=by omega
   rw [oL Hlen.out] at hO
   go_wp2_with fail
   go_ret
   exact ⟨a1,k,R,by rw [Hlen.out];rfl,by rw [Hlen.out];exact hO,hbr⟩
end
structure aQ where
 add : Int->Int->Int
 mul : Int->Int->Int
 neg : Int->Int
 inv : Int->Int
def bJ (O : aQ) (v : Lz) (s : Int) (u : Lz) : Lz:=List.zipWith (λp q=>if q=0 then p else O.add p (O.mul s q)) v u
theorem cH (O : aQ) (v : Lz) (s : Int) (u : Lz) (h : u.length=v.length) : (bJ O v s u).length=v.length:=by simp [bJ,h]
theorem gL (O : aQ) (v : Lz) (s : Int) (u : Lz) (i : Nat) (h : u.length=v.length) (hi : i<v.length) :
  nth (bJ O v s u) i=if nth u i=0 then nth v i else O.add (nth v i) (O.mul s (nth u i)):=by
 rw [ai (show i<(bJ O v s u).length by rw [cH _ _ _ _ h];exact hi),ai (show i<u.length by omega),ai hi]
 simp [bJ]
theorem tg (new ja : Lz) (j : Nat) (h : new.length=ja.length) (hj : j<ja.length) (e : nth new j=nth ja j) : fD new ja (j+1)=fD new ja j:=by
 rw [<- dZ new ja j h hj,e]
 refine et (by simp) λi hi=>?_
 have hl:=jt new ja j h (by omega)
 rw [ff _ _ _ _ (by omega)]
 by_cases e2 : i=j
 ·subst e2;rw [if_pos rfl,ed _ _ _ _ h (by omega),if_neg (by omega)]
 ·rw [if_neg e2]
def findTo (L : Ll) (c : Nat) : Nat->Nat->Nat
 | k,0=>k
 | k,f+1=>if nth (aj L k) c=0 then findTo L c (k+1) f else k
def bu (L : Ll) (c k : Nat) : Nat:=findTo L c k (L.length - k)
theorem vR (L : Ll) (c : Nat) : ∀f k,k<=findTo L c k f/\findTo L c k f<=k+f
 | 0,k=>by simp [findTo]
 | f+1,k=>by
  have:=vR L c f (k+1)
  unfold findTo
  split <;> omega
theorem kB (L : Ll) (c : Nat) : ∀f k,findTo L c k f<k+f->nth (aj L (findTo L c k f)) c ≠ 0
 | 0,k,h=>by simp [findTo] at h
 | f+1,k,h=>by
  unfold findTo at h ⊢
  split
  ·rename_i h0
   rw [if_pos h0] at h
   exact kB L c f (k+1) (by omega)
  ·assumption
theorem ru (L : Ll) (c : Nat) : ∀f k i,k<=i->i<findTo L c k f->nth (aj L i) c=0
 | 0,k,i,h1,h2=>by simp [findTo] at h2;omega
 | f+1,k,i,h1,h2=>by
  unfold findTo at h2
  split at h2
  ·rename_i h0
   rcases Nat.eq_or_lt_of_le h1 with h3 | h3
   ·rw [<- h3];exact h0
   ·exact ru L c f (k+1) i h3 h2
  ·omega
theorem gr {L : Ll} {c k : Nat} (hk : k<L.length) : bu L c k=if nth (aj L k) c=0 then bu L c (k+1) else k:=by
 unfold bu
 rw [show L.length - k=(L.length - (k+1))+1 by omega,findTo]
theorem i9 {L : Ll} {c k : Nat} (hk : L.length<=k) : bu L c k=k:=by
 unfold bu
 rw [show L.length - k=0 by omega,findTo]
theorem oO {L : Ll} {c k : Nat} (hk : k<=L.length) : k<=bu L c k/\bu L c k<=L.length:=by
 have:=vR L c (L.length - k) k
 unfold bu;omega
def bm (L : Ll) (i j : Nat) : Ll:=(L.set i (aj L j)).set j (aj L i)
def bW (O : aQ) (pv : Lz) (c : Nat) (r : Lz) : Lz:=if nth r c=0 then r else bJ O r (O.neg (nth r c)) pv
def clearTo (O : aQ) (t c : Nat) (L : Ll) : Nat->Ll
 | 0=>L
 | i+1=>if i=t then clearTo O t c L i else (clearTo O t c L i).set i (bW O (aj (clearTo O t c L i) t) c (aj (clearTo O t c L i) i))
def bp (O : aQ) (L : Ll) (t c : Nat) : Ll:=if O.inv (nth (aj L t) c)=1 then L else L.set t ((aj L t).map (O.mul (O.inv (nth (aj L t) c))))
def eB (O : aQ) (L : Ll) (t k c : Nat) : Ll :=
 let L1:=if k=t then L else bm L t k
 let L2:=bp O L1 t c
 clearTo O t c L2 L2.length
def aA (O : aQ) (L : Ll) : Nat->Ll × Lz
 | 0=>(L,[])
 | c+1 =>
  let s:=aA O L c
  if s.2.length<s.1.length then
   if bu s.1 c s.2.length=s.1.length then s
   else (eB O s.1 s.2.length (bu s.1 c s.2.length) c,s.2 ++ [(c : Int)])
  else s
theorem dK (L : Ll) (i j : Nat) : (bm L i j).length=L.length:=by simp [bm]
theorem df (O : aQ) (t c : Nat) (L : Ll) : ∀i,(clearTo O t c L i).length=L.length
 | 0=>rfl
 | i+1=>by unfold clearTo;split <;> simp [df O t c L i]
theorem dg (O : aQ) (L : Ll) (t c : Nat) : (bp O L t c).length=L.length:=by unfold bp;split <;> simp
theorem eT (O : aQ) (L : Ll) (t k c : Nat) : (eB O L t k c).length=L.length:=by
 unfold eB
 simp only [df,dg]
 split <;> simp [dK]
theorem bM (O : aQ) (L : Ll) : ∀c,(aA O L c).1.length=L.length
 | 0=>rfl
 | c+1=>by
  unfold aA
  simp only
  split
  ·split <;> simp [eT,bM O L c]
  ·exact bM O L c
theorem fZ (O : aQ) (L : Ll) : ∀c,(aA O L c).2.length<=c/\(aA O L c).2.length<=L.length
 | 0=>by simp [aA]
 | c+1=>by
  have ih:=fZ O L c
  have hl:=bM O L c
  unfold aA
  simp only
  split
  ·split
   ·omega
   ·simp only [List.length_append,List.length_singleton];omega
  ·omega
def bH (El : Int->Prop) (m : Nat) (L : Ll) : Prop:=∀r ∈ L,r.length=m/\∀x ∈ r,El x
theorem mY {L : Ll} {i : Nat} (h : L.length<=i) : aj L i=[]:=by simp [aj,List.getElem?_eq_none h]
theorem bH.row {El : Int->Prop} {m : Nat} {L : Ll} (h : bH El m L) {i : Nat} (hi : i<L.length) : (aj L i).length=m/\∀x ∈ aj L i,El x:=h _ (lh hi)
theorem bH.set {El : Int->Prop} {m : Nat} {L : Ll} (h : bH El m L) (i : Nat) {r : Lz} (hr : r.length=m/\∀x ∈ r,El x) : bH El m (L.set i r):=by
 intro x hx
 rcases List.mem_or_eq_of_mem_set hx with h1 | rfl
 ·exact h x h1
 ·exact hr
structure sr (O : aQ) (El : Int->Prop) : Prop where
 add : ∀x y,El x->El y->El (O.add x y)
 mul : ∀x y,El x->El y->El (O.mul x y)
 neg : ∀x,El x->El (O.neg x)
 inv : ∀x,El x->x ≠ 0->El (O.inv x)
theorem qH {O : aQ} {El : Int->Prop} (hO : sr O El) {v u : Lz} {s : Int} (hv : ∀x ∈ v,El x) (hu : ∀x ∈ u,El x) (hs : El s) : ∀x ∈ bJ O v s u,El x:=by
 intro x hx
 unfold bJ at hx
 rw [List.mem_iff_getElem] at hx
 obtain ⟨i,hi,rfl⟩:=hx
 rw [List.getElem_zipWith]
 simp only [List.length_zipWith] at hi
 split
 ·exact hv _ (List.getElem_mem _)
 ·exact hO.add _ _ (hv _ (List.getElem_mem _)) (hO.mul _ _ hs (hu _ (List.getElem_mem _)))
theorem bH.swap {El : Int->Prop} {m : Nat} {L : Ll} (h : bH El m L) {i j : Nat} (hi : i<L.length) (hj : j<L.length) : bH El m (bm L i j) :=
 (h.set i (h.row hj)).set j (h.row hi)
theorem bH.bW {O : aQ} {El : Int->Prop} {m : Nat} (hO : sr O El) {r pv : Lz} {c : Nat} (hc : c<m) (hr : r.length=m/\∀x ∈ r,El x) (hp : pv.length=m/\∀x ∈ pv,El x) :
  (bW O pv c r).length=m/\∀x ∈ bW O pv c r,El x:=by
 unfold Proofs.YtcfmiocdlcapoaaGreat.bW
 split
 ·exact hr
 ·exact ⟨by rw [cH _ _ _ _ (by omega)];exact hr.1,qH hO hr.2 hp.2 (hO.neg _ (hr.2 _ (aN (by omega))))⟩
theorem bH.clear {O : aQ} {El : Int->Prop} {m : Nat} {L : Ll} (hO : sr O El) (h : bH El m L) {t c : Nat} (ht : t<L.length) (hc : c<m) : ∀i,i<=L.length->bH El m (clearTo O t c L i)
 | 0,_=>h
 | i+1,hi=>by
  have ih:=bH.clear hO h ht hc i (by omega)
  unfold clearTo
  split
  ·exact ih
  ·exact ih.set i (bH.bW hO hc (ih.row (by rw [df];omega)) (ih.row (by rw [df];omega)))
theorem bH.norm {O : aQ} {El : Int->Prop} {m : Nat} {L : Ll} (hO : sr O El) (h : bH El m L) {t c : Nat} (ht : t<L.length) (hc : c<m) (h0 : nth (aj L t) c ≠ 0) : bH El m (bp O L t c):=by
 unfold bp
 split
 ·exact h
 ·refine h.set t ⟨by rw [List.length_map];exact (h.row ht).1,λx hx=>?_⟩
  obtain ⟨y,hy,rfl⟩:=List.mem_map.1 hx
  exact hO.mul _ _ (hO.inv _ ((h.row ht).2 _ (aN (by rw [(h.row ht).1];exact hc))) h0) ((h.row ht).2 y hy)
theorem fC {O : aQ} {L : Ll} {k : Nat} (h : (aA O L k).2.length=L.length) : ∀d,aA O L (k+d)=aA O L k
 | 0=>rfl
 | d+1=>by
  have ih:=fC h d
  show aA O L ((k+d)+1)=_
  rw [aA]
  simp only [ih]
  rw [if_neg (by rw [bM];omega)]
theorem dp {O : aQ} {L Lk : Ll} {P : Lz} {k : Nat} (h : (Lk,P)=aA O L k) (hlt : P.length<Lk.length) :
  aA O L (k+1)=if bu Lk k P.length=Lk.length then (Lk,P) else (eB O Lk P.length (bu Lk k P.length) k,P ++ [(k : Int)]):=by
 rw [aA]
 simp only [<- h]
 rw [if_pos hlt]
theorem gQ (O : aQ) (L : Ll) (t k c : Nat) : eB O L t k c=clearTo O t c (bp O (if k=t then L else bm L t k) t c) L.length:=by
 unfold eB
 simp only [dg]
 split <;> simp [dK]
section
def bd (w w' : World) : Prop:=∃n,w'=w.drewN n
theorem bd.refl (w : World) : bd w w:=⟨0,rfl⟩
theorem bd.drewN {w w' : World} (h : bd w w') (n : Nat) : bd w (w'.drewN n):=by obtain ⟨m,rfl⟩:=h;exact ⟨m+n,by rw [World.drewN_drewN]⟩
theorem bd.drew {w w' : World} (h : bd w w') : bd w w'.drew:=h.drewN 1
theorem bd.below {w w' : World} (h : bd w w') : Below w.heap.size w w':=by obtain ⟨m,rfl⟩:=h;exact below_drewN (Below.refl _ _) m
theorem bd.cell {w w' : World} (h : bd w w') {p : Addr} {v : Value} (hc : w.cell? p=some v) : w'.cell? p=some v:=by obtain ⟨m,rfl⟩:=h;exact hc
theorem bd.frozen {w w' : World} (h : bd w w') {p : Addr} {v : Bool} (hc : w.frozen? p=v) : w'.frozen? p=v:=by obtain ⟨m,rfl⟩:=h;exact hc
theorem bd.xj {w0 w w' : World} {B : Nat} (h : bd w w') (hb : Below B w0 w) : Below B w0 w':=by obtain ⟨m,rfl⟩:=h;exact below_drewN hb m
def de.ops (G : de) : aQ:=⟨G.add,G.mul,G.neg,G.inv⟩
theorem de.cl {w : World} {b : Nat} {G : de} (h : eD w b G) : sr G.ops G.El:=⟨λx y _ _=>de.EA h x y,λx y _ _=>de.mI h x y,λx _=>de.sV h x,λx _ _=>de.qT h x⟩
def bX (a : OA) (w w' : World) : Prop:=aB w w' (λb=>a ≠ none/\b=ablk a) (λb=>a ≠ none/\b=ablk a)
theorem bX.refl (a : OA) (w : World) : bX a w w:=aB.refl _ _
theorem bX.trans {a : OA} {w w' w'' : World} (h : bX a w w') (k : bX a w' w'') : bX a w w'' := aB.trans h k
theorem bX.drawn {a : OA} {w w' : World} (h : bd w w') : bX a w w':=aB.bq h.below _
theorem bX.set {a : OA} (w : World) (i : Nat) (v : Value) (ha : a ≠ none) : bX a w (w.setCell ⟨ablk a,aJ a+i,none⟩ v):=by
 have hb0 : Below 0 w (w.setCell ⟨ablk a,aJ a+i,none⟩ v):=(Below.refl 0 w).setCell (Nat.zero_le _) v
 exact ⟨hb0.os,hb0.tape,hb0.output,hb0.size,λb hb hI=>Below.heap_setCell _ _ _ _ λe=>hI ⟨ha,e⟩,λb hb=>.inl hb⟩
theorem bX.ints {a : OA} {w w' : World} (h : bX a w w') {u : OA} {n : Nat} {l : Lz} (hi : Ints w u n l) (hu : a=none\/u=none\/ablk u ≠ ablk a) : Ints w' u n l:=by
 refine hi.of_block λhn=>h.block _ (hi.lt hn) ?_
 rintro ⟨h1,h2⟩
 rcases hu with hu | hu | hu
 ·exact h1 hu
 ·have:=hi.pl hn;rw [hu] at this;cases this
 ·exact hu h2
theorem bX.below {a : OA} {w w' : World} {B : Nat} (h : bX a w w') (ha : a ≠ none->B<=ablk a) (hB : B<=w.heap.size) : Below B w w':=aB.below h (λ_ hb=>by rw [hb.2];exact ha hb.1) hB
variable {w : World} {b : Nat} {G : de}
theorem CR (w0 : World) (av : OA) (cv n : Nat) (v : Lz) (s : Int) (au : OA) (cu : Nat) (u : Lz) (h : eD w0 b G) (hb : Below w0.heap.size w0 w)
  (hv : w.ownsRow w0.heap.size 3 1 (.slice av n cv) n (v.map (Value.int .i64))) (hu : Ints w au n u) (hap : av=none\/au=none\/ablk au ≠ ablk av)
  (hve : ∀x ∈ v,G.El x) (hue : ∀x ∈ u,G.El x) (hs : G.El s) :
  Calls Tryz.prog 207 #[.pointer (some ⟨b,0,none⟩),.slice av n cv,.int .i64 s,.slice au n cu] w
   λe w'=>e = .returned (.tuple #[])/\w'.ownsRow w0.heap.size 3 1 (.slice av n cv) n ((bJ G.ops v s u).map (Value.int .i64))/\bX av w w':=by
 have hul:=hu.len
 have hvl : v.length=n:=by simpa using jr hv
 have hmax:=hu.max
 unfold maxLen at hmax
 have hpu:=hu.pl
 have hpv:=(Ints.own hv).1.pl
 have hav : 0<n->av ≠ none:=λhn e=>by have:=hpv hn;rw [e] at this;cases this
 have hll : (bJ G.ops v s u).length=v.length:=cH _ _ _ _ (by omega)
 have hnth:=λi=>gL G.ops v s u i (by omega)
 have Hnth:=Z5 hnth
 have Hul:=Z5 hul
 have Hvl:=Z5 hvl
 have Hll:=Z5 hll
 have Hav:=Z5 hav
 have Hve:=Z5 hve
 have Hue:=Z5 hue
 clear hnth hul hvl hll hav hve hue
 generalize bJ G.ops v s u=N at *
 go_enter Tryz.func207,Tryz.ntmps207
 go_wp2_with fail
 go_loopw [12] (λiv wr=>∃k : Nat,k<=n/\iv = .int .i64 k/\wr.ownsRow w0.heap.size 3 1 (.slice av n cv) n ((fD N v k).map (Value.int .i64))/\bX av w wr) (λiv _=>n - (intOf iv).toNat)
 case atStart=>exact ⟨0,Nat.zero_le _,rfl,by rw [en];exact hv,bX.refl _ _⟩
 case round =>
  obtain ⟨k,hk,rfl,hown,honly⟩:=hrel
  by_cases hlt : k<n
  ·have hiu:=honly.ints hu hap
   have cu1:=hiu.cell k hlt
   have hkN : N.length=v.length:=Hll.out
   have hkv : k<v.length:=by rw [Hvl.out];exact hlt
   have hval:=Hnth.out k hkv
   have hmix:=ed N v k k hkN (by omega)
   rw [if_neg (by omega)] at hmix
   by_cases hz : nth u k=0
   ·rw [if_pos hz] at hval
    have hsame:=tg N v k hkN hkv hval
    have Hsame:=Z5 hsame
    clear hval hmix hsame hkN hkv
    go_wp2_with fail
    go_roundw
    case rel=>exact ⟨k+1,by omega,by go_num,by rw [Hsame.out];exact hown,honly⟩
    case measure=>simp [intOf] <;> omega
   ·rw [if_neg hz] at hval
    have hset:=dZ N v k hkN hkv
    obtain ⟨hiv,hmv⟩:=Ints.own hown
    have cv1:=hiv.cell k hlt
    have fv1:=(hmv (by omega)).2 k hlt
    rw [hmix] at cv1
    have elv : G.El (nth v k):=Hve.out _ (aN hkv)
    have elu : G.El (nth u k):=Hue.out _ (aN (by rw [Hul.out];exact hlt))
    have hGr : eD wr b G:=h.ah (Below.trans hb (honly.below (λha=>(aR hv ha).1) hb.size))
    have Hval:=Z5 hval
    have Hset:=Z5 hset
    have hS : ∀W,bd wr W->W.cell? ⟨ablk av,aJ av+k,none⟩=some (.int .i64 (nth v k))/\W.frozen? ⟨ablk av,aJ av+k,none⟩=false/\eD W b G/\bd wr W :=
     λW hW=>⟨hW.cell cv1,hW.frozen fv1,hGr.ah hW.below,hW⟩
    have HS:=Z5 hS
    have elm : ∀x y,G.El (G.mul x y):=λx y=>de.mI h x y
    have hz' : (nth u k != 0)=true:=by simpa using hz
    clear hval hmix hset hkN hkv hS hz
    go_wp2_with fail
    have HG : Hid (eD wr.drew b G/\∀n,eD (wr.drewN n) b G):=⟨hGr.ah (Below.refl _ _).drew,λn=>hGr.drewN n⟩
    go_region_law ((first
     | (go_simp;go_at_call 153;((with_reducible refine (qF s (nth u k) HG.out.1 hs elu).mono ?_);rintro e w4 ⟨m4,rfl,rfl⟩))
     | (go_simp;go_at_call 153;((with_reducible refine (qF s (nth u k) (HG.out.2 _) hs elu).mono ?_);rintro e w4 ⟨m4,rfl,rfl⟩))
     | (go_simp;go_at_call 152;((with_reducible refine (JD (nth v k) (G.mul s (nth u k)) (HG.out.2 _) elv (elm _ _)).mono ?_);rintro e w4 ⟨m5,rfl,rfl⟩))))
    all_goals (
     go_wp2_with fail
     go_roundw
     case rel =>
      have hdr : bd wr (wr.drewN (1+m4+m5)):=⟨_,rfl⟩
      refine ⟨k+1,by omega,by go_num,?_,honly.trans ((bX.drawn hdr).trans (bX.set _ k _ (Hav.out (by omega))))⟩
      have h1:=bC (w:=wr.drewN (1+m4+m5)) hown k hlt (.int .i64 (nth N k))
      rw [<- List.map_set,Hset.out,Hval.out] at h1
      exact h1
     case measure=>simp [intOf] <;> omega)
  ·obtain rfl : k=n:=by omega
   rw [fy N v k (by rw [Hll.out,Hvl.out]) Hvl.out] at hown
   go_wp2_with fail
   go_end0
   exact ⟨rfl,hown,honly⟩
end
section
variable {w : World} {b : Nat} {G : de}
def tP (R : La) (i j : Nat) : La:=(R.set i (aM R j)).set j (aM R i)
theorem qb (R : La) (i j : Nat) : (tP R i j).length=R.length:=by simp [tP]
def ko (t k i : Nat) : Nat:=if i=k then t else if i=t then k else i
theorem lz (R : La) (t k i : Nat) (ht : t<R.length) (hk : k<R.length) : aM (tP R t k) i=aM R (ko t k i):=by
 unfold tP ko
 rw [gB _ _ _ _ (by simpa using hk),gB _ _ _ _ ht]
 split
 ·rfl
 ·split <;> rfl
theorem nQ (L : Ll) (t k i : Nat) (ht : t<L.length) (hk : k<L.length) : aj (bm L t k) i=aj L (ko t k i):=by
 unfold bm ko
 rw [fP _ _ _ _ (by simpa using hk),fP _ _ _ _ ht]
 split
 ·rfl
 ·split <;> rfl
theorem mQ {t k i n : Nat} (ht : t<n) (hk : k<n) (hi : i<n) : ko t k i<n:=by unfold ko;split <;> (try split) <;> assumption
theorem Gq {t k i j : Nat} (h : i ≠ j) : ko t k i ≠ ko t k j:=by
 unfold ko
 split <;> split <;> (try split) <;> (try split) <;> omega
theorem aU.swap {B : Nat} {a : OA} {n c : Nat} {R : La} {L : Ll} (h : aU w B a n c R L) {t k : Nat} (ht : t<n) (hk : k<n) :
  aU ((w.setCell ⟨ablk a,aJ a+t,none⟩ (.slice (aM R k).1 (aj L k).length (aM R k).2)).setCell ⟨ablk a,aJ a+k,none⟩ (.slice (aM R t).1 (aj L t).length (aM R t).2)) B a n c (tP R t k) (bm L t k):=by
 have hRt : t<R.length:=by rw [h.rl];exact ht
 have hRk : k<R.length:=by rw [h.rl];exact hk
 have hLt : t<L.length:=by rw [h.ll];exact ht
 have hLk : k<L.length:=by rw [h.ll];exact hk
 refine ⟨by rw [qb];exact h.rl,by rw [dK];exact h.ll,?_,λi hi=>?_,λi hi=>?_,λi j hi hj hij=>?_⟩
 ·have h1:=bC (bC h.own t ht (.slice (aM R k).1 (aj L k).length (aM R k).2)) k hk (.slice (aM R t).1 (aj L t).length (aM R t).2)
  rw [show (List.zipWith e9 R L).set t (.slice (aM R k).1 (aj L k).length (aM R k).2)=_ from wM R L t (aM R k) (aj L k)] at h1
  rw [show (List.zipWith e9 (R.set t (aM R k)) (L.set t (aj L k))).set k (.slice (aM R t).1 (aj L t).length (aM R t).2)=_ from wM _ _ k (aM R t) (aj L t)] at h1
  exact h1
 ·rw [lz _ _ _ _ hRt hRk,nQ _ _ _ _ hLt hLk]
  have hf:=mQ ht hk hi
  exact eO (p:=⟨ablk a,aJ a+k,none⟩) (eO (p:=⟨ablk a,aJ a+t,none⟩) (h.row _ hf) _ (h.sD _ hf)) _ (h.sD _ hf)
 ·rw [lz _ _ _ _ hRt hRk]
  exact h.sD _ (mQ ht hk hi)
 ·rw [lz _ _ _ _ hRt hRk,lz _ _ _ _ hRt hRk]
  exact h.sep _ _ (mQ ht hk hi) (mQ ht hk hj) (Gq hij)
theorem bL.swap {a : OA} {R : La} {t k b : Nat} (ht : t<R.length) (hk : k<R.length) (h : bL a (tP R t k) b) : bL a R b:=by
 rcases h with h | ⟨i,hi,h1,rfl⟩
 ·exact .inl h
 ·rw [qb] at hi
  rw [lz _ _ _ _ ht hk] at h1 ⊢
  exact aU.mw (mQ ht hk hi) h1
theorem aU.ox {B : Nat} {a : OA} {n c : Nat} {R : La} {L : Ll} (h : aU w B a n c R L) {t k : Nat} (ht : t<n) (hk : k<n) (u v : Value) :
  aB w ((w.setCell ⟨ablk a,aJ a+t,none⟩ u).setCell ⟨ablk a,aJ a+k,none⟩ v) (bL a R) (bL a (tP R t k)):=by
 have hb0 : Below 0 w ((w.setCell ⟨ablk a,aJ a+t,none⟩ u).setCell ⟨ablk a,aJ a+k,none⟩ v):=((Below.refl 0 w).setCell (Nat.zero_le _) u).setCell (Nat.zero_le _) v
 have hne:=h.ne (by omega)
 refine ⟨hb0.os,hb0.tape,hb0.output,hb0.size,λb hb hI=>?_,λb hb=>.inl (bL.swap (by rw [h.rl];exact ht) (by rw [h.rl];exact hk) hb)⟩
 rw [Below.heap_setCell _ _ _ _ λe=>hI (.inl ⟨hne,e⟩),Below.heap_setCell _ _ _ _ λe=>hI (.inl ⟨hne,e⟩)]
theorem aU.drew {B : Nat} {a : OA} {n c : Nat} {R : La} {L : Ll} (h : aU w B a n c R L) : aU w.drew B a n c R L:=h.ah (Below.refl _ _).drew
theorem aB.drew {w w' : World} {I I' : Nat->Prop} (h : aB w w' I I') : aB w w'.drew I I':=⟨h.os,h.tape,h.output,h.size,h.block,h.grow⟩
theorem ug (B : Nat) (a : OA) (n c : Nat) (R : La) (L : Ll) (pk pt k t : Nat) (hO : aU w B a n c R L)
  (hk : w.cell? ⟨pk,0,none⟩=some (.int .i64 k)) (ht : w.cell? ⟨pt,0,none⟩=some (.int .i64 t)) (hkn : k<n) (htn : t<n) (hkt : k ≠ t) (nk : ¬ bL a R pk) (nt : ¬ bL a R pt) :
  Calls Tryz.prog 250 #[.slice a n c,.pointer (some ⟨pk,0,none⟩),.pointer (some ⟨pt,0,none⟩)] w
   λe w'=>e = .returned (.tuple #[])/\∃R',aU w' B a n c R' (bm L t k)/\aB w w' (bL a R) (bL a R'):=by
 have hpl:=hO.pl
 have ck:=hO.cell hkn
 have ct:=hO.cell htn
 have fk:=hO.frozen hkn
 have ft:=hO.frozen htn
 have hane : a ≠ none:=hO.ne (by omega)
 have npk : pk ≠ ablk a:=λe=>nk (.inl ⟨hane,e⟩)
 have npt : pt ≠ ablk a:=λe=>nt (.inl ⟨hane,e⟩)
 have k1 : (w.setCell ⟨ablk a,aJ a+t,none⟩ (.slice (aM R k).1 (aj L k).length (aM R k).2)).cell? ⟨pk,0,none⟩=some (.int .i64 k):=by
  rw [World.cell?_setCell_other _ _ _ _ (by simp [npk])];exact hk
 have k2 : (w.setCell ⟨ablk a,aJ a+t,none⟩ (.slice (aM R k).1 (aj L k).length (aM R k).2)).cell? ⟨pt,0,none⟩=some (.int .i64 t):=by
  rw [World.cell?_setCell_other _ _ _ _ (by simp [npt])];exact ht
 have k3 : (w.setCell ⟨ablk a,aJ a+t,none⟩ (.slice (aM R k).1 (aj L k).length (aM R k).2)).cell? ⟨ablk a,aJ a+k,none⟩=some (.slice (aM R k).1 (aj L k).length (aM R k).2):=by
  rw [World.cell?_setCell_other _ _ _ _ (by simp <;> omega)];exact ck
 go_enter Tryz.func250,Tryz.ntmps250
 go_wp2_with fail
 go_region
 have hO2:=(hO.swap htn hkn).drew
 have hM2:=(hO.ox htn hkn (.slice (aM R k).1 (aj L k).length (aM R k).2) (.slice (aM R t).1 (aj L t).length (aM R t).2)).drew
 go_wp2_with fail
 go_end0
 exact ⟨rfl,_,hO2,hM2⟩
theorem qO (w0 : World) (a : OA) (n c : Nat) (R : La) (L : Ll) (pg ps pt : Nat) (s : Int) (t : Nat) (hO : aU w w0.heap.size a n c R L)
  (h : eD w0 b G) (hb : Below w0.heap.size w0 w)
  (hg : w.cell? ⟨pg,0,none⟩=some (.pointer (some ⟨b,0,none⟩))) (hs : w.cell? ⟨ps,0,none⟩=some (.int .i64 s)) (ht : w.cell? ⟨pt,0,none⟩=some (.int .i64 t)) (htn : t<n) (hse : G.El s)
  (hel : G.B9 (aj L t)) (hln : (aj L t).length<=1000000) :
  Calls Tryz.prog 251 #[.slice a n c,.pointer (some ⟨pg,0,none⟩),.pointer (some ⟨ps,0,none⟩),.pointer (some ⟨pt,0,none⟩)] w
   λe w'=>e = .returned (.tuple #[])/\∃R',aU w' w0.heap.size a n c R' (L.set t ((aj L t).map (G.mul s)))/\aB w w' (bL a R) (bL a R'):=by
 have hpl:=hO.pl
 have ct:=hO.cell htn
 have ft:=hO.frozen htn
 have hi:=hO.ints htn
 have hG:=h.ah hb
 have hS : ∀W,Below w.heap.size w W->W.cell? ⟨pg,0,none⟩=some (.pointer (some ⟨b,0,none⟩))/\W.cell? ⟨ps,0,none⟩=some (.int .i64 s)/\W.cell? ⟨pt,0,none⟩=some (.int .i64 t) /\
   W.cell? ⟨ablk a,aJ a+t,none⟩=some (.slice (aM R t).1 (aj L t).length (aM R t).2)/\W.frozen? ⟨ablk a,aJ a+t,none⟩=false/\Below w.heap.size w W :=
  λW hW=>⟨aw hW hg,aw hW hs,aw hW ht,aw hW ct,(hO.ah hW).frozen htn,hW⟩
 have HS:=Z5 hS
 clear hS
 have hF : ∀w4 a4 c4,w4.ownsRow w.drew.heap.size 3 1 (.slice a4 ((aj L t).map (G.mul s)).length c4) ((aj L t).map (G.mul s)).length (((aj L t).map (G.mul s)).map (Value.int .i64))->Below w.drew.heap.size w.drew w4 ->
   ∃R',aU (w4.setCell ⟨ablk a,aJ a+t,none⟩ (.slice a4 (aj L t).length c4)) w0.heap.size a n c R' (L.set t ((aj L t).map (G.mul s)))/\aB w (w4.setCell ⟨ablk a,aJ a+t,none⟩ (.slice a4 (aj L t).length c4)) (bL a R) (bL a R'):=by
  intro w4 a4 c4 hown4 hb4
  have hb5 : Below w.heap.size w w4:=Below.next (Below.refl _ _).drew hb4
  have hO4:=hO.ah hb5
  have hsz : w.drew.heap.size=w.heap.size:=rfl
  rw [hsz] at hown4
  have hnew : ∀b,b<w.heap.size->db a4 b:=λb hb=>ml hown4 hb
  have h1:=hO4.setRow htn (aP hown4 hb.size) (hnew _ (hO.lt _ (.inl ⟨hO.ne (by omega),rfl⟩)).2) (λj hj _=>by
   by_cases hn : (aM R j).1=none
   ·exact .inl hn
   ·exact .inr (hnew _ (hO.lt _ (aU.mw (by rw [hO.rl];exact hj) hn)).2))
  have h2:=hO.kN hb5 htn (r:=a4) (rc:=c4) (.slice a4 ((aj L t).map (G.mul s)).length c4) (λha=>.inr (aR hown4 ha).1)
  rw [List.length_map] at h1 h2
  exact ⟨_,h1,h2⟩
 have HF:=Z5 hF
 clear hF
 go_enter Tryz.func251,Tryz.ntmps251
 go_wp2_with fail
 go_region_law ((first
  | (go_simp;go_at_call 194;((with_reducible refine (xS s _ _ _ _ (hG.ah (Below.refl _ _).drew) hse (hi.ah (Below.refl _ _).drew) hel hln).mono ?_);rintro e w4 ⟨a4,c4,rfl,hown4,hb4⟩;obtain ⟨q0,q1,q2,q3,q4,q5⟩:=HS.out w4 (Below.next (Below.refl _ _).drew hb4)))))
 all_goals (
  go_wp2_with fail
  go_end0
  exact ⟨rfl,HF.out _ _ _ hown4 hb4⟩)
end
section
variable {w : World} {b : Nat} {G : de}
theorem bX.dt {a av : OA} {R : La} {w w' : World} (h : bX av w w') (hin : av ≠ none->bL a R (ablk av)) : aB w w' (bL a R) (bL a R) :=
 ⟨h.os,h.tape,h.output,h.size,λb hb hI=>h.block b hb (λ⟨h1,h2⟩=>hI (by rw [h2];exact hin h1)),λ_ h=>.inl h⟩
theorem qs (w0 : World) (a : OA) (n c : Nat) (R : La) (L : Ll) (pg pi px pt m : Nat) (i : Nat) (x : Int) (t : Nat) (hO : aU w w0.heap.size a n c R L)
  (h : eD w0 b G) (hb : Below w0.heap.size w0 w)
  (hg : w.cell? ⟨pg,0,none⟩=some (.pointer (some ⟨b,0,none⟩))) (hi : w.cell? ⟨pi,0,none⟩=some (.int .i64 i)) (hx : w.cell? ⟨px,0,none⟩=some (.int .i64 x)) (ht : w.cell? ⟨pt,0,none⟩=some (.int .i64 t))
  (hin : i<n) (htn : t<n) (hit : i ≠ t) (hxe : G.El x) (ng : ¬ bL a R pg) (ni : ¬ bL a R pi) (nx : ¬ bL a R px) (nt : ¬ bL a R pt) (hei : G.B9 (aj L i)) (het : G.B9 (aj L t)) (hli : (aj L i).length=m) (hlt : (aj L t).length=m) :
  Calls Tryz.prog 252 #[.slice a n c,.pointer (some ⟨pg,0,none⟩),.pointer (some ⟨pi,0,none⟩),.pointer (some ⟨px,0,none⟩),.pointer (some ⟨pt,0,none⟩)] w
   λe w'=>e = .returned (.tuple #[])/\aU w' w0.heap.size a n c R (L.set i (bJ G.ops (aj L i) (G.neg x) (aj L t)))/\aB w w' (bL a R) (bL a R):=by
 have hpl:=hO.pl
 have ct:=hO.cell htn
 have ci:=hO.cell hin
 have ri:=hO.row i hin
 have rt:=hO.ints htn
 have hsep:=hO.sep i t hin htn hit
 have hne : G.El (G.neg x):=de.sV h x
 rw [hlt] at ct rt
 rw [hli] at ci ri
 have hap : (aM R i).1=none\/(aM R t).1=none\/ablk (aM R t).1 ≠ ablk (aM R i).1:=hsep
 have hadd : ∀k,Calls Tryz.prog 207 #[.pointer (some ⟨b,0,none⟩),.slice (aM R i).1 m (aM R i).2,.int .i64 (G.neg x),.slice (aM R t).1 m (aM R t).2] (w.drewN k)
   λe w'=>e = .returned (.tuple #[])/\(w'.cell? ⟨pg,0,none⟩=some (.pointer (some ⟨b,0,none⟩))/\w'.cell? ⟨pi,0,none⟩=some (.int .i64 i)/\w'.cell? ⟨px,0,none⟩=some (.int .i64 x)/\w'.cell? ⟨pt,0,none⟩=some (.int .i64 t) /\
    w'.cell? ⟨ablk a,aJ a+t,none⟩=some (.slice (aM R t).1 m (aM R t).2)/\w'.cell? ⟨ablk a,aJ a+i,none⟩=some (.slice (aM R i).1 m (aM R i).2))/\(aU w' w0.heap.size a n c R (L.set i (bJ G.ops (aj L i) (G.neg x) (aj L t)))/\aB w w' (bL a R) (bL a R)):=by
  intro k
  have hd : bd w (w.drewN k):=⟨k,rfl⟩
  refine (CR w0 _ _ m (aj L i) (G.neg x) _ _ (aj L t) h (hd.xj hb) (aW ri hd.below) (rt.ah hd.below) hap hei het hne).mono ?_
  rintro e w' ⟨rfl,hown,honly⟩
  have hmv : aB w w' (bL a R) (bL a R):=(aB.bq hd.below _).trans (honly.dt (λhn=>aU.mw (by rw [hO.rl];exact hin) hn))
  have hne2 : ¬ ((aM R i).1 ≠ none/\ablk a=ablk (aM R i).1):=by
   rintro ⟨h1,h2⟩
   rcases hO.sD i hin with h3 | h3
   ·exact h1 h3
   ·exact h3 h2.symm
  refine ⟨rfl,⟨hmv.cell hg ng,hmv.cell hi ni,hmv.cell hx nx,hmv.cell ht nt,aB.cell (aB.trans (aB.bq hd.below _) honly) ct hne2,aB.cell (aB.trans (aB.bq hd.below _) honly) ci hne2⟩,?_,hmv⟩
  have hOr:=hO.ah hd.below
  have hl : (bJ G.ops (aj L i) (G.neg x) (aj L t)).length=(aj L i).length:=cH _ _ _ _ (by rw [hli,hlt])
  refine hOr.Et hin hl (by rw [hli];exact hown) λb hb hne=>honly.block b hb λ⟨h1,h2⟩=>?_
  rcases hne with h3 | h3
  ·exact h1 h3
  ·exact h3 h2
 have Hadd:=Z5 hadd
 have hG:=h.ah hb
 have HG : Hid (eD w.drew b G/\∀n,eD (w.drewN n) b G):=⟨hG.ah (Below.refl _ _).drew,λn=>hG.drewN n⟩
 clear hadd hsep hap hli hlt
 generalize L.set i (bJ G.ops (aj L i) (G.neg x) (aj L t))=L' at *
 go_enter Tryz.func252,Tryz.ntmps252
 go_wp2_with fail
 go_region_held3 (fun w' => w'.cell? ⟨pg, 0, none⟩ = some (.pointer (some ⟨b, 0, none⟩)) ∧ w'.cell? ⟨pi, 0, none⟩ = some (.int .i64 i) ∧ w'.cell? ⟨px, 0, none⟩ = some (.int .i64 x) ∧ w'.cell? ⟨pt, 0, none⟩ = some (.int .i64 t) ∧
       w'.cell? ⟨ablk a,aJ a+t,none⟩=some (.slice (aM R t).1 m (aM R t).2)/\w'.cell? ⟨ablk a,aJ a+i,none⟩=some (.slice (aM R i).1 m (aM R i).2))
  (first | assumption | exact ⟨hg,hi,hx,ht,ct,ci⟩)
  (first
  | (go_at_call 88;((with_reducible refine (Fv x HG.out.1 hxe).mono ?_);rintro e w4 ⟨m4,rfl,rfl⟩))
  | (go_at_call 207;((with_reducible refine (Hadd.out _).mono ?_);rintro e w5 ⟨rfl,hS5,hO5,hM5⟩)))
 go_wp2_with fail
 go_end0
 exact ⟨rfl,hO5,hM5⟩
end
section
variable {w : World}
theorem DM (c0 c1 : Value) (p q : Nat) (a : OA) (n c : Nat) (X : World->Prop) (h1 : w.cell? ⟨p,0,none⟩=some (.slice a n c))
  (hf : Calls Tryz.prog 250 #[.slice a n c,c0,c1] w λe w'=>e = .returned (.tuple #[])/\w'.cell? ⟨q,0,none⟩=some (.slice none 0 0)/\X w') :
  Calls Tryz.prog 249 #[.func (.func 250) #[] #[c0,c1],.pointer (some ⟨p,0,none⟩),.pointer (some ⟨q,0,none⟩)] w
   λe w'=>e = .returned (.tuple #[])/\X w':=by
 have Hf:=Z5 hf
 clear hf
 go_enter Tryz.func249,Tryz.ntmps249
 go_wp2_with fail
 refine Hf.out.mono ?_
 rintro e w' ⟨rfl,hq,hX⟩
 go_wp2_with fail
 go_end0
 exact ⟨rfl,hX⟩
theorem Dz (c0 c1 c2 : Value) (p q : Nat) (a : OA) (n c : Nat) (X : World->Prop) (h1 : w.cell? ⟨p,0,none⟩=some (.slice a n c))
  (hf : Calls Tryz.prog 251 #[.slice a n c,c0,c1,c2] w λe w'=>e = .returned (.tuple #[])/\w'.cell? ⟨q,0,none⟩=some (.slice none 0 0)/\X w') :
  Calls Tryz.prog 249 #[.func (.func 251) #[] #[c0,c1,c2],.pointer (some ⟨p,0,none⟩),.pointer (some ⟨q,0,none⟩)] w
   λe w'=>e = .returned (.tuple #[])/\X w':=by
 have Hf:=Z5 hf
 clear hf
 go_enter Tryz.func249,Tryz.ntmps249
 go_wp2_with fail
 refine Hf.out.mono ?_
 rintro e w' ⟨rfl,hq,hX⟩
 go_wp2_with fail
 go_end0
 exact ⟨rfl,hX⟩
theorem Em (c0 c1 c2 c3 : Value) (p q : Nat) (a : OA) (n c : Nat) (X : World->Prop) (h1 : w.cell? ⟨p,0,none⟩=some (.slice a n c))
  (hf : Calls Tryz.prog 252 #[.slice a n c,c0,c1,c2,c3] w λe w'=>e = .returned (.tuple #[])/\w'.cell? ⟨q,0,none⟩=some (.slice none 0 0)/\X w') :
  Calls Tryz.prog 249 #[.func (.func 252) #[] #[c0,c1,c2,c3],.pointer (some ⟨p,0,none⟩),.pointer (some ⟨q,0,none⟩)] w
   λe w'=>e = .returned (.tuple #[])/\X w':=by
 have Hf:=Z5 hf
 clear hf
 go_enter Tryz.func249,Tryz.ntmps249
 go_wp2_with fail
 refine Hf.out.mono ?_
 rintro e w' ⟨rfl,hq,hX⟩
 go_wp2_with fail
 go_end0
 exact ⟨rfl,hX⟩
end
theorem lM (w : World) (cs : Array Value) (e : TypeId) {g : Nat} (hg : g=w.heap.size) (i : Nat) : (w.alloc (.cells cs e)).frozen? ⟨g,i,none⟩=false:=by subst hg;simp
theorem kC {w w' : World} (hb : Below w.heap.size w w') {g i : Nat} (hg : g<w.heap.size) {v : Bool} (h : w.frozen? ⟨g,i,none⟩=v) : w'.frozen? ⟨g,i,none⟩=v:=(hb.frozen (p:=⟨g,i,none⟩) hg).trans h
theorem dG {w : World} {g i : Nat} {v : Bool} (hg : g<w.heap.size) (h : w.frozen? ⟨g,i,none⟩=v) (o : Obj) : (w.alloc o).frozen? ⟨g,i,none⟩=v:=kC ((Below.refl _ _).alloc (Nat.le_refl _) o) hg h
def aV (w : World) (b : Nat) (cs : List Value) : Prop:=b<w.heap.size/\(∀i v,cs[i]? = some v->w.cell? ⟨b,i,none⟩=some v)/\∀i,w.frozen? ⟨b,i,none⟩=false
theorem aV.new (w : World) (cs : List Value) (e : TypeId) {g : Nat} (hg : g=w.heap.size) : aV (w.alloc (.cells cs.toArray e)) g cs :=
 ⟨by subst hg;simp,λi v hv=>by rw [aH _ _ _ hg i];simpa using hv,λi=>lM _ _ _ hg i⟩
theorem aV.ah {w w' : World} {b : Nat} {cs : List Value} (h : aV w b cs) (hb : Below w.heap.size w w') : aV w' b cs :=
 ⟨Nat.lt_of_lt_of_le h.1 hb.size,λi v hv=>aw hb (h.2.1 i v hv),λi=>kC hb h.1 (h.2.2 i)⟩
theorem aV.alloc {w : World} {b : Nat} {cs : List Value} (h : aV w b cs) (o : Obj) : aV (w.alloc o) b cs:=h.ah ((Below.refl _ _).alloc (Nat.le_refl _) o)
theorem aV.cell {w : World} {b : Nat} {cs : List Value} (h : aV w b cs) (i : Nat) {v : Value} (hv : cs[i]? = some v) : w.cell? ⟨b,i,none⟩=some v:=h.2.1 i v hv
theorem aV.frozen {w : World} {b : Nat} {cs : List Value} (h : aV w b cs) (i : Nat) : w.frozen? ⟨b,i,none⟩=false:=h.2.2 i
theorem kO (w : World) (o1 o2 o3 : Obj) : Below w.heap.size w (((w.alloc o1).alloc o2).alloc o3):=(((Below.refl _ _).alloc (Nat.le_refl _) _).alloc (by simp) _).alloc (by simp;omega) _
theorem dH (w : World) (o1 o2 : Obj) : Below w.heap.size w ((w.alloc o1).alloc o2):=((Below.refl _ _).alloc (Nat.le_refl _) _).alloc (by simp) _
theorem an (w : World) (o1 : Obj) : Below w.heap.size w (w.alloc o1):=(Below.refl _ _).alloc (Nat.le_refl _) _
theorem Ints.drawn {w w' : World} {a : OA} {n : Nat} {l : Lz} (h : Ints w a n l) (hd : bd w w') : Ints w' a n l:=h.ah hd.below
theorem bZ.drawn {w w' : World} {a : OA} {n : Nat} {l : Ll} (h : bZ w a n l) (hd : bd w w') : bZ w' a n l:=h.ah hd.below
theorem bd.trans {w w' w'' : World} (h : bd w w') (k : bd w' w'') : bd w w'' := by obtain ⟨m, rfl⟩ := h; obtain ⟨n, rfl⟩ := k; exact ⟨m + n, World.drewN_drewN _ _ _⟩
def lp (w : World) (z : Bool) (e : Ending) (w' : World) : Prop:=e = .returned (.bool z)/\bd w w'
section
structure cK (O : aQ) (El : Int->Prop) : Prop where
 cl : sr O El
 zero : El 0
 one : El 1
 add_comm : ∀x y,El x->El y->O.add x y=O.add y x
 add_assoc : ∀x y z,El x->El y->El z->O.add (O.add x y) z=O.add x (O.add y z)
 add_zero : ∀x,El x->O.add x 0=x
 add_neg : ∀x,El x->O.add x (O.neg x)=0
 mul_comm : ∀x y,El x->El y->O.mul x y=O.mul y x
 mul_assoc : ∀x y z,El x->El y->El z->O.mul (O.mul x y) z=O.mul x (O.mul y z)
 one_mul : ∀x,El x->O.mul 1 x=x
 mul_add : ∀x y z,El x->El y->El z->O.mul x (O.add y z)=O.add (O.mul x y) (O.mul x z)
 mul_inv : ∀x,El x->x ≠ 0->O.mul x (O.inv x)=1
def pw (P : Int) (M : Nat) (mod : Lz) (y : Int) : Nat->Int
 | 0=>1
 | k+1=>dz P M mod (pw P M mod y k) y
variable {P : Int} {M : Nat} {mod : Lz} {q : Nat} {y : Int}
theorem wk (h : mx P M) (y : Int) : ∀k,ee P M (pw P M mod y k)
 | 0=>xk h
 | k+1=>gu h _ _
theorem ji (h : mx P M) (y : Int) (a : Nat) : ∀b,dz P M mod (pw P M mod y a) (pw P M mod y b)=pw P M mod y (a+b)
 | 0=>by rw [pw,jB h,iP h (wk h y a)];rfl
 | b+1=>by rw [pw,<- tD h,ji h y a b];rfl
theorem vA (y : Int) : ∀(n : Nat) (l : Lz),(∀i,i<l.length->nth l i=pw P M mod y i)->l.Nodup->(∀e ∈ l,e ≠ 0) ->
  (∀i,i<(powTo (λz=>dz P M mod z y) n l (pw P M mod y l.length)).length->nth (powTo (λz=>dz P M mod z y) n l (pw P M mod y l.length)) i=pw P M mod y i) /\
  (powTo (λz=>dz P M mod z y) n l (pw P M mod y l.length)).Nodup/\∀e ∈ powTo (λz=>dz P M mod z y) n l (pw P M mod y l.length),e ≠ 0
 | 0,l,h1,h2,h3=>⟨h1,h2,h3⟩
 | n+1,l,h1,h2,h3=>by
  by_cases hs : pw P M mod y l.length=0\/pw P M mod y l.length ∈ l
  ·rw [j5 _ _ _ _ hs];exact ⟨h1,h2,h3⟩
  ·rw [sJ _ _ _ _ hs]
   have e : dz P M mod (pw P M mod y l.length) y=pw P M mod y (l ++ [pw P M mod y l.length]).length:=by simp [pw]
   rw [e]
   refine vA y n _ (λi hi=>?_) ?_ ?_
   ·simp only [List.length_append,List.length_singleton] at hi
    by_cases hl : i<l.length
    ·rw [nth,List.getD_eq_getElem?_getD,List.getElem?_append_left hl,<- List.getD_eq_getElem?_getD];exact h1 i hl
    ·obtain rfl : i=l.length:=by omega
     simp [nth]
   ·rw [List.nodup_append]
    refine ⟨h2,by simp,λa ha b hb=>?_⟩
    rw [List.mem_singleton.1 hb]
    intro e;exact hs (.inr (e ▸ ha))
   ·intro e he
    rcases List.mem_append.1 he with h | h
    ·exact h3 e h
    ·rw [List.mem_singleton.1 h];intro e;exact hs (.inl e)
theorem Gp (h : mx P M) (hy : ee P M y) (q : Nat) :
  (∀i,i<(fQ P M mod q y).length->nth (fQ P M mod q y) i=pw P M mod y i)/\(fQ P M mod q y).Nodup/\∀e ∈ fQ P M mod q y,e ≠ 0:=by
 have e : pw P M mod y [(1 : Int)].length=y:=by show dz P M mod (pw P M mod y 0) y=y;rw [pw,iP h hy]
 have:=vA (P:=P) (M:=M) (mod:=mod) y q [1] (λi hi=>by
  have : i=0:=by simp at hi;omega
  subst this;rfl) (by simp) (by simp)
 rw [e] at this
 exact this
structure uO (P : Int) (M : Nat) (mod : Lz) (q : Nat) (y : Int) (ex : Lz) : Prop where
 res : mx P M
 q2 : 2<=q
 pq : (q : Int)=P ^ M
 yel : ee P M y
 len : ex.length=q - 1
 val : ∀i,i<q - 1->nth ex i=pw P M mod y i
 nodup : ex.Nodup
 ne : ∀e ∈ ex,e ≠ 0
 last : pw P M mod y (q - 1)=1
theorem uO.yN (h : mx P M) (hq : (q : Int)=P ^ M) (hy : ee P M y) (hg : gw P M mod q y=true) : uO P M mod q y (fQ P M mod q y):=by
 have hq2 : 2<=q:=by have:=one_lt_pow h;omega
 simp only [gw,Bool.and_eq_true,beq_iff_eq] at hg
 obtain ⟨h1,h2,h3⟩:=Gp (mod:=mod) h hy q
 refine ⟨h,hq2,hq,hy,hg.1,λi hi=>h1 i (by omega),h2,h3,?_⟩
 have:=hg.2
 rw [h1 _ (by omega)] at this
 rw [show q - 1=(q - 2)+1 by omega]
 exact this
namespace uO
variable {ex : Lz}
theorem mem (g : uO P M mod q y ex) {e : Int} (he : ee P M e) (h0 : e ≠ 0) : e ∈ ex:=by
 apply Classical.byContradiction
 intro hn
 have hnd : (e :: ex).Nodup:=List.nodup_cons.2 ⟨hn,g.nodup⟩
 have hsub : ∀x ∈ e :: ex,x ∈ (List.range (q - 1)).map (λi : Nat=>(i : Int)+1):=by
  intro x hx
  have hx2 : ee P M x/\x ≠ 0:=by
   rcases List.mem_cons.1 hx with rfl | hx
   ·exact ⟨he,h0⟩
   ·refine ⟨?_,g.ne x hx⟩
    obtain ⟨i,hi,rfl⟩:=List.mem_iff_getElem.1 hx
    rw [<- ai hi,g.val i (by rw [<- g.len];exact hi)]
    exact wk g.res y i
  rw [List.mem_map]
  have h1:=hx2.1.1
  have h2:=hx2.1.2
  have h3:=hx2.2
  have h4:=g.pq
  have h5:=g.q2
  exact ⟨(x - 1).toNat,by rw [List.mem_range];omega,by omega⟩
 have hle:=List.Nodup.length_le_of_subset hnd hsub
 simp at hle
 have h5:=g.q2
 have h6:=g.len
 omega
theorem log (g : uO P M mod q y ex) {e : Int} (he : ee P M e) (h0 : e ≠ 0) : ∃k,k<q - 1/\e=pw P M mod y k/\nth ex k=e:=by
 obtain ⟨i,hi,e1⟩:=List.mem_iff_getElem.1 (g.mem he h0)
 have hi2 : i<q - 1:=by rw [<- g.len];exact hi
 refine ⟨i,hi2,?_,?_⟩
 ·rw [<- g.val i hi2,ai hi,e1]
 ·rw [ai hi,e1]
theorem period (g : uO P M mod q y ex) (a : Nat) : ∀n,pw P M mod y (a+n * (q - 1))=pw P M mod y a
 | 0=>by simp
 | n+1=>by
  rw [show a+(n+1) * (q - 1)=(a+n * (q - 1))+(q - 1) by rw [Nat.add_mul];omega,<- ji g.res,g.last,jB g.res,iP g.res (wk g.res y _),period g a n]
theorem red (g : uO P M mod q y ex) (a : Nat) : pw P M mod y (a % (q - 1))=pw P M mod y a:=by
 have h:=g.period (a % (q - 1)) (a / (q - 1))
 rw [<- h,Nat.mul_comm,Nat.mod_add_div]
theorem JJ (g : uO P M mod q y ex) (a : Nat) : pw P M mod y a ≠ 0:=by
 have h5:=g.q2
 rw [<- g.red a]
 have hlt : a % (q - 1)<q - 1:=Nat.mod_lt _ (by omega)
 rw [<- g.val _ hlt]
 exact g.ne _ (aN (by rw [g.len];exact hlt))
theorem inj (g : uO P M mod q y ex) {i j : Nat} (hi : i<q - 1) (hj : j<q - 1) (h : nth ex i=nth ex j) : i=j:=by
 rw [ai (by rw [g.len];exact hi),ai (by rw [g.len];exact hj)] at h
 have hp:=List.pairwise_iff_getElem.1 g.nodup
 rcases Nat.lt_trichotomy i j with h1 | h1 | h1
 ·exact absurd h (hp i j _ _ h1)
 ·exact h1
 ·exact absurd h.symm (hp j i _ _ h1)
theorem vY (g : uO P M mod q y ex) {k : Nat} (hk : k<q - 1) : ee P M (nth ex k):=by rw [g.val k hk];exact wk g.res y k
theorem vq (g : uO P M mod q y ex) : ∀k,k<=q - 1->∀j,j<k->nth (logTo q ex k) (nth ex j).toNat=j
 | 0,_,j,hj=>by omega
 | k+1,hk,j,hj=>by
  have hkel:=g.vY (k:=k) (by omega)
  have hjel:=g.vY (k:=j) (by omega)
  have h1:=hkel.1
  have h2:=hkel.2
  have h3:=hjel.1
  have h4:=g.pq
  rw [logTo,ff _ _ _ _ (by rw [jo];omega)]
  by_cases e : j=k
  ·subst e;rw [if_pos rfl]
  ·rw [if_neg]
   ·exact vq g k (by omega) j (by omega)
   ·intro e2
    exact e (g.inj (by omega) (by omega) (by omega))
theorem Ja (g : uO P M mod q y ex) {k : Nat} (hk : k<q - 1) : nth (logTo q ex (q - 1)) (pw P M mod y k).toNat=k:=by
 rw [<- g.val k hk];exact g.vq (q - 1) (Nat.le_refl _) k hk
theorem B8 (g : uO P M mod q y ex) {x z : Int} (hx : ee P M x) (hz : ee P M z) : sH q ex (logTo q ex (q - 1)) x z=dz P M mod x z:=by
 unfold sH
 by_cases h0 : x=0\/z=0
 ·rw [if_pos h0]
  rcases h0 with rfl | rfl
  ·rw [jB g.res,qR g.res]
  ·rw [qR g.res]
 ·rw [if_neg h0]
  obtain ⟨a,ha,rfl,_⟩:=g.log hx (λe=>h0 (.inl e))
  obtain ⟨b,hb,rfl,_⟩:=g.log hz (λe=>h0 (.inr e))
  have h5:=g.q2
  rw [g.Ja ha,g.Ja hb,ji g.res]
  have e1 : ((a : Int)+b) % ((q : Int) - 1)=(((a+b) % (q - 1) : Nat) : Int):=by
   rw [Int.natCast_emod,Int.natCast_add,Int.natCast_sub (by omega)];rfl
  rw [e1,Int.toNat_natCast,g.val _ (Nat.mod_lt _ (by omega)),g.red]
theorem Ff (g : uO P M mod q y ex) {x : Int} (hx : ee P M x) (h0 : x ≠ 0) : dz P M mod x (Ab q ex (logTo q ex (q - 1)) x)=1:=by
 obtain ⟨a,ha,rfl,_⟩:=g.log hx h0
 have h5:=g.q2
 unfold Ab
 rw [g.Ja ha]
 have e1 : ((q : Int) - 1 - a) % ((q : Int) - 1)=(((q - 1 - a) % (q - 1) : Nat) : Int):=by
  rw [Int.natCast_emod,Int.natCast_sub (by omega),Int.natCast_sub (by omega)];rfl
 rw [e1,Int.toNat_natCast,g.val _ (Nat.mod_lt _ (by omega)),g.red,ji g.res,show a+(q - 1 - a)=q - 1 by omega,g.last]
theorem IA (g : uO P M mod q y ex) (x : Int) : ee P M (Ab q ex (logTo q ex (q - 1)) x):=by
 have h5:=g.q2
 unfold Ab
 refine g.vY ?_
 have h1:=Int.emod_nonneg ((q : Int) - 1 - nth (logTo q ex (q - 1)) x.toNat) (show (q : Int) - 1 ≠ 0 by omega)
 have h2:=Int.emod_lt_of_pos ((q : Int) - 1 - nth (logTo q ex (q - 1)) x.toNat) (show 0<(q : Int) - 1 by omega)
 omega
theorem Kr (g : uO P M mod q y ex) : cK (de.ops ⟨P,M,q,ex,logTo q ex (q - 1)⟩) (ee P M):=by
 have hmul : ∀ {x z : Int},ee P M x->ee P M z->(de.ops ⟨P,M,q,ex,logTo q ex (q - 1)⟩).mul x z=dz P M mod x z:=λhx hz=>g.B8 hx hz
 have h:=g.res
 have hinv : ∀x,ee P M ((de.ops ⟨P,M,q,ex,logTo q ex (q - 1)⟩).inv x):=λx=>g.IA x
 refine ⟨⟨λx z _ _=>gT h x z,λx z hx hz=>?_,λx _=>qg h x,λx _ _=>hinv x⟩,wX h,xk h,λx z _ _=>C9 h x z,λx z u _ _ _=>Bt h x z u,λx hx=>GN h hx,λx _=>D6 h x,?_,?_,?_,?_,?_⟩
 ·rw [hmul hx hz];exact gu h x z
 ·intro x z hx hz;rw [hmul hx hz,hmul hz hx,jB h]
 ·intro x z u hx hz hu
  rw [hmul hx hz,hmul hz hu,hmul (gu h x z) hu,hmul hx (gu h z u),tD h]
 ·intro x hx;rw [hmul (xk h) hx,iP h hx]
 ·intro x z u hx hz hu
  have hs : (de.ops ⟨P,M,q,ex,logTo q ex (q - 1)⟩).add=fsum P M:=rfl
  rw [hs,hmul hx (gT h z u),hmul hx hz,hmul hx hu,Fz h]
 ·intro x hx h0
  rw [hmul hx (hinv x)]
  exact g.Ff hx h0
end uO
theorem tL {P M : Int} {mod : Lz} (h : bA P M mod=true) : ∃(m : Nat) (y : Int),M=m/\mx P m/\P ^ m<=256/\b8 P m mod=true/\(aK P m).toNat=P ^ m/\uO P m mod (aK P m).toNat y (gK P m mod (aK P m).toNat):=by
 unfold bA at h
 rw [Bool.and_eq_true] at h
 obtain ⟨hs,hg⟩:=h
 have hs2:=hs
 simp only [b8,Bool.and_eq_true,bne_iff_ne,ne_eq] at hs2
 obtain ⟨b1,b2,b3,b4,b5,b6⟩:=gN hs2.1.1
 obtain ⟨m,rfl⟩ : ∃m : Nat,M=m:=⟨M.toNat,by omega⟩
 rw [Int.toNat_natCast] at *
 have hres : mx P m:=⟨b1,by omega⟩
 have hq : ((aK P m).toNat : Int)=P ^ m:=by have:=one_lt_pow hres;omega
 have hne : gK P m mod (aK P m).toNat ≠ []:=by
  intro e;rw [e] at hg;simp at hg
 obtain ⟨y,hy1,hy2,hy3,hy4⟩:=qI hne
 refine ⟨m,y,rfl,hres,b5,hs,hq,?_⟩
 rw [hy4]
 exact uO.yN hres hq ⟨by omega,by omega⟩ hy3
theorem eX {P M : Int} {mod : Lz} (h : bA P M mod=true) : cK (aa P M.toNat mod).ops (aa P M.toNat mod).El:=by
 obtain ⟨m,y,rfl,hr,_,_,hq,g⟩:=tL h
 have e : (aa P ((m : Int).toNat) mod).El=ee P m:=by
  funext x;simp only [de.El,aa,ee,Int.toNat_natCast];rw [hq]
 rw [e]
 exact g.Kr
end
structure RF (P : Int) (m : Nat) : Prop where
 p2 : 2<=P
 p256 : P<=256
 m1 : 1<=m
 m8 : m<=8
 pw : P ^ m<=256
theorem RF.res {P : Int} {m : Nat} (h : RF P m) : mx P m:=⟨h.p2,h.m1⟩
theorem RF.order {P : Int} {m : Nat} (h : RF P m) : aK P m=P ^ m:=by
 have:=h.p2;have:=h.p256;have:=h.m1;have:=h.m8
 have e:=lG (p:=P) (m:=m) (by omega) (by simpa using h.pw)
 rwa [Int.toNat_natCast] at e
theorem RF.of {P M : Int} (h : aK P M ≠ 0) : ∃m : Nat,M=m/\RF P m:=by
 obtain ⟨h1,h2,h3,h4,h5,h6⟩:=gN h
 exact ⟨M.toNat,by omega,⟨h1,h2,by omega,by omega,h5⟩⟩
section
open Go.RowKit
end
section
open Go.RowKit
end
def lZ (q : Int) (k : Nat) : Int:=if q ^ k<=65536 then q ^ k else 0
def lA (q : Int) (k : Nat) : Int:=if q ^ k<=65536 then 0 else 8
theorem oQ {q : Int} {k : Nat} (h : q ^ k<=65536) : lZ q k=q ^ k/\lA q k=0:=by simp [lZ,lA,h]
theorem tS {q : Int} {k : Nat} (h : ¬ q ^ k<=65536) : lZ q k=0/\lA q k=8:=by simp [lZ,lA,h]
theorem cO {a b c d : Int} {k k' : IntKind} (h : a=b) (h' : c=d) : Ending.returned (.tuple #[.int k a,.int k' c]) = .returned (.tuple #[.int k b,.int k' d]):=by rw [h,h']
theorem Ik (q : Int) (n : Nat) (w : World) (h2 : 2<=q) (h256 : q<=256) (hn : n<=1000000) :
  Calls Tryz.prog 148 #[.int .i64 q,.int .i64 n,.int .i64 65536] w λe w'=>e = .returned (.tuple #[.int .i64 (lZ q n),.int .i64 (lA q n)])/\w=w':=by
 go_enter Tryz.func148,Tryz.ntmps148
 go_wp2_with fail
 go_loop [1,8] (λnv qv=>∃k : Nat,k<=n/\nv = .int .i64 ((n : Int) - k)/\qv = .int .i64 (q ^ k)/\q ^ k<=65536/\1<=q ^ k) (λi _=>(intOf i).toNat)
 case atStart=>exact ⟨0,Nat.zero_le _,by simp,by simp,by simp,by simp⟩
 case round =>
  obtain ⟨k,hk,rfl,rfl,hb,hb1⟩:=hrel
  have hP0 : q ≠ 0:=by omega
  by_cases hlt : k<n
  ·have e1 : q ^ (k+1)=q ^ k * q:=Int.pow_succ _ _
   have hd0 : (0 : Int)<=65536 / q:=Int.ediv_nonneg (by omega) (by omega)
   have hd1 : 65536 / q<=65536:=Int.ediv_le_self _ (by omega)
   by_cases h5 : 65536 / q<q ^ k
   ·have hbig : ¬ q ^ n<=65536:=by
     intro h
     have h6:=cW (show 1<=q by omega) (show k+1<=n by omega)
     have h7 : 65536<q ^ k * q:=Int.lt_mul_of_ediv_lt (by omega) h5
     omega
    have Hb:=Z5 (tS hbig)
    clear e1 hbig
    generalize q ^ k=z at *
    go_wp2_with fail
    go_ret2
    exact ⟨cO Hb.out.1.symm Hb.out.2.symm,rfl⟩
   ·have h6 : q ^ k * q<=65536:=by
     have:=Int.mul_le_of_le_ediv (show (0 : Int)<q by omega) (show q ^ k<=65536 / q by omega)
     exact this
    have h7 : 1 * 1<=q ^ k * q:=Int.mul_le_mul hb1 (by omega) (by omega) (by omega)
    have E1:=Z5 e1
    clear e1
    generalize hz : q ^ k=z at *
    have Hz:=Z5 hz
    clear hz
    go_wp2_with fail
    go_round
    case rel=>exact ⟨k+1,by omega,by go_num,by rw [E1.out],by rw [E1.out];exact h6,by rw [E1.out];omega⟩
    case measure=>simp [intOf] <;> omega
  ·obtain rfl : k=n:=by omega
   have Hb:=Z5 (oQ hb)
   generalize q ^ k=z at *
   go_wp2_with fail
   go_ret2
   exact ⟨cO Hb.out.1.symm Hb.out.2.symm,rfl⟩
end Go.Proofs.YtcfmiocdlcapoaaGreat
