/-  -/
import Derived.Test.YtcfmiocdlcapoaaGreatK6
import Derived.Test.YtcfmiocdlcapoaaGreatK4
namespace Go.Proofs.YtcfmiocdlcapoaaGreat
set_option linter.unusedVariables false
set_option linter.unusedSimpArgs false
set_option linter.unusedSectionVars false

section
set_option maxRecDepth 100000
set_option maxHeartbeats 800000

open Go.RowKit
variable {w : World} {b : Nat} {G : Tbl}
theorem Ints.none_nil {w : World} {n : Nat} {l : List Int} (h : Ints w none n l) : n=0/\l=[]:=by
 have h0 : n=0:=by
  rcases Nat.eq_zero_or_pos n with h0 | h0
  ·exact h0
  ·have:=h.pl h0;cases this
 exact ⟨h0,List.eq_nil_of_length_eq_zero (by rw [h.len];exact h0)⟩
theorem clone1_any (a : Option Addr) (n c : Nat) (l : List Int) (hi : Ints w a n l) (hn : n<=1000000) :
  Calls Tryz.prog 87 #[.slice a n c] w (NewInts w l):=by
 have heq:=λ(w : World) (a : Option Addr) (l c : Nat)=>Go.run_eql_slice_nil (P:=Tryz.prog) w 22 3 a l c Tryz.underlying22
 by_cases ha : a=none
 ·subst ha
  obtain ⟨rfl,rfl⟩:=hi.none_nil
  have hin : (none : Option Addr).isNone=true:=rfl
  go_enter Tryz.func87,Tryz.ntmps87
  go_wp2_with fail
  go_ret
  exact ⟨none,0,rfl,own_none,Below.refl _ _⟩
 ·have hin : a.isNone=false:=by cases a with | none=>exact absurd rfl ha | some x=>rfl
  have hlen:=hi.len
  have Hlen:=Lib.hid hlen
  have hO:=own_emp w 3
  have hal:=Lib.hid ((Below.refl w.heap.size w).alloc (Nat.le_refl _) (.cells #[] 3))
  clear ha hlen
  go_enter Tryz.func87,Tryz.ntmps87
  go_upto_region 3 with fail
  iterate 7 go_step
  have hbal:=hal.out
  generalize w.alloc (.cells #[] 3)=W0 at *
  have hiW:=hi.keep hbal
  refine wpList_appAll (by rfl) (.tmp 5) (.tmp 6) 22 3 (by rfl) (.int .i64 0) 8 Tryz.underlying22 infoInt (by rfl) w.heap.size _ 0 0 [] (by rfl) hO a n c (l.map (Value.int .i64)) (by rfl) hiW.pl (by simp [Hlen.out]) (Ints.news hiW) (ints_oneCell _ _) (by omega) (by unfold maxLen;omega) (Below.size hbal) ?_
  intro a3 c3 w3 hown3 hgr3 hap3
  have hb3 : Below w.heap.size w w3:=Below.app (B:=w.heap.size) (e:=3) (xs:=[]) hbal hO hgr3 (Nat.le_refl _) (Below.size hbal)
  rw [Nat.zero_add] at hown3 ⊢
  rw [List.nil_append] at hown3
  go_wp2_with fail
  go_ret
  exact ⟨a3,c3,by rw [Hlen.out];rfl,by rw [Hlen.out];exact hown3,hb3⟩
def NewMat (w : World) (L : List (List Int)) (e : Ending) (w' : World) : Prop :=
 ∃a c R,e = .returned (.slice a L.length c)/\OMat w' w.heap.size a L.length c R L/\Below w.heap.size w w'
theorem infoInts : (Tryz.prog.info? 22).map (λi=>(i.zero,i.size,i.bytes))=some (some (.slice none 0 0),1,24):=by kernel_rfl
def rowsTo (n k : Nat) (L : List (List Int)) : List (List Int):=L.take k ++ List.replicate (n - k) []
theorem rowsTo_set {n k : Nat} {L : List (List Int)} (hk : k<n) (hL : L.length=n) : (rowsTo n k L).set k (nthR L k)=rowsTo n (k+1) L:=by
 unfold rowsTo
 have e1 : (L.take k).length=k:=by simp;omega
 rw [List.take_succ_eq_append_getElem (by omega),List.set_append_right (h:=by omega),e1,show n - k=(n - (k+1))+1 by omega,List.replicate_succ,Nat.sub_self,List.set_cons_zero,List.append_assoc,nthR_getElem (by omega)]
 rfl
theorem rowsTo_all {n : Nat} {L : List (List Int)} (hL : L.length=n) : rowsTo n n L=L:=by
 simp [rowsTo,List.take_of_length_le (show L.length<=n by omega)]
theorem clone_any (a : Option Addr) (n c : Nat) (L : List (List Int)) (hi : Mat w a n L) (hn : n<=1000000) (hL : ∀l ∈ L,l.length<=1000000) :
  Calls Tryz.prog 213 #[.slice a n c] w (NewMat w L):=by
 have hpl:=hi.pl
 have Hlen:=Lib.hid hi.len
 have HL:=Lib.hid hL
 clear hL
 go_enter Tryz.func213,Tryz.ntmps213
 go_wp2_with (at_make;refine wpList_mk rfl _ _ 25 22 rfl (.slice none 0 0) 24 Tryz.underlying25 infoInts rfl n rfl rfl (by omega) (by unfold maxLen;omega) ?_;intro a1 w1 hown hbel hge hlt)
 have hO:=omat_made hown
 have hO1 : ∃R,OMat w1 w.heap.size a1 n n R (rowsTo n 0 L):=⟨_,by simpa [rowsTo] using hO⟩
 clear hO hown
 go_loopw [11] (λiv wr=>∃k : Nat,k<=n/\iv = .int .i64 k/\(∃R,OMat wr w.heap.size a1 n n R (rowsTo n k L))/\Below w.heap.size w wr) (λiv _=>n - (intOf iv).toNat)
 case atStart=>exact ⟨0,Nat.zero_le _,rfl,hO1,hbel⟩
 case round =>
  obtain ⟨k,hk,rfl,⟨R,hO⟩,hbr⟩:=hrel
  by_cases hlt : k<n
  ·have hiW:=hi.keep hbr
   obtain ⟨ra,rn,rc,hcell,hrow⟩:=hiW.cell k hlt
   have hkL : k<L.length:=by rw [Hlen.out];exact hlt
   have hrl : rn<=1000000:=by rw [<- hrow.len,nthR_getElem hkL];exact HL.out _ (List.getElem_mem hkL)
   have hset:=rowsTo_set hlt Hlen.out
   have Hset:=Lib.hid hset
   clear hset
   have hpl1:=hO.pl
   generalize nthR L k=l at *
   go_wp2_with fail
   refine (clone1_any ra rn rc l hrow hrl).mono ?_
   rintro e w3 ⟨a3,c3,rfl,hown3,hb3⟩
   have hO3:=hO.keep hb3
   have hf:=hO3.frozen hlt
   have hc:=hO3.cell hlt
   have hB:=(OMat.lt hO3 (ablk a1) (.inl ⟨hO3.ne (by omega),rfl⟩)).1
   have hbr3:=Below.next hbr hb3
   have hsz:=hbr.size
   have hnew:=OMat.setRow hO3 hlt (own_mono hown3 hsz) (own_apt hown3 (OMat.lt hO (ablk a1) (.inl ⟨hO.ne (by omega),rfl⟩)).2) (λj hj _=>by
    by_cases hn : (nthA R j).1=none
    ·exact .inl hn
    ·exact .inr (own_apt hown3 (OMat.lt hO _ (OMat.inRow (by rw [hO.rl];exact hj) hn)).2))
   rw [Hset.out] at hnew
   have Hnew:=Lib.hid hnew
   clear hnew
   go_wp2_with fail
   go_roundw
   case rel=>exact ⟨k+1,by omega,by go_num,⟨_,Hnew.out⟩,hbr3.setCell hB _⟩
   case measure=>simp [intOf] <;> omega
  ·obtain rfl : k=n:=by omega
   rw [rowsTo_all Hlen.out] at hO
   go_wp2_with fail
   go_ret
   exact ⟨a1,k,R,by rw [Hlen.out];rfl,by rw [Hlen.out];exact hO,hbr⟩
end

section
structure FOps where
 add : Int->Int->Int
 mul : Int->Int->Int
 neg : Int->Int
 inv : Int->Int
def addRow (O : FOps) (v : List Int) (s : Int) (u : List Int) : List Int:=List.zipWith (λp q=>if q=0 then p else O.add p (O.mul s q)) v u
theorem addRow_length (O : FOps) (v : List Int) (s : Int) (u : List Int) (h : u.length=v.length) : (addRow O v s u).length=v.length:=by simp [addRow,h]
theorem nth_addRow (O : FOps) (v : List Int) (s : Int) (u : List Int) (i : Nat) (h : u.length=v.length) (hi : i<v.length) :
  nth (addRow O v s u) i=if nth u i=0 then nth v i else O.add (nth v i) (O.mul s (nth u i)):=by
 rw [nth_getElem (show i<(addRow O v s u).length by rw [addRow_length _ _ _ _ h];exact hi),nth_getElem (show i<u.length by omega),nth_getElem hi]
 simp [addRow]
theorem mixTo_same (new old : List Int) (j : Nat) (h : new.length=old.length) (hj : j<old.length) (e : nth new j=nth old j) : mixTo new old (j+1)=mixTo new old j:=by
 rw [<- mixTo_set new old j h hj,e]
 refine nth_ext (by simp) λi hi=>?_
 have hl:=mixTo_length new old j h (by omega)
 rw [nth_set _ _ _ _ (by omega)]
 by_cases e2 : i=j
 ·subst e2;rw [if_pos rfl,nth_mixTo _ _ _ _ h (by omega),if_neg (by omega)]
 ·rw [if_neg e2]
def findTo (L : List (List Int)) (c : Nat) : Nat->Nat->Nat
 | k,0=>k
 | k,f+1=>if nth (nthR L k) c=0 then findTo L c (k+1) f else k
def findRow (L : List (List Int)) (c k : Nat) : Nat:=findTo L c k (L.length - k)
theorem findTo_bd (L : List (List Int)) (c : Nat) : ∀f k,k<=findTo L c k f/\findTo L c k f<=k+f
 | 0,k=>by simp [findTo]
 | f+1,k=>by
  have:=findTo_bd L c f (k+1)
  unfold findTo
  split <;> omega
theorem findTo_stop (L : List (List Int)) (c : Nat) : ∀f k,findTo L c k f<k+f->nth (nthR L (findTo L c k f)) c ≠ 0
 | 0,k,h=>by simp [findTo] at h
 | f+1,k,h=>by
  unfold findTo at h ⊢
  split
  ·rename_i h0
   rw [if_pos h0] at h
   exact findTo_stop L c f (k+1) (by omega)
  ·assumption
theorem findTo_zero (L : List (List Int)) (c : Nat) : ∀f k i,k<=i->i<findTo L c k f->nth (nthR L i) c=0
 | 0,k,i,h1,h2=>by simp [findTo] at h2;omega
 | f+1,k,i,h1,h2=>by
  unfold findTo at h2
  split at h2
  ·rename_i h0
   rcases Nat.eq_or_lt_of_le h1 with h3 | h3
   ·rw [<- h3];exact h0
   ·exact findTo_zero L c f (k+1) i h3 h2
  ·omega
theorem findRow_step {L : List (List Int)} {c k : Nat} (hk : k<L.length) : findRow L c k=if nth (nthR L k) c=0 then findRow L c (k+1) else k:=by
 unfold findRow
 rw [show L.length - k=(L.length - (k+1))+1 by omega,findTo]
theorem findRow_end {L : List (List Int)} {c k : Nat} (hk : L.length<=k) : findRow L c k=k:=by
 unfold findRow
 rw [show L.length - k=0 by omega,findTo]
theorem findRow_bd {L : List (List Int)} {c k : Nat} (hk : k<=L.length) : k<=findRow L c k/\findRow L c k<=L.length:=by
 have:=findTo_bd L c (L.length - k) k
 unfold findRow;omega
def swapRow (L : List (List Int)) (i j : Nat) : List (List Int):=(L.set i (nthR L j)).set j (nthR L i)
def clearRow (O : FOps) (pv : List Int) (c : Nat) (r : List Int) : List Int:=if nth r c=0 then r else addRow O r (O.neg (nth r c)) pv
def clearTo (O : FOps) (t c : Nat) (L : List (List Int)) : Nat->List (List Int)
 | 0=>L
 | i+1=>if i=t then clearTo O t c L i else (clearTo O t c L i).set i (clearRow O (nthR (clearTo O t c L i) t) c (nthR (clearTo O t c L i) i))
def normRow (O : FOps) (L : List (List Int)) (t c : Nat) : List (List Int):=if O.inv (nth (nthR L t) c)=1 then L else L.set t ((nthR L t).map (O.mul (O.inv (nth (nthR L t) c))))
def pivotS (O : FOps) (L : List (List Int)) (t k c : Nat) : List (List Int) :=
 let L1:=if k=t then L else swapRow L t k
 let L2:=normRow O L1 t c
 clearTo O t c L2 L2.length
def elimTo (O : FOps) (L : List (List Int)) : Nat->List (List Int) × List Int
 | 0=>(L,[])
 | c+1 =>
  let s:=elimTo O L c
  if s.2.length<s.1.length then
   if findRow s.1 c s.2.length=s.1.length then s
   else (pivotS O s.1 s.2.length (findRow s.1 c s.2.length) c,s.2 ++ [(c : Int)])
  else s
theorem swapRow_length (L : List (List Int)) (i j : Nat) : (swapRow L i j).length=L.length:=by simp [swapRow]
theorem clearTo_length (O : FOps) (t c : Nat) (L : List (List Int)) : ∀i,(clearTo O t c L i).length=L.length
 | 0=>rfl
 | i+1=>by unfold clearTo;split <;> simp [clearTo_length O t c L i]
theorem normRow_length (O : FOps) (L : List (List Int)) (t c : Nat) : (normRow O L t c).length=L.length:=by unfold normRow;split <;> simp
theorem pivotS_length (O : FOps) (L : List (List Int)) (t k c : Nat) : (pivotS O L t k c).length=L.length:=by
 unfold pivotS
 simp only [clearTo_length,normRow_length]
 split <;> simp [swapRow_length]
theorem elimTo_length (O : FOps) (L : List (List Int)) : ∀c,(elimTo O L c).1.length=L.length
 | 0=>rfl
 | c+1=>by
  unfold elimTo
  simp only
  split
  ·split <;> simp [pivotS_length,elimTo_length O L c]
  ·exact elimTo_length O L c
theorem elimTo_piv (O : FOps) (L : List (List Int)) : ∀c,(elimTo O L c).2.length<=c/\(elimTo O L c).2.length<=L.length
 | 0=>by simp [elimTo]
 | c+1=>by
  have ih:=elimTo_piv O L c
  have hl:=elimTo_length O L c
  unfold elimTo
  simp only
  split
  ·split
   ·omega
   ·simp only [List.length_append,List.length_singleton];omega
  ·omega
def Rws (El : Int->Prop) (m : Nat) (L : List (List Int)) : Prop:=∀r ∈ L,r.length=m/\∀x ∈ r,El x
theorem nthR_nil_of_le {L : List (List Int)} {i : Nat} (h : L.length<=i) : nthR L i=[]:=by simp [nthR,List.getElem?_eq_none h]
theorem Rws.row {El : Int->Prop} {m : Nat} {L : List (List Int)} (h : Rws El m L) {i : Nat} (hi : i<L.length) : (nthR L i).length=m/\∀x ∈ nthR L i,El x:=h _ (nthR_mem hi)
theorem Rws.set {El : Int->Prop} {m : Nat} {L : List (List Int)} (h : Rws El m L) (i : Nat) {r : List Int} (hr : r.length=m/\∀x ∈ r,El x) : Rws El m (L.set i r):=by
 intro x hx
 rcases List.mem_or_eq_of_mem_set hx with h1 | rfl
 ·exact h x h1
 ·exact hr
structure FCl (O : FOps) (El : Int->Prop) : Prop where
 add : ∀x y,El x->El y->El (O.add x y)
 mul : ∀x y,El x->El y->El (O.mul x y)
 neg : ∀x,El x->El (O.neg x)
 inv : ∀x,El x->x ≠ 0->El (O.inv x)
theorem addRow_el {O : FOps} {El : Int->Prop} (hO : FCl O El) {v u : List Int} {s : Int} (hv : ∀x ∈ v,El x) (hu : ∀x ∈ u,El x) (hs : El s) : ∀x ∈ addRow O v s u,El x:=by
 intro x hx
 unfold addRow at hx
 rw [List.mem_iff_getElem] at hx
 obtain ⟨i,hi,rfl⟩:=hx
 rw [List.getElem_zipWith]
 simp only [List.length_zipWith] at hi
 split
 ·exact hv _ (List.getElem_mem _)
 ·exact hO.add _ _ (hv _ (List.getElem_mem _)) (hO.mul _ _ hs (hu _ (List.getElem_mem _)))
theorem Rws.swap {El : Int->Prop} {m : Nat} {L : List (List Int)} (h : Rws El m L) {i j : Nat} (hi : i<L.length) (hj : j<L.length) : Rws El m (swapRow L i j) :=
 (h.set i (h.row hj)).set j (h.row hi)
theorem Rws.clearRow {O : FOps} {El : Int->Prop} {m : Nat} (hO : FCl O El) {r pv : List Int} {c : Nat} (hc : c<m) (hr : r.length=m/\∀x ∈ r,El x) (hp : pv.length=m/\∀x ∈ pv,El x) :
  (clearRow O pv c r).length=m/\∀x ∈ clearRow O pv c r,El x:=by
 unfold Proofs.YtcfmiocdlcapoaaGreat.clearRow
 split
 ·exact hr
 ·exact ⟨by rw [addRow_length _ _ _ _ (by omega)];exact hr.1,addRow_el hO hr.2 hp.2 (hO.neg _ (hr.2 _ (nth_mem (by omega))))⟩
theorem Rws.clear {O : FOps} {El : Int->Prop} {m : Nat} {L : List (List Int)} (hO : FCl O El) (h : Rws El m L) {t c : Nat} (ht : t<L.length) (hc : c<m) : ∀i,i<=L.length->Rws El m (clearTo O t c L i)
 | 0,_=>h
 | i+1,hi=>by
  have ih:=Rws.clear hO h ht hc i (by omega)
  unfold clearTo
  split
  ·exact ih
  ·exact ih.set i (Rws.clearRow hO hc (ih.row (by rw [clearTo_length];omega)) (ih.row (by rw [clearTo_length];omega)))
theorem Rws.norm {O : FOps} {El : Int->Prop} {m : Nat} {L : List (List Int)} (hO : FCl O El) (h : Rws El m L) {t c : Nat} (ht : t<L.length) (hc : c<m) (h0 : nth (nthR L t) c ≠ 0) : Rws El m (normRow O L t c):=by
 unfold normRow
 split
 ·exact h
 ·refine h.set t ⟨by rw [List.length_map];exact (h.row ht).1,λx hx=>?_⟩
  obtain ⟨y,hy,rfl⟩:=List.mem_map.1 hx
  exact hO.mul _ _ (hO.inv _ ((h.row ht).2 _ (nth_mem (by rw [(h.row ht).1];exact hc))) h0) ((h.row ht).2 y hy)
theorem elimTo_full {O : FOps} {L : List (List Int)} {k : Nat} (h : (elimTo O L k).2.length=L.length) : ∀d,elimTo O L (k+d)=elimTo O L k
 | 0=>rfl
 | d+1=>by
  have ih:=elimTo_full h d
  show elimTo O L ((k+d)+1)=_
  rw [elimTo]
  simp only [ih]
  rw [if_neg (by rw [elimTo_length];omega)]
theorem elimTo_next {O : FOps} {L Lk : List (List Int)} {P : List Int} {k : Nat} (h : (Lk,P)=elimTo O L k) (hlt : P.length<Lk.length) :
  elimTo O L (k+1)=if findRow Lk k P.length=Lk.length then (Lk,P) else (pivotS O Lk P.length (findRow Lk k P.length) k,P ++ [(k : Int)]):=by
 rw [elimTo]
 simp only [<- h]
 rw [if_pos hlt]
theorem pivotS_eq (O : FOps) (L : List (List Int)) (t k c : Nat) : pivotS O L t k c=clearTo O t c (normRow O (if k=t then L else swapRow L t k) t c) L.length:=by
 unfold pivotS
 simp only [normRow_length]
 split <;> simp [swapRow_length]
end

section
set_option maxHeartbeats 1600000

open Go.RowKit
def Drawn (w w' : World) : Prop:=∃n,w'=w.drewN n
theorem Drawn.refl (w : World) : Drawn w w:=⟨0,rfl⟩
theorem Drawn.drewN {w w' : World} (h : Drawn w w') (n : Nat) : Drawn w (w'.drewN n):=by obtain ⟨m,rfl⟩:=h;exact ⟨m+n,by rw [World.drewN_drewN]⟩
theorem Drawn.drew {w w' : World} (h : Drawn w w') : Drawn w w'.drew:=h.drewN 1
theorem Drawn.below {w w' : World} (h : Drawn w w') : Below w.heap.size w w':=by obtain ⟨m,rfl⟩:=h;exact below_drewN (Below.refl _ _) m
theorem Drawn.cell {w w' : World} (h : Drawn w w') {p : Addr} {v : Value} (hc : w.cell? p=some v) : w'.cell? p=some v:=by obtain ⟨m,rfl⟩:=h;exact hc
theorem Drawn.frozen {w w' : World} (h : Drawn w w') {p : Addr} {v : Bool} (hc : w.frozen? p=v) : w'.frozen? p=v:=by obtain ⟨m,rfl⟩:=h;exact hc
theorem Drawn.below' {w0 w w' : World} {B : Nat} (h : Drawn w w') (hb : Below B w0 w) : Below B w0 w':=by obtain ⟨m,rfl⟩:=h;exact below_drewN hb m
def Tbl.ops (G : Tbl) : FOps:=⟨G.add,G.mul,G.neg,G.inv⟩
theorem Tbl.cl {w : World} {b : Nat} {G : Tbl} (h : GFw w b G) : FCl G.ops G.El:=⟨λx y _ _=>Tbl.add_el h x y,λx y _ _=>Tbl.mul_el h x y,λx _=>Tbl.neg_el h x,λx _ _=>Tbl.inv_el h x⟩
def Only (a : Option Addr) (w w' : World) : Prop:=Moves w w' (λb=>a ≠ none/\b=ablk a) (λb=>a ≠ none/\b=ablk a)
theorem Only.refl (a : Option Addr) (w : World) : Only a w w:=Moves.refl _ _
theorem Only.trans {a : Option Addr} {w w' w'' : World} (h : Only a w w') (k : Only a w' w'') : Only a w w'' := Moves.trans h k
theorem Only.drawn {a : Option Addr} {w w' : World} (h : Drawn w w') : Only a w w':=Moves.of_below h.below _
theorem Only.set {a : Option Addr} (w : World) (i : Nat) (v : Value) (ha : a ≠ none) : Only a w (w.setCell ⟨ablk a,aoff a+i,none⟩ v):=by
 have hb0 : Below 0 w (w.setCell ⟨ablk a,aoff a+i,none⟩ v):=(Below.refl 0 w).setCell (Nat.zero_le _) v
 exact ⟨hb0.os,hb0.tape,hb0.output,hb0.size,λb hb hI=>Below.heap_setCell _ _ _ _ λe=>hI ⟨ha,e⟩,λb hb=>.inl hb⟩
theorem Only.ints {a : Option Addr} {w w' : World} (h : Only a w w') {u : Option Addr} {n : Nat} {l : List Int} (hi : Ints w u n l) (hu : a=none\/u=none\/ablk u ≠ ablk a) : Ints w' u n l:=by
 refine hi.of_block λhn=>h.block _ (hi.lt hn) ?_
 rintro ⟨h1,h2⟩
 rcases hu with hu | hu | hu
 ·exact h1 hu
 ·have:=hi.pl hn;rw [hu] at this;cases this
 ·exact hu h2
theorem Only.below {a : Option Addr} {w w' : World} {B : Nat} (h : Only a w w') (ha : a ≠ none->B<=ablk a) (hB : B<=w.heap.size) : Below B w w':=Moves.below h (λ_ hb=>by rw [hb.2];exact ha hb.1) hB
variable {w : World} {b : Nat} {G : Tbl}
theorem add_any (w0 : World) (av : Option Addr) (cv n : Nat) (v : List Int) (s : Int) (au : Option Addr) (cu : Nat) (u : List Int) (h : GFw w0 b G) (hb : Below w0.heap.size w0 w)
  (hv : w.ownsRow w0.heap.size 3 1 (.slice av n cv) n (v.map (Value.int .i64))) (hu : Ints w au n u) (hap : av=none\/au=none\/ablk au ≠ ablk av)
  (hve : ∀x ∈ v,G.El x) (hue : ∀x ∈ u,G.El x) (hs : G.El s) :
  Calls Tryz.prog 207 #[.pointer (some ⟨b,0,none⟩),.slice av n cv,.int .i64 s,.slice au n cu] w
   λe w'=>e = .returned (.tuple #[])/\w'.ownsRow w0.heap.size 3 1 (.slice av n cv) n ((addRow G.ops v s u).map (Value.int .i64))/\Only av w w':=by
 have hul:=hu.len
 have hvl : v.length=n:=by simpa using own_len hv
 have hmax:=hu.max
 unfold maxLen at hmax
 have hpu:=hu.pl
 have hpv:=(Ints.own hv).1.pl
 have hav : 0<n->av ≠ none:=λhn e=>by have:=hpv hn;rw [e] at this;cases this
 have hll : (addRow G.ops v s u).length=v.length:=addRow_length _ _ _ _ (by omega)
 have hnth:=λi=>nth_addRow G.ops v s u i (by omega)
 have Hnth:=Lib.hid hnth
 have Hul:=Lib.hid hul
 have Hvl:=Lib.hid hvl
 have Hll:=Lib.hid hll
 have Hav:=Lib.hid hav
 have Hve:=Lib.hid hve
 have Hue:=Lib.hid hue
 clear hnth hul hvl hll hav hve hue
 generalize addRow G.ops v s u=N at *
 go_enter Tryz.func207,Tryz.ntmps207
 go_wp2_with fail
 go_loopw [12] (λiv wr=>∃k : Nat,k<=n/\iv = .int .i64 k/\wr.ownsRow w0.heap.size 3 1 (.slice av n cv) n ((mixTo N v k).map (Value.int .i64))/\Only av w wr) (λiv _=>n - (intOf iv).toNat)
 case atStart=>exact ⟨0,Nat.zero_le _,rfl,by rw [mixTo_zero];exact hv,Only.refl _ _⟩
 case round =>
  obtain ⟨k,hk,rfl,hown,honly⟩:=hrel
  by_cases hlt : k<n
  ·have hiu:=honly.ints hu hap
   have cu1:=hiu.cell k hlt
   have hkN : N.length=v.length:=Hll.out
   have hkv : k<v.length:=by rw [Hvl.out];exact hlt
   have hval:=Hnth.out k hkv
   have hmix:=nth_mixTo N v k k hkN (by omega)
   rw [if_neg (by omega)] at hmix
   by_cases hz : nth u k=0
   ·rw [if_pos hz] at hval
    have hsame:=mixTo_same N v k hkN hkv hval
    have Hsame:=Lib.hid hsame
    clear hval hmix hsame hkN hkv
    go_wp2_with fail
    go_roundw
    case rel=>exact ⟨k+1,by omega,by go_num,by rw [Hsame.out];exact hown,honly⟩
    case measure=>simp [intOf] <;> omega
   ·rw [if_neg hz] at hval
    have hset:=mixTo_set N v k hkN hkv
    obtain ⟨hiv,hmv⟩:=Ints.own hown
    have cv1:=hiv.cell k hlt
    have fv1:=(hmv (by omega)).2 k hlt
    rw [hmix] at cv1
    have elv : G.El (nth v k):=Hve.out _ (nth_mem hkv)
    have elu : G.El (nth u k):=Hue.out _ (nth_mem (by rw [Hul.out];exact hlt))
    have hGr : GFw wr b G:=h.keep (Below.trans hb (honly.below (λha=>(own_ne hv ha).1) hb.size))
    have Hval:=Lib.hid hval
    have Hset:=Lib.hid hset
    have hS : ∀W,Drawn wr W->W.cell? ⟨ablk av,aoff av+k,none⟩=some (.int .i64 (nth v k))/\W.frozen? ⟨ablk av,aoff av+k,none⟩=false/\GFw W b G/\Drawn wr W :=
     λW hW=>⟨hW.cell cv1,hW.frozen fv1,hGr.keep hW.below,hW⟩
    have HS:=Lib.hid hS
    have elm : ∀x y,G.El (G.mul x y):=λx y=>Tbl.mul_el h x y
    have hz' : (nth u k != 0)=true:=by simpa using hz
    clear hval hmix hset hkN hkv hS hz
    go_wp2_with fail
    have HG : Hid (GFw wr.drew b G/\∀n,GFw (wr.drewN n) b G):=⟨hGr.keep (Below.refl _ _).drew,λn=>hGr.drewN n⟩
    go_region_law ((first
     | (go_simp;go_at_call 153;((with_reducible refine (gMul s (nth u k) HG.out.1 hs elu).mono ?_);rintro e w4 ⟨m4,rfl,rfl⟩))
     | (go_simp;go_at_call 153;((with_reducible refine (gMul s (nth u k) (HG.out.2 _) hs elu).mono ?_);rintro e w4 ⟨m4,rfl,rfl⟩))
     | (go_simp;go_at_call 152;((with_reducible refine (gAdd (nth v k) (G.mul s (nth u k)) (HG.out.2 _) elv (elm _ _)).mono ?_);rintro e w4 ⟨m5,rfl,rfl⟩))))
    all_goals (
     go_wp2_with fail
     go_roundw
     case rel =>
      have hdr : Drawn wr (wr.drewN (1+m4+m5)):=⟨_,rfl⟩
      refine ⟨k+1,by omega,by go_num,?_,honly.trans ((Only.drawn hdr).trans (Only.set _ k _ (Hav.out (by omega))))⟩
      have h1:=own_set (w:=wr.drewN (1+m4+m5)) hown k hlt (.int .i64 (nth N k))
      rw [<- List.map_set,Hset.out,Hval.out] at h1
      exact h1
     case measure=>simp [intOf] <;> omega)
  ·obtain rfl : k=n:=by omega
   rw [mixTo_all N v k (by rw [Hll.out,Hvl.out]) Hvl.out] at hown
   go_wp2_with fail
   go_end0
   exact ⟨rfl,hown,honly⟩
end

section
set_option maxHeartbeats 1600000

open Go.RowKit
variable {w : World} {b : Nat} {G : Tbl}
def swapA (R : List (Option Addr × Nat)) (i j : Nat) : List (Option Addr × Nat):=(R.set i (nthA R j)).set j (nthA R i)
theorem swapA_length (R : List (Option Addr × Nat)) (i j : Nat) : (swapA R i j).length=R.length:=by simp [swapA]
def flipN (t k i : Nat) : Nat:=if i=k then t else if i=t then k else i
theorem nthA_swap (R : List (Option Addr × Nat)) (t k i : Nat) (ht : t<R.length) (hk : k<R.length) : nthA (swapA R t k) i=nthA R (flipN t k i):=by
 unfold swapA flipN
 rw [nthA_set _ _ _ _ (by simpa using hk),nthA_set _ _ _ _ ht]
 split
 ·rfl
 ·split <;> rfl
theorem nthR_swap (L : List (List Int)) (t k i : Nat) (ht : t<L.length) (hk : k<L.length) : nthR (swapRow L t k) i=nthR L (flipN t k i):=by
 unfold swapRow flipN
 rw [nthR_set _ _ _ _ (by simpa using hk),nthR_set _ _ _ _ ht]
 split
 ·rfl
 ·split <;> rfl
theorem flipN_lt {t k i n : Nat} (ht : t<n) (hk : k<n) (hi : i<n) : flipN t k i<n:=by unfold flipN;split <;> (try split) <;> assumption
theorem flipN_ne {t k i j : Nat} (h : i ≠ j) : flipN t k i ≠ flipN t k j:=by
 unfold flipN
 split <;> split <;> (try split) <;> (try split) <;> omega
theorem OMat.swap {B : Nat} {a : Option Addr} {n c : Nat} {R : List (Option Addr × Nat)} {L : List (List Int)} (h : OMat w B a n c R L) {t k : Nat} (ht : t<n) (hk : k<n) :
  OMat ((w.setCell ⟨ablk a,aoff a+t,none⟩ (.slice (nthA R k).1 (nthR L k).length (nthA R k).2)).setCell ⟨ablk a,aoff a+k,none⟩ (.slice (nthA R t).1 (nthR L t).length (nthA R t).2)) B a n c (swapA R t k) (swapRow L t k):=by
 have hRt : t<R.length:=by rw [h.rl];exact ht
 have hRk : k<R.length:=by rw [h.rl];exact hk
 have hLt : t<L.length:=by rw [h.ll];exact ht
 have hLk : k<L.length:=by rw [h.ll];exact hk
 refine ⟨by rw [swapA_length];exact h.rl,by rw [swapRow_length];exact h.ll,?_,λi hi=>?_,λi hi=>?_,λi j hi hj hij=>?_⟩
 ·have h1:=own_set (own_set h.own t ht (.slice (nthA R k).1 (nthR L k).length (nthA R k).2)) k hk (.slice (nthA R t).1 (nthR L t).length (nthA R t).2)
  rw [show (List.zipWith rowV R L).set t (.slice (nthA R k).1 (nthR L k).length (nthA R k).2)=_ from zip_set R L t (nthA R k) (nthR L k)] at h1
  rw [show (List.zipWith rowV (R.set t (nthA R k)) (L.set t (nthR L k))).set k (.slice (nthA R t).1 (nthR L t).length (nthA R t).2)=_ from zip_set _ _ k (nthA R t) (nthR L t)] at h1
  exact h1
 ·rw [nthA_swap _ _ _ _ hRt hRk,nthR_swap _ _ _ _ hLt hLk]
  have hf:=flipN_lt ht hk hi
  exact own_setOther (p:=⟨ablk a,aoff a+k,none⟩) (own_setOther (p:=⟨ablk a,aoff a+t,none⟩) (h.row _ hf) _ (h.apt _ hf)) _ (h.apt _ hf)
 ·rw [nthA_swap _ _ _ _ hRt hRk]
  exact h.apt _ (flipN_lt ht hk hi)
 ·rw [nthA_swap _ _ _ _ hRt hRk,nthA_swap _ _ _ _ hRt hRk]
  exact h.sep _ _ (flipN_lt ht hk hi) (flipN_lt ht hk hj) (flipN_ne hij)
theorem OIn.swap {a : Option Addr} {R : List (Option Addr × Nat)} {t k b : Nat} (ht : t<R.length) (hk : k<R.length) (h : OIn a (swapA R t k) b) : OIn a R b:=by
 rcases h with h | ⟨i,hi,h1,rfl⟩
 ·exact .inl h
 ·rw [swapA_length] at hi
  rw [nthA_swap _ _ _ _ ht hk] at h1 ⊢
  exact OMat.inRow (flipN_lt ht hk hi) h1
theorem OMat.swap_moves {B : Nat} {a : Option Addr} {n c : Nat} {R : List (Option Addr × Nat)} {L : List (List Int)} (h : OMat w B a n c R L) {t k : Nat} (ht : t<n) (hk : k<n) (u v : Value) :
  Moves w ((w.setCell ⟨ablk a,aoff a+t,none⟩ u).setCell ⟨ablk a,aoff a+k,none⟩ v) (OIn a R) (OIn a (swapA R t k)):=by
 have hb0 : Below 0 w ((w.setCell ⟨ablk a,aoff a+t,none⟩ u).setCell ⟨ablk a,aoff a+k,none⟩ v):=((Below.refl 0 w).setCell (Nat.zero_le _) u).setCell (Nat.zero_le _) v
 have hne:=h.ne (by omega)
 refine ⟨hb0.os,hb0.tape,hb0.output,hb0.size,λb hb hI=>?_,λb hb=>.inl (OIn.swap (by rw [h.rl];exact ht) (by rw [h.rl];exact hk) hb)⟩
 rw [Below.heap_setCell _ _ _ _ λe=>hI (.inl ⟨hne,e⟩),Below.heap_setCell _ _ _ _ λe=>hI (.inl ⟨hne,e⟩)]
theorem OMat.drew {B : Nat} {a : Option Addr} {n c : Nat} {R : List (Option Addr × Nat)} {L : List (List Int)} (h : OMat w B a n c R L) : OMat w.drew B a n c R L:=h.keep (Below.refl _ _).drew
theorem Moves.drew {w w' : World} {I I' : Nat->Prop} (h : Moves w w' I I') : Moves w w'.drew I I':=⟨h.os,h.tape,h.output,h.size,h.block,h.grow⟩
theorem swap_any (B : Nat) (a : Option Addr) (n c : Nat) (R : List (Option Addr × Nat)) (L : List (List Int)) (pk pt k t : Nat) (hO : OMat w B a n c R L)
  (hk : w.cell? ⟨pk,0,none⟩=some (.int .i64 k)) (ht : w.cell? ⟨pt,0,none⟩=some (.int .i64 t)) (hkn : k<n) (htn : t<n) (hkt : k ≠ t) (nk : ¬ OIn a R pk) (nt : ¬ OIn a R pt) :
  Calls Tryz.prog 250 #[.slice a n c,.pointer (some ⟨pk,0,none⟩),.pointer (some ⟨pt,0,none⟩)] w
   λe w'=>e = .returned (.tuple #[])/\∃R',OMat w' B a n c R' (swapRow L t k)/\Moves w w' (OIn a R) (OIn a R'):=by
 have hpl:=hO.pl
 have ck:=hO.cell hkn
 have ct:=hO.cell htn
 have fk:=hO.frozen hkn
 have ft:=hO.frozen htn
 have hane : a ≠ none:=hO.ne (by omega)
 have npk : pk ≠ ablk a:=λe=>nk (.inl ⟨hane,e⟩)
 have npt : pt ≠ ablk a:=λe=>nt (.inl ⟨hane,e⟩)
 have k1 : (w.setCell ⟨ablk a,aoff a+t,none⟩ (.slice (nthA R k).1 (nthR L k).length (nthA R k).2)).cell? ⟨pk,0,none⟩=some (.int .i64 k):=by
  rw [World.cell?_setCell_other _ _ _ _ (by simp [npk])];exact hk
 have k2 : (w.setCell ⟨ablk a,aoff a+t,none⟩ (.slice (nthA R k).1 (nthR L k).length (nthA R k).2)).cell? ⟨pt,0,none⟩=some (.int .i64 t):=by
  rw [World.cell?_setCell_other _ _ _ _ (by simp [npt])];exact ht
 have k3 : (w.setCell ⟨ablk a,aoff a+t,none⟩ (.slice (nthA R k).1 (nthR L k).length (nthA R k).2)).cell? ⟨ablk a,aoff a+k,none⟩=some (.slice (nthA R k).1 (nthR L k).length (nthA R k).2):=by
  rw [World.cell?_setCell_other _ _ _ _ (by simp <;> omega)];exact ck
 go_enter Tryz.func250,Tryz.ntmps250
 go_wp2_with fail
 go_region
 have hO2:=(hO.swap htn hkn).drew
 have hM2:=(hO.swap_moves htn hkn (.slice (nthA R k).1 (nthR L k).length (nthA R k).2) (.slice (nthA R t).1 (nthR L t).length (nthA R t).2)).drew
 go_wp2_with fail
 go_end0
 exact ⟨rfl,_,hO2,hM2⟩
theorem scale_any (w0 : World) (a : Option Addr) (n c : Nat) (R : List (Option Addr × Nat)) (L : List (List Int)) (pg ps pt : Nat) (s : Int) (t : Nat) (hO : OMat w w0.heap.size a n c R L)
  (h : GFw w0 b G) (hb : Below w0.heap.size w0 w)
  (hg : w.cell? ⟨pg,0,none⟩=some (.pointer (some ⟨b,0,none⟩))) (hs : w.cell? ⟨ps,0,none⟩=some (.int .i64 s)) (ht : w.cell? ⟨pt,0,none⟩=some (.int .i64 t)) (htn : t<n) (hse : G.El s)
  (hel : G.Els (nthR L t)) (hln : (nthR L t).length<=1000000) :
  Calls Tryz.prog 251 #[.slice a n c,.pointer (some ⟨pg,0,none⟩),.pointer (some ⟨ps,0,none⟩),.pointer (some ⟨pt,0,none⟩)] w
   λe w'=>e = .returned (.tuple #[])/\∃R',OMat w' w0.heap.size a n c R' (L.set t ((nthR L t).map (G.mul s)))/\Moves w w' (OIn a R) (OIn a R'):=by
 have hpl:=hO.pl
 have ct:=hO.cell htn
 have ft:=hO.frozen htn
 have hi:=hO.ints htn
 have hG:=h.keep hb
 have hS : ∀W,Below w.heap.size w W->W.cell? ⟨pg,0,none⟩=some (.pointer (some ⟨b,0,none⟩))/\W.cell? ⟨ps,0,none⟩=some (.int .i64 s)/\W.cell? ⟨pt,0,none⟩=some (.int .i64 t) /\
   W.cell? ⟨ablk a,aoff a+t,none⟩=some (.slice (nthA R t).1 (nthR L t).length (nthA R t).2)/\W.frozen? ⟨ablk a,aoff a+t,none⟩=false/\Below w.heap.size w W :=
  λW hW=>⟨cell_keep hW hg,cell_keep hW hs,cell_keep hW ht,cell_keep hW ct,(hO.keep hW).frozen htn,hW⟩
 have HS:=Lib.hid hS
 clear hS
 have hF : ∀w4 a4 c4,w4.ownsRow w.drew.heap.size 3 1 (.slice a4 ((nthR L t).map (G.mul s)).length c4) ((nthR L t).map (G.mul s)).length (((nthR L t).map (G.mul s)).map (Value.int .i64))->Below w.drew.heap.size w.drew w4 ->
   ∃R',OMat (w4.setCell ⟨ablk a,aoff a+t,none⟩ (.slice a4 (nthR L t).length c4)) w0.heap.size a n c R' (L.set t ((nthR L t).map (G.mul s)))/\Moves w (w4.setCell ⟨ablk a,aoff a+t,none⟩ (.slice a4 (nthR L t).length c4)) (OIn a R) (OIn a R'):=by
  intro w4 a4 c4 hown4 hb4
  have hb5 : Below w.heap.size w w4:=Below.next (Below.refl _ _).drew hb4
  have hO4:=hO.keep hb5
  have hsz : w.drew.heap.size=w.heap.size:=rfl
  rw [hsz] at hown4
  have hnew : ∀b,b<w.heap.size->Apt a4 b:=λb hb=>own_apt hown4 hb
  have h1:=hO4.setRow htn (own_mono hown4 hb.size) (hnew _ (hO.lt _ (.inl ⟨hO.ne (by omega),rfl⟩)).2) (λj hj _=>by
   by_cases hn : (nthA R j).1=none
   ·exact .inl hn
   ·exact .inr (hnew _ (hO.lt _ (OMat.inRow (by rw [hO.rl];exact hj) hn)).2))
  have h2:=hO.setRow_moves' hb5 htn (r:=a4) (rc:=c4) (.slice a4 ((nthR L t).map (G.mul s)).length c4) (λha=>.inr (own_ne hown4 ha).1)
  rw [List.length_map] at h1 h2
  exact ⟨_,h1,h2⟩
 have HF:=Lib.hid hF
 clear hF
 go_enter Tryz.func251,Tryz.ntmps251
 go_wp2_with fail
 go_region_law ((first
  | (go_simp;go_at_call 194;((with_reducible refine (gScale s _ _ _ _ (hG.keep (Below.refl _ _).drew) hse (hi.keep (Below.refl _ _).drew) hel hln).mono ?_);rintro e w4 ⟨a4,c4,rfl,hown4,hb4⟩;obtain ⟨q0,q1,q2,q3,q4,q5⟩:=HS.out w4 (Below.next (Below.refl _ _).drew hb4)))))
 all_goals (
  go_wp2_with fail
  go_end0
  exact ⟨rfl,HF.out _ _ _ hown4 hb4⟩)
end

section
set_option maxHeartbeats 1600000

open Go.RowKit
variable {w : World} {b : Nat} {G : Tbl}
theorem Only.moves {a av : Option Addr} {R : List (Option Addr × Nat)} {w w' : World} (h : Only av w w') (hin : av ≠ none->OIn a R (ablk av)) : Moves w w' (OIn a R) (OIn a R) :=
 ⟨h.os,h.tape,h.output,h.size,λb hb hI=>h.block b hb (λ⟨h1,h2⟩=>hI (by rw [h2];exact hin h1)),λ_ h=>.inl h⟩
theorem sweep_any (w0 : World) (a : Option Addr) (n c : Nat) (R : List (Option Addr × Nat)) (L : List (List Int)) (pg pi px pt m : Nat) (i : Nat) (x : Int) (t : Nat) (hO : OMat w w0.heap.size a n c R L)
  (h : GFw w0 b G) (hb : Below w0.heap.size w0 w)
  (hg : w.cell? ⟨pg,0,none⟩=some (.pointer (some ⟨b,0,none⟩))) (hi : w.cell? ⟨pi,0,none⟩=some (.int .i64 i)) (hx : w.cell? ⟨px,0,none⟩=some (.int .i64 x)) (ht : w.cell? ⟨pt,0,none⟩=some (.int .i64 t))
  (hin : i<n) (htn : t<n) (hit : i ≠ t) (hxe : G.El x) (ng : ¬ OIn a R pg) (ni : ¬ OIn a R pi) (nx : ¬ OIn a R px) (nt : ¬ OIn a R pt) (hei : G.Els (nthR L i)) (het : G.Els (nthR L t)) (hli : (nthR L i).length=m) (hlt : (nthR L t).length=m) :
  Calls Tryz.prog 252 #[.slice a n c,.pointer (some ⟨pg,0,none⟩),.pointer (some ⟨pi,0,none⟩),.pointer (some ⟨px,0,none⟩),.pointer (some ⟨pt,0,none⟩)] w
   λe w'=>e = .returned (.tuple #[])/\OMat w' w0.heap.size a n c R (L.set i (addRow G.ops (nthR L i) (G.neg x) (nthR L t)))/\Moves w w' (OIn a R) (OIn a R):=by
 have hpl:=hO.pl
 have ct:=hO.cell htn
 have ci:=hO.cell hin
 have ri:=hO.row i hin
 have rt:=hO.ints htn
 have hsep:=hO.sep i t hin htn hit
 have hne : G.El (G.neg x):=Tbl.neg_el h x
 rw [hlt] at ct rt
 rw [hli] at ci ri
 have hap : (nthA R i).1=none\/(nthA R t).1=none\/ablk (nthA R t).1 ≠ ablk (nthA R i).1:=hsep
 have hadd : ∀k,Calls Tryz.prog 207 #[.pointer (some ⟨b,0,none⟩),.slice (nthA R i).1 m (nthA R i).2,.int .i64 (G.neg x),.slice (nthA R t).1 m (nthA R t).2] (w.drewN k)
   λe w'=>e = .returned (.tuple #[])/\(w'.cell? ⟨pg,0,none⟩=some (.pointer (some ⟨b,0,none⟩))/\w'.cell? ⟨pi,0,none⟩=some (.int .i64 i)/\w'.cell? ⟨px,0,none⟩=some (.int .i64 x)/\w'.cell? ⟨pt,0,none⟩=some (.int .i64 t) /\
    w'.cell? ⟨ablk a,aoff a+t,none⟩=some (.slice (nthA R t).1 m (nthA R t).2)/\w'.cell? ⟨ablk a,aoff a+i,none⟩=some (.slice (nthA R i).1 m (nthA R i).2))/\(OMat w' w0.heap.size a n c R (L.set i (addRow G.ops (nthR L i) (G.neg x) (nthR L t)))/\Moves w w' (OIn a R) (OIn a R)):=by
  intro k
  have hd : Drawn w (w.drewN k):=⟨k,rfl⟩
  refine (add_any w0 _ _ m (nthR L i) (G.neg x) _ _ (nthR L t) h (hd.below' hb) (own_keep ri hd.below) (rt.keep hd.below) hap hei het hne).mono ?_
  rintro e w' ⟨rfl,hown,honly⟩
  have hmv : Moves w w' (OIn a R) (OIn a R):=(Moves.of_below hd.below _).trans (honly.moves (λhn=>OMat.inRow (by rw [hO.rl];exact hin) hn))
  have hne2 : ¬ ((nthA R i).1 ≠ none/\ablk a=ablk (nthA R i).1):=by
   rintro ⟨h1,h2⟩
   rcases hO.apt i hin with h3 | h3
   ·exact h1 h3
   ·exact h3 h2.symm
  refine ⟨rfl,⟨hmv.cell hg ng,hmv.cell hi ni,hmv.cell hx nx,hmv.cell ht nt,Moves.cell (Moves.trans (Moves.of_below hd.below _) honly) ct hne2,Moves.cell (Moves.trans (Moves.of_below hd.below _) honly) ci hne2⟩,?_,hmv⟩
  have hOr:=hO.keep hd.below
  have hl : (addRow G.ops (nthR L i) (G.neg x) (nthR L t)).length=(nthR L i).length:=addRow_length _ _ _ _ (by rw [hli,hlt])
  refine hOr.rowTo hin hl (by rw [hli];exact hown) λb hb hne=>honly.block b hb λ⟨h1,h2⟩=>?_
  rcases hne with h3 | h3
  ·exact h1 h3
  ·exact h3 h2
 have Hadd:=Lib.hid hadd
 have hG:=h.keep hb
 have HG : Hid (GFw w.drew b G/\∀n,GFw (w.drewN n) b G):=⟨hG.keep (Below.refl _ _).drew,λn=>hG.drewN n⟩
 clear hadd hsep hap hli hlt
 generalize L.set i (addRow G.ops (nthR L i) (G.neg x) (nthR L t))=L' at *
 go_enter Tryz.func252,Tryz.ntmps252
 go_wp2_with fail
 go_region_held3 (fun w' => w'.cell? ⟨pg, 0, none⟩ = some (.pointer (some ⟨b, 0, none⟩)) ∧ w'.cell? ⟨pi, 0, none⟩ = some (.int .i64 i) ∧ w'.cell? ⟨px, 0, none⟩ = some (.int .i64 x) ∧ w'.cell? ⟨pt, 0, none⟩ = some (.int .i64 t) ∧
       w'.cell? ⟨ablk a,aoff a+t,none⟩=some (.slice (nthA R t).1 m (nthA R t).2)/\w'.cell? ⟨ablk a,aoff a+i,none⟩=some (.slice (nthA R i).1 m (nthA R i).2))
  (first | assumption | exact ⟨hg,hi,hx,ht,ct,ci⟩)
  (first
  | (go_at_call 88;((with_reducible refine (gNeg x HG.out.1 hxe).mono ?_);rintro e w4 ⟨m4,rfl,rfl⟩))
  | (go_at_call 207;((with_reducible refine (Hadd.out _).mono ?_);rintro e w5 ⟨rfl,hS5,hO5,hM5⟩)))
 go_wp2_with fail
 go_end0
 exact ⟨rfl,hO5,hM5⟩
end

section
set_option maxRecDepth 100000

open Go.RowKit
variable {w : World}
theorem each2_any (c0 c1 : Value) (p q : Nat) (a : Option Addr) (n c : Nat) (X : World->Prop) (h1 : w.cell? ⟨p,0,none⟩=some (.slice a n c))
  (hf : Calls Tryz.prog 250 #[.slice a n c,c0,c1] w λe w'=>e = .returned (.tuple #[])/\w'.cell? ⟨q,0,none⟩=some (.slice none 0 0)/\X w') :
  Calls Tryz.prog 249 #[.func (.func 250) #[] #[c0,c1],.pointer (some ⟨p,0,none⟩),.pointer (some ⟨q,0,none⟩)] w
   λe w'=>e = .returned (.tuple #[])/\X w':=by
 have Hf:=Lib.hid hf
 clear hf
 go_enter Tryz.func249,Tryz.ntmps249
 go_wp2_with fail
 refine Hf.out.mono ?_
 rintro e w' ⟨rfl,hq,hX⟩
 go_wp2_with fail
 go_end0
 exact ⟨rfl,hX⟩
theorem each3_any (c0 c1 c2 : Value) (p q : Nat) (a : Option Addr) (n c : Nat) (X : World->Prop) (h1 : w.cell? ⟨p,0,none⟩=some (.slice a n c))
  (hf : Calls Tryz.prog 251 #[.slice a n c,c0,c1,c2] w λe w'=>e = .returned (.tuple #[])/\w'.cell? ⟨q,0,none⟩=some (.slice none 0 0)/\X w') :
  Calls Tryz.prog 249 #[.func (.func 251) #[] #[c0,c1,c2],.pointer (some ⟨p,0,none⟩),.pointer (some ⟨q,0,none⟩)] w
   λe w'=>e = .returned (.tuple #[])/\X w':=by
 have Hf:=Lib.hid hf
 clear hf
 go_enter Tryz.func249,Tryz.ntmps249
 go_wp2_with fail
 refine Hf.out.mono ?_
 rintro e w' ⟨rfl,hq,hX⟩
 go_wp2_with fail
 go_end0
 exact ⟨rfl,hX⟩
theorem each4_any (c0 c1 c2 c3 : Value) (p q : Nat) (a : Option Addr) (n c : Nat) (X : World->Prop) (h1 : w.cell? ⟨p,0,none⟩=some (.slice a n c))
  (hf : Calls Tryz.prog 252 #[.slice a n c,c0,c1,c2,c3] w λe w'=>e = .returned (.tuple #[])/\w'.cell? ⟨q,0,none⟩=some (.slice none 0 0)/\X w') :
  Calls Tryz.prog 249 #[.func (.func 252) #[] #[c0,c1,c2,c3],.pointer (some ⟨p,0,none⟩),.pointer (some ⟨q,0,none⟩)] w
   λe w'=>e = .returned (.tuple #[])/\X w':=by
 have Hf:=Lib.hid hf
 clear hf
 go_enter Tryz.func249,Tryz.ntmps249
 go_wp2_with fail
 refine Hf.out.mono ?_
 rintro e w' ⟨rfl,hq,hX⟩
 go_wp2_with fail
 go_end0
 exact ⟨rfl,hX⟩
end

section
open Go.RowKit
theorem frozen_at (w : World) (cs : Array Value) (e : TypeId) {g : Nat} (hg : g=w.heap.size) (i : Nat) : (w.alloc (.cells cs e)).frozen? ⟨g,i,none⟩=false:=by subst hg;simp
theorem frozen_keep {w w' : World} (hb : Below w.heap.size w w') {g i : Nat} (hg : g<w.heap.size) {v : Bool} (h : w.frozen? ⟨g,i,none⟩=v) : w'.frozen? ⟨g,i,none⟩=v:=(hb.frozen (p:=⟨g,i,none⟩) hg).trans h
theorem frozen_box {w : World} {g i : Nat} {v : Bool} (hg : g<w.heap.size) (h : w.frozen? ⟨g,i,none⟩=v) (o : Obj) : (w.alloc o).frozen? ⟨g,i,none⟩=v:=frozen_keep ((Below.refl _ _).alloc (Nat.le_refl _) o) hg h
def Box (w : World) (b : Nat) (cs : List Value) : Prop:=b<w.heap.size/\(∀i v,cs[i]? = some v->w.cell? ⟨b,i,none⟩=some v)/\∀i,w.frozen? ⟨b,i,none⟩=false
theorem Box.new (w : World) (cs : List Value) (e : TypeId) {g : Nat} (hg : g=w.heap.size) : Box (w.alloc (.cells cs.toArray e)) g cs :=
 ⟨by subst hg;simp,λi v hv=>by rw [cell_alloc_at _ _ _ hg i];simpa using hv,λi=>frozen_at _ _ _ hg i⟩
theorem Box.keep {w w' : World} {b : Nat} {cs : List Value} (h : Box w b cs) (hb : Below w.heap.size w w') : Box w' b cs :=
 ⟨Nat.lt_of_lt_of_le h.1 hb.size,λi v hv=>cell_keep hb (h.2.1 i v hv),λi=>frozen_keep hb h.1 (h.2.2 i)⟩
theorem Box.alloc {w : World} {b : Nat} {cs : List Value} (h : Box w b cs) (o : Obj) : Box (w.alloc o) b cs:=h.keep ((Below.refl _ _).alloc (Nat.le_refl _) o)
theorem Box.cell {w : World} {b : Nat} {cs : List Value} (h : Box w b cs) (i : Nat) {v : Value} (hv : cs[i]? = some v) : w.cell? ⟨b,i,none⟩=some v:=h.2.1 i v hv
theorem Box.frozen {w : World} {b : Nat} {cs : List Value} (h : Box w b cs) (i : Nat) : w.frozen? ⟨b,i,none⟩=false:=h.2.2 i
theorem below3 (w : World) (o1 o2 o3 : Obj) : Below w.heap.size w (((w.alloc o1).alloc o2).alloc o3):=(((Below.refl _ _).alloc (Nat.le_refl _) _).alloc (by simp) _).alloc (by simp;omega) _
theorem below2 (w : World) (o1 o2 : Obj) : Below w.heap.size w ((w.alloc o1).alloc o2):=((Below.refl _ _).alloc (Nat.le_refl _) _).alloc (by simp) _
theorem below1 (w : World) (o1 : Obj) : Below w.heap.size w (w.alloc o1):=(Below.refl _ _).alloc (Nat.le_refl _) _
theorem Ints.drawn {w w' : World} {a : Option Addr} {n : Nat} {l : List Int} (h : Ints w a n l) (hd : Drawn w w') : Ints w' a n l:=h.keep hd.below
theorem Mat.drawn {w w' : World} {a : Option Addr} {n : Nat} {l : List (List Int)} (h : Mat w a n l) (hd : Drawn w w') : Mat w' a n l:=h.keep hd.below
theorem Drawn.trans {w w' w'' : World} (h : Drawn w w') (k : Drawn w' w'') : Drawn w w'' := by obtain ⟨m, rfl⟩ := h; obtain ⟨n, rfl⟩ := k; exact ⟨m + n, World.drewN_drewN _ _ _⟩
def QuietBool (w : World) (z : Bool) (e : Ending) (w' : World) : Prop:=e = .returned (.bool z)/\Drawn w w'
end

section
structure Fld (O : FOps) (El : Int->Prop) : Prop where
 cl : FCl O El
 zero : El 0
 one : El 1
 add_comm : ∀x y,El x->El y->O.add x y=O.add y x
 add_assoc : ∀x y z,El x->El y->El z->O.add (O.add x y) z=O.add x (O.add y z)
 add_zero : ∀x,El x->O.add x 0=x
 add_neg : ∀x,El x->O.add x (O.neg x)=0
 mul_comm : ∀x y,El x->El y->O.mul x y=O.mul y x
 mul_assoc : ∀x y z,El x->El y->El z->O.mul (O.mul x y) z=O.mul x (O.mul y z)
 one_mul : ∀x,El x->O.mul 1 x=x
 mul_add : ∀x y z,El x->El y->El z->O.mul x (O.add y z)=O.add (O.mul x y) (O.mul x z)
 mul_inv : ∀x,El x->x ≠ 0->O.mul x (O.inv x)=1
def pw (P : Int) (M : Nat) (mod : List Int) (y : Int) : Nat->Int
 | 0=>1
 | k+1=>mulS P M mod (pw P M mod y k) y
variable {P : Int} {M : Nat} {mod : List Int} {q : Nat} {y : Int}
theorem pw_el (h : Res P M) (y : Int) : ∀k,ElP P M (pw P M mod y k)
 | 0=>one_el h
 | k+1=>mulS_el h _ _
theorem pw_add (h : Res P M) (y : Int) (a : Nat) : ∀b,mulS P M mod (pw P M mod y a) (pw P M mod y b)=pw P M mod y (a+b)
 | 0=>by rw [pw,mulS_comm h,mulS_one h (pw_el h y a)];rfl
 | b+1=>by rw [pw,<- mulS_assoc h,pw_add h y a b];rfl
theorem powTo_inv (y : Int) : ∀(n : Nat) (l : List Int),(∀i,i<l.length->nth l i=pw P M mod y i)->l.Nodup->(∀e ∈ l,e ≠ 0) ->
  (∀i,i<(powTo (λz=>mulS P M mod z y) n l (pw P M mod y l.length)).length->nth (powTo (λz=>mulS P M mod z y) n l (pw P M mod y l.length)) i=pw P M mod y i) /\
  (powTo (λz=>mulS P M mod z y) n l (pw P M mod y l.length)).Nodup/\∀e ∈ powTo (λz=>mulS P M mod z y) n l (pw P M mod y l.length),e ≠ 0
 | 0,l,h1,h2,h3=>⟨h1,h2,h3⟩
 | n+1,l,h1,h2,h3=>by
  by_cases hs : pw P M mod y l.length=0\/pw P M mod y l.length ∈ l
  ·rw [powTo_stop _ _ _ _ hs];exact ⟨h1,h2,h3⟩
  ·rw [powTo_go _ _ _ _ hs]
   have e : mulS P M mod (pw P M mod y l.length) y=pw P M mod y (l ++ [pw P M mod y l.length]).length:=by simp [pw]
   rw [e]
   refine powTo_inv y n _ (λi hi=>?_) ?_ ?_
   ·simp only [List.length_append,List.length_singleton] at hi
    by_cases hl : i<l.length
    ·rw [nth,List.getD_eq_getElem?_getD,List.getElem?_append_left hl,<- List.getD_eq_getElem?_getD];exact h1 i hl
    ·obtain rfl : i=l.length:=by omega
     simp [nth]
   ·rw [List.nodup_append]
    refine ⟨h2,by simp,λa ha b hb=>?_⟩
    rw [List.mem_singleton.1 hb]
    intro e;exact hs (.inr (e ▸ ha))
   ·intro e he
    rcases List.mem_append.1 he with h | h
    ·exact h3 e h
    ·rw [List.mem_singleton.1 h];intro e;exact hs (.inl e)
theorem powS_inv (h : Res P M) (hy : ElP P M y) (q : Nat) :
  (∀i,i<(powS P M mod q y).length->nth (powS P M mod q y) i=pw P M mod y i)/\(powS P M mod q y).Nodup/\∀e ∈ powS P M mod q y,e ≠ 0:=by
 have e : pw P M mod y [(1 : Int)].length=y:=by show mulS P M mod (pw P M mod y 0) y=y;rw [pw,mulS_one h hy]
 have:=powTo_inv (P:=P) (M:=M) (mod:=mod) y q [1] (λi hi=>by
  have : i=0:=by simp at hi;omega
  subst this;rfl) (by simp) (by simp)
 rw [e] at this
 exact this
structure Gen (P : Int) (M : Nat) (mod : List Int) (q : Nat) (y : Int) (ex : List Int) : Prop where
 res : Res P M
 q2 : 2<=q
 pq : (q : Int)=P ^ M
 yel : ElP P M y
 len : ex.length=q - 1
 val : ∀i,i<q - 1->nth ex i=pw P M mod y i
 nodup : ex.Nodup
 ne : ∀e ∈ ex,e ≠ 0
 last : pw P M mod y (q - 1)=1
theorem Gen.of_isGen (h : Res P M) (hq : (q : Int)=P ^ M) (hy : ElP P M y) (hg : isGen P M mod q y=true) : Gen P M mod q y (powS P M mod q y):=by
 have hq2 : 2<=q:=by have:=one_lt_pow h;omega
 simp only [isGen,Bool.and_eq_true,beq_iff_eq] at hg
 obtain ⟨h1,h2,h3⟩:=powS_inv (mod:=mod) h hy q
 refine ⟨h,hq2,hq,hy,hg.1,λi hi=>h1 i (by omega),h2,h3,?_⟩
 have:=hg.2
 rw [h1 _ (by omega)] at this
 rw [show q - 1=(q - 2)+1 by omega]
 exact this
namespace Gen

variable {ex : List Int}
theorem mem (g : Gen P M mod q y ex) {e : Int} (he : ElP P M e) (h0 : e ≠ 0) : e ∈ ex:=by
 apply Classical.byContradiction
 intro hn
 have hnd : (e :: ex).Nodup:=List.nodup_cons.2 ⟨hn,g.nodup⟩
 have hsub : ∀x ∈ e :: ex,x ∈ (List.range (q - 1)).map (λi : Nat=>(i : Int)+1):=by
  intro x hx
  have hx2 : ElP P M x/\x ≠ 0:=by
   rcases List.mem_cons.1 hx with rfl | hx
   ·exact ⟨he,h0⟩
   ·refine ⟨?_,g.ne x hx⟩
    obtain ⟨i,hi,rfl⟩:=List.mem_iff_getElem.1 hx
    rw [<- nth_getElem hi,g.val i (by rw [<- g.len];exact hi)]
    exact pw_el g.res y i
  rw [List.mem_map]
  have h1:=hx2.1.1
  have h2:=hx2.1.2
  have h3:=hx2.2
  have h4:=g.pq
  have h5:=g.q2
  exact ⟨(x - 1).toNat,by rw [List.mem_range];omega,by omega⟩
 have hle:=List.Nodup.length_le_of_subset hnd hsub
 simp at hle
 have h5:=g.q2
 have h6:=g.len
 omega
theorem log (g : Gen P M mod q y ex) {e : Int} (he : ElP P M e) (h0 : e ≠ 0) : ∃k,k<q - 1/\e=pw P M mod y k/\nth ex k=e:=by
 obtain ⟨i,hi,e1⟩:=List.mem_iff_getElem.1 (g.mem he h0)
 have hi2 : i<q - 1:=by rw [<- g.len];exact hi
 refine ⟨i,hi2,?_,?_⟩
 ·rw [<- g.val i hi2,nth_getElem hi,e1]
 ·rw [nth_getElem hi,e1]
theorem period (g : Gen P M mod q y ex) (a : Nat) : ∀n,pw P M mod y (a+n * (q - 1))=pw P M mod y a
 | 0=>by simp
 | n+1=>by
  rw [show a+(n+1) * (q - 1)=(a+n * (q - 1))+(q - 1) by rw [Nat.add_mul];omega,<- pw_add g.res,g.last,mulS_comm g.res,mulS_one g.res (pw_el g.res y _),period g a n]
theorem red (g : Gen P M mod q y ex) (a : Nat) : pw P M mod y (a % (q - 1))=pw P M mod y a:=by
 have h:=g.period (a % (q - 1)) (a / (q - 1))
 rw [<- h,Nat.mul_comm,Nat.mod_add_div]
theorem pw_ne (g : Gen P M mod q y ex) (a : Nat) : pw P M mod y a ≠ 0:=by
 have h5:=g.q2
 rw [<- g.red a]
 have hlt : a % (q - 1)<q - 1:=Nat.mod_lt _ (by omega)
 rw [<- g.val _ hlt]
 exact g.ne _ (nth_mem (by rw [g.len];exact hlt))
theorem inj (g : Gen P M mod q y ex) {i j : Nat} (hi : i<q - 1) (hj : j<q - 1) (h : nth ex i=nth ex j) : i=j:=by
 rw [nth_getElem (by rw [g.len];exact hi),nth_getElem (by rw [g.len];exact hj)] at h
 have hp:=List.pairwise_iff_getElem.1 g.nodup
 rcases Nat.lt_trichotomy i j with h1 | h1 | h1
 ·exact absurd h (hp i j _ _ h1)
 ·exact h1
 ·exact absurd h.symm (hp j i _ _ h1)
theorem ex_el (g : Gen P M mod q y ex) {k : Nat} (hk : k<q - 1) : ElP P M (nth ex k):=by rw [g.val k hk];exact pw_el g.res y k
theorem logTo_nth (g : Gen P M mod q y ex) : ∀k,k<=q - 1->∀j,j<k->nth (logTo q ex k) (nth ex j).toNat=j
 | 0,_,j,hj=>by omega
 | k+1,hk,j,hj=>by
  have hkel:=g.ex_el (k:=k) (by omega)
  have hjel:=g.ex_el (k:=j) (by omega)
  have h1:=hkel.1
  have h2:=hkel.2
  have h3:=hjel.1
  have h4:=g.pq
  rw [logTo,nth_set _ _ _ _ (by rw [logTo_length];omega)]
  by_cases e : j=k
  ·subst e;rw [if_pos rfl]
  ·rw [if_neg]
   ·exact logTo_nth g k (by omega) j (by omega)
   ·intro e2
    exact e (g.inj (by omega) (by omega) (by omega))
theorem logs (g : Gen P M mod q y ex) {k : Nat} (hk : k<q - 1) : nth (logTo q ex (q - 1)) (pw P M mod y k).toNat=k:=by
 rw [<- g.val k hk];exact g.logTo_nth (q - 1) (Nat.le_refl _) k hk
theorem mulT_eq (g : Gen P M mod q y ex) {x z : Int} (hx : ElP P M x) (hz : ElP P M z) : mulT q ex (logTo q ex (q - 1)) x z=mulS P M mod x z:=by
 unfold mulT
 by_cases h0 : x=0\/z=0
 ·rw [if_pos h0]
  rcases h0 with rfl | rfl
  ·rw [mulS_comm g.res,mulS_zero g.res]
  ·rw [mulS_zero g.res]
 ·rw [if_neg h0]
  obtain ⟨a,ha,rfl,_⟩:=g.log hx (λe=>h0 (.inl e))
  obtain ⟨b,hb,rfl,_⟩:=g.log hz (λe=>h0 (.inr e))
  have h5:=g.q2
  rw [g.logs ha,g.logs hb,pw_add g.res]
  have e1 : ((a : Int)+b) % ((q : Int) - 1)=(((a+b) % (q - 1) : Nat) : Int):=by
   rw [Int.natCast_emod,Int.natCast_add,Int.natCast_sub (by omega)];rfl
  rw [e1,Int.toNat_natCast,g.val _ (Nat.mod_lt _ (by omega)),g.red]
theorem invT_mul (g : Gen P M mod q y ex) {x : Int} (hx : ElP P M x) (h0 : x ≠ 0) : mulS P M mod x (invT q ex (logTo q ex (q - 1)) x)=1:=by
 obtain ⟨a,ha,rfl,_⟩:=g.log hx h0
 have h5:=g.q2
 unfold invT
 rw [g.logs ha]
 have e1 : ((q : Int) - 1 - a) % ((q : Int) - 1)=(((q - 1 - a) % (q - 1) : Nat) : Int):=by
  rw [Int.natCast_emod,Int.natCast_sub (by omega),Int.natCast_sub (by omega)];rfl
 rw [e1,Int.toNat_natCast,g.val _ (Nat.mod_lt _ (by omega)),g.red,pw_add g.res,show a+(q - 1 - a)=q - 1 by omega,g.last]
theorem invT_el (g : Gen P M mod q y ex) (x : Int) : ElP P M (invT q ex (logTo q ex (q - 1)) x):=by
 have h5:=g.q2
 unfold invT
 refine g.ex_el ?_
 have h1:=Int.emod_nonneg ((q : Int) - 1 - nth (logTo q ex (q - 1)) x.toNat) (show (q : Int) - 1 ≠ 0 by omega)
 have h2:=Int.emod_lt_of_pos ((q : Int) - 1 - nth (logTo q ex (q - 1)) x.toNat) (show 0<(q : Int) - 1 by omega)
 omega
theorem fld (g : Gen P M mod q y ex) : Fld (Tbl.ops ⟨P,M,q,ex,logTo q ex (q - 1)⟩) (ElP P M):=by
 have hmul : ∀ {x z : Int},ElP P M x->ElP P M z->(Tbl.ops ⟨P,M,q,ex,logTo q ex (q - 1)⟩).mul x z=mulS P M mod x z:=λhx hz=>g.mulT_eq hx hz
 have h:=g.res
 have hinv : ∀x,ElP P M ((Tbl.ops ⟨P,M,q,ex,logTo q ex (q - 1)⟩).inv x):=λx=>g.invT_el x
 refine ⟨⟨λx z _ _=>fsum_el h x z,λx z hx hz=>?_,λx _=>fneg_el h x,λx _ _=>hinv x⟩,zero_el h,one_el h,λx z _ _=>fsum_comm h x z,λx z u _ _ _=>fsum_assoc h x z u,λx hx=>fsum_id h hx,λx _=>fsum_fneg h x,?_,?_,?_,?_,?_⟩
 ·rw [hmul hx hz];exact mulS_el h x z
 ·intro x z hx hz;rw [hmul hx hz,hmul hz hx,mulS_comm h]
 ·intro x z u hx hz hu
  rw [hmul hx hz,hmul hz hu,hmul (mulS_el h x z) hu,hmul hx (mulS_el h z u),mulS_assoc h]
 ·intro x hx;rw [hmul (one_el h) hx,mulS_one h hx]
 ·intro x z u hx hz hu
  have hs : (Tbl.ops ⟨P,M,q,ex,logTo q ex (q - 1)⟩).add=fsum P M:=rfl
  rw [hs,hmul hx (fsum_el h z u),hmul hx hz,hmul hx hu,mulS_add h]
 ·intro x hx h0
  rw [hmul hx (hinv x)]
  exact g.invT_mul hx h0
end Gen
theorem fieldB_gen {P M : Int} {mod : List Int} (h : fieldB P M mod=true) : ∃(m : Nat) (y : Int),M=m/\Res P m/\P ^ m<=256/\shapeB P m mod=true/\(orderS P m).toNat=P ^ m/\Gen P m mod (orderS P m).toNat y (genS P m mod (orderS P m).toNat):=by
 unfold fieldB at h
 rw [Bool.and_eq_true] at h
 obtain ⟨hs,hg⟩:=h
 have hs2:=hs
 simp only [shapeB,Bool.and_eq_true,bne_iff_ne,ne_eq] at hs2
 obtain ⟨b1,b2,b3,b4,b5,b6⟩:=orderS_ne hs2.1.1
 obtain ⟨m,rfl⟩ : ∃m : Nat,M=m:=⟨M.toNat,by omega⟩
 rw [Int.toNat_natCast] at *
 have hres : Res P m:=⟨b1,by omega⟩
 have hq : ((orderS P m).toNat : Int)=P ^ m:=by have:=one_lt_pow hres;omega
 have hne : genS P m mod (orderS P m).toNat ≠ []:=by
  intro e;rw [e] at hg;simp at hg
 obtain ⟨y,hy1,hy2,hy3,hy4⟩:=genS_spec hne
 refine ⟨m,y,rfl,hres,b5,hs,hq,?_⟩
 rw [hy4]
 exact Gen.of_isGen hres hq ⟨by omega,by omega⟩ hy3
theorem fieldB_fld {P M : Int} {mod : List Int} (h : fieldB P M mod=true) : Fld (tblOf P M.toNat mod).ops (tblOf P M.toNat mod).El:=by
 obtain ⟨m,y,rfl,hr,_,_,hq,g⟩:=fieldB_gen h
 have e : (tblOf P ((m : Int).toNat) mod).El=ElP P m:=by
  funext x;simp only [Tbl.El,tblOf,ElP,Int.toNat_natCast];rw [hq]
 rw [e]
 exact g.fld
end

section
open Go.RowKit
structure RF (P : Int) (m : Nat) : Prop where
 p2 : 2<=P
 p256 : P<=256
 m1 : 1<=m
 m8 : m<=8
 pw : P ^ m<=256
theorem RF.res {P : Int} {m : Nat} (h : RF P m) : Res P m:=⟨h.p2,h.m1⟩
theorem RF.order {P : Int} {m : Nat} (h : RF P m) : orderS P m=P ^ m:=by
 have:=h.p2;have:=h.p256;have:=h.m1;have:=h.m8
 have e:=orderS_in (p:=P) (m:=m) (by omega) (by simpa using h.pw)
 rwa [Int.toNat_natCast] at e
theorem RF.of {P M : Int} (h : orderS P M ≠ 0) : ∃m : Nat,M=m/\RF P m:=by
 obtain ⟨h1,h2,h3,h4,h5,h6⟩:=orderS_ne h
 exact ⟨M.toNat,by omega,⟨h1,h2,by omega,by omega,h5⟩⟩
end

section
open Go.RowKit
end

section
open Go.RowKit
end

section
set_option maxHeartbeats 1600000

open Go.RowKit
def expV (q : Int) (k : Nat) : Int:=if q ^ k<=65536 then q ^ k else 0
def expE (q : Int) (k : Nat) : Int:=if q ^ k<=65536 then 0 else 8
theorem expV_in {q : Int} {k : Nat} (h : q ^ k<=65536) : expV q k=q ^ k/\expE q k=0:=by simp [expV,expE,h]
theorem expV_out {q : Int} {k : Nat} (h : ¬ q ^ k<=65536) : expV q k=0/\expE q k=8:=by simp [expV,expE,h]
theorem ret_two {a b c d : Int} {k k' : IntKind} (h : a=b) (h' : c=d) : Ending.returned (.tuple #[.int k a,.int k' c]) = .returned (.tuple #[.int k b,.int k' d]):=by rw [h,h']
theorem exp_any (q : Int) (n : Nat) (w : World) (h2 : 2<=q) (h256 : q<=256) (hn : n<=1000000) :
  Calls Tryz.prog 148 #[.int .i64 q,.int .i64 n,.int .i64 65536] w λe w'=>e = .returned (.tuple #[.int .i64 (expV q n),.int .i64 (expE q n)])/\w=w':=by
 go_enter Tryz.func148,Tryz.ntmps148
 go_wp2_with fail
 go_loop [1,8] (λnv qv=>∃k : Nat,k<=n/\nv = .int .i64 ((n : Int) - k)/\qv = .int .i64 (q ^ k)/\q ^ k<=65536/\1<=q ^ k) (λi _=>(intOf i).toNat)
 case atStart=>exact ⟨0,Nat.zero_le _,by simp,by simp,by simp,by simp⟩
 case round =>
  obtain ⟨k,hk,rfl,rfl,hb,hb1⟩:=hrel
  have hP0 : q ≠ 0:=by omega
  by_cases hlt : k<n
  ·have e1 : q ^ (k+1)=q ^ k * q:=Int.pow_succ _ _
   have hd0 : (0 : Int)<=65536 / q:=Int.ediv_nonneg (by omega) (by omega)
   have hd1 : 65536 / q<=65536:=Int.ediv_le_self _ (by omega)
   by_cases h5 : 65536 / q<q ^ k
   ·have hbig : ¬ q ^ n<=65536:=by
     intro h
     have h6:=pow_mono (show 1<=q by omega) (show k+1<=n by omega)
     have h7 : 65536<q ^ k * q:=Int.lt_mul_of_ediv_lt (by omega) h5
     omega
    have Hb:=Lib.hid (expV_out hbig)
    clear e1 hbig
    generalize q ^ k=z at *
    go_wp2_with fail
    go_ret2
    exact ⟨ret_two Hb.out.1.symm Hb.out.2.symm,rfl⟩
   ·have h6 : q ^ k * q<=65536:=by
     have:=Int.mul_le_of_le_ediv (show (0 : Int)<q by omega) (show q ^ k<=65536 / q by omega)
     exact this
    have h7 : 1 * 1<=q ^ k * q:=Int.mul_le_mul hb1 (by omega) (by omega) (by omega)
    have E1:=Lib.hid e1
    clear e1
    generalize hz : q ^ k=z at *
    have Hz:=Lib.hid hz
    clear hz
    go_wp2_with fail
    go_round
    case rel=>exact ⟨k+1,by omega,by go_num,by rw [E1.out],by rw [E1.out];exact h6,by rw [E1.out];omega⟩
    case measure=>simp [intOf] <;> omega
  ·obtain rfl : k=n:=by omega
   have Hb:=Lib.hid (expV_in hb)
   generalize q ^ k=z at *
   go_wp2_with fail
   go_ret2
   exact ⟨ret_two Hb.out.1.symm Hb.out.2.symm,rfl⟩
end

end Go.Proofs.YtcfmiocdlcapoaaGreat
