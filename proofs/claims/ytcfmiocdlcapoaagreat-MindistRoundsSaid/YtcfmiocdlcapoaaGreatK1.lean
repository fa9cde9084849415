import Derived.Test.YtcfmiocdlcapoaaGreatK2
import Derived.WalkKit
import Derived.WalkSpells
import Derived.WalkLawsBesides
import Derived.Lib.Hide
import Derived.Laws.CopyOwn
import Derived.Test.YtcfmiocdlcapoaaGreatProg
import Derived.Maps.AppendAt
import Derived.Deep.RegionLaw
import Derived.StillTail
import Derived.OrdersHeld
import Derived.Deep.RegionHeld
namespace Go.Proofs.YtcfmiocdlcapoaaGreat
set_option linter.unusedVariables false
set_option linter.unusedSimpArgs false
set_option linter.unusedSectionVars false
set_option maxRecDepth 100000
set_option maxHeartbeats 400000
open Go.RowKit
def digs (x p : Int) : Nat->Lz
 | 0=>[]
 | m+1=>(x % p) :: digs (x / p) p m
def valu (p : Int) : Lz->Int
 | []=>0
 | c :: d=>c+p * valu p d
def jw (x p : Int) : Nat->Int
 | 0=>x
 | k+1=>jw x p k / p
theorem bl (p : Int) : ∀(m : Nat) (x : Int),(digs x p m).length=m
 | 0,_=>rfl
 | m+1,x=>by simp [digs,bl p m]
theorem qw (x p : Int) : ∀k,jw x p (k+1)=jw (x / p) p k
 | 0=>rfl
 | k+1=>by rw [jw,qw x p k];rfl
theorem nH (p : Int) : ∀(k : Nat) (x : Int),digs x p (k+1)=digs x p k ++ [jw x p k % p]
 | 0,x=>rfl
 | k+1,x=>by
  rw [digs,nH p k (x / p),qw];rfl
theorem si (x p : Int) (hx : 0<=x) (hp : 1<=p) : ∀k,0<=jw x p k/\jw x p k<=x
 | 0=>⟨hx,Int.le_refl _⟩
 | k+1=>by
  have h:=si x p hx hp k
  exact ⟨Int.ediv_nonneg h.1 (by omega),Int.le_trans (Int.ediv_le_self _ h.1) h.2⟩
def bT (l : Lz) (k m : Nat) : Lz:=l ++ List.replicate (m - k) 0
theorem dC (l : Lz) (k m : Nat) (x : Int) (hl : l.length=k) (hk : k<m) : (bT l k m).set k x=bT (l ++ [x]) (k+1) m:=by
 unfold bT
 rw [List.set_append_right _ _ (by omega),hl,Nat.sub_self]
 rw [show m - k=(m - (k+1))+1 from by omega,List.replicate_succ,List.set_cons_zero]
 simp
theorem eh (l : Lz) (m : Nat) : bT l m m=l:=by simp [bT]
def nth (l : Lz) (i : Nat) : Int:=l.getD i 0
def shl (out : Lz) : Lz:=0 :: out.dropLast
def Cy (P : Int) (low a : Lz) (top bi : Int) (sh : Lz) (j : Nat) : Int:=(nth sh j+(P - top) * nth low j+bi * nth a j) % P
def od (P : Int) (low a : Lz) (m : Nat) (bi : Int) (out : Lz) : Lz :=
 (List.range m).map λj=>Cy P low a (nth out (m - 1)) bi (shl out) j
def fB (P : Int) (low a b : Lz) (m : Nat) : Nat->Lz
 | 0=>List.replicate m 0
 | k+1=>od P low a m (nth b (m - 1 - k)) (fB P low a b m k)
def nX (M : Nat) (mod : Lz) : Lz:=if 1<M then mod else [0]
def dz (P : Int) (M : Nat) (mod : Lz) (x y : Int) : Int :=
 valu P (fB P (nX M mod) (digs x P M) (digs y P M) M M)
theorem ai {l : Lz} {i : Nat} (h : i<l.length) : nth l i=l[i]:=by simp [nth,h]
theorem aN {l : Lz} {i : Nat} (h : i<l.length) : nth l i ∈ l:=by rw [ai h];exact List.getElem_mem h
theorem jn {l : Lz} {i : Nat} (h : l.length<=i) : nth l i=0:=by simp [nth,h]
theorem et {l l' : Lz} (hl : l.length=l'.length) (h : ∀i,i<l.length->nth l i=nth l' i) : l=l':=by
 apply List.ext_getElem hl
 intro i h1 h2
 have:=h i h1
 rwa [ai h1,ai h2] at this
def cR (P : Int) (l : Lz) : Prop:=∀i,0<=nth l i/\nth l i<P
theorem cR.jZ {P : Int} (hP : 0<P) {l : Lz} (h : ∀x ∈ l,0<=x/\x<P) : cR P l:=by
 intro i
 rcases Nat.lt_or_ge i l.length with hi | hi
 ·exact h _ (aN hi)
 ·rw [jn hi];omega
theorem cR.digs {P : Int} (hP : 0<P) : ∀(m : Nat) (x : Int),cR P (digs x P m)
 | 0,x=>λi=>by simp [Go.Proofs.YtcfmiocdlcapoaaGreat.digs,nth];omega
 | m+1,x=>by
  intro i
  match i with
  | 0=>simp only [Go.Proofs.YtcfmiocdlcapoaaGreat.digs,nth,List.getD_cons_zero];exact ⟨Int.emod_nonneg _ (by omega),Int.emod_lt_of_pos _ hP⟩
  | i+1=>simpa only [Go.Proofs.YtcfmiocdlcapoaaGreat.digs,nth,List.getD_cons_succ] using cR.digs hP m (x / P) i
theorem cR.replicate {P : Int} (hP : 0<P) (m : Nat) : cR P (List.replicate m 0):=by
 refine cR.jZ hP λx hx=>?_
 obtain ⟨_,rfl⟩:=List.mem_replicate.1 hx
 omega
theorem jx (P : Int) (low a : Lz) (m : Nat) (bi : Int) (out : Lz) : (od P low a m bi out).length=m:=by simp [od]
theorem nJ (P : Int) (low a : Lz) (m : Nat) (bi : Int) (out : Lz) (j : Nat) (hj : j<m) :
  nth (od P low a m bi out) j=Cy P low a (nth out (m - 1)) bi (shl out) j:=by
 rw [ai (by rw [jx];exact hj)];simp [od]
theorem cR.od {P : Int} (hP : 0<P) (low a : Lz) (m : Nat) (bi : Int) (out : Lz) : cR P (od P low a m bi out):=by
 intro j
 rcases Nat.lt_or_ge j m with hj | hj
 ·rw [nJ _ _ _ _ _ _ _ hj]
  exact ⟨Int.emod_nonneg _ (by omega),Int.emod_lt_of_pos _ hP⟩
 ·rw [jn (by rw [jx];exact hj)];omega
theorem iU (P : Int) (low a b : Lz) (m : Nat) : ∀k,(fB P low a b m k).length=m
 | 0=>by simp [fB]
 | k+1=>jx ..
theorem cR.fB {P : Int} (hP : 0<P) (low a b : Lz) (m : Nat) : ∀k,cR P (fB P low a b m k)
 | 0=>cR.replicate hP m
 | k+1=>by simp only [Go.Proofs.YtcfmiocdlcapoaaGreat.fB];exact cR.od hP _ _ _ _ _
theorem BJ (out : Lz) (h : 0<out.length) : (shl out).length=out.length:=by simp [shl];omega
theorem cR.shl {P : Int} (hP : 0<P) {out : Lz} (h : cR P out) : cR P (shl out):=by
 intro i
 match i with
 | 0=>simp [Go.Proofs.YtcfmiocdlcapoaaGreat.shl,nth];omega
 | i+1 =>
  have e : nth (Go.Proofs.YtcfmiocdlcapoaaGreat.shl out) (i+1)=if i<out.length - 1 then nth out i else 0:=by
   simp only [Go.Proofs.YtcfmiocdlcapoaaGreat.shl,nth,List.getD_eq_getElem?_getD,List.getElem?_cons_succ,List.getElem?_dropLast]
   split <;> rfl
  rw [e];split
  ·exact h i
  ·omega
def fD (new ja : Lz) (j : Nat) : Lz:=new.take j ++ ja.drop j
theorem en (new ja : Lz) : fD new ja 0=ja:=by simp [fD]
theorem fy (new ja : Lz) (m : Nat) (h1 : new.length=m) (h2 : ja.length=m) : fD new ja m=new:=by
 simp [fD,List.take_of_length_le (Nat.le_of_eq h1),List.drop_eq_nil_of_le (Nat.le_of_eq h2)]
theorem jt (new ja : Lz) (j : Nat) (h : new.length=ja.length) (hj : j<=ja.length) : (fD new ja j).length=ja.length:=by
 simp [fD];omega
theorem ed (new ja : Lz) (j i : Nat) (h : new.length=ja.length) (hj : j<=ja.length) : nth (fD new ja j) i=if i<j then nth new i else nth ja i:=by
 unfold fD nth
 simp only [List.getD_eq_getElem?_getD]
 split
 ·rename_i hi
  rw [List.getElem?_append_left (by simp;omega),List.getElem?_take,if_pos hi]
 ·rename_i hi
  rw [List.getElem?_append_right (by simp;omega),List.getElem?_drop]
  congr 2
  simp;omega
theorem ff (l : Lz) (i j : Nat) (x : Int) (hi : i<l.length) : nth (l.set i x) j=if j=i then x else nth l j:=by
 unfold nth
 simp only [List.getD_eq_getElem?_getD,List.getElem?_set]
 by_cases h : i=j
 ·subst h;simp [hi]
 ·rw [if_neg h,if_neg (by omega)]
theorem dZ (new ja : Lz) (j : Nat) (h : new.length=ja.length) (hj : j<ja.length) : (fD new ja j).set j (nth new j)=fD new ja (j+1):=by
 have hl:=jt new ja j h (by omega)
 have hl':=jt new ja (j+1) h (by omega)
 refine et (by simp [hl,hl']) λi hi=>?_
 rw [ff _ _ _ _ (by omega),ed _ _ _ _ h (by omega),ed _ _ _ _ h (by omega)]
 by_cases e : i=j
 ·subst e;simp
 ·rw [if_neg e]
  by_cases e2 : i<j
  ·rw [if_pos e2,if_pos (by omega)]
  ·rw [if_neg e2,if_neg (by omega)]
theorem pZ {P : Int} (hP : 0<P) : ∀(l : Lz),cR P l->0<=valu P l/\valu P l<P ^ l.length
 | [],_=>by simp [valu]
 | c :: l,h=>by
  have h0:=h 0
  have ih:=pZ hP l (λi=>by simpa [nth] using h (i+1))
  simp only [nth,List.getD_cons_zero] at h0
  simp only [valu,List.length_cons,Int.pow_succ]
  have h1 : 0<=P * valu P l:=Int.mul_nonneg (by omega) ih.1
  have h2 : P * valu P l+P<=P ^ l.length * P:=by
   have:=Int.mul_le_mul_of_nonneg_left (show valu P l+1<=P ^ l.length by omega) (show 0<=P by omega)
   rw [Int.mul_comm (P ^ l.length)]
   rw [Int.mul_add] at this
   omega
  omega
theorem cW {P : Int} (hP : 1<=P) {a b : Nat} (h : a<=b) : P ^ a<=P ^ b:=by
 obtain ⟨n,rfl⟩ : ∃n : Nat,P=n:=⟨P.toNat,by omega⟩
 have:=Nat.pow_le_pow_right (n:=n) (by omega) h
 exact_mod_cast this
theorem cR.drop {P : Int} {l : Lz} (h : cR P l) (k : Nat) : cR P (l.drop k):=by
 intro i
 have:=h (k+i)
 simpa [nth] using this
theorem cR.xG {P : Int} (hP : 0<P) {l : Lz} (h : cR P l) {m : Nat} (hl : l.length=m) (hpw : P ^ m<=256) (k : Nat) : 0<=valu P (l.drop k)/\valu P (l.drop k)<256:=by
 have hb:=pZ hP (l.drop k) (h.drop k)
 refine ⟨hb.1,Int.lt_of_lt_of_le hb.2 (Int.le_trans ?_ hpw)⟩
 rw [List.length_drop,hl]
 exact cW (by omega) (by omega)
def ablk : OA->Nat | some a=>a.block | none=>0
def aJ : OA->Nat | some a=>a.off | none=>0
@[simp] theorem ablk_some (b o : Nat) (s : Option Nat) : ablk (some ⟨b,o,s⟩)=b:=rfl
@[simp] theorem aoff_some (b o : Nat) (s : Option Nat) : aJ (some ⟨b,o,s⟩)=o:=rfl
def Pl (a : OA) (n : Nat) : Prop:=0<n->a=some ⟨ablk a,aJ a,none⟩
def aj (l : Ll) (i : Nat) : Lz:=l.getD i []
def uF (l : List Bool) (i : Nat) : Bool:=l.getD i false
theorem aE {l : Ll} {i : Nat} (h : i<l.length) : aj l i=l[i]:=by simp [aj,h]
theorem lh {l : Ll} {i : Nat} (h : i<l.length) : aj l i ∈ l:=by rw [aE h];exact List.getElem_mem h
theorem yd {l : List Bool} {i : Nat} (h : i<l.length) : uF l i=l[i]:=by simp [uF,h]
structure Ints (w : World) (a : OA) (n : Nat) (l : Lz) : Prop where
 len : l.length=n
 pl : Pl a n
 max : n<=maxLen
 cell : ∀i,i<n->w.cell? ⟨ablk a,aJ a+i,none⟩=some (.int .i64 (nth l i))
structure CD (w : World) (a : OA) (n : Nat) (l : List Bool) : Prop where
 len : l.length=n
 pl : Pl a n
 max : n<=maxLen
 cell : ∀i,i<n->w.cell? ⟨ablk a,aJ a+i,none⟩=some (.bool (uF l i))
structure bZ (w : World) (a : OA) (n : Nat) (l : Ll) : Prop where
 len : l.length=n
 pl : Pl a n
 max : n<=maxLen
 cell : ∀i,i<n->∃b m c,w.cell? ⟨ablk a,aJ a+i,none⟩=some (.slice b m c)/\Ints w b m (aj l i)
def I1 (w : World) (B : Nat) (a : OA) (n : Nat) : Prop:=0<n->B<=ablk a/\∀i,i<n->w.frozen? ⟨ablk a,aJ a+i,none⟩=false
theorem Ints.lt {w : World} {a : OA} {n : Nat} {l : Lz} (h : Ints w a n l) (hn : 0<n) : ablk a<w.heap.size :=
 World.block_lt_of_cell? w _ (h.cell 0 hn)
theorem bZ.lt {w : World} {a : OA} {n : Nat} {l : Ll} (h : bZ w a n l) (hn : 0<n) : ablk a<w.heap.size:=by
 obtain ⟨b,m,c,hc,_⟩:=h.cell 0 hn
 exact World.block_lt_of_cell? w _ hc
theorem Ints.of_block {w w' : World} {a : OA} {n : Nat} {l : Lz} (h : Ints w a n l) (hb : 0<n->w'.heap[ablk a]? = w.heap[ablk a]?) : Ints w' a n l :=
 ⟨h.len,h.pl,h.max,λi hi=>(World.cell?_of_block (w:=w) (a:=⟨ablk a,aJ a+i,none⟩) (hb (by omega))).trans (h.cell i hi)⟩
theorem Ints.below {B : Nat} {w w' : World} {a : OA} {n : Nat} {l : Lz} (h : Ints w a n l) (hb : Below B w w') (hB : 0<n->ablk a<B) : Ints w' a n l :=
 h.of_block λhn=>hb.block _ (hB hn)
theorem Ints.ah {w w' : World} {a : OA} {n : Nat} {l : Lz} (h : Ints w a n l) (hb : Below w.heap.size w w') : Ints w' a n l :=
 h.below hb λhn=>h.lt hn
theorem bZ.ah {w w' : World} {a : OA} {n : Nat} {l : Ll} (h : bZ w a n l) (hb : Below w.heap.size w w') : bZ w' a n l:=by
 refine ⟨h.len,h.pl,h.max,λi hi=>?_⟩
 obtain ⟨b,m,c,hc,hr⟩:=h.cell i hi
 exact ⟨b,m,c,(hb.cell (World.block_lt_of_cell? w _ hc)).trans hc,hr.ah hb⟩
theorem Ints.nil (w : World) (c : OA) : Ints w c 0 []:=⟨rfl,λh=>by omega,by unfold maxLen;omega,λi h=>by omega⟩
@[go_sem] theorem run_indexAt_pl {P : Program} (w : World) (t : TypeId) (a : OA) (len cap : Nat) (k : IntKind) (i : Int) (h : P.underlying t=some (.slice (P.elem t)))
  (hp : Pl a len) (h0 : 0<=i) (h1 : i<len) :
  (Instr.indexAt t (.slice a len cap) (.int k i)).run P w=((sizeOf (P.elem t)).run P w).andThen λs w=>.ok (.pointer (some ((⟨ablk a,aJ a,none⟩ : Addr).add (i.toNat * s)))) w:=by
 have e : a=some ⟨ablk a,aJ a,none⟩:=hp (by omega)
 generalize hb : ablk a=b at *
 generalize ho : aJ a=o at *
 subst e
 rw [run_indexAt_slice (h:=h),if_pos ⟨h0,h1⟩]
theorem yx (l : List Bool) (i j : Nat) (x : Bool) (hi : i<l.length) : uF (l.set i x) j=if j=i then x else uF l j:=by
 unfold uF
 simp only [List.getD_eq_getElem?_getD,List.getElem?_set]
 by_cases h : i=j
 ·subst h;simp [hi]
 ·rw [if_neg h,if_neg (by omega)]
theorem Pl.own {w : World} {base : Nat} {e : TypeId} {v : Value} {n : Nat} {xs : List Value} (h : w.ownsRow base e 1 v n xs) : ∃a c,v = .slice a n c/\Pl a n:=by
 rcases h.2 with ⟨rfl,rfl⟩ | ⟨g,cap,cur,rfl,_⟩
 ·exact ⟨none,0,rfl,λh=>by omega⟩
 ·exact ⟨_,cap,rfl,λ_=>rfl⟩
theorem b9 {w : World} {base : Nat} {e : TypeId} {a : OA} {c n : Nat} {xs : List Value} (h : w.ownsRow base e 1 (.slice a n c) n xs) (i : Nat) (hi : i<n) :
  w.cell? ⟨ablk a,aJ a+i,none⟩=xs[i]?/\w.frozen? ⟨ablk a,aJ a+i,none⟩=false/\base<=ablk a/\xs.length=n/\n<=maxLen:=by
 obtain ⟨hl,h2⟩:=h
 rcases h2 with ⟨h2,rfl⟩ | ⟨g,cap,cur,hv,hg,hh,hn,hm,hs,ht⟩
 ·omega
 ·cases hv
  simp only [ablk_some,aoff_some,Nat.zero_add]
  refine ⟨?_,by simp [World.frozen?,hh],hg,by omega,by omega⟩
  rw [<- ht,List.getElem?_take,if_pos (by omega)]
  simp [World.cell?,hh]
theorem Ints.own {w : World} {base : Nat} {e : TypeId} {a : OA} {c n : Nat} {l : Lz} (h : w.ownsRow base e 1 (.slice a n c) n (l.map (Value.int .i64))) :
  Ints w a n l/\I1 w base a n:=by
 have hl : l.length=n:=by have:=h.1;simpa using this
 obtain ⟨a',c',hv,hp⟩:=Pl.own h
 cases hv
 refine ⟨⟨hl,hp,?_,λi hi=>?_⟩,λhn=>⟨(b9 h 0 hn).2.2.1,λi hi=>(b9 h i hi).2.1⟩⟩
 ·rcases Nat.eq_zero_or_pos n with h0 | h0
  ·subst h0;unfold maxLen;omega
  ·exact (b9 h 0 h0).2.2.2.2
 ·rw [(b9 h i hi).1]
  simp [nth,show i<l.length by omega]
theorem CD.own {w : World} {base : Nat} {e : TypeId} {a : OA} {c n : Nat} {l : List Bool} (h : w.ownsRow base e 1 (.slice a n c) n (l.map Value.bool)) :
  CD w a n l/\I1 w base a n:=by
 have hl : l.length=n:=by have:=h.1;simpa using this
 obtain ⟨a',c',hv,hp⟩:=Pl.own h
 cases hv
 refine ⟨⟨hl,hp,?_,λi hi=>?_⟩,λhn=>⟨(b9 h 0 hn).2.2.1,λi hi=>(b9 h i hi).2.1⟩⟩
 ·rcases Nat.eq_zero_or_pos n with h0 | h0
  ·subst h0;unfold maxLen;omega
  ·exact (b9 h 0 h0).2.2.2.2
 ·rw [(b9 h i hi).1]
  simp [uF,show i<l.length by omega]
theorem bC {w : World} {B : Nat} {e : TypeId} {a : OA} {c n : Nat} {xs : List Value} (h : w.ownsRow B e 1 (.slice a n c) n xs) (i : Nat) (hi : i<n) (u : Value) :
  (w.setCell ⟨ablk a,aJ a+i,none⟩ u).ownsRow B e 1 (.slice a n c) n (xs.set i u):=by
 have h':=h
 rcases h.2 with ⟨hv,h0⟩ | ⟨g,_,cur,hv,hg,hh,hn,hm,hs,ht⟩
 ·omega
 ·cases hv
  simpa using (h'.stored i u).1
theorem jG {w w' : World} {B : Nat} {e : TypeId} {a : OA} {c n : Nat} {xs : List Value} (h : w.ownsRow B e 1 (.slice a n c) n xs)
  (hb : w'.heap[ablk a]? = w.heap[ablk a]?) : w'.ownsRow B e 1 (.slice a n c) n xs:=by
 refine ⟨h.1,?_⟩
 rcases h.2 with h2 | ⟨g,cap,cur,hv,hg,hh,r⟩
 ·exact .inl h2
 ·cases hv
  exact .inr ⟨g,c,cur,rfl,hg,by rw [ablk_some] at hb;rw [hb];exact hh,r⟩
theorem oD {w : World} {B : Nat} {e : TypeId} {a : OA} {c n : Nat} {xs : List Value} (h : w.ownsRow B e 1 (.slice a n c) n xs) :
  (a=none/\n=0/\c=0)\/(B<=ablk a/\ablk a<w.heap.size):=by
 rcases h.2 with ⟨hv,hn⟩ | ⟨g,cap,cur,hv,hg,hh,r⟩
 ·cases hv;exact .inl ⟨rfl,hn,rfl⟩
 ·cases hv;exact .inr ⟨hg,(Array.getElem?_eq_some_iff.1 hh).1⟩
theorem bY {w : World} {B : Nat} {e : TypeId} : w.ownsRow B e 1 (.slice none 0 0) 0 []:=World.ownsRow_nil _ _ _ _
theorem eO {w : World} {B : Nat} {e : TypeId} {a : OA} {c n : Nat} {xs : List Value} (h : w.ownsRow B e 1 (.slice a n c) n xs) {p : Addr} (u : Value) (hp : a=none\/ablk a ≠ p.block) :
  (w.setCell p u).ownsRow B e 1 (.slice a n c) n xs:=by
 rcases hp with rfl | hp
 ·have h2:=oD h
  refine ⟨h.1,.inl ?_⟩
  rcases h.2 with h2 | ⟨g,cap,cur,hv,_⟩
  ·exact h2
  ·cases hv
 ·exact jG h (Below.heap_setCell _ _ _ _ hp)
theorem aW {w w' : World} {B : Nat} {e : TypeId} {a : OA} {c n : Nat} {xs : List Value} (h : w.ownsRow B e 1 (.slice a n c) n xs) (hb : Below w.heap.size w w') :
  w'.ownsRow B e 1 (.slice a n c) n xs:=by
 refine ⟨h.1,?_⟩
 rcases h.2 with h2 | ⟨g,cap,cur,hv,hg,hh,r⟩
 ·exact .inl h2
 ·exact .inr ⟨g,cap,cur,hv,hg,by rw [hb.block g (Array.getElem?_eq_some_iff.1 hh).1];exact hh,r⟩
theorem aP {w : World} {B B' : Nat} {e : TypeId} {v : Value} {n : Nat} {xs : List Value} (h : w.ownsRow B e 1 v n xs) (hB : B'<=B) : w.ownsRow B' e 1 v n xs:=by
 refine ⟨h.1,?_⟩
 rcases h.2 with h2 | ⟨g,cap,cur,hv,hg,r⟩
 ·exact .inl h2
 ·exact .inr ⟨g,cap,cur,hv,Nat.le_trans hB hg,r⟩
theorem jr {w : World} {B : Nat} {e : TypeId} {v : Value} {n : Nat} {xs : List Value} (h : w.ownsRow B e 1 v n xs) : xs.length=n:=by simpa using h.1
theorem Ints.grown {w w' : World} {a : OA} {n : Nat} {l : Lz} {row : Option Nat} (h : Ints w a n l) (hg : w.grownBy w' row) (hne : 0<n->row ≠ some (ablk a)) : Ints w' a n l :=
 h.of_block λhn=>hg.block _ (h.lt hn) (λe=>hne hn e.symm)
theorem bV {P : Program} {w : World} {ops : Array Oper} {rest : List Oper} {o : Oper} {ac : Act} {Q : Exit->Act->World->Prop}
  (hg : o.guard=none) (l c : Operand) (t e : TypeId) (hop : o.op=Op.makeSlice t l c) (z : Value) (bytes : Nat)
  (h1 : P.underlying t=some (.slice e)) (h2 : (P.info? e).map (λi=>(i.zero,i.size,i.bytes))=some (some z,1,bytes)) (hz : z.cells = #[z])
  (n : Nat) (hl : ac.eval l = .int .i64 n) (hc : ac.eval c = .int .i64 n) (b2 : bytes * n<=281474976710656) (b3 : n<=maxLen)
  (hK : ∀a w',w'.ownsRow w.heap.size e 1 (.slice a n n) n (List.replicate n z)->Below w.heap.size w w'->w.heap.size<=ablk a->ablk a<w'.heap.size->wpList P ops Q rest (ac.put o.dst (.slice a n n)) w') :
  wpList P ops Q (o :: rest) ac w:=by
 obtain ⟨i,hi,hz0,hz1,hz2⟩:=info_parts h2
 refine wpList_make_full w hg l c t hop w.heap.size e i z 1 h1 hi hz0 hz1 .i64 .i64 n n n hl hc rfl rfl (by rw [hz2];exact b2) b3 (Nat.le_refl _) λw' hown hgr=>?_
 refine hK _ w' ?_ ((Below.refl _ _).grown hgr (Nat.le_refl _) (λk hk=>by cases hk)) (by simp) ?_
 ·simpa [hz,toList_madeCells_one] using hown
 ·rcases hown.2 with ⟨hv,_⟩ | ⟨g,cap,cur,hv,_,hh,_⟩
  ·cases hv
  ·cases hv;exact (Array.getElem?_eq_some_iff.1 hh).1
theorem Below.app {B B0 : Nat} {w0 w w' : World} {e : TypeId} {a : OA} {n c : Nat} {xs : List Value} (h : Below B0 w0 w) (hown : w.ownsRow B e 1 (.slice a n c) n xs)
  (hg : w.grownBy w' (Value.slice a n c).ownBlock) (h0 : B0<=B) (h1 : B0<=w.heap.size) : Below B0 w0 w' :=
 h.grown hg h1 λk hk=>Nat.le_trans h0 (hown.lt k hk).1
theorem aw {w w' : World} (hb : Below w.heap.size w w') {a : Addr} {v : Value} (h : w.cell? a=some v) : w'.cell? a=some v :=
 (hb.cell (World.block_lt_of_cell? w a h)).trans h
theorem Below.next {w0 w w' : World} (h : Below w0.heap.size w0 w) (hb : Below w.heap.size w w') : Below w0.heap.size w0 w' :=
 h.trans (hb.mono h.size)
theorem GL {w : World} {B : Nat} {e : TypeId} {a : OA} {n : Nat} {xs : List Value} (h : w.ownsRow B e 1 (.slice a n n) n xs) (hn : 0<n) :
  ∃g,a=some ⟨g,0,none⟩/\B<=g/\w.heap[g]? = some (.cells xs.toArray e (0,0)):=by
 rcases h.2 with ⟨hv,h0⟩ | ⟨g,cap,cur,hv,hg,hh,hle,hm,hs,ht⟩
 ·omega
 ·cases hv
  refine ⟨g,rfl,hg,?_⟩
  rw [hh,<- ht,List.take_of_length_le (by rw [Array.length_toList,hs];exact Nat.le_refl _)]
theorem A8 {w : World} {B : Nat} {e : TypeId} {g n : Nat} {xs : List Value} (hB : B<=g) (h : w.heap[g]? = some (.cells xs.toArray e (0,0))) (hl : xs.length=n) (hm : n<=maxLen) :
  w.ownsRow B e 1 (.slice (some ⟨g,0,none⟩) n n) n xs :=
 ⟨by simpa using hl,.inr ⟨g,n,xs.toArray,rfl,hB,h,Nat.le_refl _,hm,by simpa using hl,by simpa using List.take_of_length_le (by omega)⟩⟩
theorem pG {w : World} {g : Nat} {e : TypeId} {l : Lz} (h : w.heap[g]? = some (.cells (l.map (Value.int .i64)).toArray e (0,0))) (j : Nat) (hj : j<l.length) :
  w.cell? ⟨g,j,none⟩=some (.int .i64 (nth l j))/\w.frozen? ⟨g,j,none⟩=false:=by
 refine ⟨?_,by simp [World.frozen?,h]⟩
 simp [World.cell?,h,nth,hj]
theorem oF {w : World} {g : Nat} {e : TypeId} {l : Lz} (h : w.heap[g]? = some (.cells (l.map (Value.int .i64)).toArray e (0,0))) (j : Nat) (x : Int) :
  (w.setCell ⟨g,j,none⟩ (.int .i64 x)).heap[g]? = some (.cells ((l.set j x).map (Value.int .i64)).toArray e (0,0)):=by
 have:=heap_setCell_same w g j _ e (.int .i64 x) h
 simpa [List.map_set] using this
theorem GB (g j : Nat) : (⟨g,0,none⟩ : Addr).add j=⟨g,j,none⟩:=by unfold Addr.add;split <;> simp_all
theorem yb {w : World} {g : Nat} {e : TypeId} {l : Lz} (h : w.heap[g]? = some (.cells (l.map (Value.int .i64)).toArray e (0,0))) :
  ∀j v,(l.dropLast.map (Value.int .i64))[j]? = some v->w.cell? ((⟨g,0,none⟩ : Addr).add j)=some v:=by
 intro j v hj
 have hlt:=(List.getElem?_eq_some_iff.1 hj).1
 simp only [List.length_map,List.length_dropLast] at hlt
 rw [GB,(pG h j (by omega)).1]
 rw [List.getElem?_map,List.getElem?_dropLast,if_pos hlt,List.getElem?_eq_getElem (by omega)] at hj
 rw [ai (by omega)]
 simpa using hj
theorem A4 (l : Lz) (h : 0<l.length) : splice (l.map (Value.int .i64)) 1 (l.dropLast.map (Value.int .i64))=(nth l 0 :: l.dropLast).map (Value.int .i64):=by
 unfold splice
 match l,h with
 | x :: l,_ =>
  have e : (List.map (Value.int .i64) (x :: l)).drop (1+(List.map (Value.int .i64) (x :: l).dropLast).length)=[]:=by
   apply List.drop_eq_nil_of_le;simp;omega
  rw [e]
  simp [nth]
theorem aX : (Tryz.prog.info? 3).map (λi=>(i.zero,i.size,i.bytes))=some (some (.int .i64 0),1,8):=by kernel_rfl
theorem pV (x p : Int) (m : Nat) (w : World) (hx : 0<=x) (hx2 : x<=9223372036854775807) (hp : 1<=p) (hm : m<=256) :
  Calls Tryz.prog 253 #[.int .i64 x,.int .i64 p,.int .i64 m] w λe w' =>
   ∃a c,e = .returned (.slice a m c)/\Ints w' a m (digs x p m)/\I1 w' w.heap.size a m/\Below w.heap.size w w':=by
 go_enter Tryz.func253,Tryz.ntmps253
 go_wp2_with (at_make;refine bV rfl _ _ 22 3 rfl (.int .i64 0) 8 Tryz.underlying22 aX rfl m rfl rfl (by omega) (by unfold maxLen;omega) ?_;intro a w1 hown hbel hge hlt)
 go_loopw [0,13] (λxv iv wr=>∃k : Nat,k<=m/\iv = .int .i64 k/\xv = .int .i64 (jw x p k) /\
   wr.ownsRow w.heap.size 3 1 (.slice a m m) m ((bT (digs x p k) k m).map (Value.int .i64))/\Below w.heap.size w wr)
  (λ_ i _=>m - (intOf i).toNat)
 case atStart=>exact ⟨0,Nat.zero_le _,rfl,rfl,by simpa [bT,digs] using hown,hbel⟩
 case round =>
  obtain ⟨k,hk,rfl,rfl,hown,hbel⟩:=hrel
  obtain ⟨hints,hmine⟩:=Ints.own hown
  have hq:=si x p hx hp k
  have hpl:=hints.pl
  by_cases hlt : k<m
  ·have hc:=hints.cell k hlt
   have hf:=(hmine (by omega)).2 k hlt
   have hB:=(hmine (by omega)).1
   go_wp2
   go_roundw
   case rel =>
    refine ⟨k+1,by omega,by go_num,rfl,?_,hbel.setCell hB _⟩
    have h:=bC hown k hlt (.int .i64 (jw x p k % p))
    rw [<- List.map_set,dC _ _ _ _ (bl p k x) hlt,<- nH] at h
    exact h
   case measure=>simp [intOf] <;> omega
  ·obtain rfl : k=m:=by omega
   go_wp2
   go_ret
   rw [eh] at hints
   exact ⟨_,_,rfl,hints,hmine,hbel⟩
def db (a : OA) (b : Nat) : Prop:=a=none\/ablk a ≠ b
theorem db.own {a : OA} {b : Nat} (h : db a b) (n c : Nat) : (Value.slice a n c).ownBlock ≠ some b:=by
 rcases h with rfl | h
 ·simp [Value.ownBlock]
 ·cases a with
  | none=>simp [Value.ownBlock]
  | some x=>simpa [Value.ownBlock,ablk] using h
theorem db.kT {a : OA} {b n c : Nat} (h : (Value.slice a n c).ownBlock ≠ some b) : db a b:=by
 cases a with
 | none=>exact .inl rfl
 | some x=>exact .inr (by simpa [Value.ownBlock,ablk] using h)
theorem ml {w : World} {B : Nat} {e : TypeId} {a : OA} {c n : Nat} {xs : List Value} (h : w.ownsRow B e 1 (.slice a n c) n xs) {b : Nat} (hb : b<B) : db a b:=by
 rcases oD h with ⟨rfl,_⟩ | ⟨h1,_⟩
 ·exact .inl rfl
 ·exact .inr (by omega)
theorem fJ {w : World} {B : Nat} {e : TypeId} {a : OA} {c n : Nat} {xs : List Value} (h : w.ownsRow B e 1 (.slice a n c) n xs) (hn : 0<n) : B<=ablk a/\ablk a<w.heap.size:=by
 rcases oD h with ⟨_,h0,_⟩ | h
 ·omega
 ·exact h
theorem bk {P : Program} {w : World} {ops : Array Oper} {rest : List Oper} {o : Oper} {ac : Act} {Q : Exit->Act->World->Prop}
  (hg : o.guard=none) (s x : Operand) (t e : TypeId) (hop : o.op = .call { callee:=.builtin .append,args:=#[s,x],argTypes:=#[t,t] }) (z : Value) (bytes : Nat)
  (h1 : P.underlying t=some (.slice e)) (h2 : (P.info? e).map (λi=>(i.zero,i.size,i.bytes))=some (some z,1,bytes)) (hz : z.cells = #[z])
  (B : Nat) (a : OA) (n c : Nat) (xs : List Value) (hs : ac.eval s = .slice a n c) (hown : w.ownsRow B e 1 (.slice a n c) n xs)
  (ad : Addr) (cc : Nat) (u : Value) (hx : ac.eval x = .slice (some ad) 1 cc) (hu : w.cell? ad=some u) (h1c : u.oneCell'=true)
  (b2 : (n+1) * bytes<=140737488355328) (b3 : n+1<=maxLen) (hB : B<=w.heap.size)
  (hK : ∀a' c' w',w'.ownsRow B e 1 (.slice a' (n+1) c') (n+1) (xs ++ [u])->w.grownBy w' (Value.slice a n c).ownBlock->(∀b,b<w.heap.size->db a b->db a' b)->wpList P ops Q rest (ac.put o.dst (.slice a' (n+1) c')) w') :
  wpList P ops Q (o :: rest) ac w:=by
 obtain ⟨i,hi,hz0,hz1,hz2⟩:=info_parts h2
 refine wpList_append_own_at w hg s x t hop B e i z 1 bytes h1 hi hz0 hz1 hz2 (by rw [hz];rfl) (by decide) _ n xs hs hown ad 1 cc [u] hx rfl ?_ ?_ b3 b2 hB λv' w' hown' hgr _ hat=>?_
 ·intro j v hj
  match j,hj with
  | 0,hj=>simp at hj;subst hj;simpa [Addr.add] using hu
 ·intro v hv;simp at hv;subst hv;exact h1c
 ·obtain ⟨a',c',rfl,_⟩:=Pl.own hown'
  refine hK a' c' w' hown' hgr λb hb hapt=>?_
  have h:=hapt.own n c
  rcases hat with h3 | h3
  ·exact db.kT (n:=n+1) (c:=c') (by rw [h3];exact h)
  ·exact db.kT (n:=n+1) (c:=c') (by rw [h3];intro h4;cases h4;omega)
theorem Ints.pc {w w' : World} {a ao : OA} {n m c : Nat} {l : Lz} (h : Ints w a n l) (hg : w.grownBy w' (Value.slice ao m c).ownBlock) (hne : 0<n->db ao (ablk a)) : Ints w' a n l :=
 h.grown hg λhn=>(hne hn).own m c
theorem eK {w w' : World} {B : Nat} {e : TypeId} {a ao : OA} {n c m c' : Nat} {xs : List Value} (h : w.ownsRow B e 1 (.slice a n c) n xs) (hg : w.grownBy w' (Value.slice ao m c').ownBlock) (hne : db ao (ablk a)) :
  w'.ownsRow B e 1 (.slice a n c) n xs:=by
 rcases oD h with ⟨rfl,rfl,rfl⟩ | ⟨_,hlt⟩
 ·have hx:=jr h
  obtain rfl : xs=[]:=List.eq_nil_of_length_eq_zero hx
  exact bY
 ·exact jG h (hg.block _ hlt (λe=>hne.own m c' e.symm))
theorem bK {w w' : World} {ao : OA} {m c : Nat} {ad : Addr} {v : Value} (hg : w.grownBy w' (Value.slice ao m c).ownBlock) (h : w.cell? ad=some v) (hne : db ao ad.block) : w'.cell? ad=some v :=
 hg.cell h (λe=>hne.own m c e.symm)
theorem zU (w : World) (l : Lz) (e : TypeId) {B : Nat} (hB : B<=w.heap.size) (hl : l.length<=maxLen) :
  (w.alloc (.cells (l.map (Value.int .i64)).toArray e)).ownsRow B e 1 (.slice (some ⟨w.heap.size,0,none⟩) l.length l.length) l.length (l.map (Value.int .i64)):=by
 simpa using World.ownsRow_lit w (l.map (Value.int .i64)).toArray l.length hB hl (by simp)
theorem xN {P : Int} (hP : 0<P) (M : Nat) (mod : Lz) (x y : Int) : 0<=dz P M mod x y/\dz P M mod x y<P ^ M:=by
 have:=pZ hP (fB P (nX M mod) (digs x P M) (digs y P M) M M) (cR.fB hP _ _ _ _ _)
 rwa [iU] at this
def powTo (mul : Int->Int) : Nat->Lz->Int->Lz
 | 0,l,_=>l
 | n+1,l,y=>if y=0\/y ∈ l then l else powTo mul n (l ++ [y]) (mul y)
theorem j5 (mul : Int->Int) (n : Nat) (l : Lz) (y : Int) (h : y=0\/y ∈ l) : powTo mul n l y=l:=by
 cases n
 ·rfl
 ·rw [powTo,if_pos h]
theorem sJ (mul : Int->Int) (n : Nat) (l : Lz) (y : Int) (h : ¬ (y=0\/y ∈ l)) : powTo mul (n+1) l y=powTo mul n (l ++ [y]) (mul y):=by
 rw [powTo,if_neg h]
def fQ (P : Int) (M : Nat) (mod : Lz) (q : Nat) (x : Int) : Lz:=powTo (λy=>dz P M mod y x) q [1] x
def gw (P : Int) (M : Nat) (mod : Lz) (q : Nat) (x : Int) : Bool :=
 (fQ P M mod q x).length == q - 1 && dz P M mod (nth (fQ P M mod q x) (q - 2)) x == 1
def genTo (P : Int) (M : Nat) (mod : Lz) (q : Nat) : Nat->Nat->Lz
 | 0,_=>[]
 | n+1,x=>if gw P M mod q x then fQ P M mod q x else genTo P M mod q n (x+1)
def gK (P : Int) (M : Nat) (mod : Lz) (q : Nat) : Lz:=genTo P M mod q (q - 1) 1
def cntF : List Bool->Nat
 | []=>0
 | b :: l=>(if b then 0 else 1)+cntF l
theorem tE : ∀(l : List Bool) (i : Nat),l[i]? = some false->cntF (l.set i true)+1=cntF l
 | [],i,h=>by simp at h
 | b :: l,0,h=>by simp at h;subst h;simp [cntF];omega
 | b :: l,i+1,h=>by simp at h;have:=tE l i h;simp [cntF];omega
theorem td (n : Nat) : cntF (List.replicate n false)=n:=by
 induction n with
 | zero=>rfl
 | succ n ih=>simp [List.replicate_succ,cntF,ih];omega
theorem yE (mul : Int->Int) (Q : Int) (hm : ∀y,0<=mul y/\mul y<Q) : ∀(n : Nat) (l : Lz) (y : Int),0<=y/\y<Q->(∀e ∈ l,0<=e/\e<Q)->∀e ∈ powTo mul n l y,0<=e/\e<Q
 | 0,l,_,_,hl=>hl
 | n+1,l,y,hy,hl=>by
  unfold powTo
  split
  ·exact hl
  ·refine yE mul Q hm n _ _ (hm y) λe he=>?_
   rcases List.mem_append.1 he with h | h
   ·exact hl e h
   ·rw [List.mem_singleton.1 h];exact hy
theorem GY {P : Int} (hP : 0<P) (M : Nat) (mod : Lz) (q : Nat) (x : Int) (hq : (q : Int)=P ^ M) (hq2 : 2<=q) (hx : 0<=x) (hx2 : x<q) : ∀e ∈ fQ P M mod q x,0<=e/\e<q:=by
 refine yE _ _ (λy=>by rw [hq];exact xN hP M mod y x) _ _ _ ⟨hx,hx2⟩ λe he=>?_
 rw [List.mem_singleton.1 he];omega
theorem rS {P : Int} (hP : 0<P) (M : Nat) (mod : Lz) (q : Nat) (x : Int) (hq : (q : Int)=P ^ M) (hq2 : 2<=q) (hx : 0<=x) (hx2 : x<q) (i : Nat) : 0<=nth (fQ P M mod q x) i/\nth (fQ P M mod q x) i<q:=by
 rcases Nat.lt_or_ge i (fQ P M mod q x).length with h | h
 ·exact GY hP M mod q x hq hq2 hx hx2 _ (aN h)
 ·rw [jn h];omega
def fsum (P : Int) : Nat->Int->Int->Int
 | 0,_,_=>0
 | m+1,x,y=>(x+y) % P+P * fsum P m (x / P) (y / P)
def fneg (P : Int) : Nat->Int->Int
 | 0,_=>0
 | m+1,x=>(P - x % P) % P+P * fneg P m (x / P)
theorem vQ (P : Int) : ∀m,fsum P m 0 0=0
 | 0=>rfl
 | m+1=>by simp [fsum,vQ P m]
theorem vG (P : Int) : ∀m,fneg P m 0=0
 | 0=>rfl
 | m+1=>by simp [fneg,vG P m]
theorem xH {P : Int} (hP : 0<P) : ∀(m : Nat) (x y : Int),0<=fsum P m x y/\fsum P m x y<P ^ m
 | 0,x,y=>by simp [fsum]
 | m+1,x,y=>by
  have ih:=xH hP m (x / P) (y / P)
  have h1:=Int.emod_nonneg (x+y) (show P ≠ 0 by omega)
  have h2:=Int.emod_lt_of_pos (x+y) hP
  have h3 : 0<=P * fsum P m (x / P) (y / P):=Int.mul_nonneg (by omega) ih.1
  have h4:=Int.mul_le_mul_of_nonneg_left (show fsum P m (x / P) (y / P)+1<=P ^ m by omega) (show 0<=P by omega)
  rw [Int.mul_add] at h4
  simp only [fsum,Int.pow_succ]
  rw [Int.mul_comm (P ^ m)]
  omega
theorem sq {P : Int} (hP : 0<P) : ∀(m : Nat) (x : Int),0<=fneg P m x/\fneg P m x<P ^ m
 | 0,x=>by simp [fneg]
 | m+1,x=>by
  have ih:=sq hP m (x / P)
  have h1:=Int.emod_nonneg (P - x % P) (show P ≠ 0 by omega)
  have h2:=Int.emod_lt_of_pos (P - x % P) hP
  have h3 : 0<=P * fneg P m (x / P):=Int.mul_nonneg (by omega) ih.1
  have h4:=Int.mul_le_mul_of_nonneg_left (show fneg P m (x / P)+1<=P ^ m by omega) (show 0<=P by omega)
  rw [Int.mul_add] at h4
  simp only [fneg,Int.pow_succ]
  rw [Int.mul_comm (P ^ m)]
  omega
theorem ph (P : Int) (hP : 0<P) : ∀(m : Nat) (x : Int),0<=x->x<P ^ m->jw x P m=0
 | 0,x,h0,h1=>by simp at h1;simp [jw];omega
 | m+1,x,h0,h1=>by
  rw [qw]
  refine ph P hP m (x / P) (Int.ediv_nonneg h0 (by omega)) ?_
  rw [Int.pow_succ] at h1
  exact Int.ediv_lt_of_lt_mul hP h1
theorem FZ (x y : Nat) : (x ^^^ y) % 2=(x+y) % 2:=by
 have h:=Nat.testBit_xor x y 0
 simp only [Nat.testBit_zero] at h
 have hx:=Nat.mod_two_eq_zero_or_one x
 have hy:=Nat.mod_two_eq_zero_or_one y
 have hz:=Nat.mod_two_eq_zero_or_one (x ^^^ y)
 rcases hx with hx | hx <;> rcases hy with hy | hy <;> rcases hz with hz | hz <;> simp [hx,hy,hz] at h <;> omega
theorem Ah : ∀(m : Nat) (x y : Nat),x<2 ^ m->y<2 ^ m->((x ^^^ y : Nat) : Int)=fsum 2 m x y
 | 0,x,y,hx,hy=>by
  have h1 : x=0:=by simp at hx;omega
  have h2 : y=0:=by simp at hy;omega
  subst h1;subst h2;rfl
 | m+1,x,y,hx,hy=>by
  have ih:=Ah m (x / 2) (y / 2) (by rw [Nat.pow_succ] at hx;omega) (by rw [Nat.pow_succ] at hy;omega)
  simp only [fsum]
  have e1 : ((x : Int) / 2)=((x / 2 : Nat) : Int):=by omega
  have e2 : ((y : Int) / 2)=((y / 2 : Nat) : Int):=by omega
  rw [e1,e2,<- ih,<- Nat.xor_div_two]
  have h3 : (x ^^^ y) % 2=(x+y) % 2:=FZ x y
  omega
theorem sd {P : Program} (w : World) (t ty e : TypeId) (i : TypeInfo) (ht : P.underlying t=some (.slice e)) (hi : P.info? e=some i) (a ao : OA) (n c cs : Nat) (hn : n<=c) :
  (Builtin.append_ #[t,t] ty #[.slice a n c,.slice ao 0 cs]).run P w = .ok (.slice a n c) w:=by
 cases a <;> cases ao <;> simp [Builtin.append_,run_underlying ht,sizeOf,typeInfo,hi,Builtin.lenOf,Builtin.firstCells,hn,storeCells,loadCells,loadCellsFrom]
theorem pR {w : World} {B : Nat} {e : TypeId} {a : OA} {c n : Nat} {xs : List Value} (h : w.ownsRow B e 1 (.slice a n c) n xs) : n<=c:=by
 rcases h.2 with ⟨hv,h0⟩ | ⟨g,cap,cur,hv,hg,hh,hle,_⟩
 ·omega
 ·cases hv;exact hle
theorem tY {P : Program} {w : World} (t ty e : TypeId) (z : Value) (bytes : Nat)
  (h1 : P.underlying t=some (.slice e)) (h2 : (P.info? e).map (λi=>(i.zero,i.size,i.bytes))=some (some z,1,bytes)) (hz : z.cells = #[z])
  (B : Nat) (a : OA) (n c : Nat) (xs : List Value) (hown : w.ownsRow B e 1 (.slice a n c) n xs)
  (ao : OA) (m cc : Nat) (news : List Value) (hp : Pl ao m) (hl : news.length=m) (hc : ∀j,j<m->w.cell? ⟨ablk ao,aJ ao+j,none⟩=news[j]?) (h1c : ∀u ∈ news,u.oneCell'=true)
  (b2 : (n+m) * bytes<=140737488355328) (b3 : n+m<=maxLen) (hB : B<=w.heap.size) :
  ∃a' c' w',(Builtin.append_ #[t,t] ty #[.slice a n c,.slice ao m cc]).run P w = .ok (.slice a' (n+m) c') w'/\w'.ownsRow B e 1 (.slice a' (n+m) c') (n+m) (xs ++ news) /\
   w.grownBy w' (Value.slice a n c).ownBlock/\(∀b,b<w.heap.size->db a b->db a' b):=by
 obtain ⟨i,hi,hz0,hz1,hz2⟩:=info_parts h2
 by_cases hm : m=0
 ·subst hm
  obtain rfl : news=[]:=List.eq_nil_of_length_eq_zero hl
  exact ⟨a,c,w,sd w t ty e i h1 hi a ao n c cc (pR hown),by simpa using hown,World.grownBy.refl _ _,λb _ h=>h⟩
 ·have hao:=hp (by omega)
  obtain ⟨v',w',hr,h3,h4,_,h6⟩:=run_append_own_at (P:=P) w B t ty e i z 1 bytes h1 hi hz0 hz1 hz2 (by rw [hz];rfl) (by decide) _ n xs hown ⟨ablk ao,aJ ao,none⟩ m cc news (by omega)
   (λj u hu=>by
    have hj:=(List.getElem?_eq_some_iff.1 hu).1
    rw [Addr.add_lit,hc j (by omega)];exact hu) h1c b3 b2 hB
  obtain ⟨a',c',rfl,_⟩:=Pl.own h3
  refine ⟨a',c',w',by rw [hao];exact hr,h3,h4,λb hb hapt=>?_⟩
  have h:=hapt.own n c
  rcases h6 with h6 | h6
  ·exact db.kT (n:=n+m) (c:=c') (by rw [h6];exact h)
  ·exact db.kT (n:=n+m) (c:=c') (by rw [h6];intro h7;cases h7;omega)
theorem eZ {P : Program} {w : World} {ops : Array Oper} {rest : List Oper} {o : Oper} {ac : Act} {Q : Exit->Act->World->Prop}
  (hg : o.guard=none) (s x : Operand) (t e : TypeId) (hop : o.op = .call { callee:=.builtin .append,args:=#[s,x],argTypes:=#[t,t] }) (z : Value) (bytes : Nat)
  (h1 : P.underlying t=some (.slice e)) (h2 : (P.info? e).map (λi=>(i.zero,i.size,i.bytes))=some (some z,1,bytes)) (hz : z.cells = #[z])
  (B : Nat) (a : OA) (n c : Nat) (xs : List Value) (hs : ac.eval s = .slice a n c) (hown : w.ownsRow B e 1 (.slice a n c) n xs)
  (ao : OA) (m cc : Nat) (news : List Value) (hx : ac.eval x = .slice ao m cc) (hp : Pl ao m) (hl : news.length=m) (hc : ∀j,j<m->w.cell? ⟨ablk ao,aJ ao+j,none⟩=news[j]?) (h1c : ∀u ∈ news,u.oneCell'=true)
  (b2 : (n+m) * bytes<=140737488355328) (b3 : n+m<=maxLen) (hB : B<=w.heap.size)
  (hK : ∀a' c' w',w'.ownsRow B e 1 (.slice a' (n+m) c') (n+m) (xs ++ news)->w.grownBy w' (Value.slice a n c).ownBlock->(∀b,b<w.heap.size->db a b->db a' b)->wpList P ops Q rest (ac.put o.dst (.slice a' (n+m) c')) w') :
  wpList P ops Q (o :: rest) ac w:=by
 refine wpList_plain hg λK hK'=>?_
 obtain ⟨a',c',w',hr,h3,h4,h5⟩:=tY (P:=P) t o.type e z bytes h1 h2 hz B a n c xs hown ao m cc news hp hl hc h1c b2 b3 hB
 unfold Oper.wp execOp
 simp only [hop,resolve,invoke,builtin,Sem.run_bind,Sem.run_pure,Result.andThen_ok,List.map_toArray,List.map_cons,List.map_nil,hs,hx,hr]
 exact hK' _ _ (hK a' c' w' h3 h4 h5)
theorem bg {P : Program} {w : World} {ops : Array Oper} {o : Oper} {ac : Act} {K : Act->World->Prop} {Q : Exit->Act->World->Prop} {E : Prop}
  (hg : o.guard=none) (s x : Operand) (t e : TypeId) (hop : o.op = .call { callee:=.builtin .append,args:=#[s,x],argTypes:=#[t,t] }) (z : Value) (bytes : Nat)
  (h1 : P.underlying t=some (.slice e)) (h2 : (P.info? e).map (λi=>(i.zero,i.size,i.bytes))=some (some z,1,bytes)) (hz : z.cells = #[z])
  (B : Nat) (a : OA) (n c : Nat) (xs : List Value) (hs : ac.eval s = .slice a n c) (hown : w.ownsRow B e 1 (.slice a n c) n xs)
  (ao : OA) (m cc : Nat) (news : List Value) (hx : ac.eval x = .slice ao m cc) (hp : Pl ao m) (hl : news.length=m) (hc : ∀j,j<m->w.cell? ⟨ablk ao,aJ ao+j,none⟩=news[j]?) (h1c : ∀u ∈ news,u.oneCell'=true)
  (b2 : (n+m) * bytes<=140737488355328) (b3 : n+m<=maxLen) (hB : B<=w.heap.size)
  (hK : ∀a' c' w',w'.ownsRow B e 1 (.slice a' (n+m) c') (n+m) (xs ++ news)->w.grownBy w' (Value.slice a n c).ownBlock->(∀b,b<w.heap.size->db a b->db a' b)->K (ac.put o.dst (.slice a' (n+m) c')) w') :
  if Region.wanted o (yielded ops ac.tmps)=true then Oper.wp P o ac w K Q else E:=by
 have hw : Region.wanted o (yielded ops ac.tmps)=true:=by simp [Region.wanted,hg]
 rw [if_pos hw]
 obtain ⟨a',c',w',hr,h3,h4,h5⟩:=tY (P:=P) t o.type e z bytes h1 h2 hz B a n c xs hown ao m cc news hp hl hc h1c b2 b3 hB
 unfold Oper.wp execOp
 simp only [hop,resolve,invoke,builtin,Sem.run_bind,Sem.run_pure,Result.andThen_ok,List.map_toArray,List.map_cons,List.map_nil,hs,hx,hr]
 exact hK a' c' w' h3 h4 h5
theorem run_mk {P : Program} (t e : TypeId) (z : Value) (bytes : Nat) (h1 : P.underlying t=some (.slice e)) (h2 : (P.info? e).map (λi=>(i.zero,i.size,i.bytes))=some (some z,1,bytes)) (hz : z.cells = #[z])
  (n : Nat) (b2 : bytes * n<=281474976710656) (b3 : n<=9223372036854775807) (w : World) :
  (Instr.makeSlice t (.int .i64 n) (.int .i64 n)).run P w = .ok (.slice (some ⟨w.heap.size,0,none⟩) n n) (w.alloc (.cells (List.replicate n z).toArray e)):=by
 obtain ⟨i,hi,hz0,hz1,hz2⟩:=info_parts h2
 have h:=run_make (P:=P) w t e i z h1 hi hz0 .i64 .i64 n n (by omega) (Int.le_refl _) (by rw [hz2];omega) (by omega)
 rw [hz1,Nat.mul_one,hz,Int.toNat_natCast] at h
 rw [h]
 congr 3
 rw [<- toList_madeCells_one]
theorem uk (w : World) (e : TypeId) (z : Value) (n : Nat) {B : Nat} (hB : B<=w.heap.size) (hn : n<=maxLen) :
  (w.alloc (.cells (List.replicate n z).toArray e)).ownsRow B e 1 (.slice (some ⟨w.heap.size,0,none⟩) n n) n (List.replicate n z):=by
 simpa using World.ownsRow_lit w (List.replicate n z).toArray n hB hn (by simp)
theorem Ints.news {w : World} {a : OA} {n : Nat} {l : Lz} (h : Ints w a n l) : ∀j,j<n->w.cell? ⟨ablk a,aJ a+j,none⟩=(l.map (Value.int .i64))[j]?:=by
 intro j hj
 rw [h.cell j hj,List.getElem?_map,List.getElem?_eq_getElem (by rw [h.len];exact hj),ai (by rw [h.len];exact hj)]
 rfl
theorem Below.bQ {w0 w : World} (h : Below w0.heap.size w0 w) (o : Obj) : Below w0.heap.size w0 (w.alloc o):=h.alloc h.size o
theorem fK (w : World) (e : TypeId) : (w.alloc (.cells #[] e)).ownsRow w.heap.size e 1 (.slice (some ⟨w.heap.size,0,none⟩) 0 0) 0 [] :=
 World.ownsRow_made w #[] 0 (Nat.le_refl _) (Nat.zero_le _) rfl
theorem aH (w : World) (cs : Array Value) (e : TypeId) {g : Nat} (hg : g=w.heap.size) (i : Nat) : (w.alloc (.cells cs e)).cell? ⟨g,i,none⟩=cs[i]?:=by
 subst hg;exact World.cell?_alloc_new ..
theorem lN (w : World) (e : TypeId) (z : Value) (n : Nat) {B g : Nat} (hg : g=w.heap.size) (hB : B<=w.heap.size) (hn : n<=maxLen) :
  (w.alloc (.cells (Array.replicate n z) e)).ownsRow B e 1 (.slice (some ⟨g,0,none⟩) n n) n (List.replicate n z):=by
 subst hg;simpa using uk w e z n hB hn
theorem pW {w w' : World} {row : Option Nat} (h : w.drew.grownBy w' row) : w.grownBy w' row:=⟨h.os,h.tape,h.output,h.size,h.block⟩
section
def sm : Nat->(Nat->Int)->Int
 | 0,_=>0
 | n+1,f=>sm n f+f n
theorem cF {n : Nat} {f g : Nat->Int} (h : ∀i,i<n->f i=g i) : sm n f=sm n g:=by
 induction n with
 | zero=>rfl
 | succ n ih=>rw [sm,sm,ih λi hi=>h i (by omega),h n (by omega)]
theorem wz (n : Nat) (f g : Nat->Int) : sm n (λi=>f i+g i)=sm n f+sm n g:=by
 induction n with
 | zero=>rfl
 | succ n ih=>simp only [sm,ih];omega
theorem kn (n : Nat) : sm n (λ_=>0)=0:=by
 induction n with
 | zero=>rfl
 | succ n ih=>simp only [sm,ih];rfl
theorem FP (n : Nat) (c : Int) (f : Nat->Int) : sm n (λi=>c * f i)=c * sm n f:=by
 induction n with
 | zero=>simp [sm]
 | succ n ih=>simp only [sm,ih,Int.mul_add]
theorem CO (n m : Nat) (f : Nat->Nat->Int) : sm n (λi=>sm m (λj=>f i j))=sm m (λj=>sm n (λi=>f i j)):=by
 induction n with
 | zero=>simp only [sm];rw [kn]
 | succ n ih=>simp only [sm,ih,wz]
theorem Jf {n : Nat} {f : Nat->Int} {P : Int} (h : ∀i,i<n->P ∣ f i) : P ∣ sm n f:=by
 induction n with
 | zero=>exact ⟨0,by simp [sm]⟩
 | succ n ih=>exact Int.dvd_add (ih λi hi=>h i (by omega)) (h n (by omega))
theorem kY {n : Nat} {f : Nat->Int} {k : Nat} (hk : k<n) (h : ∀i,i<n->i ≠ k->f i=0) : sm n f=f k:=by
 induction n with
 | zero=>omega
 | succ n ih =>
  rw [sm]
  by_cases e : k=n
  ·subst e
   rw [cF (g:=λ_=>0) λi hi=>h i (by omega) (by omega),kn];omega
  ·rw [ih (by omega) λi hi=>h i (by omega),h n (by omega) (by omega)];omega
theorem EV (n : Nat) (f : Nat->Int) : sm (n+1) f=f 0+sm n (λi=>f (i+1)):=by
 induction n with
 | zero=>simp [sm]
 | succ n ih=>rw [sm,ih];simp only [sm];omega
def uJ (M : Nat) (low : Nat->Int) (v : Nat->Int) : Nat->Int :=
 λi=>if i<M then (if i=0 then 0 else v (i - 1)) - v (M - 1) * low i else 0
def fV (M : Nat) (low : Nat->Int) : Nat->(Nat->Int)->Nat->Int
 | 0,v=>v
 | k+1,v=>uJ M low (fV M low k v)
variable {M : Nat} {low : Nat->Int}
theorem Ia (u v : Nat->Int) : uJ M low (λi=>u i+v i)=λi=>uJ M low u i+uJ M low v i:=by
 funext i;simp only [uJ];split
 ·split
  ·rw [Int.add_mul];omega
  ·rw [Int.add_mul];omega
 ·rfl
theorem FJ (c : Int) (v : Nat->Int) : uJ M low (λi=>c * v i)=λi=>c * uJ M low v i:=by
 funext i;simp only [uJ];split
 ·split
  ·rw [Int.mul_sub,Int.mul_zero,Int.mul_assoc]
  ·rw [Int.mul_sub,Int.mul_assoc]
 ·rw [Int.mul_zero]
theorem CE (k : Nat) (u v : Nat->Int) : fV M low k (λi=>u i+v i)=λi=>fV M low k u i+fV M low k v i:=by
 induction k with
 | zero=>rfl
 | succ k ih=>rw [fV,ih,Ia];rfl
theorem lL (k : Nat) (c : Int) (v : Nat->Int) : fV M low k (λi=>c * v i)=λi=>c * fV M low k v i:=by
 induction k with
 | zero=>rfl
 | succ k ih=>rw [fV,ih,FJ];rfl
theorem yu (k : Nat) : fV M low k (λ_=>0)=λ_=>0:=by
 have:=lL (M:=M) (low:=low) k 0 (λ_=>0)
 simpa using this
theorem xL (k n : Nat) (f : Nat->Nat->Int) : fV M low k (λi=>sm n (λj=>f j i))=λi=>sm n (λj=>fV M low k (f j) i):=by
 induction n with
 | zero=>simp only [sm];exact yu k
 | succ n ih=>simp only [sm];rw [CE,ih]
theorem oU (k l : Nat) (v : Nat->Int) : fV M low (k+l) v=fV M low k (fV M low l v):=by
 induction k with
 | zero=>rw [Nat.zero_add];rfl
 | succ k ih=>rw [show k+1+l=(k+l)+1 by omega,fV,fV,ih]
def eV (j : Nat) : Nat->Int:=λi=>if i=j then 1 else 0
def Sh (M : Nat) (v : Nat->Int) : Prop:=∀i,M<=i->v i=0
theorem F9 (v : Nat->Int) : Sh M (uJ M low v):=λi hi=>by simp only [uJ];rw [if_neg (by omega)]
theorem IP {v : Nat->Int} (h : Sh M v) (k : Nat) : Sh M (fV M low k v):=by
 cases k with
 | zero=>exact h
 | succ k=>exact F9 _
theorem Cs (j : Nat) (hj : j<M) : fV M low j (eV 0)=eV j:=by
 induction j with
 | zero=>rfl
 | succ j ih =>
  rw [fV,ih (by omega)]
  funext i
  simp only [uJ,eV]
  by_cases h : i<M
  ·rw [if_pos h,if_neg (show ¬ M - 1=j by omega)]
   by_cases h0 : i=0
   ·rw [if_pos h0,if_neg (by omega)];omega
   ·rw [if_neg h0]
    by_cases h1 : i=j+1
    ·rw [if_pos h1,if_pos (by omega)];omega
    ·rw [if_neg h1,if_neg (by omega)];omega
  ·rw [if_neg h,if_neg (by omega)]
theorem Sh.expand {v : Nat->Int} (h : Sh M v) : v=λk=>sm M (λj=>v j * fV M low j (eV 0) k):=by
 funext k
 rw [cF (g:=λj=>v j * eV j k) λj hj=>by rw [Cs j hj]]
 by_cases hk : k<M
 ·rw [kY hk λi hi hne=>by simp only [eV];rw [if_neg (by omega)];omega]
  simp [eV]
 ·rw [h k (by omega),cF (g:=λ_=>0) λj hj=>by simp only [eV];rw [if_neg (by omega)];omega,kn]
def gS (M : Nat) (low : Nat->Int) (x y : Nat->Int) : Nat->Int:=λk=>sm M (λi=>x i * fV M low i y k)
theorem Ii {x y : Nat->Int} (hy : Sh M y) : Sh M (gS M low x y):=λk hk=>by
 simp only [gS]
 rw [cF (g:=λ_=>0) λi _=>by rw [IP hy i k hk];omega,kn]
theorem mD {x y : Nat->Int} (hy : Sh M y) : gS M low x y=λk=>sm M (λi=>sm M (λj=>x i * y j * fV M low (i+j) (eV 0) k)):=by
 funext k
 simp only [gS]
 refine cF λi _=>?_
 have e : fV M low i y=fV M low i (λk=>sm M (λj=>y j * fV M low j (eV 0) k)):=congrArg _ hy.expand
 rw [e,xL]
 simp only
 rw [<- FP]
 refine cF λj _=>?_
 rw [lL,oU,Int.mul_assoc]
theorem nF {x y : Nat->Int} (hx : Sh M x) (hy : Sh M y) : gS M low x y=gS M low y x:=by
 rw [mD hx,mD hy]
 funext k
 rw [CO]
 refine cF λi _=>cF λj _=>?_
 rw [Int.mul_comm (x j),Nat.add_comm j i]
theorem vM (x y z : Nat->Int) : gS M low x (gS M low y z)=λk=>sm M (λi=>sm M (λj=>x i * y j * fV M low (i+j) z k)):=by
 funext k
 refine cF λi _=>?_
 rw [show gS M low y z=(λk=>sm M (λj=>y j * fV M low j z k)) from rfl,xL]
 simp only
 rw [<- FP]
 refine cF λj _=>?_
 rw [lL,oU,Int.mul_assoc]
theorem vf (x y z : Nat->Int) : gS M low x (gS M low y z)=gS M low y (gS M low x z):=by
 rw [vM,vM]
 funext k
 rw [CO]
 refine cF λi _=>cF λj _=>?_
 rw [Int.mul_comm (x j),Nat.add_comm j i]
theorem B1 {x y z : Nat->Int} (hx : Sh M x) (hy : Sh M y) (hz : Sh M z) : gS M low (gS M low x y) z=gS M low x (gS M low y z):=by
 rw [nF (Ii hy) hz,vf,nF hz hy]
theorem ED {x : Nat->Int} (hM : 0<M) (hx : Sh M x) : gS M low (eV 0) x=x:=by
 funext k
 simp only [gS]
 rw [kY hM λi _ hne=>by simp only [eV];rw [if_neg hne];omega]
 simp [eV,fV]
theorem uS (x y z : Nat->Int) : gS M low x (λi=>y i+z i)=λk=>gS M low x y k+gS M low x z k:=by
 funext k
 simp only [gS]
 rw [<- wz]
 refine cF λi _=>?_
 rw [CE,Int.mul_add]
def Cg (P : Int) (u v : Nat->Int) : Prop:=∀i,P ∣ u i - v i
theorem Cg.refl (P : Int) (u : Nat->Int) : Cg P u u:=λi=>⟨0,by omega⟩
theorem Cg.symm {P : Int} {u v : Nat->Int} (h : Cg P u v) : Cg P v u:=λi=>by
 obtain ⟨c,hc⟩:=h i;exact ⟨-c,by rw [Int.mul_neg];omega⟩
theorem Cg.trans {P : Int} {u v x : Nat->Int} (h : Cg P u v) (k : Cg P v x) : Cg P u x:=λi=>by
 obtain ⟨c,hc⟩:=h i;obtain ⟨d,hd⟩:=k i;exact ⟨c+d,by rw [Int.mul_add];omega⟩
theorem Cg.of_eq {P : Int} {u v : Nat->Int} (h : u=v) : Cg P u v:=h ▸ Cg.refl P u
theorem EE {P : Int} {u v : Nat->Int} (h : Cg P u v) : Cg P (uJ M low u) (uJ M low v):=λi=>by
 simp only [uJ]
 split
 ·obtain ⟨c,hc⟩:=h (M - 1)
  have e : u (M - 1) * low i - v (M - 1) * low i=P * (c * low i):=by rw [<- Int.sub_mul,hc,Int.mul_assoc]
  split
  ·exact ⟨-(c * low i),by rw [Int.mul_neg,<- e];omega⟩
  ·obtain ⟨d,hd⟩:=h (i - 1)
   exact ⟨d - c * low i,by rw [Int.mul_sub,<- e,<- hd];omega⟩
 ·exact ⟨0,by omega⟩
theorem IV {P : Int} {u v : Nat->Int} (h : Cg P u v) (k : Nat) : Cg P (fV M low k u) (fV M low k v):=by
 induction k with
 | zero=>exact h
 | succ k ih=>exact EE ih
theorem Cg.add {P : Int} {u v x y : Nat->Int} (h : Cg P u v) (k : Cg P x y) : Cg P (λi=>u i+x i) (λi=>v i+y i):=λi=>by
 obtain ⟨c,hc⟩:=h i;obtain ⟨d,hd⟩:=k i;exact ⟨c+d,by simp only [Int.mul_add];omega⟩
theorem Ao {P a b c d : Int} (h : P ∣ a - b) (k : P ∣ c - d) : P ∣ a * c - b * d:=by
 obtain ⟨x,hx⟩:=h;obtain ⟨y,hy⟩:=k
 have ea : a=b+P * x:=by omega
 have ec : c=d+P * y:=by omega
 refine ⟨x * d+b * y+P * x * y,?_⟩
 rw [ea,ec]
 simp only [Int.add_mul,Int.mul_add]
 have e1 : b * (P * y)=P * (b * y):=by rw [<- Int.mul_assoc,Int.mul_comm b P,Int.mul_assoc]
 have e2 : P * x * (P * y)=P * (P * x * y):=by rw [<- Int.mul_assoc,Int.mul_comm (P * x) P,Int.mul_assoc]
 have e3 : P * (x * d)=P * x * d:=by rw [Int.mul_assoc]
 rw [e1,e2,e3];omega
theorem yi {P : Int} {u v x y : Nat->Int} (h : Cg P u v) (k : Cg P x y) : Cg P (gS M low u x) (gS M low v y):=λi=>by
 simp only [gS]
 have e : sm M (λj=>u j * fV M low j x i) - sm M (λj=>v j * fV M low j y i)=sm M (λj=>u j * fV M low j x i - v j * fV M low j y i):=by
  have:=wz M (λj=>u j * fV M low j x i - v j * fV M low j y i) (λj=>v j * fV M low j y i)
  have e2 : sm M (λj=>u j * fV M low j x i - v j * fV M low j y i+v j * fV M low j y i)=sm M (λj=>u j * fV M low j x i):=cF λj _=>by omega
  omega
 rw [e]
 exact Jf λj _=>Ao (h j) (IV k j i)
end
section
variable {P : Program} {ops : Array Oper} {Q : Exit->Act->World->Prop} {md : Region.Mode} {S : World->Prop} {n : Nat}
end
end Go.Proofs.YtcfmiocdlcapoaaGreat
