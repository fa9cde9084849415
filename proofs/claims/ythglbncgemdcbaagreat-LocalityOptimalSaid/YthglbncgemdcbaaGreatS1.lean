import Derived.Test.YthglbncgemdcbaaGreatS0
import Derived.WalkSpells
import Derived.WalkLawsBesides
import Derived.Laws.CopyOwn
import Derived.Maps.AppendAt
import Derived.Deep.RegionLaw
import Derived.StillTail
import Derived.OrdersHeld
import Derived.Deep.RegionHeld
namespace Go.Proofs.YthglbncgemdcbaaGreat
set_option linter.all false
set_option maxRecDepth 100000
set_option maxHeartbeats 400000
open Go.RowKit Go.Proofs.Tryz
def digs (x p : Int) : Nat->Lz
 | 0=>[]
 | m+1=>(x % p) :: digs (x / p) p m
def valu (p : Int) : Lz->Int
 | []=>0
 | c :: d=>c+p * valu p d
def l7 (x p : Int) : Nat->Int
 | 0=>x
 | k+1=>l7 x p k / p
theorem cO (p : Int) : ∀(m : Nat) (x : Int),(digs x p m).length=m
 | 0,_=>rfl
 | m+1,x=>by simp [digs,cO p m]
theorem tn (x p : Int) : ∀k,l7 x p (k+1)=l7 (x / p) p k
 | 0=>rfl
 | k+1=>by rw [l7,tn x p k];rfl
theorem tA (p : Int) : ∀(k : Nat) (x : Int),digs x p (k+1)=digs x p k ++ [l7 x p k % p]
 | 0,x=>rfl
 | k+1,x=>by rw [digs,tA p k (x / p),tn];rfl
theorem AL (x p : Int) (hx : 0<=x) (hp : 1<=p) : ∀k,0<=l7 x p k/\l7 x p k<=x
 | 0=>⟨hx,Q7 _⟩
 | k+1=>by have h:=AL x p hx hp k;exact ⟨OB h.1 (by omega),QQ (OC _ h.1) h.2⟩
def dC (l : Lz) (k m : Nat) : Lz:=l ++ List.replicate (m - k) 0
theorem fW (l : Lz) (k m : Nat) (x : Int) (hl : l.length=k) (hk : k<m) : (dC l k m).set k x=dC (l ++ [x]) (k+1) m:=by unfold dC;rw [PJ _ _ (by omega),hl,P9];rw [show m - k=(m - (k+1))+1 from by omega,Qs,Nk];simp
theorem gS (l : Lz) (m : Nat) : dC l m m=l:=by simp [dC]
def nth (l : Lz) (i : Nat) : Int:=l.getD i 0
def shl (out : Lz) : Lz:=0 :: out.dropLast
def EI (P : Int) (low a : Lz) (top bi : Int) (sh : Lz) (j : Nat) : Int:=(nth sh j+(P - top) * nth low j+bi * nth a j) % P
def qP (P : Int) (low a : Lz) (m : Nat) (bi : Int) (out : Lz) : Lz :=
 (List.range m).map λj=>EI P low a (nth out (m - 1)) bi (shl out) j
def gF (P : Int) (low a b : Lz) (m : Nat) : Nat->Lz
 | 0=>List.replicate m 0
 | k+1=>qP P low a m (nth b (m - 1 - k)) (gF P low a b m k)
def qJ (M : Nat) (mod : Lz) : Lz:=if 1<M then mod else [0]
def dQ (P : Int) (M : Nat) (mod : Lz) (x y : Int) : Int :=
 valu P (gF P (qJ M mod) (digs x P M) (digs y P M) M M)
theorem aj {l : Lz} {i : Nat} (h : i<l.length) : nth l i=l[i]:=by simp [nth,h]
theorem aH {l : Lz} {i : Nat} (h : i<l.length) : nth l i ∈ l:=by rw [aj h];exact NO h
theorem l9 {l : Lz} {i : Nat} (h : l.length<=i) : nth l i=0:=by simp [nth,h]
theorem jn {l l' : Lz} (hl : l.length=l'.length) (h : ∀i,i<l.length->nth l i=nth l' i) : l=l':=by apply Ov hl;intro i h1 h2;have:=h i h1;rwa [aj h1,aj h2] at this
def eD (P : Int) (l : Lz) : Prop:=∀i,0<=nth l i/\nth l i<P
theorem eD.oU {P : Int} (hP : 0<P) {l : Lz} (h : ∀x ∈ l,0<=x/\x<P) : eD P l:=by
 intro i;rcases N3 i l.length with hi | hi
 ·exact h _ (aH hi)
 ·rw [l9 hi];omega
theorem eD.digs {P : Int} (hP : 0<P) : ∀(m : Nat) (x : Int),eD P (digs x P m)
 | 0,x=>λi=>by simp [Go.Proofs.YthglbncgemdcbaaGreat.digs,nth];omega
 | m+1,x=>by
  intro i;match i with
  | 0=>simp only [Go.Proofs.YthglbncgemdcbaaGreat.digs,nth,Qt];exact ⟨Oa _ (by omega),N0 _ hP⟩
  | i+1=>simpa only [Go.Proofs.YthglbncgemdcbaaGreat.digs,nth,List.getD_cons_succ] using eD.digs hP m (x / P) i
theorem eD.replicate {P : Int} (hP : 0<P) (m : Nat) : eD P (List.replicate m 0):=by refine eD.oU hP λx hx=>?_;obtain ⟨_,rfl⟩:=List.mem_replicate.1 hx;omega
theorem kU (P : Int) (low a : Lz) (m : Nat) (bi : Int) (out : Lz) : (qP P low a m bi out).length=m:=by simp [qP]
theorem qy (P : Int) (low a : Lz) (m : Nat) (bi : Int) (out : Lz) (j : Nat) (hj : j<m) :
  nth (qP P low a m bi out) j=EI P low a (nth out (m - 1)) bi (shl out) j:=by rw [aj (by rw [kU];exact hj)];simp [qP]
theorem eD.qP {P : Int} (hP : 0<P) (low a : Lz) (m : Nat) (bi : Int) (out : Lz) : eD P (qP P low a m bi out):=by
 intro j;rcases N3 j m with hj | hj
 ·rw [qy _ _ _ _ _ _ _ hj];exact ⟨Oa _ (by omega),N0 _ hP⟩
 ·rw [l9 (by rw [kU];exact hj)];omega
theorem kq (P : Int) (low a b : Lz) (m : Nat) : ∀k,(gF P low a b m k).length=m
 | 0=>by simp [gF]
 | k+1=>kU ..
theorem eD.gF {P : Int} (hP : 0<P) (low a b : Lz) (m : Nat) : ∀k,eD P (gF P low a b m k)
 | 0=>eD.replicate hP m
 | k+1=>by simp only [Go.Proofs.YthglbncgemdcbaaGreat.gF];exact eD.qP hP _ _ _ _ _
theorem En (out : Lz) (h : 0<out.length) : (shl out).length=out.length:=by simp [shl];omega
theorem eD.shl {P : Int} (hP : 0<P) {out : Lz} (h : eD P out) : eD P (shl out):=by
 intro i;match i with
 | 0=>simp [Go.Proofs.YthglbncgemdcbaaGreat.shl,nth];omega
 | i+1 =>
  have e : nth (Go.Proofs.YthglbncgemdcbaaGreat.shl out) (i+1)=if i<out.length - 1 then nth out i else 0:=by simp only [Go.Proofs.YthglbncgemdcbaaGreat.shl,nth,Ng,Nu,Qc];split <;> rfl
  rw [e];split
  ·exact h i
  ·omega
def jk (new qq : Lz) (j : Nat) : Lz:=new.take j ++ qq.drop j
theorem gR (new qq : Lz) : jk new qq 0=qq:=by simp [jk]
theorem iW (new qq : Lz) (m : Nat) (h1 : new.length=m) (h2 : qq.length=m) : jk new qq m=new:=by simp [jk,No (QR h1),Qd (QR h2)]
theorem kX (new qq : Lz) (j : Nat) (h : new.length=qq.length) (hj : j<=qq.length) : (jk new qq j).length=qq.length:=by simp [jk];omega
theorem fI (new qq : Lz) (j i : Nat) (h : new.length=qq.length) (hj : j<=qq.length) : nth (jk new qq j) i=if i<j then nth new i else nth qq i:=by
 unfold jk nth;simp only [Ng];split
 ·rename_i hi;rw [Ny (by simp;omega),OE,Nd hi]
 ·rename_i hi;rw [NY (by simp;omega),List.getElem?_drop];congr 2;simp;omega
theorem eh (l : Lz) (i j : Nat) (x : Int) (hi : i<l.length) : nth (l.set i x) j=if j=i then x else nth l j:=by
 unfold nth;simp only [Ng,Oi];by_cases h : i=j
 ·subst h;simp [hi]
 ·rw [Nf h,Nf (by omega)]
theorem gD (new qq : Lz) (j : Nat) (h : new.length=qq.length) (hj : j<qq.length) : (jk new qq j).set j (nth new j)=jk new qq (j+1):=by
 have hl:=kX new qq j h (by omega);have hl':=kX new qq (j+1) h (by omega);refine jn (by simp [hl,hl']) λi hi=>?_;rw [eh _ _ _ _ (by omega),fI _ _ _ _ h (by omega),fI _ _ _ _ h (by omega)];by_cases e : i=j
 ·subst e;simp
 ·rw [Nf e];by_cases e2 : i<j
  ·rw [Nd e2,Nd (by omega)]
  ·rw [Nf e2,Nf (by omega)]
theorem si {P : Int} (hP : 0<P) : ∀(l : Lz),eD P l->0<=valu P l/\valu P l<P ^ l.length
 | [],_=>by simp [valu]
 | c :: l,h=>by
  have h0:=h 0;have ih:=si hP l (λi=>by simpa [nth] using h (i+1));simp only [nth,Qt] at h0;simp only [valu,NP,N4];have h1 : 0<=P * valu P l:=Py (by omega) ih.1;have h2 : P * valu P l+P<=P ^ l.length * P:=by have:=NU (show valu P l+1<=P ^ l.length by omega) (show 0<=P by omega);rw [OV (P ^ l.length)];rw [O2] at this;omega
  omega
theorem dy {P : Int} (hP : 1<=P) {a b : Nat} (h : a<=b) : P ^ a<=P ^ b:=by
 obtain ⟨n,rfl⟩ : ∃n : Nat,P=n:=⟨P.toNat,by omega⟩
 have:=Nat.pow_le_pow_right (n:=n) (by omega) h;exact_mod_cast this
theorem eD.drop {P : Int} {l : Lz} (h : eD P l) (k : Nat) : eD P (l.drop k):=by intro i;have:=h (k+i);simpa [nth] using this
theorem eD.EN {P : Int} (hP : 0<P) {l : Lz} (h : eD P l) {m : Nat} (hl : l.length=m) (hpw : P ^ m<=256) (k : Nat) : 0<=valu P (l.drop k)/\valu P (l.drop k)<256:=by have hb:=si hP (l.drop k) (h.drop k);refine ⟨hb.1,Int.lt_of_lt_of_le hb.2 (QQ ?_ hpw)⟩;rw [QK,hl];exact dy (by omega) (by omega)
def ablk : OA->Nat | some a=>a.block | none=>0
def aK : OA->Nat | some a=>a.off | none=>0
@[simp] theorem ablk_some (b o : Nat) (s : Option Nat) : ablk (some ⟨b,o,s⟩)=b:=rfl
@[simp] theorem aoff_some (b o : Nat) (s : Option Nat) : aK (some ⟨b,o,s⟩)=o:=rfl
def Pl (a : OA) (n : Nat) : Prop:=0<n->a=some ⟨ablk a,aK a,none⟩
def ai (l : ZZ) (i : Nat) : Lz:=l.getD i []
def uJ (l : List Bool) (i : Nat) : Bool:=l.getD i false
theorem aC {l : ZZ} {i : Nat} (h : i<l.length) : ai l i=l[i]:=by simp [ai,h]
theorem dN {l : ZZ} {i : Nat} (h : i<l.length) : ai l i ∈ l:=by rw [aC h];exact NO h
theorem sD {l : List Bool} {i : Nat} (h : i<l.length) : uJ l i=l[i]:=by simp [uJ,h]
structure Ints (w : World) (a : OA) (n : Nat) (l : Lz) : Prop where
 len : l.length=n
 pl : Pl a n
 max : n<=maxLen
 cell : ∀i,i<n->w.cell? ⟨ablk a,aK a+i,none⟩=some (.int .i64 (nth l i))
structure yQ (w : World) (a : OA) (n : Nat) (l : List Bool) : Prop where
 len : l.length=n
 pl : Pl a n
 max : n<=maxLen
 cell : ∀i,i<n->w.cell? ⟨ablk a,aK a+i,none⟩=some (.bool (uJ l i))
structure br (w : World) (a : OA) (n : Nat) (l : ZZ) : Prop where
 len : l.length=n
 pl : Pl a n
 max : n<=maxLen
 cell : ∀i,i<n->∃b m c,w.cell? ⟨ablk a,aK a+i,none⟩=some (.slice b m c)/\Ints w b m (ai l i)
def Mg (w : World) (B : Nat) (a : OA) (n : Nat) : Prop:=0<n->B<=ablk a/\∀i,i<n->w.frozen? ⟨ablk a,aK a+i,none⟩=false
theorem Ints.lt {w : World} {a : OA} {n : Nat} {l : Lz} (h : Ints w a n l) (hn : 0<n) : ablk a<w.heap.size :=
 Nt w _ (h.cell 0 hn)
theorem br.lt {w : World} {a : OA} {n : Nat} {l : ZZ} (h : br w a n l) (hn : 0<n) : ablk a<w.heap.size:=by obtain ⟨b,m,c,hc,_⟩:=h.cell 0 hn;exact Nt w _ hc
theorem Ints.of_block {w w' : World} {a : OA} {n : Nat} {l : Lz} (h : Ints w a n l) (hb : 0<n->w'.heap[ablk a]? = w.heap[ablk a]?) : Ints w' a n l :=
 ⟨h.len,h.pl,h.max,λi hi=>(NT (w:=w) (a:=⟨ablk a,aK a+i,none⟩) (hb (by omega))).trans (h.cell i hi)⟩
theorem Ints.below {B : Nat} {w w' : World} {a : OA} {n : Nat} {l : Lz} (h : Ints w a n l) (hb : Below B w w') (hB : 0<n->ablk a<B) : Ints w' a n l :=
 h.of_block λhn=>hb.block _ (hB hn)
theorem Ints.ah {w w' : World} {a : OA} {n : Nat} {l : Lz} (h : Ints w a n l) (hb : SW w w') : Ints w' a n l :=
 h.below hb λhn=>h.lt hn
theorem br.ah {w w' : World} {a : OA} {n : Nat} {l : ZZ} (h : br w a n l) (hb : SW w w') : br w' a n l:=by refine ⟨h.len,h.pl,h.max,λi hi=>?_⟩;obtain ⟨b,m,c,hc,hr⟩:=h.cell i hi;exact ⟨b,m,c,(hb.cell (Nt w _ hc)).trans hc,hr.ah hb⟩
theorem Ints.nil (w : World) (c : OA) : Ints w c 0 []:=⟨rfl,λh=>by omega,by unfold maxLen;omega,λi h=>by omega⟩
@[go_sem] theorem run_indexAt_pl {P : Program} (w : World) (t : TypeId) (a : OA) (len cap : Nat) (k : IntKind) (i : Int) (h : P.underlying t=some (.slice (P.elem t)))
  (hp : Pl a len) (h0 : 0<=i) (h1 : i<len) :
  (Instr.indexAt t (.slice a len cap) (.int k i)).run P w=((sizeOf (P.elem t)).run P w).andThen λs w=>.ok (.pointer (some ((⟨ablk a,aK a,none⟩ : Addr).add (i.toNat * s)))) w:=by have e : a=some ⟨ablk a,aK a,none⟩:=hp (by omega);generalize hb : ablk a=b at *;generalize ho : aK a=o at *;subst e;rw [run_indexAt_slice (h:=h),Nd ⟨h0,h1⟩]
theorem Bq (l : List Bool) (i j : Nat) (x : Bool) (hi : i<l.length) : uJ (l.set i x) j=if j=i then x else uJ l j:=by
 unfold uJ;simp only [Ng,Oi];by_cases h : i=j
 ·subst h;simp [hi]
 ·rw [Nf h,Nf (by omega)]
theorem Pl.own {w : World} {base : Nat} {e : TypeId} {v : Value} {n : Nat} {xs : List Value} (h : w.ownsRow base e 1 v n xs) : ∃a c,v = .slice a n c/\Pl a n:=by
 rcases h.2 with ⟨rfl,rfl⟩ | ⟨g,cap,cur,rfl,_⟩
 ·exact ⟨none,0,rfl,λh=>by omega⟩
 ·exact ⟨_,cap,rfl,λ_=>rfl⟩
theorem cJ {w : World} {base : Nat} {e : TypeId} {a : OA} {c n : Nat} {xs : List Value} (h : w.ownsRow base e 1 (.slice a n c) n xs) (i : Nat) (hi : i<n) :
  w.cell? ⟨ablk a,aK a+i,none⟩=xs[i]?/\w.frozen? ⟨ablk a,aK a+i,none⟩=false/\base<=ablk a/\xs.length=n/\n<=maxLen:=by
 obtain ⟨hl,h2⟩:=h;rcases h2 with ⟨h2,rfl⟩ | ⟨g,cap,cur,hv,hg,hh,hn,hm,hs,ht⟩
 ·omega
 ·cases hv
  simp only [ablk_some,aoff_some,OI];refine ⟨?_,by simp [World.frozen?,hh],hg,by omega,by omega⟩;rw [<- ht,OE,Nd (by omega)];simp [World.cell?,hh]
theorem Ints.own {w : World} {base : Nat} {e : TypeId} {a : OA} {c n : Nat} {l : Lz} (h : w.ownsRow base e 1 (.slice a n c) n (l.map (Value.int .i64))) :
  Ints w a n l/\Mg w base a n:=by
 have hl : l.length=n:=by have:=h.1;simpa using this
 obtain ⟨a',c',hv,hp⟩:=Pl.own h;cases hv
 refine ⟨⟨hl,hp,?_,λi hi=>?_⟩,λhn=>⟨(cJ h 0 hn).2.2.1,λi hi=>(cJ h i hi).2.1⟩⟩
 ·rcases Pf n with h0 | h0
  ·subst h0;unfold maxLen;omega
  ·exact (cJ h 0 h0).2.2.2.2
 ·rw [(cJ h i hi).1];simp [nth,show i<l.length by omega]
theorem yQ.own {w : World} {base : Nat} {e : TypeId} {a : OA} {c n : Nat} {l : List Bool} (h : w.ownsRow base e 1 (.slice a n c) n (l.map Value.bool)) :
  yQ w a n l/\Mg w base a n:=by
 have hl : l.length=n:=by have:=h.1;simpa using this
 obtain ⟨a',c',hv,hp⟩:=Pl.own h;cases hv
 refine ⟨⟨hl,hp,?_,λi hi=>?_⟩,λhn=>⟨(cJ h 0 hn).2.2.1,λi hi=>(cJ h i hi).2.1⟩⟩
 ·rcases Pf n with h0 | h0
  ·subst h0;unfold maxLen;omega
  ·exact (cJ h 0 h0).2.2.2.2
 ·rw [(cJ h i hi).1];simp [uJ,show i<l.length by omega]
theorem bK {w : World} {B : Nat} {e : TypeId} {a : OA} {c n : Nat} {xs : List Value} (h : w.ownsRow B e 1 (.slice a n c) n xs) (i : Nat) (hi : i<n) (u : Value) :
  (w.setCell ⟨ablk a,aK a+i,none⟩ u).ownsRow B e 1 (.slice a n c) n (xs.set i u):=by
 have h':=h;rcases h.2 with ⟨hv,h0⟩ | ⟨g,_,cur,hv,hg,hh,hn,hm,hs,ht⟩
 ·omega
 ·cases hv
  simpa using (h'.stored i u).1
theorem gZ {w w' : World} {B : Nat} {e : TypeId} {a : OA} {c n : Nat} {xs : List Value} (h : w.ownsRow B e 1 (.slice a n c) n xs)
  (hb : w'.heap[ablk a]? = w.heap[ablk a]?) : w'.ownsRow B e 1 (.slice a n c) n xs:=by
 refine ⟨h.1,?_⟩;rcases h.2 with h2 | ⟨g,cap,cur,hv,hg,hh,r⟩
 ·exact .inl h2
 ·cases hv
  exact .inr ⟨g,c,cur,rfl,hg,by rw [ablk_some] at hb;rw [hb];exact hh,r⟩
theorem lE {w : World} {B : Nat} {e : TypeId} {a : OA} {c n : Nat} {xs : List Value} (h : w.ownsRow B e 1 (.slice a n c) n xs) :
  (a=none/\n=0/\c=0)\/(B<=ablk a/\ablk a<w.heap.size):=by
 rcases h.2 with ⟨hv,hn⟩ | ⟨g,cap,cur,hv,hg,hh,r⟩
 ·cases hv;exact .inl ⟨rfl,hn,rfl⟩
 ·cases hv;exact .inr ⟨hg,(Array.getElem?_eq_some_iff.1 hh).1⟩
theorem bV {w : World} {B : Nat} {e : TypeId} : w.ownsRow B e 1 (.slice none 0 0) 0 []:=Rt _ _ _ _
theorem fU {w : World} {B : Nat} {e : TypeId} {a : OA} {c n : Nat} {xs : List Value} (h : w.ownsRow B e 1 (.slice a n c) n xs) {p : Addr} (u : Value) (hp : a=none\/ablk a ≠ p.block) :
  (w.setCell p u).ownsRow B e 1 (.slice a n c) n xs:=by
 rcases hp with rfl | hp
 ·have h2:=lE h;refine ⟨h.1,.inl ?_⟩;rcases h.2 with h2 | ⟨g,cap,cur,hv,_⟩
  ·exact h2
  ·cases hv
 ·exact gZ h (Nz _ _ _ _ hp)
theorem bd {w w' : World} {B : Nat} {e : TypeId} {a : OA} {c n : Nat} {xs : List Value} (h : w.ownsRow B e 1 (.slice a n c) n xs) (hb : SW w w') :
  w'.ownsRow B e 1 (.slice a n c) n xs:=by
 refine ⟨h.1,?_⟩;rcases h.2 with h2 | ⟨g,cap,cur,hv,hg,hh,r⟩
 ·exact .inl h2
 ·exact .inr ⟨g,cap,cur,hv,hg,by rw [hb.block g (Array.getElem?_eq_some_iff.1 hh).1];exact hh,r⟩
theorem aX {w : World} {B B' : Nat} {e : TypeId} {v : Value} {n : Nat} {xs : List Value} (h : w.ownsRow B e 1 v n xs) (hB : B'<=B) : w.ownsRow B' e 1 v n xs:=by
 refine ⟨h.1,?_⟩;rcases h.2 with h2 | ⟨g,cap,cur,hv,hg,r⟩
 ·exact .inl h2
 ·exact .inr ⟨g,cap,cur,hv,Nr hB hg,r⟩
theorem kS {w : World} {B : Nat} {e : TypeId} {v : Value} {n : Nat} {xs : List Value} (h : w.ownsRow B e 1 v n xs) : xs.length=n:=by simpa using h.1
theorem bS {P : Program} {w : World} {ops : Array Oper} {rest : List Oper} {o : Oper} {ac : Act} {Q : Exit->Act->World->Prop}
  (hg : o.guard=none) (l c : Operand) (t e : TypeId) (hop : o.op=Op.makeSlice t l c) (z : Value) (bytes : Nat)
  (h1 : P.underlying t=some (.slice e)) (h2 : (P.info? e).map (λi=>(i.zero,i.size,i.bytes))=some (some z,1,bytes)) (hz : z.cells = #[z])
  (n : Nat) (hl : ac.eval l = .int .i64 n) (hc : ac.eval c = .int .i64 n) (b2 : bytes * n<=281474976710656) (b3 : n<=maxLen)
  (hK : ∀a w',w'.ownsRow w.heap.size e 1 (.slice a n n) n (List.replicate n z)->SW w w'->w.heap.size<=ablk a->ablk a<w'.heap.size->wpList P ops Q rest (ac.put o.dst (.slice a n n)) w') :
  wpList P ops Q (o :: rest) ac w:=by
 obtain ⟨i,hi,hz0,hz1,hz2⟩:=info_parts h2;refine wpList_make_full w hg l c t hop w.heap.size e i z 1 h1 hi hz0 hz1 .i64 .i64 n n n hl hc rfl rfl (by rw [hz2];exact b2) b3 (Na _) λw' hown hgr=>?_;refine hK _ w' ?_ ((Nc _ _).grown hgr (Na _) (λk hk=>by cases hk)) (by simp) ?_
 ·simpa [hz,toList_madeCells_one] using hown
 ·rcases hown.2 with ⟨hv,_⟩ | ⟨g,cap,cur,hv,_,hh,_⟩
  ·cases hv
  ·cases hv;exact (Array.getElem?_eq_some_iff.1 hh).1
theorem Below.app {B B0 : Nat} {w0 w w' : World} {e : TypeId} {a : OA} {n c : Nat} {xs : List Value} (h : Below B0 w0 w) (hown : w.ownsRow B e 1 (.slice a n c) n xs)
  (hg : w.grownBy w' (Value.slice a n c).ownBlock) (h0 : B0<=B) (h1 : B0<=w.heap.size) : Below B0 w0 w' :=
 h.grown hg h1 λk hk=>Nr h0 (hown.lt k hk).1
theorem aB {w w' : World} (hb : SW w w') {a : Addr} {v : Value} (h : w.cell? a=some v) : w'.cell? a=some v :=
 (hb.cell (Nt w a h)).trans h
theorem Below.next {w0 w w' : World} (h : SW w0 w) (hb : SW w w') : SW w0 w' :=
 h.trans (hb.mono h.size)
theorem KJ {w : World} {B : Nat} {e : TypeId} {a : OA} {n : Nat} {xs : List Value} (h : w.ownsRow B e 1 (.slice a n n) n xs) (hn : 0<n) :
  ∃g,a=some ⟨g,0,none⟩/\B<=g/\w.heap[g]? = some (.cells xs.toArray e (0,0)):=by
 rcases h.2 with ⟨hv,h0⟩ | ⟨g,cap,cur,hv,hg,hh,hle,hm,hs,ht⟩
 ·omega
 ·cases hv
  refine ⟨g,rfl,hg,?_⟩;rw [hh,<- ht,No (by rw [Array.length_toList,hs];exact Na _)]
theorem ED {w : World} {B : Nat} {e : TypeId} {g n : Nat} {xs : List Value} (hB : B<=g) (h : w.heap[g]? = some (.cells xs.toArray e (0,0))) (hl : xs.length=n) (hm : n<=maxLen) :
  w.ownsRow B e 1 (.slice (some ⟨g,0,none⟩) n n) n xs :=
 ⟨by simpa using hl,.inr ⟨g,n,xs.toArray,rfl,hB,h,Na _,hm,by simpa using hl,by simpa using No (by omega)⟩⟩
theorem sK {w : World} {g : Nat} {e : TypeId} {l : Lz} (h : w.heap[g]? = some (.cells (l.map (Value.int .i64)).toArray e (0,0))) (j : Nat) (hj : j<l.length) :
  w.cell? ⟨g,j,none⟩=some (.int .i64 (nth l j))/\w.frozen? ⟨g,j,none⟩=false:=by refine ⟨?_,by simp [World.frozen?,h]⟩;simp [World.cell?,h,nth,hj]
theorem rp {w : World} {g : Nat} {e : TypeId} {l : Lz} (h : w.heap[g]? = some (.cells (l.map (Value.int .i64)).toArray e (0,0))) (j : Nat) (x : Int) :
  (w.setCell ⟨g,j,none⟩ (.int .i64 x)).heap[g]? = some (.cells ((l.set j x).map (Value.int .i64)).toArray e (0,0)):=by have:=heap_setCell_same w g j _ e (.int .i64 x) h;simpa [NF] using this
theorem Ix (g j : Nat) : (⟨g,0,none⟩ : Addr).add j=⟨g,j,none⟩:=by unfold Addr.add;split <;> simp_all
theorem zA {w : World} {g : Nat} {e : TypeId} {l : Lz} (h : w.heap[g]? = some (.cells (l.map (Value.int .i64)).toArray e (0,0))) :
  ∀j v,(l.dropLast.map (Value.int .i64))[j]? = some v->w.cell? ((⟨g,0,none⟩ : Addr).add j)=some v:=by intro j v hj;have hlt:=(List.getElem?_eq_some_iff.1 hj).1;simp only [Nq,List.length_dropLast] at hlt;rw [Ix,(sK h j (by omega)).1];rw [Pr,Qc,Nd hlt,NQ (by omega)] at hj;rw [aj (by omega)];simpa using hj
theorem C1 (l : Lz) (h : 0<l.length) : splice (l.map (Value.int .i64)) 1 (l.dropLast.map (Value.int .i64))=(nth l 0 :: l.dropLast).map (Value.int .i64):=by
 unfold splice;match l,h with
 | x :: l,_ =>
  have e : (List.map (Value.int .i64) (x :: l)).drop (1+(List.map (Value.int .i64) (x :: l).dropLast).length)=[]:=by apply Qd;simp;omega
  rw [e]
  simp [nth]
theorem aU : (prog.info? 3).map (λi=>(i.zero,i.size,i.bytes))=some (some (.int .i64 0),1,8):=by kernel_rfl
theorem rT (x p : Int) (m : Nat) (w : World) (hx : 0<=x) (hx2 : x<=9223372036854775807) (hp : 1<=p) (hm : m<=256) :
  Calls prog 214 #[.int .i64 x,.int .i64 p,.int .i64 m] w λe w' =>
   ∃a c,e = .returned (.slice a m c)/\Ints w' a m (digs x p m)/\Mg w' w.heap.size a m/\SW w w':=by
 go_enter func214,ntmps214;go_wp2_with (at_make;refine bS rfl _ _ 22 3 rfl (.int .i64 0) 8 underlying22 aU rfl m rfl rfl (by omega) (by unfold maxLen;omega) ?_;intro a w1 hown hbel hge hlt);go_loopw [0,13] (λxv iv wr=>∃k : Nat,k<=m/\iv = .int .i64 k/\xv = .int .i64 (l7 x p k) /\
   wr.ownsRow w.heap.size 3 1 (.slice a m m) m ((dC (digs x p k) k m).map (Value.int .i64))/\SW w wr)
  (λ_ i _=>m - (intOf i).toNat)
 case atStart=>exact ⟨0,Ni _,rfl,rfl,by simpa [dC,digs] using hown,hbel⟩
 case round =>
  obtain ⟨k,hk,rfl,rfl,hown,hbel⟩:=hrel
  obtain ⟨hints,hmine⟩:=Ints.own hown
  have hq:=AL x p hx hp k
  have hpl:=hints.pl
  by_cases hlt : k<m
  ·have hc:=hints.cell k hlt
   have hf:=(hmine (by omega)).2 k hlt
   have hB:=(hmine (by omega)).1
   go_wp2
   go_roundw
   case rel =>
    refine ⟨k+1,by omega,by go_num,rfl,?_,hbel.setCell hB _⟩
    have h:=bK hown k hlt (.int .i64 (l7 x p k % p))
    rw [<- NF,fW _ _ _ _ (cO p k x) hlt,<- tA] at h
    exact h
   case measure=>simp [intOf] <;> omega
  ·obtain rfl : k=m:=by omega
   go_wp2
   go_ret
   rw [gS] at hints
   exact ⟨_,_,rfl,hints,hmine,hbel⟩
def gE (a : OA) (b : Nat) : Prop:=a=none\/ablk a ≠ b
theorem gE.own {a : OA} {b : Nat} (h : gE a b) (n c : Nat) : (Value.slice a n c).ownBlock ≠ some b:=by
 rcases h with rfl | h
 ·simp [Value.ownBlock]
 ·cases a with
  | none=>simp [Value.ownBlock]
  | some x=>simpa [Value.ownBlock,ablk] using h
theorem gE.tQ {a : OA} {b n c : Nat} (h : (Value.slice a n c).ownBlock ≠ some b) : gE a b:=by
 cases a with
 | none=>exact .inl rfl
 | some x=>exact .inr (by simpa [Value.ownBlock,ablk] using h)
theorem mq {w : World} {B : Nat} {e : TypeId} {a : OA} {c n : Nat} {xs : List Value} (h : w.ownsRow B e 1 (.slice a n c) n xs) {b : Nat} (hb : b<B) : gE a b:=by
 rcases lE h with ⟨rfl,_⟩ | ⟨h1,_⟩
 ·exact .inl rfl
 ·exact .inr (by omega)
theorem eA {w : World} {B : Nat} {e : TypeId} {a : OA} {c n : Nat} {xs : List Value} (h : w.ownsRow B e 1 (.slice a n c) n xs) (hn : 0<n) : B<=ablk a/\ablk a<w.heap.size:=by
 rcases lE h with ⟨_,h0,_⟩ | h
 ·omega
 ·exact h
theorem aO {P : Program} {w : World} {ops : Array Oper} {rest : List Oper} {o : Oper} {ac : Act} {Q : Exit->Act->World->Prop}
  (hg : o.guard=none) (s x : Operand) (t e : TypeId) (hop : o.op = .call { callee:=.builtin .append,args:=#[s,x],argTypes:=#[t,t] }) (z : Value) (bytes : Nat)
  (h1 : P.underlying t=some (.slice e)) (h2 : (P.info? e).map (λi=>(i.zero,i.size,i.bytes))=some (some z,1,bytes)) (hz : z.cells = #[z])
  (B : Nat) (a : OA) (n c : Nat) (xs : List Value) (hs : ac.eval s = .slice a n c) (hown : w.ownsRow B e 1 (.slice a n c) n xs)
  (ad : Addr) (cc : Nat) (u : Value) (hx : ac.eval x = .slice (some ad) 1 cc) (hu : w.cell? ad=some u) (h1c : u.oneCell'=true)
  (b2 : (n+1) * bytes<=140737488355328) (b3 : n+1<=maxLen) (hB : B<=w.heap.size)
  (hK : ∀a' c' w',w'.ownsRow B e 1 (.slice a' (n+1) c') (n+1) (xs ++ [u])->w.grownBy w' (Value.slice a n c).ownBlock->(∀b,b<w.heap.size->gE a b->gE a' b)->wpList P ops Q rest (ac.put o.dst (.slice a' (n+1) c')) w') :
  wpList P ops Q (o :: rest) ac w:=by
 obtain ⟨i,hi,hz0,hz1,hz2⟩:=info_parts h2;refine wpList_append_own_at w hg s x t hop B e i z 1 bytes h1 hi hz0 hz1 hz2 (by rw [hz];rfl) (by decide) _ n xs hs hown ad 1 cc [u] hx rfl ?_ ?_ b3 b2 hB λv' w' hown' hgr _ hat=>?_
 ·intro j v hj;match j,hj with
  | 0,hj=>simp at hj;subst hj;simpa [Addr.add] using hu
 ·intro v hv;simp at hv;subst hv;exact h1c
 ·obtain ⟨a',c',rfl,_⟩:=Pl.own hown';refine hK a' c' w' hown' hgr λb hb hapt=>?_;have h:=hapt.own n c;rcases hat with h3 | h3
  ·exact gE.tQ (n:=n+1) (c:=c') (by rw [h3];exact h)
  ·exact gE.tQ (n:=n+1) (c:=c') (by rw [h3];intro h4;cases h4;omega)
theorem gO {w w' : World} {B : Nat} {e : TypeId} {a ao : OA} {n c m c' : Nat} {xs : List Value} (h : w.ownsRow B e 1 (.slice a n c) n xs) (hg : w.grownBy w' (Value.slice ao m c').ownBlock) (hne : gE ao (ablk a)) :
  w'.ownsRow B e 1 (.slice a n c) n xs:=by
 rcases lE h with ⟨rfl,rfl,rfl⟩ | ⟨_,hlt⟩
 ·have hx:=kS h;obtain rfl : xs=[]:=NL hx;exact bV
 ·exact gZ h (hg.block _ hlt (λe=>hne.own m c' e.symm))
theorem bT {w w' : World} {ao : OA} {m c : Nat} {ad : Addr} {v : Value} (hg : w.grownBy w' (Value.slice ao m c).ownBlock) (h : w.cell? ad=some v) (hne : gE ao ad.block) : w'.cell? ad=some v :=
 hg.cell h (λe=>hne.own m c e.symm)
theorem CU (w : World) (l : Lz) (e : TypeId) {B : Nat} (hB : B<=w.heap.size) (hl : l.length<=maxLen) :
  (w.alloc (.cells (l.map (Value.int .i64)).toArray e)).ownsRow B e 1 (.slice (some ⟨w.heap.size,0,none⟩) l.length l.length) l.length (l.map (Value.int .i64)):=by simpa using Ru w (l.map (Value.int .i64)).toArray l.length hB hl (by simp)
theorem zX {P : Int} (hP : 0<P) (M : Nat) (mod : Lz) (x y : Int) : 0<=dQ P M mod x y/\dQ P M mod x y<P ^ M:=by have:=si hP (gF P (qJ M mod) (digs x P M) (digs y P M) M M) (eD.gF hP _ _ _ _ _);rwa [kq] at this
def powTo (mul : Int->Int) : Nat->Lz->Int->Lz
 | 0,l,_=>l
 | n+1,l,y=>if y=0\/y ∈ l then l else powTo mul n (l ++ [y]) (mul y)
theorem lA (mul : Int->Int) (n : Nat) (l : Lz) (y : Int) (h : y=0\/y ∈ l) : powTo mul n l y=l:=by
 cases n
 ·rfl
 ·rw [powTo,Nd h]
theorem vq (mul : Int->Int) (n : Nat) (l : Lz) (y : Int) (h : ¬ (y=0\/y ∈ l)) : powTo mul (n+1) l y=powTo mul n (l ++ [y]) (mul y):=by rw [powTo,Nf h]
def gV (P : Int) (M : Nat) (mod : Lz) (q : Nat) (x : Int) : Lz:=powTo (λy=>dQ P M mod y x) q [1] x
def je (P : Int) (M : Nat) (mod : Lz) (q : Nat) (x : Int) : Bool :=
 (gV P M mod q x).length == q - 1 && dQ P M mod (nth (gV P M mod q x) (q - 2)) x == 1
def genTo (P : Int) (M : Nat) (mod : Lz) (q : Nat) : Nat->Nat->Lz
 | 0,_=>[]
 | n+1,x=>if je P M mod q x then gV P M mod q x else genTo P M mod q n (x+1)
def ji (P : Int) (M : Nat) (mod : Lz) (q : Nat) : Lz:=genTo P M mod q (q - 1) 1
def cntF : List Bool->Nat
 | []=>0
 | b :: l=>(if b then 0 else 1)+cntF l
theorem xx : ∀(l : List Bool) (i : Nat),l[i]? = some false->cntF (l.set i true)+1=cntF l
 | [],i,h=>by simp at h
 | b :: l,0,h=>by simp at h;subst h;simp [cntF];omega
 | b :: l,i+1,h=>by simp at h;have:=xx l i h;simp [cntF];omega
theorem vy (n : Nat) : cntF (List.replicate n false)=n:=by
 induction n with
 | zero=>rfl
 | succ n ih=>simp [Qs,cntF,ih];omega
theorem BR (mul : Int->Int) (Q : Int) (hm : ∀y,0<=mul y/\mul y<Q) : ∀(n : Nat) (l : Lz) (y : Int),0<=y/\y<Q->(∀e ∈ l,0<=e/\e<Q)->∀e ∈ powTo mul n l y,0<=e/\e<Q
 | 0,l,_,_,hl=>hl
 | n+1,l,y,hy,hl=>by
  unfold powTo;split
  ·exact hl
  ·refine BR mul Q hm n _ _ (hm y) λe he=>?_;rcases List.mem_append.1 he with h | h
   ·exact hl e h
   ·rw [List.mem_singleton.1 h];exact hy
theorem Ko {P : Int} (hP : 0<P) (M : Nat) (mod : Lz) (q : Nat) (x : Int) (hq : (q : Int)=P ^ M) (hq2 : 2<=q) (hx : 0<=x) (hx2 : x<q) : ∀e ∈ gV P M mod q x,0<=e/\e<q:=by refine BR _ _ (λy=>by rw [hq];exact zX hP M mod y x) _ _ _ ⟨hx,hx2⟩ λe he=>?_;rw [List.mem_singleton.1 he];omega
theorem uz {P : Int} (hP : 0<P) (M : Nat) (mod : Lz) (q : Nat) (x : Int) (hq : (q : Int)=P ^ M) (hq2 : 2<=q) (hx : 0<=x) (hx2 : x<q) (i : Nat) : 0<=nth (gV P M mod q x) i/\nth (gV P M mod q x) i<q:=by
 rcases N3 i (gV P M mod q x).length with h | h
 ·exact Ko hP M mod q x hq hq2 hx hx2 _ (aH h)
 ·rw [l9 h];omega
def fsum (P : Int) : Nat->Int->Int->Int
 | 0,_,_=>0
 | m+1,x,y=>(x+y) % P+P * fsum P m (x / P) (y / P)
def fneg (P : Int) : Nat->Int->Int
 | 0,_=>0
 | m+1,x=>(P - x % P) % P+P * fneg P m (x / P)
theorem yH (P : Int) : ∀m,fsum P m 0 0=0
 | 0=>rfl
 | m+1=>by simp [fsum,yH P m]
theorem yI (P : Int) : ∀m,fneg P m 0=0
 | 0=>rfl
 | m+1=>by simp [fneg,yI P m]
theorem zD {P : Int} (hP : 0<P) : ∀(m : Nat) (x y : Int),0<=fsum P m x y/\fsum P m x y<P ^ m
 | 0,x,y=>by simp [fsum]
 | m+1,x,y=>by have ih:=zD hP m (x / P) (y / P);have h1:=Oa (x+y) (show P ≠ 0 by omega);have h2:=N0 (x+y) hP;have h3 : 0<=P * fsum P m (x / P) (y / P):=Py (by omega) ih.1;have h4:=NU (show fsum P m (x / P) (y / P)+1<=P ^ m by omega) (show 0<=P by omega);rw [O2] at h4;simp only [fsum,N4];rw [OV (P ^ m)];omega
theorem u3 {P : Int} (hP : 0<P) : ∀(m : Nat) (x : Int),0<=fneg P m x/\fneg P m x<P ^ m
 | 0,x=>by simp [fneg]
 | m+1,x=>by have ih:=u3 hP m (x / P);have h1:=Oa (P - x % P) (show P ≠ 0 by omega);have h2:=N0 (P - x % P) hP;have h3 : 0<=P * fneg P m (x / P):=Py (by omega) ih.1;have h4:=NU (show fneg P m (x / P)+1<=P ^ m by omega) (show 0<=P by omega);rw [O2] at h4;simp only [fneg,N4];rw [OV (P ^ m)];omega
theorem rY (P : Int) (hP : 0<P) : ∀(m : Nat) (x : Int),0<=x->x<P ^ m->l7 x P m=0
 | 0,x,h0,h1=>by simp at h1;simp [l7];omega
 | m+1,x,h0,h1=>by rw [tn];refine rY P hP m (x / P) (OB h0 (by omega)) ?_;rw [N4] at h1;exact Pn hP h1
theorem JW (x y : Nat) : (x ^^^ y) % 2=(x+y) % 2:=by have h:=RM x y 0;simp only [Nat.testBit_zero] at h;have hx:=PT x;have hy:=PT y;have hz:=PT (x ^^^ y);rcases hx with hx | hx <;> rcases hy with hy | hy <;> rcases hz with hz | hz <;> simp [hx,hy,hz] at h <;> omega
theorem Cl : ∀(m : Nat) (x y : Nat),x<2 ^ m->y<2 ^ m->((x ^^^ y : Nat) : Int)=fsum 2 m x y
 | 0,x,y,hx,hy=>by
  have h1 : x=0:=by simp at hx;omega
  have h2 : y=0:=by simp at hy;omega
  subst h1;subst h2;rfl
 | m+1,x,y,hx,hy=>by
  have ih:=Cl m (x / 2) (y / 2) (by rw [OO] at hx;omega) (by rw [OO] at hy;omega);simp only [fsum];have e1 : ((x : Int) / 2)=((x / 2 : Nat) : Int):=by omega
  have e2 : ((y : Int) / 2)=((y / 2 : Nat) : Int):=by omega
  rw [e1,e2,<- ih,<- Nat.xor_div_two];have h3 : (x ^^^ y) % 2=(x+y) % 2:=JW x y;omega
theorem oP {P : Program} (w : World) (t ty e : TypeId) (i : TypeInfo) (ht : P.underlying t=some (.slice e)) (hi : P.info? e=some i) (a ao : OA) (n c cs : Nat) (hn : n<=c) :
  (Builtin.append_ #[t,t] ty #[.slice a n c,.slice ao 0 cs]).run P w = .ok (.slice a n c) w:=by cases a <;> cases ao <;> simp [Builtin.append_,run_underlying ht,sizeOf,typeInfo,hi,Builtin.lenOf,Builtin.firstCells,hn,storeCells,loadCells,loadCellsFrom]
theorem ox {w : World} {B : Nat} {e : TypeId} {a : OA} {c n : Nat} {xs : List Value} (h : w.ownsRow B e 1 (.slice a n c) n xs) : n<=c:=by
 rcases h.2 with ⟨hv,h0⟩ | ⟨g,cap,cur,hv,hg,hh,hle,_⟩
 ·omega
 ·cases hv;exact hle
theorem xu {P : Program} {w : World} (t ty e : TypeId) (z : Value) (bytes : Nat)
  (h1 : P.underlying t=some (.slice e)) (h2 : (P.info? e).map (λi=>(i.zero,i.size,i.bytes))=some (some z,1,bytes)) (hz : z.cells = #[z])
  (B : Nat) (a : OA) (n c : Nat) (xs : List Value) (hown : w.ownsRow B e 1 (.slice a n c) n xs)
  (ao : OA) (m cc : Nat) (news : List Value) (hp : Pl ao m) (hl : news.length=m) (hc : ∀j,j<m->w.cell? ⟨ablk ao,aK ao+j,none⟩=news[j]?) (h1c : ∀u ∈ news,u.oneCell'=true)
  (b2 : (n+m) * bytes<=140737488355328) (b3 : n+m<=maxLen) (hB : B<=w.heap.size) :
  ∃a' c' w',(Builtin.append_ #[t,t] ty #[.slice a n c,.slice ao m cc]).run P w = .ok (.slice a' (n+m) c') w'/\w'.ownsRow B e 1 (.slice a' (n+m) c') (n+m) (xs ++ news) /\
   w.grownBy w' (Value.slice a n c).ownBlock/\(∀b,b<w.heap.size->gE a b->gE a' b):=by
 obtain ⟨i,hi,hz0,hz1,hz2⟩:=info_parts h2;by_cases hm : m=0
 ·subst hm;obtain rfl : news=[]:=NL hl;exact ⟨a,c,w,oP w t ty e i h1 hi a ao n c cc (ox hown),by simpa using hown,World.grownBy.refl _ _,λb _ h=>h⟩
 ·have hao:=hp (by omega);obtain ⟨v',w',hr,h3,h4,_,h6⟩:=run_append_own_at (P:=P) w B t ty e i z 1 bytes h1 hi hz0 hz1 hz2 (by rw [hz];rfl) (by decide) _ n xs hown ⟨ablk ao,aK ao,none⟩ m cc news (by omega)
   (λj u hu=>by have hj:=(List.getElem?_eq_some_iff.1 hu).1;rw [Rv,hc j (by omega)];exact hu) h1c b3 b2 hB
  obtain ⟨a',c',rfl,_⟩:=Pl.own h3;refine ⟨a',c',w',by rw [hao];exact hr,h3,h4,λb hb hapt=>?_⟩;have h:=hapt.own n c;rcases h6 with h6 | h6
  ·exact gE.tQ (n:=n+m) (c:=c') (by rw [h6];exact h)
  ·exact gE.tQ (n:=n+m) (c:=c') (by rw [h6];intro h7;cases h7;omega)
theorem dH {P : Program} {w : World} {ops : Array Oper} {rest : List Oper} {o : Oper} {ac : Act} {Q : Exit->Act->World->Prop}
  (hg : o.guard=none) (s x : Operand) (t e : TypeId) (hop : o.op = .call { callee:=.builtin .append,args:=#[s,x],argTypes:=#[t,t] }) (z : Value) (bytes : Nat)
  (h1 : P.underlying t=some (.slice e)) (h2 : (P.info? e).map (λi=>(i.zero,i.size,i.bytes))=some (some z,1,bytes)) (hz : z.cells = #[z])
  (B : Nat) (a : OA) (n c : Nat) (xs : List Value) (hs : ac.eval s = .slice a n c) (hown : w.ownsRow B e 1 (.slice a n c) n xs)
  (ao : OA) (m cc : Nat) (news : List Value) (hx : ac.eval x = .slice ao m cc) (hp : Pl ao m) (hl : news.length=m) (hc : ∀j,j<m->w.cell? ⟨ablk ao,aK ao+j,none⟩=news[j]?) (h1c : ∀u ∈ news,u.oneCell'=true)
  (b2 : (n+m) * bytes<=140737488355328) (b3 : n+m<=maxLen) (hB : B<=w.heap.size)
  (hK : ∀a' c' w',w'.ownsRow B e 1 (.slice a' (n+m) c') (n+m) (xs ++ news)->w.grownBy w' (Value.slice a n c).ownBlock->(∀b,b<w.heap.size->gE a b->gE a' b)->wpList P ops Q rest (ac.put o.dst (.slice a' (n+m) c')) w') :
  wpList P ops Q (o :: rest) ac w:=by refine wpList_plain hg λK hK'=>?_;obtain ⟨a',c',w',hr,h3,h4,h5⟩:=xu (P:=P) t o.type e z bytes h1 h2 hz B a n c xs hown ao m cc news hp hl hc h1c b2 b3 hB;unfold Oper.wp execOp;simp only [hop,resolve,invoke,builtin,Rw,Rx,QE,QL,Qj,Ry,hs,hx,hr];exact hK' _ _ (hK a' c' w' h3 h4 h5)
theorem dE {P : Program} {w : World} {ops : Array Oper} {o : Oper} {ac : Act} {K : Act->World->Prop} {Q : Exit->Act->World->Prop} {E : Prop}
  (hg : o.guard=none) (s x : Operand) (t e : TypeId) (hop : o.op = .call { callee:=.builtin .append,args:=#[s,x],argTypes:=#[t,t] }) (z : Value) (bytes : Nat)
  (h1 : P.underlying t=some (.slice e)) (h2 : (P.info? e).map (λi=>(i.zero,i.size,i.bytes))=some (some z,1,bytes)) (hz : z.cells = #[z])
  (B : Nat) (a : OA) (n c : Nat) (xs : List Value) (hs : ac.eval s = .slice a n c) (hown : w.ownsRow B e 1 (.slice a n c) n xs)
  (ao : OA) (m cc : Nat) (news : List Value) (hx : ac.eval x = .slice ao m cc) (hp : Pl ao m) (hl : news.length=m) (hc : ∀j,j<m->w.cell? ⟨ablk ao,aK ao+j,none⟩=news[j]?) (h1c : ∀u ∈ news,u.oneCell'=true)
  (b2 : (n+m) * bytes<=140737488355328) (b3 : n+m<=maxLen) (hB : B<=w.heap.size)
  (hK : ∀a' c' w',w'.ownsRow B e 1 (.slice a' (n+m) c') (n+m) (xs ++ news)->w.grownBy w' (Value.slice a n c).ownBlock->(∀b,b<w.heap.size->gE a b->gE a' b)->K (ac.put o.dst (.slice a' (n+m) c')) w') :
  if Region.wanted o (yielded ops ac.tmps)=true then Oper.wp P o ac w K Q else E:=by
 have hw : Region.wanted o (yielded ops ac.tmps)=true:=by simp [Region.wanted,hg]
 rw [Nd hw];obtain ⟨a',c',w',hr,h3,h4,h5⟩:=xu (P:=P) t o.type e z bytes h1 h2 hz B a n c xs hown ao m cc news hp hl hc h1c b2 b3 hB;unfold Oper.wp execOp;simp only [hop,resolve,invoke,builtin,Rw,Rx,QE,QL,Qj,Ry,hs,hx,hr];exact hK a' c' w' h3 h4 h5
theorem run_mk {P : Program} (t e : TypeId) (z : Value) (bytes : Nat) (h1 : P.underlying t=some (.slice e)) (h2 : (P.info? e).map (λi=>(i.zero,i.size,i.bytes))=some (some z,1,bytes)) (hz : z.cells = #[z])
  (n : Nat) (b2 : bytes * n<=281474976710656) (b3 : n<=9223372036854775807) (w : World) :
  (Instr.makeSlice t (.int .i64 n) (.int .i64 n)).run P w = .ok (.slice (some ⟨w.heap.size,0,none⟩) n n) (w.alloc (.cells (List.replicate n z).toArray e)):=by obtain ⟨i,hi,hz0,hz1,hz2⟩:=info_parts h2;have h:=run_make (P:=P) w t e i z h1 hi hz0 .i64 .i64 n n (by omega) (Q7 _) (by rw [hz2];omega) (by omega);rw [hz1,Nat.mul_one,hz,Nb] at h;rw [h];congr 3;rw [<- toList_madeCells_one]
theorem Ma (w : World) (e : TypeId) (z : Value) (n : Nat) {B : Nat} (hB : B<=w.heap.size) (hn : n<=maxLen) :
  (w.alloc (.cells (List.replicate n z).toArray e)).ownsRow B e 1 (.slice (some ⟨w.heap.size,0,none⟩) n n) n (List.replicate n z):=by simpa using Ru w (List.replicate n z).toArray n hB hn (by simp)
theorem Ints.news {w : World} {a : OA} {n : Nat} {l : Lz} (h : Ints w a n l) : ∀j,j<n->w.cell? ⟨ablk a,aK a+j,none⟩=(l.map (Value.int .i64))[j]?:=by intro j hj;rw [h.cell j hj,Pr,NQ (by rw [h.len];exact hj),aj (by rw [h.len];exact hj)];rfl
theorem Below.bC {w0 w : World} (h : SW w0 w) (o : Obj) : SW w0 (w.alloc o):=h.alloc h.size o
theorem fA (w : World) (e : TypeId) : (w.alloc (.cells #[] e)).ownsRow w.heap.size e 1 (.slice (some ⟨w.heap.size,0,none⟩) 0 0) 0 [] :=
 World.ownsRow_made w #[] 0 (Na _) (Ni _) rfl
theorem aI (w : World) (cs : Array Value) (e : TypeId) {g : Nat} (hg : g=w.heap.size) (i : Nat) : (w.alloc (.cells cs e)).cell? ⟨g,i,none⟩=cs[i]?:=by subst hg;exact Q0 ..
theorem qA (w : World) (e : TypeId) (z : Value) (n : Nat) {B g : Nat} (hg : g=w.heap.size) (hB : B<=w.heap.size) (hn : n<=maxLen) :
  (w.alloc (.cells (Array.replicate n z) e)).ownsRow B e 1 (.slice (some ⟨g,0,none⟩) n n) n (List.replicate n z):=by subst hg;simpa using Ma w e z n hB hn
theorem te {w w' : World} {row : Option Nat} (h : w.drew.grownBy w' row) : w.grownBy w' row:=⟨h.os,h.tape,h.output,h.size,h.block⟩
section
def sm : Nat->(Nat->Int)->Int
 | 0,_=>0
 | n+1,f=>sm n f+f n
theorem dh {n : Nat} {f g : Nat->Int} (h : ∀i,i<n->f i=g i) : sm n f=sm n g:=by
 induction n with
 | zero=>rfl
 | succ n ih=>rw [sm,sm,ih λi hi=>h i (by omega),h n (by omega)]
theorem AH (n : Nat) (f g : Nat->Int) : sm n (λi=>f i+g i)=sm n f+sm n g:=by
 induction n with
 | zero=>rfl
 | succ n ih=>simp only [sm,ih];omega
theorem mi (n : Nat) : sm n (λ_=>0)=0:=by
 induction n with
 | zero=>rfl
 | succ n ih=>simp only [sm,ih];rfl
theorem IB (n : Nat) (c : Int) (f : Nat->Int) : sm n (λi=>c * f i)=c * sm n f:=by
 induction n with
 | zero=>simp [sm]
 | succ n ih=>simp only [sm,ih,O2]
theorem EU (n m : Nat) (f : Nat->Nat->Int) : sm n (λi=>sm m (λj=>f i j))=sm m (λj=>sm n (λi=>f i j)):=by
 induction n with
 | zero=>simp only [sm];rw [mi]
 | succ n ih=>simp only [sm,ih,AH]
theorem Ml {n : Nat} {f : Nat->Int} {P : Int} (h : ∀i,i<n->P ∣ f i) : P ∣ sm n f:=by
 induction n with
 | zero=>exact ⟨0,by simp [sm]⟩
 | succ n ih=>exact Q8 (ih λi hi=>h i (by omega)) (h n (by omega))
theorem nu {n : Nat} {f : Nat->Int} {k : Nat} (hk : k<n) (h : ∀i,i<n->i ≠ k->f i=0) : sm n f=f k:=by
 induction n with
 | zero=>omega
 | succ n ih =>
  rw [sm]
  by_cases e : k=n
  ·subst e
   rw [dh (g:=λ_=>0) λi hi=>h i (by omega) (by omega),mi];omega
  ·rw [ih (by omega) λi hi=>h i (by omega),h n (by omega) (by omega)];omega
theorem JF (n : Nat) (f : Nat->Int) : sm (n+1) f=f 0+sm n (λi=>f (i+1)):=by
 induction n with
 | zero=>simp [sm]
 | succ n ih=>rw [sm,ih];simp only [sm];omega
def xS (M : Nat) (low : Nat->Int) (v : Nat->Int) : Nat->Int :=
 λi=>if i<M then (if i=0 then 0 else v (i - 1)) - v (M - 1) * low i else 0
def iD (M : Nat) (low : Nat->Int) : Nat->(Nat->Int)->Nat->Int
 | 0,v=>v
 | k+1,v=>xS M low (iD M low k v)
variable {M : Nat} {low : Nat->Int}
theorem Kx (u v : Nat->Int) : xS M low (λi=>u i+v i)=λi=>xS M low u i+xS M low v i:=by
 funext i;simp only [xS];split
 ·split
  ·rw [Q9];omega
  ·rw [Q9];omega
 ·rfl
theorem JS (c : Int) (v : Nat->Int) : xS M low (λi=>c * v i)=λi=>c * xS M low v i:=by
 funext i;simp only [xS];split
 ·split
  ·rw [RI,Rz,OH]
  ·rw [RI,OH]
 ·rw [Rz]
theorem Fv (k : Nat) (u v : Nat->Int) : iD M low k (λi=>u i+v i)=λi=>iD M low k u i+iD M low k v i:=by
 induction k with
 | zero=>rfl
 | succ k ih=>rw [iD,ih,Kx];rfl
theorem mL (k : Nat) (c : Int) (v : Nat->Int) : iD M low k (λi=>c * v i)=λi=>c * iD M low k v i:=by
 induction k with
 | zero=>rfl
 | succ k ih=>rw [iD,ih,JS];rfl
theorem Ce (k : Nat) : iD M low k (λ_=>0)=λ_=>0:=by have:=mL (M:=M) (low:=low) k 0 (λ_=>0);simpa using this
theorem zr (k n : Nat) (f : Nat->Nat->Int) : iD M low k (λi=>sm n (λj=>f j i))=λi=>sm n (λj=>iD M low k (f j) i):=by
 induction n with
 | zero=>simp only [sm];exact Ce k
 | succ n ih=>simp only [sm];rw [Fv,ih]
theorem sQ (k l : Nat) (v : Nat->Int) : iD M low (k+l) v=iD M low k (iD M low l v):=by
 induction k with
 | zero=>rw [OI];rfl
 | succ k ih=>rw [show k+1+l=(k+l)+1 by omega,iD,iD,ih]
def eV (j : Nat) : Nat->Int:=λi=>if i=j then 1 else 0
def Sh (M : Nat) (v : Nat->Int) : Prop:=∀i,M<=i->v i=0
theorem Ja (v : Nat->Int) : Sh M (xS M low v):=λi hi=>by simp only [xS];rw [Nf (by omega)]
theorem L7 {v : Nat->Int} (h : Sh M v) (k : Nat) : Sh M (iD M low k v):=by
 cases k with
 | zero=>exact h
 | succ k=>exact Ja _
theorem EP (j : Nat) (hj : j<M) : iD M low j (eV 0)=eV j:=by
 induction j with
 | zero=>rfl
 | succ j ih =>
  rw [iD,ih (by omega)]
  funext i
  simp only [xS,eV]
  by_cases h : i<M
  ·rw [Nd h,Nf (show ¬ M - 1=j by omega)]
   by_cases h0 : i=0
   ·rw [Nd h0,Nf (by omega)];omega
   ·rw [Nf h0]
    by_cases h1 : i=j+1
    ·rw [Nd h1,Nd (by omega)];omega
    ·rw [Nf h1,Nf (by omega)];omega
  ·rw [Nf h,Nf (by omega)]
theorem Sh.expand {v : Nat->Int} (h : Sh M v) : v=λk=>sm M (λj=>v j * iD M low j (eV 0) k):=by
 funext k;rw [dh (g:=λj=>v j * eV j k) λj hj=>by rw [EP j hj]];by_cases hk : k<M
 ·rw [nu hk λi hi hne=>by simp only [eV];rw [Nf (by omega)];omega];simp [eV]
 ·rw [h k (by omega),dh (g:=λ_=>0) λj hj=>by simp only [eV];rw [Nf (by omega)];omega,mi]
def jA (M : Nat) (low : Nat->Int) (x y : Nat->Int) : Nat->Int:=λk=>sm M (λi=>x i * iD M low i y k)
theorem KD {x y : Nat->Int} (hy : Sh M y) : Sh M (jA M low x y):=λk hk=>by simp only [jA];rw [dh (g:=λ_=>0) λi _=>by rw [L7 hy i k hk];omega,mi]
theorem pE {x y : Nat->Int} (hy : Sh M y) : jA M low x y=λk=>sm M (λi=>sm M (λj=>x i * y j * iD M low (i+j) (eV 0) k)):=by funext k;simp only [jA];refine dh λi _=>?_;have e : iD M low i y=iD M low i (λk=>sm M (λj=>y j * iD M low j (eV 0) k)):=congrArg _ hy.expand;rw [e,zr];simp only;rw [<- IB];refine dh λj _=>?_;rw [mL,sQ,OH]
theorem qk {x y : Nat->Int} (hx : Sh M x) (hy : Sh M y) : jA M low x y=jA M low y x:=by rw [pE hx,pE hy];funext k;rw [EU];refine dh λi _=>dh λj _=>?_;rw [OV (x j),Nat.add_comm j i]
theorem yK (x y z : Nat->Int) : jA M low x (jA M low y z)=λk=>sm M (λi=>sm M (λj=>x i * y j * iD M low (i+j) z k)):=by funext k;refine dh λi _=>?_;rw [show jA M low y z=(λk=>sm M (λj=>y j * iD M low j z k)) from rfl,zr];simp only;rw [<- IB];refine dh λj _=>?_;rw [mL,sQ,OH]
theorem xW (x y z : Nat->Int) : jA M low x (jA M low y z)=jA M low y (jA M low x z):=by rw [yK,yK];funext k;rw [EU];refine dh λi _=>dh λj _=>?_;rw [OV (x j),Nat.add_comm j i]
theorem DO {x y z : Nat->Int} (hx : Sh M x) (hy : Sh M y) (hz : Sh M z) : jA M low (jA M low x y) z=jA M low x (jA M low y z):=by rw [qk (KD hy) hz,xW,qk hz hy]
theorem JZ {x : Nat->Int} (hM : 0<M) (hx : Sh M x) : jA M low (eV 0) x=x:=by funext k;simp only [jA];rw [nu hM λi _ hne=>by simp only [eV];rw [Nf hne];omega];simp [eV,iD]
theorem yc (x y z : Nat->Int) : jA M low x (λi=>y i+z i)=λk=>jA M low x y k+jA M low x z k:=by funext k;simp only [jA];rw [<- AH];refine dh λi _=>?_;rw [Fv,O2]
def Cg (P : Int) (u v : Nat->Int) : Prop:=∀i,P ∣ u i - v i
theorem Cg.refl (P : Int) (u : Nat->Int) : Cg P u u:=λi=>⟨0,by omega⟩
theorem Cg.symm {P : Int} {u v : Nat->Int} (h : Cg P u v) : Cg P v u:=λi=>by obtain ⟨c,hc⟩:=h i;exact ⟨-c,by rw [Ra];omega⟩
theorem Cg.trans {P : Int} {u v x : Nat->Int} (h : Cg P u v) (k : Cg P v x) : Cg P u x:=λi=>by obtain ⟨c,hc⟩:=h i;obtain ⟨d,hd⟩:=k i;exact ⟨c+d,by rw [O2];omega⟩
theorem Cg.of_eq {P : Int} {u v : Nat->Int} (h : u=v) : Cg P u v:=h ▸ Cg.refl P u
theorem IL {P : Int} {u v : Nat->Int} (h : Cg P u v) : Cg P (xS M low u) (xS M low v):=λi=>by
 simp only [xS];split
 ·obtain ⟨c,hc⟩:=h (M - 1);have e : u (M - 1) * low i - v (M - 1) * low i=P * (c * low i):=by rw [<- Rb,hc,OH]
  split
  ·exact ⟨-(c * low i),by rw [Ra,<- e];omega⟩
  ·obtain ⟨d,hd⟩:=h (i - 1);exact ⟨d - c * low i,by rw [RI,<- e,<- hd];omega⟩
 ·exact ⟨0,by omega⟩
theorem LM {P : Int} {u v : Nat->Int} (h : Cg P u v) (k : Nat) : Cg P (iD M low k u) (iD M low k v):=by
 induction k with
 | zero=>exact h
 | succ k ih=>exact IL ih
theorem Cg.add {P : Int} {u v x y : Nat->Int} (h : Cg P u v) (k : Cg P x y) : Cg P (λi=>u i+x i) (λi=>v i+y i):=λi=>by obtain ⟨c,hc⟩:=h i;obtain ⟨d,hd⟩:=k i;exact ⟨c+d,by simp only [O2];omega⟩
theorem Cs {P a b c d : Int} (h : P ∣ a - b) (k : P ∣ c - d) : P ∣ a * c - b * d:=by
 obtain ⟨x,hx⟩:=h;obtain ⟨y,hy⟩:=k;have ea : a=b+P * x:=by omega
 have ec : c=d+P * y:=by omega
 refine ⟨x * d+b * y+P * x * y,?_⟩;rw [ea,ec];simp only [Q9,O2];have e1 : b * (P * y)=P * (b * y):=by rw [<- OH,OV b P,OH]
 have e2 : P * x * (P * y)=P * (P * x * y):=by rw [<- OH,OV (P * x) P,OH]
 have e3 : P * (x * d)=P * x * d:=by rw [OH]
 rw [e1,e2,e3];omega
theorem AZ {P : Int} {u v x y : Nat->Int} (h : Cg P u v) (k : Cg P x y) : Cg P (jA M low u x) (jA M low v y):=λi=>by
 simp only [jA];have e : sm M (λj=>u j * iD M low j x i) - sm M (λj=>v j * iD M low j y i)=sm M (λj=>u j * iD M low j x i - v j * iD M low j y i):=by
  have:=AH M (λj=>u j * iD M low j x i - v j * iD M low j y i) (λj=>v j * iD M low j y i);have e2 : sm M (λj=>u j * iD M low j x i - v j * iD M low j y i+v j * iD M low j y i)=sm M (λj=>u j * iD M low j x i):=dh λj _=>by omega
  omega
 rw [e];exact Ml λj _=>Cs (h j) (LM k j i)
end
section
def dV (P : Int) (M : Nat) (x : Int) : Nat->Int:=nth (digs x P M)
theorem sj (P : Int) (M : Nat) (x : Int) : Sh M (dV P M x):=λi hi=>l9 (by rw [cO];exact hi)
theorem tM {P : Int} (hP : 0<P) : ∀(M : Nat) (x : Int),0<=x->x<P ^ M->valu P (digs x P M)=x
 | 0,x,h0,h1=>by simp at h1;simp [digs,valu];omega
 | M+1,x,h0,h1=>by rw [digs,valu,tM hP M (x / P) (OB h0 (by omega)) (Pn hP (by rwa [N4] at h1))];exact Q1 x P
theorem tF {P : Int} (c r : Int) (M : Nat) (hc0 : 0<=c) (hc1 : c<P) : digs (c+P * r) P (M+1)=c :: digs r P M:=by rw [digs,Int.add_mul_emod_self_left,QF hc0 hc1,Int.add_mul_ediv_left _ _ (by omega),QS hc0 hc1,Int.zero_add]
theorem qw {P : Int} : ∀(l : Lz),eD P l->digs (valu P l) P l.length=l
 | [],_=>rfl
 | c :: l,h=>by have h0:=h 0;simp only [nth,Qt] at h0;rw [valu,NP,tF c _ _ h0.1 h0.2,qw l (λi=>by simpa [nth] using h (i+1))]
theorem tP (P x : Int) : P ∣ x % P - x:=⟨-(x / P),by have:=Q1 x P;rw [Ra];omega⟩
theorem Gb {P a b : Int} (hP : 0<P) (ha : 0<=a) (ha1 : a<P) (hb : 0<=b) (hb1 : b<P) (h : P ∣ a - b) : a=b:=by
 obtain ⟨c,hc⟩:=h;have hc0 : c=0:=by
  rcases Int.lt_trichotomy c 0 with h1 | h1 | h1
  ·have:=NU (show c <= -1 by omega) (show 0<=P by omega);omega
  ·exact h1
  ·have:=NU (show 1<=c by omega) (show 0<=P by omega);omega
 rw [hc0] at hc;omega
theorem LZ {P : Int} (hP : 0<P) {M : Nat} {x y : Int} (hx0 : 0<=x) (hx1 : x<P ^ M) (hy0 : 0<=y) (hy1 : y<P ^ M) (h : Cg P (dV P M x) (dV P M y)) : x=y:=by
 have e : digs x P M=digs y P M:=by refine jn (by rw [cO,cO]) λi _=>?_;have h1:=eD.digs hP M x i;have h2:=eD.digs hP M y i;exact Gb hP h1.1 h1.2 h2.1 h2.2 (h i)
 rw [<- tM hP M x hx0 hx1,<- tM hP M y hy0 hy1,e]
theorem fY (c : Int) (l : Lz) : nth (c :: l) 0=c:=by simp [nth]
theorem eX (c : Int) (l : Lz) (i : Nat) : nth (c :: l) (i+1)=nth l i:=by simp [nth]
theorem jJ {P : Int} (hP : 0<P) : ∀(M : Nat) (x y : Int),Cg P (dV P M (fsum P M x y)) (λi=>dV P M x i+dV P M y i)
 | 0,x,y=>λi=>by simp [dV,digs,nth]
 | M+1,x,y=>λi=>by
  simp only [dV,fsum];rw [tF _ _ _ (Oa _ (by omega)) (N0 _ hP),digs,digs];match i with
  | 0 =>
   rw [fY,fY,fY]
   have h1:=tP P (x+y)
   have h2:=tP P x
   have h3:=tP P y
   have h4:=Int.dvd_sub (Int.dvd_sub h1 h2) h3
   rwa [show (x+y) % P - (x+y) - (x % P - x) - (y % P - y)=(x+y) % P - (x % P+y % P) by omega] at h4
  | i+1 =>
   rw [eX,eX,eX]
   exact jJ hP M (x / P) (y / P) i
theorem Fy {P : Int} (hP : 0<P) : ∀(M : Nat) (x : Int),Cg P (dV P M (fneg P M x)) (λi=>- dV P M x i)
 | 0,x=>λi=>by simp [dV,digs,nth]
 | M+1,x=>λi=>by
  simp only [dV,fneg];rw [tF _ _ _ (Oa _ (by omega)) (N0 _ hP),digs];match i with
  | 0 =>
   rw [fY,fY]
   have h1:=tP P (P - x % P)
   have h4:=Q8 h1 (Int.dvd_refl P)
   rwa [show (P - x % P) % P - (P - x % P)+P=(P - x % P) % P - - (x % P) by omega] at h4
  | i+1 =>
   rw [eX,eX]
   exact Fy hP M (x / P) i
theorem sR (P : Int) : ∀(M : Nat),dV P M 0=λ_=>0
 | 0=>by funext i;simp [dV,digs,nth]
 | M+1=>by
  funext i;simp only [dV,digs];match i with
  | 0=>rw [fY];simp
  | i+1=>rw [eX];have:=congrFun (sR P M) i;simpa [dV] using this
theorem LO {P : Int} (hP : 2<=P) {M : Nat} (hM : 0<M) : dV P M 1=eV 0:=by
 obtain ⟨m,rfl⟩ : ∃m,M=m+1:=⟨M - 1,by omega⟩
 funext i;simp only [dV,digs];match i with
 | 0=>rw [fY];simp [eV];exact QF (by omega) (by omega)
 | i+1 =>
  rw [eX,QS (by omega) (by omega)]
  have:=congrFun (sR P m) i
  simpa [dV,eV] using this
theorem KI {out : Lz} {M i : Nat} (hl : out.length=M) (hi : i<M) : nth (shl out) i=if i=0 then 0 else nth out (i - 1):=by
 match i with
 | 0=>simp [shl,nth]
 | i+1 =>
  rw [shl,eX,Nf (by omega)]
  simp only [nth,Ng,Qc]
  rw [Nd (by omega)];rfl
theorem yu {P : Int} (hP : 0<P) (low a b : Lz) {M : Nat} (ha : a.length=M) : ∀k,k<=M ->
  Cg P (nth (gF P low a b M k)) (λi=>sm k (λj=>nth b (M - k+j) * iD M (nth low) j (nth a) i))
 | 0,_=>λi=>by
  have e : nth (gF P low a b M 0) i=0:=by simp only [gF,nth,Ng,NI];split <;> rfl
  rw [e];simp [sm]
 | k+1,hk=>by
  have ih:=IL (M:=M) (low:=nth low) (yu hP low a b ha k (by omega));have e1 : (λi=>sm (k+1) (λj=>nth b (M - (k+1)+j) * iD M (nth low) j (nth a) i)) =
    λi=>xS M (nth low) (λi=>sm k (λj=>nth b (M - k+j) * iD M (nth low) j (nth a) i)) i+nth b (M - 1 - k) * nth a i:=by
   funext i;rw [JF,show M - (k+1)+0=M - 1 - k by omega];have e2:=congrFun (zr (M:=M) (low:=nth low) 1 k (λj i=>nth b (M - k+j) * iD M (nth low) j (nth a) i)) i;have e3 : xS M (nth low) (λi=>sm k (λj=>nth b (M - k+j) * iD M (nth low) j (nth a) i)) i=sm k (λj=>nth b (M - (k+1)+(j+1)) * iD M (nth low) (j+1) (nth a) i):=by refine Eq.trans e2 (dh λj _=>?_);rw [mL,show M - (k+1)+(j+1)=M - k+j by omega];rfl
   rw [e3];show nth b (M - 1 - k) * nth a i+_=_;omega
  rw [e1];intro i;show P ∣ nth (gF P low a b M (k+1)) i - (xS M (nth low) (λi=>sm k (λj=>nth b (M - k+j) * iD M (nth low) j (nth a) i)) i+nth b (M - 1 - k) * nth a i);by_cases hi : i<M
  ·rw [gF,qy _ _ _ _ _ _ _ hi,EI,KI (kq ..) hi];have h1:=ih i;generalize hv : xS M (nth low) (λi=>sm k (λj=>nth b (M - k+j) * iD M (nth low) j (nth a) i)) i=z at *;simp only [xS,Nd hi] at h1;generalize (if i=0 then (0 : Int) else nth (gF P low a b M k) (i - 1))=u at *;generalize nth (gF P low a b M k) (M - 1)=t at *;generalize nth b (M - 1 - k) * nth a i=c at *;have h2:=tP P (u+(P - t) * nth low i+c);have h3 : P ∣ P * nth low i:=Int.dvd_mul_right _ _;have h4:=Q8 (Q8 h2 h1) h3;rw [Rb] at h4 ⊢;rwa [show (u+(P * nth low i - t * nth low i)+c) % P - (u+(P * nth low i - t * nth low i)+c)+(u - t * nth low i - z)+P * nth low i=(u+(P * nth low i - t * nth low i)+c) % P - (z+c) by omega] at h4
  ·rw [l9 (by rw [kq];omega),l9 (l:=a) (by omega)];have e2 : xS M (nth low) (λi=>sm k (λj=>nth b (M - k+j) * iD M (nth low) j (nth a) i)) i=0:=Ja _ i (by omega);rw [e2];simp
theorem jm {P : Int} (hP : 0<P) (M : Nat) (mod : Lz) (x y : Int) : Cg P (dV P M (dQ P M mod x y)) (jA M (nth (qJ M mod)) (dV P M x) (dV P M y)):=by
 have h:=yu hP (qJ M mod) (digs x P M) (digs y P M) (cO P M x) M (Na _);have e : dV P M (dQ P M mod x y)=nth (gF P (qJ M mod) (digs x P M) (digs y P M) M M):=by unfold dV dQ;have:=qw (P:=P) (gF P (qJ M mod) (digs x P M) (digs y P M) M M) (eD.gF hP _ _ _ _ _);rw [kq] at this;rw [this]
 rw [e,qk (sj P M x) (sj P M y)];refine h.trans (Cg.of_eq ?_);funext i;simp only [jA];refine dh λj _=>?_;rw [show M - M+j=j by omega];rfl
structure oL (P : Int) (M : Nat) : Prop where
 p : 2<=P
 m : 0<M
def gq (P : Int) (M : Nat) (x : Int) : Prop:=0<=x/\x<P ^ M
variable {P : Int} {M : Nat} {mod : Lz}
theorem gq.ext (h : oL P M) {x y : Int} (hx : gq P M x) (hy : gq P M y) (e : Cg P (dV P M x) (dV P M y)) : x=y:=LZ (by have:=h.p;omega) hx.1 hx.2 hy.1 hy.2 e
theorem ja (h : oL P M) (x y : Int) : gq P M (dQ P M mod x y):=zX (by have:=h.p;omega) M mod x y
theorem ki (h : oL P M) (x y : Int) : gq P M (fsum P M x y):=zD (by have:=h.p;omega) M x y
theorem Ai (h : oL P M) (x : Int) : gq P M (fneg P M x):=u3 (by have:=h.p;omega) M x
theorem one_lt_pow (h : oL P M) : 1<P ^ M:=by
 have h1:=dy (P:=P) (by have:=h.p;omega) h.m;have h2:=h.p;have h3 : P ^ (0+1)=P:=by rw [N4,OT,Pq]
 have h4 : P ^ (0+1)<=P ^ M:=h1;omega
theorem zI (h : oL P M) : gq P M 1:=⟨by omega,one_lt_pow h⟩
theorem zL (h : oL P M) : gq P M 0:=⟨by omega,by have:=one_lt_pow h;omega⟩
theorem oL.pos (h : oL P M) : 0<P:=by have:=h.p;omega
theorem ld (h : oL P M) (x y : Int) : dQ P M mod x y=dQ P M mod y x :=
 (ja h x y).ext h (ja h y x) (((jm h.pos M mod x y).trans (Cg.of_eq (qk (sj _ _ _) (sj _ _ _)))).trans (jm h.pos M mod y x).symm)
theorem vE (h : oL P M) (x y z : Int) : dQ P M mod (dQ P M mod x y) z=dQ P M mod x (dQ P M mod y z):=by refine (ja h _ z).ext h (ja h x _) ?_;refine (jm h.pos M mod _ z).trans (((AZ (jm h.pos M mod x y) (Cg.refl _ _)).trans (Cg.of_eq (DO (sj _ _ _) (sj _ _ _) (sj _ _ _)))).trans ?_);exact ((jm h.pos M mod x _).trans (AZ (Cg.refl _ _) (jm h.pos M mod y z))).symm
theorem ku (h : oL P M) {x : Int} (hx : gq P M x) : dQ P M mod 1 x=x:=by refine (ja h 1 x).ext h hx ((jm h.pos M mod 1 x).trans (Cg.of_eq ?_));rw [LO h.p h.m,JZ h.m (sj _ _ _)]
theorem tK (h : oL P M) (x : Int) : dQ P M mod x 0=0:=by refine (ja h x 0).ext h (zL h) ((jm h.pos M mod x 0).trans (Cg.of_eq ?_));rw [sR];funext i;simp only [jA];rw [dh (g:=λ_=>0) λj _=>by rw [Ce];simp,mi]
theorem Jb (h : oL P M) (x y z : Int) : dQ P M mod x (fsum P M y z)=fsum P M (dQ P M mod x y) (dQ P M mod x z):=by refine (ja h x _).ext h (ki h _ _) ((jm h.pos M mod x _).trans ?_);refine (AZ (Cg.refl _ _) (jJ h.pos M y z)).trans ((Cg.of_eq (yc _ _ _)).trans ?_);exact ((jJ h.pos M _ _).trans (Cg.add (jm h.pos M mod x y) (jm h.pos M mod x z))).symm
theorem Ib (h : oL P M) (x y : Int) : fsum P M x y=fsum P M y x:=by refine (ki h x y).ext h (ki h y x) ((jJ h.pos M x y).trans ((Cg.of_eq ?_).trans (jJ h.pos M y x).symm));funext i;show _=_;omega
theorem DG (h : oL P M) (x y z : Int) : fsum P M (fsum P M x y) z=fsum P M x (fsum P M y z):=by refine (ki h _ z).ext h (ki h x _) ?_;refine (jJ h.pos M _ z).trans ((Cg.add (jJ h.pos M x y) (Cg.refl _ _)).trans ((Cg.of_eq ?_).trans ((jJ h.pos M x _).trans (Cg.add (Cg.refl _ _) (jJ h.pos M y z))).symm));funext i;show _=_;omega
theorem KQ (h : oL P M) {x : Int} (hx : gq P M x) : fsum P M x 0=x:=by refine (ki h x 0).ext h hx ((jJ h.pos M x 0).trans (Cg.of_eq ?_));rw [sR];funext i;simp
theorem GJ (h : oL P M) (x : Int) : fsum P M x (fneg P M x)=0:=by refine (ki h x _).ext h (zL h) ((jJ h.pos M x _).trans ((Cg.add (Cg.refl _ _) (Fy h.pos M x)).trans (Cg.of_eq ?_)));rw [sR];funext i;show _=_;omega
end
section
structure ER (cl : Z6->Nat->Prop) : Prop where
 mem : ∀l x,x ∈ l->cl l x
 mono : ∀l l',(∀x ∈ l,cl l' x)->∀y,cl l y->cl l' y
 exch : ∀l x y,cl (x :: l) y->¬ cl l y->cl (y :: l) x
inductive Rk (cl : Z6->Nat->Prop) : Z6->Nat->Prop
 | nil : Rk cl [] 0
 | dep {l n} (x : Nat) : cl l x->Rk cl l n->Rk cl (x :: l) n
 | ind {l n} (x : Nat) : ¬ cl l x->Rk cl l n->Rk cl (x :: l) (n+1)
variable {cl : Z6->Nat->Prop}
theorem Rk.ex (cl : Z6->Nat->Prop) : ∀l,∃n,Rk cl l n
 | []=>⟨0,.nil⟩
 | x :: l=>by
  obtain ⟨n,h⟩:=Rk.ex cl l;by_cases hx : cl l x
  ·exact ⟨n,.dep x hx h⟩
  ·exact ⟨n+1,.ind x hx h⟩
theorem Rk.uniq {l : Z6} {n : Nat} (h : Rk cl l n) : ∀ {m},Rk cl l m->n=m:=by
 induction h with
 | nil=>intro m h;cases h;rfl
 | dep x hx _ ih =>
  intro m h
  cases h with
  | dep _ _ h=>exact ih h
  | ind _ hn _=>exact absurd hx hn
 | ind x hx _ ih =>
  intro m h
  cases h with
  | dep _ hn _=>exact absurd hn hx
  | ind _ _ h=>rw [ih h]
theorem ER.sub (h : ER cl) {l l' : Z6} (hs : ∀x ∈ l,x ∈ l') {y : Nat} (hy : cl l y) : cl l' y:=h.mono l l' (λx hx=>h.mem l' x (hs x hx)) y hy
theorem ER.drop (h : ER cl) {l : Z6} {x y : Nat} (hx : cl l x) (hy : cl (x :: l) y) : cl l y :=
 h.mono (x :: l) l (λz hz=>by
  rcases List.mem_cons.1 hz with rfl | hz
  ·exact hx
  ·exact h.mem l z hz) y hy
theorem Rk.swap (h : ER cl) {l : Z6} {x y n : Nat} (hr : Rk cl (x :: y :: l) n) : Rk cl (y :: x :: l) n:=by
 have up : ∀ {z u},cl l z->cl (u :: l) z:=λhz=>h.sub (λx hx=>by simp [hx]) hz;cases hr with
 | dep _ hx hr =>
  cases hr with
  | dep _ hy hr=>exact .dep y (up hy) (.dep x (h.drop hy hx) hr)
  | ind _ hy hr =>
   by_cases hxl : cl l x
   ·exact .ind y (λhc=>hy (h.drop hxl hc)) (.dep x hxl hr)
   ·exact .dep y (h.exch l y x hx hxl) (.ind x hxl hr)
 | ind _ hx hr =>
  cases hr with
  | dep _ hy hr=>exact .dep y (up hy) (.ind x (λhc=>hx (up hc)) hr)
  | ind _ hy hr =>
   have hxl : ¬ cl l x:=λhc=>hx (up hc)
   exact .ind y (λhc=>hx (h.exch l x y hc hy)) (.ind x hxl hr)
theorem ER.perm (h : ER cl) {l l' : Z6} (hp : l.Perm l') {x : Nat} : cl l x->cl l' x:=h.sub λy hy=>hp.mem_iff.1 hy
theorem Rk.perm (h : ER cl) {l l' : Z6} (hp : l.Perm l') : ∀ {n},Rk cl l n->Rk cl l' n:=by
 induction hp with
 | nil=>intro n hr;exact hr
 | cons x hp ih =>
  intro n hr
  cases hr with
  | dep _ hx hr=>exact .dep x (h.perm hp hx) (ih hr)
  | ind _ hx hr=>exact .ind x (λhc=>hx (h.perm hp.symm hc)) (ih hr)
 | swap x y l=>intro n hr;exact hr.swap h
 | trans _ _ ih1 ih2=>intro n hr;exact ih2 (ih1 hr)
theorem Rk.Dn (h : ER cl) {l : Z6} {n : Nat} (hr : Rk cl l n) : ∀l',(∀x ∈ l',cl l x)->Rk cl (l' ++ l) n
 | [],_=>hr
 | x :: l',hx=>.dep x (h.sub (λy hy=>List.mem_append.2 (.inr hy)) (hx x (by simp))) (Rk.Dn h hr l' λy hy=>hx y (by simp [hy]))
theorem Rk.grow {l : Z6} {m : Nat} (hr : Rk cl l m) : ∀(l' : Z6) {n : Nat},Rk cl (l' ++ l) n->m<=n
 | [],n,hn=>by rw [hr.uniq hn];exact Na _
 | x :: l',n,hn=>by
  cases hn with
  | dep _ _ hn=>exact Rk.grow hr l' hn
  | ind _ _ hn=>exact RA (Rk.grow hr l' hn)
theorem Rk.le (h : ER cl) {l l' : Z6} {m n : Nat} (hm : Rk cl l m) (hn : Rk cl l' n) (hs : ∀x ∈ l,cl l' x) : m<=n :=
 hm.grow l' ((hn.Dn h l hs).perm h List.perm_append_comm)
theorem Rk.same (h : ER cl) {l l' : Z6} {m n : Nat} (hm : Rk cl l m) (hn : Rk cl l' n) (hs : ∀x,x ∈ l ↔ x ∈ l') : m=n :=
 Qo (hm.le h hn λx hx=>h.mem _ _ ((hs x).1 hx)) (hn.le h hm λx hx=>h.mem _ _ ((hs x).2 hx))
theorem Rk.len {l : Z6} {n : Nat} (hr : Rk cl l n) : n<=l.length:=by
 induction hr with
 | nil=>exact Na _
 | dep x _ _ ih=>exact RA ih
 | ind x _ _ ih=>exact Nat.succ_le_succ ih
end
section
variable {P : Program} {ops : Array Oper} {Q : Exit->Act->World->Prop} {md : Region.Mode} {S : World->Prop} {n : Nat}
def j8 (P : Program) (md : Region.Mode) (ops : Array Oper) (Q : Exit->Act->World->Prop) (S : World->Prop) (n : Nat) : Nat->Array Bool->Act->World->Prop
 | 0,listed,a,w=>Region.ready md ops listed=[]/\Q .normal a w
 | fuel+1,listed,a,w =>
  (Region.ready md ops listed=[]->Q .normal a w) /\
  ∀i ∈ Region.ready md ops listed,wpOp P ops Q i (λa' w'=>(i<n->S w')/\j8 P md ops Q S n fuel (listed.setIfInBounds i true) a' w') a w
theorem vS : ∀(fuel : Nat) (listed : Array Bool) (a : Act) (w : World),j8 P md ops Q S n fuel listed a w->wpAny P md ops Q fuel listed a w
 | 0,_,_,_,h=>h
 | fuel+1,_,_,_,h=>⟨h.1,λi hi=>wpOp_mono (λa' w' h'=>vS fuel _ a' w' h'.2) (h.2 i hi)⟩
theorem AF {i : Nat} {oi : Oper} {v : Value} (hi : ops[i]? = some oi) (hsel : ∀(j : Nat) (o : Oper) cs b,ops[j]? = some o->o.op ≠ .select cs b)
  (hQ : ∀c a w,Q (.panic c) (a.put oi.dst v) w->Q (.panic c) a w) (hs : Region.sinkB md ops n=true) (hc : Region.chainB md ops n=true) (hn : n<ops.size) (hin : i<n) :
  ∀(fuel : Nat) (listed : Array Bool) (a : Act) (w : World),HeadInv md ops n listed ->
   (∀j oj,ops[j]? = some oj->j ≠ i->listed.getD j true=false->(∀e ∈ oj.after,Region.binds md e=true->e.on ≠ i)->oi.apart ops oj=true) ->
   i ∈ Region.ready md ops listed->YieldsIf P ops S oi v a->S w ->
   j8 P md ops Q S n fuel (listed.setIfInBounds i true) (a.put oi.dst v) w->j8 P md ops Q S n (fuel+1) listed a w:=by
 intro fuel;induction fuel with
 | zero =>
  intro listed a w inv _ hr hy hS H
  refine ⟨λh=>(by rw [h] at hr;cases hr),λj hj=>?_⟩
  by_cases hji : j=i
  ·subst hji;exact hy.wpOp hi hS ⟨λ_=>hS,H⟩
  ·have:=ready_mono hj hji
   rw [H.1] at this
   cases this
 | succ fuel ih =>
  intro listed a w inv hfree hr hy hS H
  have hun:=(mem_ready.1 hr).1
  refine ⟨λh=>(by rw [h] at hr;cases hr),λj hj=>?_⟩
  by_cases hji : j=i
  ·subst hji;exact hy.wpOp hi hS ⟨λ_=>hS,H⟩
  ·have hjn : j<n:=by
    rcases N3 j n with h | h
    ·exact h
    ·exact absurd hj (tail_waits hs hc hn inv _ i rfl hin hun j h)
   have h1:=H.2 j (ready_mono hj hji)
   obtain ⟨hjun,oj,hoj,hall⟩:=mem_ready.1 hj
   have hnot : ∀e ∈ oj.after,Region.binds md e=true->e.on ≠ i:=λe he hb heq=>by have h1:=hall e he hb;rw [heq,getD_both hun] at h1;cases h1
   have h2:=wpOp_putIf hoj (hfree j oj hoj hji hjun hnot) (λcs b=>hsel i oi cs b hi) (λcs b=>hsel j oj cs b hoj) hQ hy h1
   have hfree' : ∀k ok,ops[k]? = some ok->k ≠ i->(listed.setIfInBounds j true).getD k true=false ->
     (∀e ∈ ok.after,Region.binds md e=true->e.on ≠ i)->oi.apart ops ok=true:=λk ok hk hki hku hno=>by
    refine hfree k ok hk hki ?_ hno;by_cases hjk : j=k
    ·subst hjk;exact hjun
    ·rw [getD_set_ne true hjk] at hku;exact hku
   refine wpOp_mono (λa' w' h3=>?_) h2
   have hSw:=h3.2.1 hjn
   refine ⟨λ_=>hSw,ih (listed.setIfInBounds j true) a' w' (inv.set hj hjn) hfree' (ready_mono hr (RQ hji)) h3.1 hSw ?_⟩
   rw [Array.setIfInBounds_comm _ _ hji]
   exact h3.2.2
theorem bg {i : Nat} {oi : Oper} {v : Value} {fuel : Nat} {listed : Array Bool} {a : Act} {w : World} (hi : ops[i]? = some oi)
  (hs : (Region.noSelect ops && (Region.sinkB md ops n && (Region.chainB md ops n && (decide (n<ops.size) && decide (i<n)))))=true) (hf : Region.free md ops listed i=true) (hr : (Region.ready md ops listed).contains i=true)
  (hQ : ∀c a w,Q (.panic c) (a.put oi.dst v) w->Q (.panic c) a w) (hy : YieldsIf P ops S oi v a) (hI : HeadInv md ops n listed/\S w)
  (h : HeadInv md ops n (listed.setIfInBounds i true)/\S w->j8 P md ops Q S n fuel (listed.setIfInBounds i true) (a.put oi.dst v) w) : j8 P md ops Q S n (fuel+1) listed a w:=by
 simp only [NK,N8] at hs;have hr' : i ∈ Region.ready md ops listed:=by simpa using hr
 exact AF hi (Region.noSelect_spec hs.1) hQ hs.2.1 hs.2.2.1 hs.2.2.2.1 hs.2.2.2.2 fuel listed a w hI.1 (Region.free_spec hi hf) hr' hy hI.2 (h ⟨hI.1.set hr' hs.2.2.2.2,hI.2⟩)
theorem Eb {i : Nat} {fuel : Nat} {listed : Array Bool} {a : Act} {w : World} (hr : Region.ready md ops listed=[i]) (hin : i<n) (hI : HeadInv md ops n listed)
  (h : wpOp P ops Q i (λa' w'=>S w'/\(HeadInv md ops n (listed.setIfInBounds i true)/\S w'->j8 P md ops Q S n fuel (listed.setIfInBounds i true) a' w')) a w) : j8 P md ops Q S n (fuel+1) listed a w :=
 ⟨λh0=>(by rw [hr] at h0;cases h0),λj hj=>by rw [hr,N6] at hj;subst hj;exact wpOp_mono (λa' w' h'=>⟨λ_=>h'.1,h'.2 ⟨hI.set (by rw [hr];simp) hin,h'.1⟩⟩) h⟩
theorem Cq {i : Nat} {fuel : Nat} {listed : Array Bool} {a : Act} {w : World} (hr : Region.ready md ops listed=[i]) (hin : n<=i) (hd : Region.ready md ops (listed.setIfInBounds i true)=[])
  (h : wpOp P ops Q i (λa' w'=>Q .normal a' w') a w) : j8 P md ops Q S n (fuel+1) listed a w :=
 ⟨λh0=>(by rw [hr] at h0;cases h0),λj hj=>by
  rw [hr,N6] at hj;subst hj;refine wpOp_mono (λa' w' h'=>⟨λh1=>by omega,?_⟩) h;cases fuel with
  | zero=>exact ⟨hd,h'⟩
  | succ f=>exact ⟨λ_=>h',by rw [hd];simp⟩⟩
theorem qD {i : Nat} {o : Oper} {fuel : Nat} {listed : Array Bool} {a : Act} {w : World} (hr : Region.ready md ops listed=[i]) (hin : i<n) (hI : HeadInv md ops n listed) (ho : ops[i]? = some o)
  (h : ∀K' : Act->World->Prop,Shut (∀a w,S w->(HeadInv md ops n (listed.setIfInBounds i true)/\S w->j8 P md ops Q S n fuel (listed.setIfInBounds i true) a w)->K' a w)->if Region.wanted o (yielded ops a.tmps)=true then Oper.wp P o a w K' Q else K' (a.put o.dst undef) w) :
  j8 P md ops Q S n (fuel+1) listed a w :=
 Eb hr hin hI (wpOp_step ho λK' hK=>h K' λa w hS hW=>hK a w ⟨hS,hW⟩)
theorem vu {i : Nat} {o : Oper} {fuel : Nat} {listed : Array Bool} {a : Act} {w : World} (hr : Region.ready md ops listed=[i]) (hin : n<=i) (hd : Region.ready md ops (listed.setIfInBounds i true)=[]) (ho : ops[i]? = some o)
  (h : ∀K' : Act->World->Prop,Shut (∀a w,Q .normal a w->K' a w)->if Region.wanted o (yielded ops a.tmps)=true then Oper.wp P o a w K' Q else K' (a.put o.dst undef) w) :
  j8 P md ops Q S n (fuel+1) listed a w :=
 Cq hr hin hd (wpOp_step ho λK' hK=>h K' λa w hq=>hK a w hq)
theorem II : HeadInv md ops n (Array.replicate ops.size false) :=
 ⟨by simp,λj oj _ hl=>(by rw [getD_replicate_false] at hl;cases hl),λt _ ht=>by have:=getD_replicate_false ops.size t;exact getD_in (by simpa using ht) this⟩
theorem uw {id : Nat} {a : Act} {w : World} (S : World->Prop) (n : Nat) (hm : P.follows .mixedOrders=true) (hS : S w.drew)
  (h : HeadInv .any ops n (Array.replicate ops.size false)/\S w.drew->j8 P .any ops Q S n ops.size (Array.replicate ops.size false) a w.drew) : (Code.region id ops true).wp P Q a w :=
 wp_region_any hm (vS _ _ _ _ (h ⟨II,hS⟩))
end
def RZ:=@Below.next
def R6:=@Ints.own
def Sa:=@Below.app
def Sb:=@Below.bC
def Sd:=@Ints.nil
def Si:=@Ints.news
def Sv:=@Pl.own
def Sz:=@Cg.of_eq
def SC:=@Rk.same
def SF:=@Cg.refl
def SI:=@eD.oU
def SM:=@eD.digs
def SN:=@Cg.trans
def SQ:=@yQ.own
def SR:=@Rk.le
def SU:=@Rk.ex
end Go.Proofs.YthglbncgemdcbaaGreat
