import Derived.Test.YthglbncgemdcbaaGreatCK0
import Derived.WalkSpells
import Derived.WalkLawsBesides
import Derived.Laws.CopyOwn
import Derived.Maps.AppendAt
import Derived.Deep.RegionLaw
import Derived.StillTail
import Derived.OrdersHeld
import Derived.Deep.RegionHeld
import Derived.RangeFuncBox
import Derived.RangeFuncLeaves
import Derived.Shelf.Abstract
import Derived.OwnWalkIn
import Derived.TacticsInMore
import Derived.LoopNIn
import Derived.LoopIn
namespace Go.Proofs.YthglbncgemdcbaaGreat
set_option linter.all false
set_option maxRecDepth 100000
set_option maxHeartbeats 2000000
open Go.RowKit Go.Proofs.Tryz
def digs (x p : Int) : Nat->LI
 | 0=>[]
 | m+1=>(x % p) :: digs (x / p) p m
def valu (p : Int) : LI->Int
 | []=>0
 | c :: d=>c+p * valu p d
def iX (x p : Int) : Nat->Int
 | 0=>x
 | k+1=>iX x p k / p
theorem bF (p : Int) : ∀(m : Nat) (x : Int),(digs x p m).length=m
 | 0,_=>rfl
 | m+1,x=>by simp [digs,bF p m]
theorem oE (x p : Int) : ∀k,iX x p (k+1)=iX (x / p) p k
 | 0=>rfl
 | k+1=>by rw [iX,oE x p k];rfl
theorem oz (p : Int) : ∀(k : Nat) (x : Int),digs x p (k+1)=digs x p k ++ [iX x p k % p]
 | 0,x=>rfl
 | k+1,x=>by rw [digs,oz p k (x / p),oE];rfl
theorem uY (x p : Int) (Z : 0<=x) (Y : 1<=p) : ∀k,0<=iX x p k/\iX x p k<=x
 | 0=>⟨Z,Nb _⟩
 | k+1=>by have h:=uY x p Z Y k;exact ⟨Lf h.1 (by omega),Nx (Lo _ h.1) h.2⟩
def dk (l : LI) (k m : Nat) : LI:=l ++ List.replicate (m - k) 0
theorem fo (l : LI) (k m : Nat) (x : Int) (Z : l.length=k) (Y : k<m) : (dk l k m).set k x=dk (l ++ [x]) (k+1) m:=by unfold dk;rw [M6 _ _ (by omega),Z,MS];rw [show m - k=(m - (k+1))+1 from by omega,Mu,JY];simp
theorem fR (l : LI) (m : Nat) : dk l m m=l:=by simp [dk]
def nth (l : LI) (i : Nat) : Int:=l.getD i 0
def shl (out : LI) : LI:=0 :: out.dropLast
def AO (P : Int) (low a : LI) (top bi : Int) (Z : LI) (j : Nat) : Int:=(nth Z j+(P - top) * nth low j+bi * nth a j) % P
def lQ (P : Int) (low a : LI) (m : Nat) (bi : Int) (out : LI) : LI :=
 (List.range m).map λj=>AO P low a (nth out (m - 1)) bi (shl out) j
def ey (P : Int) (low a b : LI) (m : Nat) : Nat->LI
 | 0=>List.replicate m 0
 | k+1=>lQ P low a m (nth b (m - 1 - k)) (ey P low a b m k)
def lJ (M : Nat) (mod : LI) : LI:=if 1<M then mod else [0]
def dh (P : Int) (M : Nat) (mod : LI) (x y : Int) : Int :=
 valu P (ey P (lJ M mod) (digs x P M) (digs y P M) M M)
theorem aj {l : LI} {i : Nat} (h : i<l.length) : nth l i=l[i]:=by simp [nth,h]
theorem aI {l : LI} {i : Nat} (h : i<l.length) : nth l i ∈ l:=by rw [aj h];exact Kp h
theorem i6 {l : LI} {i : Nat} (h : l.length<=i) : nth l i=0:=by simp [nth,h]
theorem fZ {l Z : LI} (Y : l.length=Z.length) (h : ∀i,i<l.length->nth l i=nth Z i) : l=Z:=by apply KW Y;intro i h1 h2;have:=h i h1;rwa [aj h1,aj h2] at this
def dz (P : Int) (l : LI) : Prop:=∀i,0<=nth l i/\nth l i<P
theorem dz.kH {P : Int} (Z : 0<P) {l : LI} (h : ∀x ∈ l,0<=x/\x<P) : dz P l:=by
 intro i;rcases Kz i l.length with hi | hi
 ·exact h _ (aI hi)
 ·rw [i6 hi];omega
theorem dz.digs {P : Int} (Z : 0<P) : ∀(m : Nat) (x : Int),dz P (digs x P m)
 | 0,x=>λi=>by simp [Go.Proofs.YthglbncgemdcbaaGreat.digs,nth];omega
 | m+1,x=>by
  intro i;match i with
  | 0=>simp only [Go.Proofs.YthglbncgemdcbaaGreat.digs,nth,Mv];exact ⟨Kw _ (by omega),Kn _ Z⟩
  | i+1=>simpa only [Go.Proofs.YthglbncgemdcbaaGreat.digs,nth,List.getD_cons_succ] using dz.digs Z m (x / P) i
theorem dz.replicate {P : Int} (Y : 0<P) (m : Nat) : dz P (List.replicate m 0):=by refine dz.kH Y λx Z=>?_;obtain ⟨_,rfl⟩:=List.mem_replicate.1 Z;omega
theorem iq (P : Int) (low a : LI) (m : Nat) (bi : Int) (out : LI) : (lQ P low a m bi out).length=m:=by simp [lQ]
theorem lr (P : Int) (low a : LI) (m : Nat) (bi : Int) (out : LI) (j : Nat) (Z : j<m) :
  nth (lQ P low a m bi out) j=AO P low a (nth out (m - 1)) bi (shl out) j:=by rw [aj (by rw [iq];exact Z)];simp [lQ]
theorem dz.lQ {P : Int} (Y : 0<P) (low a : LI) (m : Nat) (bi : Int) (out : LI) : dz P (lQ P low a m bi out):=by
 intro j;rcases Kz j m with Z | Z
 ·rw [lr _ _ _ _ _ _ _ Z];exact ⟨Kw _ (by omega),Kn _ Y⟩
 ·rw [i6 (by rw [iq];exact Z)];omega
theorem gN (P : Int) (low a b : LI) (m : Nat) : ∀k,(ey P low a b m k).length=m
 | 0=>by simp [ey]
 | k+1=>iq ..
theorem dz.ey {P : Int} (Z : 0<P) (low a b : LI) (m : Nat) : ∀k,dz P (ey P low a b m k)
 | 0=>dz.replicate Z m
 | k+1=>by simp only [Go.Proofs.YthglbncgemdcbaaGreat.ey];exact dz.lQ Z _ _ _ _ _
theorem yG (out : LI) (h : 0<out.length) : (shl out).length=out.length:=by simp [shl];omega
theorem dz.shl {P : Int} (Z : 0<P) {out : LI} (h : dz P out) : dz P (shl out):=by
 intro i;match i with
 | 0=>simp [Go.Proofs.YthglbncgemdcbaaGreat.shl,nth];omega
 | i+1 =>
  have e : nth (Go.Proofs.YthglbncgemdcbaaGreat.shl out) (i+1)=if i<out.length - 1 then nth out i else 0:=by simp only [Go.Proofs.YthglbncgemdcbaaGreat.shl,nth,JS,Kq,Mb];split <;> rfl
  rw [e];split
  ·exact h i
  ·omega
def gj (new lM : LI) (j : Nat) : LI:=new.take j ++ lM.drop j
theorem fQ (new lM : LI) : gj new lM 0=lM:=by simp [gj]
theorem gx (new lM : LI) (m : Nat) (h1 : new.length=m) (h2 : lM.length=m) : gj new lM m=new:=by simp [gj,JX (MT h1),Mc (MT h2)]
theorem gY (new lM : LI) (j : Nat) (h : new.length=lM.length) (Z : j<=lM.length) : (gj new lM j).length=lM.length:=by simp [gj];omega
theorem eQ (new lM : LI) (j i : Nat) (h : new.length=lM.length) (Z : j<=lM.length) : nth (gj new lM j) i=if i<j then nth new i else nth lM i:=by
 unfold gj nth;simp only [JS];split
 ·rename_i hi;rw [J8 (by simp;omega),K0,JT hi]
 ·rename_i hi;rw [KO (by simp;omega),List.getElem?_drop];congr 2;simp;omega
theorem eh (l : LI) (i j : Nat) (x : Int) (hi : i<l.length) : nth (l.set i x) j=if j=i then x else nth l j:=by
 unfold nth;simp only [JS,KT];by_cases h : i=j
 ·subst h;simp [hi]
 ·rw [JR h,JR (by omega)]
theorem fA (new lM : LI) (j : Nat) (h : new.length=lM.length) (V : j<lM.length) : (gj new lM j).set j (nth new j)=gj new lM (j+1):=by
 have X:=gY new lM j h (by omega);have Z:=gY new lM (j+1) h (by omega);refine fZ (by simp [X,Z]) λi hi=>?_;rw [eh _ _ _ _ (by omega),eQ _ _ _ _ h (by omega),eQ _ _ _ _ h (by omega)];by_cases e : i=j
 ·subst e;simp
 ·rw [JR e];by_cases Y : i<j
  ·rw [JT Y,JT (by omega)]
  ·rw [JR Y,JR (by omega)]
theorem mO {P : Int} (Y : 0<P) : ∀(l : LI),dz P l->0<=valu P l/\valu P l<P ^ l.length
 | [],_=>by simp [valu]
 | c :: l,h=>by
  have h0:=h 0;have Z:=mO Y l (λi=>by simpa [nth] using h (i+1));simp only [nth,Mv] at h0;simp only [valu,Kr,KH];have h1 : 0<=P * valu P l:=LG (by omega) Z.1;have h2 : P * valu P l+P<=P ^ l.length * P:=by have:=Kk (show valu P l+1<=P ^ l.length by omega) (show 0<=P by omega);rw [K1 (P ^ l.length)];rw [K9] at this;omega
  omega
theorem dS {P : Int} (Z : 1<=P) {a b : Nat} (h : a<=b) : P ^ a<=P ^ b:=by
 obtain ⟨n,rfl⟩ : ∃n : Nat,P=n:=⟨P.toNat,by omega⟩
 have:=Nat.pow_le_pow_right (n:=n) (by omega) h;exact_mod_cast this
theorem dz.drop {P : Int} {l : LI} (h : dz P l) (k : Nat) : dz P (l.drop k):=by intro i;have:=h (k+i);simpa [nth] using this
theorem dz.AN {P : Int} (X : 0<P) {l : LI} (h : dz P l) {m : Nat} (Y : l.length=m) (Z : P ^ m<=256) (k : Nat) : 0<=valu P (l.drop k)/\valu P (l.drop k)<256:=by have hb:=mO X (l.drop k) (h.drop k);refine ⟨hb.1,Int.lt_of_lt_of_le hb.2 (Nx ?_ Z)⟩;rw [ML,Y];exact dS (by omega) (by omega)
def ablk : OA->Nat | some a=>a.block | none=>0
def aL : OA->Nat | some a=>a.off | none=>0
@[simp] theorem ablk_some (b o : Nat) (s : Option Nat) : ablk (some ⟨b,o,s⟩)=b:=rfl
@[simp] theorem aoff_some (b o : Nat) (s : Option Nat) : aL (some ⟨b,o,s⟩)=o:=rfl
def Pl (a : OA) (n : Nat) : Prop:=0<n->a=some ⟨ablk a,aL a,none⟩
def ai (l : Ll) (i : Nat) : LI:=l.getD i []
def pJ (l : List Bool) (i : Nat) : Bool:=l.getD i false
theorem aE {l : Ll} {i : Nat} (h : i<l.length) : ai l i=l[i]:=by simp [ai,h]
theorem fp {l : Ll} {i : Nat} (h : i<l.length) : ai l i ∈ l:=by rw [aE h];exact Kp h
theorem mZ {l : List Bool} {i : Nat} (h : i<l.length) : pJ l i=l[i]:=by simp [pJ,h]
structure Ints (w : World) (a : OA) (n : Nat) (l : LI) : Prop where
 len : l.length=n
 pl : Pl a n
 max : n<=maxLen
 cell : ∀i,i<n->w.cell? ⟨ablk a,aL a+i,none⟩=some (.int .i64 (nth l i))
structure tN (w : World) (a : OA) (n : Nat) (l : List Bool) : Prop where
 len : l.length=n
 pl : Pl a n
 max : n<=maxLen
 cell : ∀i,i<n->w.cell? ⟨ablk a,aL a+i,none⟩=some (.bool (pJ l i))
structure bu (w : World) (a : OA) (n : Nat) (l : Ll) : Prop where
 len : l.length=n
 pl : Pl a n
 max : n<=maxLen
 cell : ∀i,i<n->∃b m c,w.cell? ⟨ablk a,aL a+i,none⟩=some (.slice b m c)/\Ints w b m (ai l i)
def IQ (w : World) (B : Nat) (a : OA) (n : Nat) : Prop:=0<n->B<=ablk a/\∀i,i<n->w.frozen? ⟨ablk a,aL a+i,none⟩=false
theorem Ints.lt {w : World} {a : OA} {n : Nat} {l : LI} (h : Ints w a n l) (Z : 0<n) : ablk a<w.heap.size :=
 J2 w _ (h.cell 0 Z)
theorem bu.lt {w : World} {a : OA} {n : Nat} {l : Ll} (h : bu w a n l) (Z : 0<n) : ablk a<w.heap.size:=by obtain ⟨b,m,c,Y,_⟩:=h.cell 0 Z;exact J2 w _ Y
theorem Ints.of_block {w w' : World} {a : OA} {n : Nat} {l : LI} (h : Ints w a n l) (hb : 0<n->w'.heap[ablk a]? = w.heap[ablk a]?) : Ints w' a n l :=
 ⟨h.len,h.pl,h.max,λi hi=>(Kj (w:=w) (a:=⟨ablk a,aL a+i,none⟩) (hb (by omega))).trans (h.cell i hi)⟩
theorem Ints.below {B : Nat} {w w' : World} {a : OA} {n : Nat} {l : LI} (h : Ints w a n l) (hb : Below B w w') (Y : 0<n->ablk a<B) : Ints w' a n l :=
 h.of_block λZ=>hb.block _ (Y Z)
theorem Ints.af {w w' : World} {a : OA} {n : Nat} {l : LI} (h : Ints w a n l) (hb : OC w w') : Ints w' a n l :=
 h.below hb λZ=>h.lt Z
theorem bu.af {w w' : World} {a : OA} {n : Nat} {l : Ll} (h : bu w a n l) (hb : OC w w') : bu w' a n l:=by refine ⟨h.len,h.pl,h.max,λi hi=>?_⟩;obtain ⟨b,m,c,Z,Y⟩:=h.cell i hi;exact ⟨b,m,c,(hb.cell (J2 w _ Z)).trans Z,Y.af hb⟩
theorem Ints.nil (w : World) (c : OA) : Ints w c 0 []:=⟨rfl,λh=>by omega,by unfold maxLen;omega,λi h=>by omega⟩
@[go_sem] theorem run_indexAt_pl {P : Program} (w : World) (t : TypeId) (a : OA) (len cap : Nat) (k : IntKind) (i : Int) (h : P.underlying t=some (.slice (P.elem t)))
  (Z : Pl a len) (h0 : 0<=i) (h1 : i<len) :
  (Instr.indexAt t (.slice a len cap) (.int k i)).run P w=((sizeOf (P.elem t)).run P w).andThen λs w=>.ok (.pointer (some ((⟨ablk a,aL a,none⟩ : Addr).add (i.toNat * s)))) w:=by have e : a=some ⟨ablk a,aL a,none⟩:=Z (by omega);generalize hb : ablk a=b at *;generalize Y : aL a=o at *;subst e;rw [run_indexAt_slice (h:=h),JT ⟨h0,h1⟩]
theorem wB (l : List Bool) (i j : Nat) (x : Bool) (hi : i<l.length) : pJ (l.set i x) j=if j=i then x else pJ l j:=by
 unfold pJ;simp only [JS,KT];by_cases h : i=j
 ·subst h;simp [hi]
 ·rw [JR h,JR (by omega)]
theorem Pl.own {w : World} {base : Nat} {e : TypeId} {v : Value} {n : Nat} {xs : List Value} (h : w.ownsRow base e 1 v n xs) : ∃a c,v = .slice a n c/\Pl a n:=by
 rcases h.2 with ⟨rfl,rfl⟩ | ⟨g,cap,cur,rfl,_⟩
 ·exact ⟨none,0,rfl,λh=>by omega⟩
 ·exact ⟨_,cap,rfl,λ_=>rfl⟩
theorem bK {w : World} {base : Nat} {e : TypeId} {a : OA} {c n : Nat} {xs : List Value} (h : w.ownsRow base e 1 (.slice a n c) n xs) (i : Nat) (hi : i<n) :
  w.cell? ⟨ablk a,aL a+i,none⟩=xs[i]?/\w.frozen? ⟨ablk a,aL a+i,none⟩=false/\base<=ablk a/\xs.length=n/\n<=maxLen:=by
 obtain ⟨U,h2⟩:=h;rcases h2 with ⟨h2,rfl⟩ | ⟨g,cap,cur,V,X,Z,N,hm,O,Y⟩
 ·omega
 ·cases V
  simp only [ablk_some,aoff_some,LJ];refine ⟨?_,by simp [World.frozen?,Z],X,by omega,by omega⟩;rw [<- Y,K0,JT (by omega)];simp [World.cell?,Z]
theorem Ints.own {w : World} {base : Nat} {e : TypeId} {a : OA} {c n : Nat} {l : LI} (h : w.ownsRow base e 1 (.slice a n c) n (l.map (Value.int .i64))) :
  Ints w a n l/\IQ w base a n:=by
 have X : l.length=n:=by have:=h.1;simpa using this
 obtain ⟨a',U,Y,V⟩:=Pl.own h;cases Y
 refine ⟨⟨X,V,?_,λi hi=>?_⟩,λZ=>⟨(bK h 0 Z).2.2.1,λi hi=>(bK h i hi).2.1⟩⟩
 ·rcases Lq n with h0 | h0
  ·subst h0;unfold maxLen;omega
  ·exact (bK h 0 h0).2.2.2.2
 ·rw [(bK h i hi).1];simp [nth,show i<l.length by omega]
theorem tN.own {w : World} {base : Nat} {e : TypeId} {a : OA} {c n : Nat} {l : List Bool} (h : w.ownsRow base e 1 (.slice a n c) n (l.map Value.bool)) :
  tN w a n l/\IQ w base a n:=by
 have X : l.length=n:=by have:=h.1;simpa using this
 obtain ⟨a',U,Y,V⟩:=Pl.own h;cases Y
 refine ⟨⟨X,V,?_,λi hi=>?_⟩,λZ=>⟨(bK h 0 Z).2.2.1,λi hi=>(bK h i hi).2.1⟩⟩
 ·rcases Lq n with h0 | h0
  ·subst h0;unfold maxLen;omega
  ·exact (bK h 0 h0).2.2.2.2
 ·rw [(bK h i hi).1];simp [pJ,show i<l.length by omega]
theorem bC {w : World} {B : Nat} {e : TypeId} {a : OA} {c n : Nat} {xs : List Value} (h : w.ownsRow B e 1 (.slice a n c) n xs) (i : Nat) (hi : i<n) (u : Value) :
  (w.setCell ⟨ablk a,aL a+i,none⟩ u).ownsRow B e 1 (.slice a n c) n (xs.set i u):=by
 have Y:=h;rcases h.2 with ⟨Z,h0⟩ | ⟨g,_,cur,Z,U,O,N,hm,V,X⟩
 ·omega
 ·cases Z
  simpa using (Y.stored i u).1
theorem eS {w w' : World} {B : Nat} {e : TypeId} {a : OA} {c n : Nat} {xs : List Value} (h : w.ownsRow B e 1 (.slice a n c) n xs)
  (hb : w'.heap[ablk a]? = w.heap[ablk a]?) : w'.ownsRow B e 1 (.slice a n c) n xs:=by
 refine ⟨h.1,?_⟩;rcases h.2 with h2 | ⟨g,cap,cur,Z,X,Y,r⟩
 ·exact .inl h2
 ·cases Z
  exact .inr ⟨g,c,cur,rfl,X,by rw [ablk_some] at hb;rw [hb];exact Y,r⟩
theorem kF {w : World} {B : Nat} {e : TypeId} {a : OA} {c n : Nat} {xs : List Value} (h : w.ownsRow B e 1 (.slice a n c) n xs) :
  (a=none/\n=0/\c=0)\/(B<=ablk a/\ablk a<w.heap.size):=by
 rcases h.2 with ⟨Z,Y⟩ | ⟨g,cap,cur,Z,V,X,r⟩
 ·cases Z;exact .inl ⟨rfl,Y,rfl⟩
 ·cases Z;exact .inr ⟨V,(Array.getElem?_eq_some_iff.1 X).1⟩
theorem cF {w : World} {B : Nat} {e : TypeId} : w.ownsRow B e 1 (.slice none 0 0) 0 []:=Ny _ _ _ _
theorem dP {w : World} {B : Nat} {e : TypeId} {a : OA} {c n : Nat} {xs : List Value} (h : w.ownsRow B e 1 (.slice a n c) n xs) {p : Addr} (u : Value) (Z : a=none\/ablk a ≠ p.block) :
  (w.setCell p u).ownsRow B e 1 (.slice a n c) n xs:=by
 rcases Z with rfl | Z
 ·have h2:=kF h;refine ⟨h.1,.inl ?_⟩;rcases h.2 with h2 | ⟨g,cap,cur,Y,_⟩
  ·exact h2
  ·cases Y
 ·exact eS h (J6 _ _ _ _ Z)
theorem bp {w w' : World} {B : Nat} {e : TypeId} {a : OA} {c n : Nat} {xs : List Value} (h : w.ownsRow B e 1 (.slice a n c) n xs) (hb : OC w w') :
  w'.ownsRow B e 1 (.slice a n c) n xs:=by
 refine ⟨h.1,?_⟩;rcases h.2 with h2 | ⟨g,cap,cur,Y,X,Z,r⟩
 ·exact .inl h2
 ·exact .inr ⟨g,cap,cur,Y,X,by rw [hb.block g (Array.getElem?_eq_some_iff.1 Z).1];exact Z,r⟩
theorem bd {w : World} {B B' : Nat} {e : TypeId} {v : Value} {n : Nat} {xs : List Value} (h : w.ownsRow B e 1 v n xs) (Z : B'<=B) : w.ownsRow B' e 1 v n xs:=by
 refine ⟨h.1,?_⟩;rcases h.2 with h2 | ⟨g,cap,cur,Y,X,r⟩
 ·exact .inl h2
 ·exact .inr ⟨g,cap,cur,Y,J4 Z X,r⟩
theorem jZ {w : World} {B : Nat} {e : TypeId} {v : Value} {n : Nat} {xs : List Value} (h : w.ownsRow B e 1 v n xs) : xs.length=n:=by simpa using h.1
theorem ch {P : Program} {w : World} {ops : Array Oper} {rest : List Oper} {o : Oper} {ac : Act} {Q : Exit->Act->World->Prop}
  (G : o.guard=none) (l c : Operand) (t e : TypeId) (Y : o.op=Op.makeSlice t l c) (z : Value) (bytes : Nat)
  (h1 : P.underlying t=some (.slice e)) (h2 : (P.info? e).map (λi=>(i.zero,i.size,i.bytes))=some (some z,1,bytes)) (L : z.cells = #[z])
  (n : Nat) (I : ac.eval l = .int .i64 n) (K : ac.eval c = .int .i64 n) (F : bytes * n<=281474976710656) (C : n<=maxLen)
  (E : ∀a w',w'.ownsRow w.heap.size e 1 (.slice a n n) n (List.replicate n z)->OC w w'->w.heap.size<=ablk a->ablk a<w'.heap.size->wpList P ops Q rest (ac.put o.dst (.slice a n n)) w') :
  wpList P ops Q (o :: rest) ac w:=by
 obtain ⟨i,hi,U,X,V⟩:=info_parts h2;refine wpList_make_full w G l c t Y w.heap.size e i z 1 h1 hi U X .i64 .i64 n n n I K rfl rfl (by rw [V];exact F) C (JO _) λw' Z O=>?_;refine E _ w' ?_ ((JP _ _).grown O (JO _) (λk H=>by cases H)) (by simp) ?_
 ·simpa [L,toList_madeCells_one] using Z
 ·rcases Z.2 with ⟨N,_⟩ | ⟨g,cap,cur,N,_,D,_⟩
  ·cases N
  ·cases N;exact (Array.getElem?_eq_some_iff.1 D).1
theorem Below.app {B Y : Nat} {X w w' : World} {e : TypeId} {a : OA} {n c : Nat} {xs : List Value} (h : Below Y X w) (Z : w.ownsRow B e 1 (.slice a n c) n xs)
  (U : w.grownBy w' (Value.slice a n c).ownBlock) (h0 : Y<=B) (h1 : Y<=w.heap.size) : Below Y X w' :=
 h.grown U h1 λk V=>J4 h0 (Z.lt k V).1
theorem aB {w w' : World} (hb : OC w w') {a : Addr} {v : Value} (h : w.cell? a=some v) : w'.cell? a=some v :=
 (hb.cell (J2 w a h)).trans h
theorem Below.next {Z w w' : World} (h : OC Z w) (hb : OC w w') : OC Z w' :=
 h.trans (hb.mono h.size)
theorem FM {w : World} {B : Nat} {e : TypeId} {a : OA} {n : Nat} {xs : List Value} (h : w.ownsRow B e 1 (.slice a n n) n xs) (O : 0<n) :
  ∃g,a=some ⟨g,0,none⟩/\B<=g/\w.heap[g]? = some (.cells xs.toArray e (0,0)):=by
 rcases h.2 with ⟨Z,h0⟩ | ⟨g,cap,cur,Z,V,U,hle,hm,X,Y⟩
 ·omega
 ·cases Z
  refine ⟨g,rfl,V,?_⟩;rw [U,<- Y,JX (by rw [Array.length_toList,X];exact JO _)]
theorem zA {w : World} {B : Nat} {e : TypeId} {g n : Nat} {xs : List Value} (Y : B<=g) (h : w.heap[g]? = some (.cells xs.toArray e (0,0))) (Z : xs.length=n) (hm : n<=maxLen) :
  w.ownsRow B e 1 (.slice (some ⟨g,0,none⟩) n n) n xs :=
 ⟨by simpa using Z,.inr ⟨g,n,xs.toArray,rfl,Y,h,JO _,hm,by simpa using Z,by simpa using JX (by omega)⟩⟩
theorem nE {w : World} {g : Nat} {e : TypeId} {l : LI} (h : w.heap[g]? = some (.cells (l.map (Value.int .i64)).toArray e (0,0))) (j : Nat) (Z : j<l.length) :
  w.cell? ⟨g,j,none⟩=some (.int .i64 (nth l j))/\w.frozen? ⟨g,j,none⟩=false:=by refine ⟨?_,by simp [World.frozen?,h]⟩;simp [World.cell?,h,nth,Z]
theorem me {w : World} {g : Nat} {e : TypeId} {l : LI} (h : w.heap[g]? = some (.cells (l.map (Value.int .i64)).toArray e (0,0))) (j : Nat) (x : Int) :
  (w.setCell ⟨g,j,none⟩ (.int .i64 x)).heap[g]? = some (.cells ((l.set j x).map (Value.int .i64)).toArray e (0,0)):=by have:=heap_setCell_same w g j _ e (.int .i64 x) h;simpa [Kh] using this
theorem Ey (g j : Nat) : (⟨g,0,none⟩ : Addr).add j=⟨g,j,none⟩:=by unfold Addr.add;split <;> simp_all
theorem vg {w : World} {g : Nat} {e : TypeId} {l : LI} (h : w.heap[g]? = some (.cells (l.map (Value.int .i64)).toArray e (0,0))) :
  ∀j v,(l.dropLast.map (Value.int .i64))[j]? = some v->w.cell? ((⟨g,0,none⟩ : Addr).add j)=some v:=by intro j v Y;have Z:=(List.getElem?_eq_some_iff.1 Y).1;simp only [J5,List.length_dropLast] at Z;rw [Ey,(nE h j (by omega)).1];rw [Ly,Mb,JT Z,Km (by omega)] at Y;rw [aj (by omega)];simpa using Y
theorem zN (l : LI) (h : 0<l.length) : splice (l.map (Value.int .i64)) 1 (l.dropLast.map (Value.int .i64))=(nth l 0 :: l.dropLast).map (Value.int .i64):=by
 unfold splice;match l,h with
 | x :: l,_ =>
  have e : (List.map (Value.int .i64) (x :: l)).drop (1+(List.map (Value.int .i64) (x :: l).dropLast).length)=[]:=by apply Mc;simp;omega
  rw [e]
  simp [nth]
theorem aV : (prog.info? 3).map (λi=>(i.zero,i.size,i.bytes))=some (some (.int .i64 0),1,8):=by kernel_rfl
theorem mE (x p : Int) (m : Nat) (w : World) (G : 0<=x) (U : x<=9223372036854775807) (N : 1<=p) (hm : m<=256) :
  Calls prog 214 #[.int .i64 x,.int .i64 p,.int .i64 m] w λe w' =>
   ∃a c,e = .returned (.slice a m c)/\Ints w' a m (digs x p m)/\IQ w' w.heap.size a m/\OC w w':=by
 go_enter func214,ntmps214;go_wp2_with (at_make;refine ch rfl _ _ 22 3 rfl (.int .i64 0) 8 underlying22 aV rfl m rfl rfl (by omega) (by unfold maxLen;omega) ?_;intro a B X Y L V);go_loopw [0,13] (λO I wr=>∃k : Nat,k<=m/\I = .int .i64 k/\O = .int .i64 (iX x p k) /\
   wr.ownsRow w.heap.size 3 1 (.slice a m m) m ((dk (digs x p k) k m).map (Value.int .i64))/\OC w wr)
  (λ_ i _=>m - (intOf i).toNat)
 case atStart=>exact ⟨0,JU _,rfl,rfl,by simpa [dk,digs] using X,Y⟩
 case round =>
  obtain ⟨k,E,rfl,rfl,X,Y⟩:=hrel
  obtain ⟨hints,Z⟩:=Ints.own X
  have C:=uY x p G N k
  have H:=hints.pl
  by_cases V : k<m
  ·have F:=hints.cell k V
   have D:=(Z (by omega)).2 k V
   have K:=(Z (by omega)).1
   go_wp2
   go_roundw
   case rel =>
    refine ⟨k+1,by omega,by go_num,rfl,?_,Y.setCell K _⟩
    have h:=bC X k V (.int .i64 (iX x p k % p))
    rw [<- Kh,fo _ _ _ _ (bF p k x) V,<- oz] at h
    exact h
   case measure=>simp [intOf] <;> omega
  ·obtain rfl : k=m:=by omega
   go_wp2
   go_ret
   rw [fR] at hints
   exact ⟨_,_,rfl,hints,Z,Y⟩
def eX (a : OA) (b : Nat) : Prop:=a=none\/ablk a ≠ b
theorem eX.own {a : OA} {b : Nat} (h : eX a b) (n c : Nat) : (Value.slice a n c).ownBlock ≠ some b:=by
 rcases h with rfl | h
 ·simp [Value.ownBlock]
 ·cases a with
  | none=>simp [Value.ownBlock]
  | some x=>simpa [Value.ownBlock,ablk] using h
theorem eX.oL {a : OA} {b n c : Nat} (h : (Value.slice a n c).ownBlock ≠ some b) : eX a b:=by
 cases a with
 | none=>exact .inl rfl
 | some x=>exact .inr (by simpa [Value.ownBlock,ablk] using h)
theorem pV {w : World} {B : Nat} {e : TypeId} {a : OA} {c n : Nat} {xs : List Value} (h : w.ownsRow B e 1 (.slice a n c) n xs) {b : Nat} (hb : b<B) : eX a b:=by
 rcases kF h with ⟨rfl,_⟩ | ⟨h1,_⟩
 ·exact .inl rfl
 ·exact .inr (by omega)
theorem dT {w : World} {B : Nat} {e : TypeId} {a : OA} {c n : Nat} {xs : List Value} (h : w.ownsRow B e 1 (.slice a n c) n xs) (Z : 0<n) : B<=ablk a/\ablk a<w.heap.size:=by
 rcases kF h with ⟨_,h0,_⟩ | h
 ·omega
 ·exact h
theorem aS {P : Program} {w : World} {ops : Array Oper} {rest : List Oper} {o : Oper} {ac : Act} {Q : Exit->Act->World->Prop}
  (A : o.guard=none) (s x : Operand) (t e : TypeId) (O : o.op = .call { callee:=.builtin .append,args:=#[s,x],argTypes:=#[t,t] }) (z : Value) (bytes : Nat)
  (h1 : P.underlying t=some (.slice e)) (h2 : (P.info? e).map (λi=>(i.zero,i.size,i.bytes))=some (some z,1,bytes)) (D : z.cells = #[z])
  (B : Nat) (a : OA) (n c : Nat) (xs : List Value) (C : ac.eval s = .slice a n c) (X : w.ownsRow B e 1 (.slice a n c) n xs)
  (ad : Addr) (F : Nat) (u : Value) (hx : ac.eval x = .slice (some ad) 1 F) (hu : w.cell? ad=some u) (N : u.oneCell'=true)
  (r : (n+1) * bytes<=140737488355328) (b3 : n+1<=maxLen) (hB : B<=w.heap.size)
  (hK : ∀a' Y w',w'.ownsRow B e 1 (.slice a' (n+1) Y) (n+1) (xs ++ [u])->w.grownBy w' (Value.slice a n c).ownBlock->(∀b,b<w.heap.size->eX a b->eX a' b)->wpList P ops Q rest (ac.put o.dst (.slice a' (n+1) Y)) w') :
  wpList P ops Q (o :: rest) ac w:=by
 obtain ⟨i,hi,H,L,I⟩:=info_parts h2;refine wpList_append_own_at w A s x t O B e i z 1 bytes h1 hi H L I (by rw [D];rfl) (by decide) _ n xs C X ad 1 F [u] hx rfl ?_ ?_ b3 r hB λv' w' Z G _ K=>?_
 ·intro j v U;match j,U with
  | 0,U=>simp at U;subst U;simpa [Addr.add] using hu
 ·intro v E;simp at E;subst E;exact N
 ·obtain ⟨a',Y,rfl,_⟩:=Pl.own Z;refine hK a' Y w' Z G λb hb V=>?_;have h:=V.own n c;rcases K with h3 | h3
  ·exact eX.oL (n:=n+1) (c:=Y) (by rw [h3];exact h)
  ·exact eX.oL (n:=n+1) (c:=Y) (by rw [h3];intro h4;cases h4;omega)
theorem il {w w' : World} {B : Nat} {e : TypeId} {a Y : OA} {n c m X : Nat} {xs : List Value} (h : w.ownsRow B e 1 (.slice a n c) n xs) (U : w.grownBy w' (Value.slice Y m X).ownBlock) (hne : eX Y (ablk a)) :
  w'.ownsRow B e 1 (.slice a n c) n xs:=by
 rcases kF h with ⟨rfl,rfl,rfl⟩ | ⟨_,Z⟩
 ·have V:=jZ h;obtain rfl : xs=[]:=Kd V;exact cF
 ·exact eS h (U.block _ Z (λe=>hne.own m X e.symm))
theorem cT {w w' : World} {Z : OA} {m c : Nat} {ad : Addr} {v : Value} (Y : w.grownBy w' (Value.slice Z m c).ownBlock) (h : w.cell? ad=some v) (hne : eX Z ad.block) : w'.cell? ad=some v :=
 Y.cell h (λe=>hne.own m c e.symm)
theorem yh (w : World) (l : LI) (e : TypeId) {B : Nat} (Z : B<=w.heap.size) (Y : l.length<=maxLen) :
  (w.alloc (.cells (l.map (Value.int .i64)).toArray e)).ownsRow B e 1 (.slice (some ⟨w.heap.size,0,none⟩) l.length l.length) l.length (l.map (Value.int .i64)):=by simpa using Nz w (l.map (Value.int .i64)).toArray l.length Z Y (by simp)
theorem u2 {P : Int} (Z : 0<P) (M : Nat) (mod : LI) (x y : Int) : 0<=dh P M mod x y/\dh P M mod x y<P ^ M:=by have:=mO Z (ey P (lJ M mod) (digs x P M) (digs y P M) M M) (dz.ey Z _ _ _ _ _);rwa [gN] at this
def powTo (mul : Int->Int) : Nat->LI->Int->LI
 | 0,l,_=>l
 | n+1,l,y=>if y=0\/y ∈ l then l else powTo mul n (l ++ [y]) (mul y)
theorem iQ (mul : Int->Int) (n : Nat) (l : LI) (y : Int) (h : y=0\/y ∈ l) : powTo mul n l y=l:=by
 cases n
 ·rfl
 ·rw [powTo,JT h]
theorem qZ (mul : Int->Int) (n : Nat) (l : LI) (y : Int) (h : ¬ (y=0\/y ∈ l)) : powTo mul (n+1) l y=powTo mul n (l ++ [y]) (mul y):=by rw [powTo,JR h]
def eK (P : Int) (M : Nat) (mod : LI) (q : Nat) (x : Int) : LI:=powTo (λy=>dh P M mod y x) q [1] x
def fM (P : Int) (M : Nat) (mod : LI) (q : Nat) (x : Int) : Bool :=
 (eK P M mod q x).length == q - 1 && dh P M mod (nth (eK P M mod q x) (q - 2)) x == 1
def genTo (P : Int) (M : Nat) (mod : LI) (q : Nat) : Nat->Nat->LI
 | 0,_=>[]
 | n+1,x=>if fM P M mod q x then eK P M mod q x else genTo P M mod q n (x+1)
def fG (P : Int) (M : Nat) (mod : LI) (q : Nat) : LI:=genTo P M mod q (q - 1) 1
def cntF : List Bool->Nat
 | []=>0
 | b :: l=>(if b then 0 else 1)+cntF l
theorem rX : ∀(l : List Bool) (i : Nat),l[i]? = some false->cntF (l.set i true)+1=cntF l
 | [],i,h=>by simp at h
 | b :: l,0,h=>by simp at h;subst h;simp [cntF];omega
 | b :: l,i+1,h=>by simp at h;have:=rX l i h;simp [cntF];omega
theorem rz (n : Nat) : cntF (List.replicate n false)=n:=by
 induction n with
 | zero=>rfl
 | succ n Z=>simp [Mu,cntF,Z];omega
theorem xE (mul : Int->Int) (Q : Int) (hm : ∀y,0<=mul y/\mul y<Q) : ∀(n : Nat) (l : LI) (y : Int),0<=y/\y<Q->(∀e ∈ l,0<=e/\e<Q)->∀e ∈ powTo mul n l y,0<=e/\e<Q
 | 0,l,_,_,Z=>Z
 | n+1,l,y,Y,Z=>by
  unfold powTo;split
  ·exact Z
  ·refine xE mul Q hm n _ _ (hm y) λe he=>?_;rcases List.mem_append.1 he with h | h
   ·exact Z e h
   ·rw [List.mem_singleton.1 h];exact Y
theorem Fy {P : Int} (Y : 0<P) (M : Nat) (mod : LI) (q : Nat) (x : Int) (X : (q : Int)=P ^ M) (U : 2<=q) (V : 0<=x) (Z : x<q) : ∀e ∈ eK P M mod q x,0<=e/\e<q:=by refine xE _ _ (λy=>by rw [X];exact u2 Y M mod y x) _ _ _ ⟨V,Z⟩ λe he=>?_;rw [List.mem_singleton.1 he];omega
theorem ph {P : Int} (X : 0<P) (M : Nat) (mod : LI) (q : Nat) (x : Int) (V : (q : Int)=P ^ M) (Y : 2<=q) (U : 0<=x) (Z : x<q) (i : Nat) : 0<=nth (eK P M mod q x) i/\nth (eK P M mod q x) i<q:=by
 rcases Kz i (eK P M mod q x).length with h | h
 ·exact Fy X M mod q x V Y U Z _ (aI h)
 ·rw [i6 h];omega
def fsum (P : Int) : Nat->Int->Int->Int
 | 0,_,_=>0
 | m+1,x,y=>(x+y) % P+P * fsum P m (x / P) (y / P)
def fneg (P : Int) : Nat->Int->Int
 | 0,_=>0
 | m+1,x=>(P - x % P) % P+P * fneg P m (x / P)
theorem ua (P : Int) : ∀m,fsum P m 0 0=0
 | 0=>rfl
 | m+1=>by simp [fsum,ua P m]
theorem tW (P : Int) : ∀m,fneg P m 0=0
 | 0=>rfl
 | m+1=>by simp [fneg,tW P m]
theorem u6 {P : Int} (Z : 0<P) : ∀(m : Nat) (x y : Int),0<=fsum P m x y/\fsum P m x y<P ^ m
 | 0,x,y=>by simp [fsum]
 | m+1,x,y=>by have X:=u6 Z m (x / P) (y / P);have h1:=Kw (x+y) (show P ≠ 0 by omega);have h2:=Kn (x+y) Z;have h3 : 0<=P * fsum P m (x / P) (y / P):=LG (by omega) X.1;have Y:=Kk (show fsum P m (x / P) (y / P)+1<=P ^ m by omega) (show 0<=P by omega);rw [K9] at Y;simp only [fsum,KH];rw [K1 (P ^ m)];omega
theorem pS {P : Int} (Z : 0<P) : ∀(m : Nat) (x : Int),0<=fneg P m x/\fneg P m x<P ^ m
 | 0,x=>by simp [fneg]
 | m+1,x=>by have X:=pS Z m (x / P);have h1:=Kw (P - x % P) (show P ≠ 0 by omega);have h2:=Kn (P - x % P) Z;have h3 : 0<=P * fneg P m (x / P):=LG (by omega) X.1;have Y:=Kk (show fneg P m (x / P)+1<=P ^ m by omega) (show 0<=P by omega);rw [K9] at Y;simp only [fneg,KH];rw [K1 (P ^ m)];omega
theorem mx (P : Int) (Z : 0<P) : ∀(m : Nat) (x : Int),0<=x->x<P ^ m->iX x P m=0
 | 0,x,h0,h1=>by simp at h1;simp [iX];omega
 | m+1,x,h0,h1=>by rw [oE];refine mx P Z m (x / P) (Lf h0 (by omega)) ?_;rw [KH] at h1;exact Lu Z h1
theorem EO (x y : Nat) : (x ^^^ y) % 2=(x+y) % 2:=by have h:=NP x y 0;simp only [Nat.testBit_zero] at h;have X:=LX x;have Y:=LX y;have Z:=LX (x ^^^ y);rcases X with X | X <;> rcases Y with Y | Y <;> rcases Z with Z | Z <;> simp [X,Y,Z] at h <;> omega
theorem xB : ∀(m : Nat) (x y : Nat),x<2 ^ m->y<2 ^ m->((x ^^^ y : Nat) : Int)=fsum 2 m x y
 | 0,x,y,Y,Z=>by
  have h1 : x=0:=by simp at Y;omega
  have h2 : y=0:=by simp at Z;omega
  subst h1;subst h2;rfl
 | m+1,x,y,Y,Z=>by
  have V:=xB m (x / 2) (y / 2) (by rw [Mw] at Y;omega) (by rw [Mw] at Z;omega);simp only [fsum];have e1 : ((x : Int) / 2)=((x / 2 : Nat) : Int):=by omega
  have X : ((y : Int) / 2)=((y / 2 : Nat) : Int):=by omega
  rw [e1,X,<- V,<- Nat.xor_div_two];have h3 : (x ^^^ y) % 2=(x+y) % 2:=EO x y;omega
theorem kp {P : Program} (w : World) (t ty e : TypeId) (i : TypeInfo) (X : P.underlying t=some (.slice e)) (hi : P.info? e=some i) (a Z : OA) (n c cs : Nat) (Y : n<=c) :
  (Builtin.append_ #[t,t] ty #[.slice a n c,.slice Z 0 cs]).run P w = .ok (.slice a n c) w:=by cases a <;> cases Z <;> simp [Builtin.append_,run_underlying X,sizeOf,typeInfo,hi,Builtin.lenOf,Builtin.firstCells,Y,storeCells,loadCells,loadCellsFrom]
theorem lh {w : World} {B : Nat} {e : TypeId} {a : OA} {c n : Nat} {xs : List Value} (h : w.ownsRow B e 1 (.slice a n c) n xs) : n<=c:=by
 rcases h.2 with ⟨Z,h0⟩ | ⟨g,cap,cur,Z,X,Y,hle,_⟩
 ·omega
 ·cases Z;exact hle
theorem qB {P : Program} {w : World} (t ty e : TypeId) (z : Value) (bytes : Nat)
  (h1 : P.underlying t=some (.slice e)) (h2 : (P.info? e).map (λi=>(i.zero,i.size,i.bytes))=some (some z,1,bytes)) (G : z.cells = #[z])
  (B : Nat) (a : OA) (n c : Nat) (xs : List Value) (Z : w.ownsRow B e 1 (.slice a n c) n xs)
  (Y : OA) (m O : Nat) (news : List Value) (A : Pl Y m) (E : news.length=m) (F : ∀j,j<m->w.cell? ⟨ablk Y,aL Y+j,none⟩=news[j]?) (N : ∀u ∈ news,u.oneCell'=true)
  (D : (n+m) * bytes<=140737488355328) (b3 : n+m<=maxLen) (r : B<=w.heap.size) :
  ∃a' X w',(Builtin.append_ #[t,t] ty #[.slice a n c,.slice Y m O]).run P w = .ok (.slice a' (n+m) X) w'/\w'.ownsRow B e 1 (.slice a' (n+m) X) (n+m) (xs ++ news) /\
   w.grownBy w' (Value.slice a n c).ownBlock/\(∀b,b<w.heap.size->eX a b->eX a' b):=by
 obtain ⟨i,hi,I,L,K⟩:=info_parts h2;by_cases hm : m=0
 ·subst hm;obtain rfl : news=[]:=Kd E;exact ⟨a,c,w,kp w t ty e i h1 hi a Y n c O (lh Z),by simpa using Z,World.grownBy.refl _ _,λb _ h=>h⟩
 ·have H:=A (by omega);obtain ⟨v',w',hr,h3,h4,_,V⟩:=run_append_own_at (P:=P) w B t ty e i z 1 bytes h1 hi I L K (by rw [G];rfl) (by decide) _ n xs Z ⟨ablk Y,aL Y,none⟩ m O news (by omega)
   (λj u hu=>by have hj:=(List.getElem?_eq_some_iff.1 hu).1;rw [NA,F j (by omega)];exact hu) N b3 D r
  obtain ⟨a',X,rfl,_⟩:=Pl.own h3;refine ⟨a',X,w',by rw [H];exact hr,h3,h4,λb hb U=>?_⟩;have h:=U.own n c;rcases V with V | V
  ·exact eX.oL (n:=n+m) (c:=X) (by rw [V];exact h)
  ·exact eX.oL (n:=n+m) (c:=X) (by rw [V];intro C;cases C;omega)
theorem dY {P : Program} {w : World} {ops : Array Oper} {rest : List Oper} {o : Oper} {ac : Act} {Q : Exit->Act->World->Prop}
  (E : o.guard=none) (s x : Operand) (t e : TypeId) (V : o.op = .call { callee:=.builtin .append,args:=#[s,x],argTypes:=#[t,t] }) (z : Value) (bytes : Nat)
  (h1 : P.underlying t=some (.slice e)) (h2 : (P.info? e).map (λi=>(i.zero,i.size,i.bytes))=some (some z,1,bytes)) (L : z.cells = #[z])
  (B : Nat) (a : OA) (n c : Nat) (xs : List Value) (F : ac.eval s = .slice a n c) (Y : w.ownsRow B e 1 (.slice a n c) n xs)
  (Z : OA) (m N : Nat) (news : List Value) (hx : ac.eval x = .slice Z m N) (A : Pl Z m) (G : news.length=m) (H : ∀j,j<m->w.cell? ⟨ablk Z,aL Z+j,none⟩=news[j]?) (U : ∀u ∈ news,u.oneCell'=true)
  (D : (n+m) * bytes<=140737488355328) (b3 : n+m<=maxLen) (r : B<=w.heap.size)
  (C : ∀a' X w',w'.ownsRow B e 1 (.slice a' (n+m) X) (n+m) (xs ++ news)->w.grownBy w' (Value.slice a n c).ownBlock->(∀b,b<w.heap.size->eX a b->eX a' b)->wpList P ops Q rest (ac.put o.dst (.slice a' (n+m) X)) w') :
  wpList P ops Q (o :: rest) ac w:=by refine wpList_plain E λK O=>?_;obtain ⟨a',X,w',hr,h3,h4,I⟩:=qB (P:=P) t o.type e z bytes h1 h2 L B a n c xs Y Z m N news A G H U D b3 r;unfold Oper.wp execOp;simp only [V,resolve,invoke,builtin,NB,NC,ME,MN,MI,ND,F,hx,hr];exact O _ _ (C a' X w' h3 h4 I)
theorem fg {P : Program} {w : World} {ops : Array Oper} {o : Oper} {ac : Act} {K : Act->World->Prop} {Q : Exit->Act->World->Prop} {E : Prop}
  (F : o.guard=none) (s x : Operand) (t e : TypeId) (V : o.op = .call { callee:=.builtin .append,args:=#[s,x],argTypes:=#[t,t] }) (z : Value) (bytes : Nat)
  (h1 : P.underlying t=some (.slice e)) (h2 : (P.info? e).map (λi=>(i.zero,i.size,i.bytes))=some (some z,1,bytes)) (N : z.cells = #[z])
  (B : Nat) (a : OA) (n c : Nat) (xs : List Value) (G : ac.eval s = .slice a n c) (Y : w.ownsRow B e 1 (.slice a n c) n xs)
  (Z : OA) (m O : Nat) (news : List Value) (hx : ac.eval x = .slice Z m O) (A : Pl Z m) (H : news.length=m) (I : ∀j,j<m->w.cell? ⟨ablk Z,aL Z+j,none⟩=news[j]?) (U : ∀u ∈ news,u.oneCell'=true)
  (D : (n+m) * bytes<=140737488355328) (b3 : n+m<=maxLen) (r : B<=w.heap.size)
  (C : ∀a' X w',w'.ownsRow B e 1 (.slice a' (n+m) X) (n+m) (xs ++ news)->w.grownBy w' (Value.slice a n c).ownBlock->(∀b,b<w.heap.size->eX a b->eX a' b)->K (ac.put o.dst (.slice a' (n+m) X)) w') :
  if Region.wanted o (yielded ops ac.tmps)=true then Oper.wp P o ac w K Q else E:=by
 have hw : Region.wanted o (yielded ops ac.tmps)=true:=by simp [Region.wanted,F]
 rw [JT hw];obtain ⟨a',X,w',hr,h3,h4,L⟩:=qB (P:=P) t o.type e z bytes h1 h2 N B a n c xs Y Z m O news A H I U D b3 r;unfold Oper.wp execOp;simp only [V,resolve,invoke,builtin,NB,NC,ME,MN,MI,ND,G,hx,hr];exact C a' X w' h3 h4 L
theorem run_mk {P : Program} (t e : TypeId) (z : Value) (bytes : Nat) (h1 : P.underlying t=some (.slice e)) (h2 : (P.info? e).map (λi=>(i.zero,i.size,i.bytes))=some (some z,1,bytes)) (V : z.cells = #[z])
  (n : Nat) (O : bytes * n<=281474976710656) (U : n<=9223372036854775807) (w : World) :
  (Instr.makeSlice t (.int .i64 n) (.int .i64 n)).run P w = .ok (.slice (some ⟨w.heap.size,0,none⟩) n n) (w.alloc (.cells (List.replicate n z).toArray e)):=by obtain ⟨i,hi,Z,X,Y⟩:=info_parts h2;have h:=run_make (P:=P) w t e i z h1 hi Z .i64 .i64 n n (by omega) (Nb _) (by rw [Y];omega) (by omega);rw [X,Nat.mul_one,V,JQ] at h;rw [h];congr 3;rw [<- toList_madeCells_one]
theorem IM (w : World) (e : TypeId) (z : Value) (n : Nat) {B : Nat} (Y : B<=w.heap.size) (Z : n<=maxLen) :
  (w.alloc (.cells (List.replicate n z).toArray e)).ownsRow B e 1 (.slice (some ⟨w.heap.size,0,none⟩) n n) n (List.replicate n z):=by simpa using Nz w (List.replicate n z).toArray n Y Z (by simp)
theorem Ints.news {w : World} {a : OA} {n : Nat} {l : LI} (h : Ints w a n l) : ∀j,j<n->w.cell? ⟨ablk a,aL a+j,none⟩=(l.map (Value.int .i64))[j]?:=by intro j Z;rw [h.cell j Z,Ly,Km (by rw [h.len];exact Z),aj (by rw [h.len];exact Z)];rfl
theorem Below.bV {Z w : World} (h : OC Z w) (o : Obj) : OC Z (w.alloc o):=h.alloc h.size o
theorem gg (w : World) (e : TypeId) : (w.alloc (.cells #[] e)).ownsRow w.heap.size e 1 (.slice (some ⟨w.heap.size,0,none⟩) 0 0) 0 [] :=
 World.ownsRow_made w #[] 0 (JO _) (JU _) rfl
theorem aF (w : World) (cs : Array Value) (e : TypeId) {g : Nat} (Z : g=w.heap.size) (i : Nat) : (w.alloc (.cells cs e)).cell? ⟨g,i,none⟩=cs[i]?:=by subst Z;exact M7 ..
theorem lA (w : World) (e : TypeId) (z : Value) (n : Nat) {B g : Nat} (X : g=w.heap.size) (Y : B<=w.heap.size) (Z : n<=maxLen) :
  (w.alloc (.cells (Array.replicate n z) e)).ownsRow B e 1 (.slice (some ⟨g,0,none⟩) n n) n (List.replicate n z):=by subst X;simpa using IM w e z n Y Z
theorem nL {w w' : World} {row : Option Nat} (h : w.drew.grownBy w' row) : w.grownBy w' row:=⟨h.os,h.tape,h.output,h.size,h.block⟩
section
def sm : Nat->(Nat->Int)->Int
 | 0,_=>0
 | n+1,f=>sm n f+f n
theorem bR {n : Nat} {f g : Nat->Int} (h : ∀i,i<n->f i=g i) : sm n f=sm n g:=by
 induction n with
 | zero=>rfl
 | succ n Z=>rw [sm,sm,Z λi hi=>h i (by omega),h n (by omega)]
theorem uF (n : Nat) (f g : Nat->Int) : sm n (λi=>f i+g i)=sm n f+sm n g:=by
 induction n with
 | zero=>rfl
 | succ n Z=>simp only [sm,Z];omega
theorem jj (n : Nat) : sm n (λ_=>0)=0:=by
 induction n with
 | zero=>rfl
 | succ n Z=>simp only [sm,Z];rfl
theorem EZ (n : Nat) (c : Int) (f : Nat->Int) : sm n (λi=>c * f i)=c * sm n f:=by
 induction n with
 | zero=>simp [sm]
 | succ n Z=>simp only [sm,Z,K9]
theorem BH (n m : Nat) (f : Nat->Nat->Int) : sm n (λi=>sm m (λj=>f i j))=sm m (λj=>sm n (λi=>f i j)):=by
 induction n with
 | zero=>simp only [sm];rw [jj]
 | succ n Z=>simp only [sm,Z,uF]
theorem IT {n : Nat} {f : Nat->Int} {P : Int} (h : ∀i,i<n->P ∣ f i) : P ∣ sm n f:=by
 induction n with
 | zero=>exact ⟨0,by simp [sm]⟩
 | succ n Z=>exact Nc (Z λi hi=>h i (by omega)) (h n (by omega))
theorem jC {n : Nat} {f : Nat->Int} {k : Nat} (Y : k<n) (h : ∀i,i<n->i ≠ k->f i=0) : sm n f=f k:=by
 induction n with
 | zero=>omega
 | succ n Z =>
  rw [sm]
  by_cases e : k=n
  ·subst e
   rw [bR (g:=λ_=>0) λi hi=>h i (by omega) (by omega),jj];omega
  ·rw [Z (by omega) λi hi=>h i (by omega),h n (by omega) (by omega)];omega
theorem D7 (n : Nat) (f : Nat->Int) : sm (n+1) f=f 0+sm n (λi=>f (i+1)):=by
 induction n with
 | zero=>simp [sm]
 | succ n Z=>rw [sm,Z];simp only [sm];omega
def so (M : Nat) (low : Nat->Int) (v : Nat->Int) : Nat->Int :=
 λi=>if i<M then (if i=0 then 0 else v (i - 1)) - v (M - 1) * low i else 0
def e8 (M : Nat) (low : Nat->Int) : Nat->(Nat->Int)->Nat->Int
 | 0,v=>v
 | k+1,v=>so M low (e8 M low k v)
variable {M : Nat} {low : Nat->Int}
theorem Gw (u v : Nat->Int) : so M low (λi=>u i+v i)=λi=>so M low u i+so M low v i:=by
 funext i;simp only [so];split
 ·split
  ·rw [Nd];omega
  ·rw [Nd];omega
 ·rfl
theorem Fc (c : Int) (v : Nat->Int) : so M low (λi=>c * v i)=λi=>c * so M low v i:=by
 funext i;simp only [so];split
 ·split
  ·rw [NO,NF,KV]
  ·rw [NO,KV]
 ·rw [NF]
theorem AP (k : Nat) (u v : Nat->Int) : e8 M low k (λi=>u i+v i)=λi=>e8 M low k u i+e8 M low k v i:=by
 induction k with
 | zero=>rfl
 | succ k Z=>rw [e8,Z,Gw];rfl
theorem jy (k : Nat) (c : Int) (v : Nat->Int) : e8 M low k (λi=>c * v i)=λi=>c * e8 M low k v i:=by
 induction k with
 | zero=>rfl
 | succ k Z=>rw [e8,Z,Fc];rfl
theorem yD (k : Nat) : e8 M low k (λ_=>0)=λ_=>0:=by have:=jy (M:=M) (low:=low) k 0 (λ_=>0);simpa using this
theorem vM (k n : Nat) (f : Nat->Nat->Int) : e8 M low k (λi=>sm n (λj=>f j i))=λi=>sm n (λj=>e8 M low k (f j) i):=by
 induction n with
 | zero=>simp only [sm];exact yD k
 | succ n Z=>simp only [sm];rw [AP,Z]
theorem nj (k l : Nat) (v : Nat->Int) : e8 M low (k+l) v=e8 M low k (e8 M low l v):=by
 induction k with
 | zero=>rw [LJ];rfl
 | succ k Z=>rw [show k+1+l=(k+l)+1 by omega,e8,e8,Z]
def eV (j : Nat) : Nat->Int:=λi=>if i=j then 1 else 0
def Sh (M : Nat) (v : Nat->Int) : Prop:=∀i,M<=i->v i=0
theorem Ez (v : Nat->Int) : Sh M (so M low v):=λi hi=>by simp only [so];rw [JR (by omega)]
theorem Ig {v : Nat->Int} (h : Sh M v) (k : Nat) : Sh M (e8 M low k v):=by
 cases k with
 | zero=>exact h
 | succ k=>exact Ez _
theorem AH (j : Nat) (Y : j<M) : e8 M low j (eV 0)=eV j:=by
 induction j with
 | zero=>rfl
 | succ j Z =>
  rw [e8,Z (by omega)]
  funext i
  simp only [so,eV]
  by_cases h : i<M
  ·rw [JT h,JR (show ¬ M - 1=j by omega)]
   by_cases h0 : i=0
   ·rw [JT h0,JR (by omega)];omega
   ·rw [JR h0]
    by_cases h1 : i=j+1
    ·rw [JT h1,JT (by omega)];omega
    ·rw [JR h1,JR (by omega)];omega
  ·rw [JR h,JR (by omega)]
theorem Sh.expand {v : Nat->Int} (h : Sh M v) : v=λk=>sm M (λj=>v j * e8 M low j (eV 0) k):=by
 funext k;rw [bR (g:=λj=>v j * eV j k) λj Z=>by rw [AH j Z]];by_cases Y : k<M
 ·rw [jC Y λi hi hne=>by simp only [eV];rw [JR (by omega)];omega];simp [eV]
 ·rw [h k (by omega),bR (g:=λ_=>0) λj Z=>by simp only [eV];rw [JR (by omega)];omega,jj]
def fX (M : Nat) (low : Nat->Int) (x y : Nat->Int) : Nat->Int:=λk=>sm M (λi=>x i * e8 M low i y k)
theorem Gs {x y : Nat->Int} (Z : Sh M y) : Sh M (fX M low x y):=λk Y=>by simp only [fX];rw [bR (g:=λ_=>0) λi _=>by rw [Ig Z i k Y];omega,jj]
theorem ky {x y : Nat->Int} (Z : Sh M y) : fX M low x y=λk=>sm M (λi=>sm M (λj=>x i * y j * e8 M low (i+j) (eV 0) k)):=by funext k;simp only [fX];refine bR λi _=>?_;have e : e8 M low i y=e8 M low i (λk=>sm M (λj=>y j * e8 M low j (eV 0) k)):=congrArg _ Z.expand;rw [e,vM];simp only;rw [<- EZ];refine bR λj _=>?_;rw [jy,nj,KV]
theorem lB {x y : Nat->Int} (Y : Sh M x) (Z : Sh M y) : fX M low x y=fX M low y x:=by rw [ky Y,ky Z];funext k;rw [BH];refine bR λi _=>bR λj _=>?_;rw [K1 (x j),Nat.add_comm j i]
theorem sR (x y z : Nat->Int) : fX M low x (fX M low y z)=λk=>sm M (λi=>sm M (λj=>x i * y j * e8 M low (i+j) z k)):=by funext k;refine bR λi _=>?_;rw [show fX M low y z=(λk=>sm M (λj=>y j * e8 M low j z k)) from rfl,vM];simp only;rw [<- EZ];refine bR λj _=>?_;rw [jy,nj,KV]
theorem si (x y z : Nat->Int) : fX M low x (fX M low y z)=fX M low y (fX M low x z):=by rw [sR,sR];funext k;rw [BH];refine bR λi _=>bR λj _=>?_;rw [K1 (x j),Nat.add_comm j i]
theorem yH {x y z : Nat->Int} (X : Sh M x) (Y : Sh M y) (Z : Sh M z) : fX M low (fX M low x y) z=fX M low x (fX M low y z):=by rw [lB (Gs Y) Z,si,lB Z Y]
theorem EK {x : Nat->Int} (Z : 0<M) (Y : Sh M x) : fX M low (eV 0) x=x:=by funext k;simp only [fX];rw [jC Z λi _ hne=>by simp only [eV];rw [JR hne];omega];simp [eV,e8]
theorem sF (x y z : Nat->Int) : fX M low x (λi=>y i+z i)=λk=>fX M low x y k+fX M low x z k:=by funext k;simp only [fX];rw [<- uF];refine bR λi _=>?_;rw [AP,K9]
def Cg (P : Int) (u v : Nat->Int) : Prop:=∀i,P ∣ u i - v i
theorem Cg.refl (P : Int) (u : Nat->Int) : Cg P u u:=λi=>⟨0,by omega⟩
theorem Cg.symm {P : Int} {u v : Nat->Int} (h : Cg P u v) : Cg P v u:=λi=>by obtain ⟨c,Z⟩:=h i;exact ⟨-c,by rw [Nf];omega⟩
theorem Cg.trans {P : Int} {u v x : Nat->Int} (h : Cg P u v) (k : Cg P v x) : Cg P u x:=λi=>by obtain ⟨c,Z⟩:=h i;obtain ⟨d,hd⟩:=k i;exact ⟨c+d,by rw [K9];omega⟩
theorem Cg.of_eq {P : Int} {u v : Nat->Int} (h : u=v) : Cg P u v:=h ▸ Cg.refl P u
theorem E3 {P : Int} {u v : Nat->Int} (h : Cg P u v) : Cg P (so M low u) (so M low v):=λi=>by
 simp only [so];split
 ·obtain ⟨c,Z⟩:=h (M - 1);have e : u (M - 1) * low i - v (M - 1) * low i=P * (c * low i):=by rw [<- Ng,Z,KV]
  split
  ·exact ⟨-(c * low i),by rw [Nf,<- e];omega⟩
  ·obtain ⟨d,hd⟩:=h (i - 1);exact ⟨d - c * low i,by rw [NO,<- e,<- hd];omega⟩
 ·exact ⟨0,by omega⟩
theorem Iu {P : Int} {u v : Nat->Int} (h : Cg P u v) (k : Nat) : Cg P (e8 M low k u) (e8 M low k v):=by
 induction k with
 | zero=>exact h
 | succ k Z=>exact E3 Z
theorem Cg.add {P : Int} {u v x y : Nat->Int} (h : Cg P u v) (k : Cg P x y) : Cg P (λi=>u i+x i) (λi=>v i+y i):=λi=>by obtain ⟨c,Z⟩:=h i;obtain ⟨d,hd⟩:=k i;exact ⟨c+d,by simp only [K9];omega⟩
theorem wM {P a b c d : Int} (h : P ∣ a - b) (k : P ∣ c - d) : P ∣ a * c - b * d:=by
 obtain ⟨x,O⟩:=h;obtain ⟨y,U⟩:=k;have X : a=b+P * x:=by omega
 have Y : c=d+P * y:=by omega
 refine ⟨x * d+b * y+P * x * y,?_⟩;rw [X,Y];simp only [Nd,K9];have e1 : b * (P * y)=P * (b * y):=by rw [<- KV,K1 b P,KV]
 have V : P * x * (P * y)=P * (P * x * y):=by rw [<- KV,K1 (P * x) P,KV]
 have Z : P * (x * d)=P * x * d:=by rw [KV]
 rw [e1,V,Z];omega
theorem u4 {P : Int} {u v x y : Nat->Int} (h : Cg P u v) (k : Cg P x y) : Cg P (fX M low u x) (fX M low v y):=λi=>by
 simp only [fX];have e : sm M (λj=>u j * e8 M low j x i) - sm M (λj=>v j * e8 M low j y i)=sm M (λj=>u j * e8 M low j x i - v j * e8 M low j y i):=by
  have:=uF M (λj=>u j * e8 M low j x i - v j * e8 M low j y i) (λj=>v j * e8 M low j y i);have Z : sm M (λj=>u j * e8 M low j x i - v j * e8 M low j y i+v j * e8 M low j y i)=sm M (λj=>u j * e8 M low j x i):=bR λj _=>by omega
  omega
 rw [e];exact IT λj _=>wM (h j) (Iu k j i)
end
section
def dV (P : Int) (M : Nat) (x : Int) : Nat->Int:=nth (digs x P M)
theorem mH (P : Int) (M : Nat) (x : Int) : Sh M (dV P M x):=λi hi=>i6 (by rw [bF];exact hi)
theorem oO {P : Int} (Z : 0<P) : ∀(M : Nat) (x : Int),0<=x->x<P ^ M->valu P (digs x P M)=x
 | 0,x,h0,h1=>by simp at h1;simp [digs,valu];omega
 | M+1,x,h0,h1=>by rw [digs,valu,oO Z M (x / P) (Lf h0 (by omega)) (Lu Z (by rwa [KH] at h1))];exact M8 x P
theorem oy {P : Int} (c r : Int) (M : Nat) (Y : 0<=c) (Z : c<P) : digs (c+P * r) P (M+1)=c :: digs r P M:=by rw [digs,Int.add_mul_emod_self_left,MF Y Z,Int.add_mul_ediv_left _ _ (by omega),MU Y Z,Int.zero_add]
theorem lD {P : Int} : ∀(l : LI),dz P l->digs (valu P l) P l.length=l
 | [],_=>rfl
 | c :: l,h=>by have h0:=h 0;simp only [nth,Mv] at h0;rw [valu,Kr,oy c _ _ h0.1 h0.2,lD l (λi=>by simpa [nth] using h (i+1))]
theorem nZ (P x : Int) : P ∣ x % P - x:=⟨-(x / P),by have:=M8 x P;rw [Nf];omega⟩
theorem CG {P a b : Int} (U : 0<P) (ha : 0<=a) (Y : a<P) (hb : 0<=b) (V : b<P) (h : P ∣ a - b) : a=b:=by
 obtain ⟨c,X⟩:=h;have Z : c=0:=by
  rcases Int.lt_trichotomy c 0 with h1 | h1 | h1
  ·have:=Kk (show c <= -1 by omega) (show 0<=P by omega);omega
  ·exact h1
  ·have:=Kk (show 1<=c by omega) (show 0<=P by omega);omega
 rw [Z] at X;omega
theorem Iz {P : Int} (Z : 0<P) {M : Nat} {x y : Int} (V : 0<=x) (Y : x<P ^ M) (X : 0<=y) (U : y<P ^ M) (h : Cg P (dV P M x) (dV P M y)) : x=y:=by
 have e : digs x P M=digs y P M:=by refine fZ (by rw [bF,bF]) λi _=>?_;have h1:=dz.digs Z M x i;have h2:=dz.digs Z M y i;exact CG Z h1.1 h1.2 h2.1 h2.2 (h i)
 rw [<- oO Z M x V Y,<- oO Z M y X U,e]
theorem dZ (c : Int) (l : LI) : nth (c :: l) 0=c:=by simp [nth]
theorem dD (c : Int) (l : LI) (i : Nat) : nth (c :: l) (i+1)=nth l i:=by simp [nth]
theorem fY {P : Int} (Z : 0<P) : ∀(M : Nat) (x y : Int),Cg P (dV P M (fsum P M x y)) (λi=>dV P M x i+dV P M y i)
 | 0,x,y=>λi=>by simp [dV,digs,nth]
 | M+1,x,y=>λi=>by
  simp only [dV,fsum];rw [oy _ _ _ (Kw _ (by omega)) (Kn _ Z),digs,digs];match i with
  | 0 =>
   rw [dZ,dZ,dZ]
   have h1:=nZ P (x+y)
   have h2:=nZ P x
   have h3:=nZ P y
   have Y:=Int.dvd_sub (Int.dvd_sub h1 h2) h3
   rwa [show (x+y) % P - (x+y) - (x % P - x) - (y % P - y)=(x+y) % P - (x % P+y % P) by omega] at Y
  | i+1 =>
   rw [dD,dD,dD]
   exact fY Z M (x / P) (y / P) i
theorem Bw {P : Int} (Z : 0<P) : ∀(M : Nat) (x : Int),Cg P (dV P M (fneg P M x)) (λi=>- dV P M x i)
 | 0,x=>λi=>by simp [dV,digs,nth]
 | M+1,x=>λi=>by
  simp only [dV,fneg];rw [oy _ _ _ (Kw _ (by omega)) (Kn _ Z),digs];match i with
  | 0 =>
   rw [dZ,dZ]
   have h1:=nZ P (P - x % P)
   have Y:=Nc h1 (Int.dvd_refl P)
   rwa [show (P - x % P) % P - (P - x % P)+P=(P - x % P) % P - - (x % P) by omega] at Y
  | i+1 =>
   rw [dD,dD]
   exact Bw Z M (x / P) i
theorem mT (P : Int) : ∀(M : Nat),dV P M 0=λ_=>0
 | 0=>by funext i;simp [dV,digs,nth]
 | M+1=>by
  funext i;simp only [dV,digs];match i with
  | 0=>rw [dZ];simp
  | i+1=>rw [dD];have:=congrFun (mT P M) i;simpa [dV] using this
theorem IJ {P : Int} (Y : 2<=P) {M : Nat} (Z : 0<M) : dV P M 1=eV 0:=by
 obtain ⟨m,rfl⟩ : ∃m,M=m+1:=⟨M - 1,by omega⟩
 funext i;simp only [dV,digs];match i with
 | 0=>rw [dZ];simp [eV];exact MF (by omega) (by omega)
 | i+1 =>
  rw [dD,MU (by omega) (by omega)]
  have:=congrFun (mT P m) i
  simpa [dV,eV] using this
theorem GJ {out : LI} {M i : Nat} (Z : out.length=M) (hi : i<M) : nth (shl out) i=if i=0 then 0 else nth out (i - 1):=by
 match i with
 | 0=>simp [shl,nth]
 | i+1 =>
  rw [shl,dD,JR (by omega)]
  simp only [nth,JS,Mb]
  rw [JT (by omega)];rfl
theorem tD {P : Int} (X : 0<P) (low a b : LI) {M : Nat} (ha : a.length=M) : ∀k,k<=M ->
  Cg P (nth (ey P low a b M k)) (λi=>sm k (λj=>nth b (M - k+j) * e8 M (nth low) j (nth a) i))
 | 0,_=>λi=>by
  have e : nth (ey P low a b M 0) i=0:=by simp only [ey,nth,JS,Ke];split <;> rfl
  rw [e];simp [sm]
 | k+1,O=>by
  have U:=E3 (M:=M) (low:=nth low) (tD X low a b ha k (by omega));have e1 : (λi=>sm (k+1) (λj=>nth b (M - (k+1)+j) * e8 M (nth low) j (nth a) i)) =
    λi=>so M (nth low) (λi=>sm k (λj=>nth b (M - k+j) * e8 M (nth low) j (nth a) i)) i+nth b (M - 1 - k) * nth a i:=by
   funext i;rw [D7,show M - (k+1)+0=M - 1 - k by omega];have Z:=congrFun (vM (M:=M) (low:=nth low) 1 k (λj i=>nth b (M - k+j) * e8 M (nth low) j (nth a) i)) i;have V : so M (nth low) (λi=>sm k (λj=>nth b (M - k+j) * e8 M (nth low) j (nth a) i)) i=sm k (λj=>nth b (M - (k+1)+(j+1)) * e8 M (nth low) (j+1) (nth a) i):=by refine Eq.trans Z (bR λj _=>?_);rw [jy,show M - (k+1)+(j+1)=M - k+j by omega];rfl
   rw [V];show nth b (M - 1 - k) * nth a i+_=_;omega
  rw [e1];intro i;show P ∣ nth (ey P low a b M (k+1)) i - (so M (nth low) (λi=>sm k (λj=>nth b (M - k+j) * e8 M (nth low) j (nth a) i)) i+nth b (M - 1 - k) * nth a i);by_cases hi : i<M
  ·rw [ey,lr _ _ _ _ _ _ _ hi,AO,GJ (gN ..) hi];have h1:=U i;generalize N : so M (nth low) (λi=>sm k (λj=>nth b (M - k+j) * e8 M (nth low) j (nth a) i)) i=z at *;simp only [so,JT hi] at h1;generalize (if i=0 then (0 : Int) else nth (ey P low a b M k) (i - 1))=u at *;generalize nth (ey P low a b M k) (M - 1)=t at *;generalize nth b (M - 1 - k) * nth a i=c at *;have h2:=nZ P (u+(P - t) * nth low i+c);have h3 : P ∣ P * nth low i:=Int.dvd_mul_right _ _;have Y:=Nc (Nc h2 h1) h3;rw [Ng] at Y ⊢;rwa [show (u+(P * nth low i - t * nth low i)+c) % P - (u+(P * nth low i - t * nth low i)+c)+(u - t * nth low i - z)+P * nth low i=(u+(P * nth low i - t * nth low i)+c) % P - (z+c) by omega] at Y
  ·rw [i6 (by rw [gN];omega),i6 (l:=a) (by omega)];have Z : so M (nth low) (λi=>sm k (λj=>nth b (M - k+j) * e8 M (nth low) j (nth a) i)) i=0:=Ez _ i (by omega);rw [Z];simp
theorem fO {P : Int} (Z : 0<P) (M : Nat) (mod : LI) (x y : Int) : Cg P (dV P M (dh P M mod x y)) (fX M (nth (lJ M mod)) (dV P M x) (dV P M y)):=by
 have h:=tD Z (lJ M mod) (digs x P M) (digs y P M) (bF P M x) M (JO _);have e : dV P M (dh P M mod x y)=nth (ey P (lJ M mod) (digs x P M) (digs y P M) M M):=by unfold dV dh;have:=lD (P:=P) (ey P (lJ M mod) (digs x P M) (digs y P M) M M) (dz.ey Z _ _ _ _ _);rw [gN] at this;rw [this]
 rw [e,lB (mH P M x) (mH P M y)];refine h.trans (Cg.of_eq ?_);funext i;simp only [fX];refine bR λj _=>?_;rw [show M - M+j=j by omega];rfl
structure kj (P : Int) (M : Nat) : Prop where
 p : 2<=P
 m : 0<M
def eH (P : Int) (M : Nat) (x : Int) : Prop:=0<=x/\x<P ^ M
variable {P : Int} {M : Nat} {mod : LI}
theorem eH.ext (h : kj P M) {x y : Int} (Y : eH P M x) (Z : eH P M y) (e : Cg P (dV P M x) (dV P M y)) : x=y:=Iz (by have:=h.p;omega) Y.1 Y.2 Z.1 Z.2 e
theorem fs (h : kj P M) (x y : Int) : eH P M (dh P M mod x y):=u2 (by have:=h.p;omega) M mod x y
theorem gC (h : kj P M) (x y : Int) : eH P M (fsum P M x y):=u6 (by have:=h.p;omega) M x y
theorem uW (h : kj P M) (x : Int) : eH P M (fneg P M x):=pS (by have:=h.p;omega) M x
theorem one_lt_pow (h : kj P M) : 1<P ^ M:=by
 have h1:=dS (P:=P) (by have:=h.p;omega) h.m;have h2:=h.p;have h3 : P ^ (0+1)=P:=by rw [KH,LK,Mo]
 have Z : P ^ (0+1)<=P ^ M:=h1;omega
theorem vy (h : kj P M) : eH P M 1:=⟨by omega,one_lt_pow h⟩
theorem um (h : kj P M) : eH P M 0:=⟨by omega,by have:=one_lt_pow h;omega⟩
theorem kj.pos (h : kj P M) : 0<P:=by have:=h.p;omega
theorem iA (h : kj P M) (x y : Int) : dh P M mod x y=dh P M mod y x :=
 (fs h x y).ext h (fs h y x) (((fO h.pos M mod x y).trans (Cg.of_eq (lB (mH _ _ _) (mH _ _ _)))).trans (fO h.pos M mod y x).symm)
theorem qQ (h : kj P M) (x y z : Int) : dh P M mod (dh P M mod x y) z=dh P M mod x (dh P M mod y z):=by refine (fs h _ z).ext h (fs h x _) ?_;refine (fO h.pos M mod _ z).trans (((u4 (fO h.pos M mod x y) (Cg.refl _ _)).trans (Cg.of_eq (yH (mH _ _ _) (mH _ _ _) (mH _ _ _)))).trans ?_);exact ((fO h.pos M mod x _).trans (u4 (Cg.refl _ _) (fO h.pos M mod y z))).symm
theorem gM (h : kj P M) {x : Int} (Z : eH P M x) : dh P M mod 1 x=x:=by refine (fs h 1 x).ext h Z ((fO h.pos M mod 1 x).trans (Cg.of_eq ?_));rw [IJ h.p h.m,EK h.m (mH _ _ _)]
theorem n7 (h : kj P M) (x : Int) : dh P M mod x 0=0:=by refine (fs h x 0).ext h (um h) ((fO h.pos M mod x 0).trans (Cg.of_eq ?_));rw [mT];funext i;simp only [fX];rw [bR (g:=λ_=>0) λj _=>by rw [yD];simp,jj]
theorem Es (h : kj P M) (x y z : Int) : dh P M mod x (fsum P M y z)=fsum P M (dh P M mod x y) (dh P M mod x z):=by refine (fs h x _).ext h (gC h _ _) ((fO h.pos M mod x _).trans ?_);refine (u4 (Cg.refl _ _) (fY h.pos M y z)).trans ((Cg.of_eq (sF _ _ _)).trans ?_);exact ((fY h.pos M _ _).trans (Cg.add (fO h.pos M mod x y) (fO h.pos M mod x z))).symm
theorem Ci (h : kj P M) (x y : Int) : fsum P M x y=fsum P M y x:=by refine (gC h x y).ext h (gC h y x) ((fY h.pos M x y).trans ((Cg.of_eq ?_).trans (fY h.pos M y x).symm));funext i;show _=_;omega
theorem yL (h : kj P M) (x y z : Int) : fsum P M (fsum P M x y) z=fsum P M x (fsum P M y z):=by refine (gC h _ z).ext h (gC h x _) ?_;refine (fY h.pos M _ z).trans ((Cg.add (fY h.pos M x y) (Cg.refl _ _)).trans ((Cg.of_eq ?_).trans ((fY h.pos M x _).trans (Cg.add (Cg.refl _ _) (fY h.pos M y z))).symm));funext i;show _=_;omega
theorem GR (h : kj P M) {x : Int} (Z : eH P M x) : fsum P M x 0=x:=by refine (gC h x 0).ext h Z ((fY h.pos M x 0).trans (Cg.of_eq ?_));rw [mT];funext i;simp
theorem Da (h : kj P M) (x : Int) : fsum P M x (fneg P M x)=0:=by refine (gC h x _).ext h (um h) ((fY h.pos M x _).trans ((Cg.add (Cg.refl _ _) (Bw h.pos M x)).trans (Cg.of_eq ?_)));rw [mT];funext i;show _=_;omega
end
section
structure AR (cl : LN->Nat->Prop) : Prop where
 mem : ∀l x,x ∈ l->cl l x
 mono : ∀l l',(∀x ∈ l,cl l' x)->∀y,cl l y->cl l' y
 exch : ∀l x y,cl (x :: l) y->¬ cl l y->cl (y :: l) x
inductive Rk (cl : LN->Nat->Prop) : LN->Nat->Prop
 | nil : Rk cl [] 0
 | dep {l n} (x : Nat) : cl l x->Rk cl l n->Rk cl (x :: l) n
 | ind {l n} (x : Nat) : ¬ cl l x->Rk cl l n->Rk cl (x :: l) (n+1)
variable {cl : LN->Nat->Prop}
theorem Rk.ex (cl : LN->Nat->Prop) : ∀l,∃n,Rk cl l n
 | []=>⟨0,.nil⟩
 | x :: l=>by
  obtain ⟨n,h⟩:=Rk.ex cl l;by_cases Z : cl l x
  ·exact ⟨n,.dep x Z h⟩
  ·exact ⟨n+1,.ind x Z h⟩
theorem Rk.uniq {l : LN} {n : Nat} (h : Rk cl l n) : ∀ {m},Rk cl l m->n=m:=by
 induction h with
 | nil=>intro m h;cases h;rfl
 | dep x X _ Y =>
  intro m h
  cases h with
  | dep _ _ h=>exact Y h
  | ind _ Z _=>exact absurd X Z
 | ind x X _ Y =>
  intro m h
  cases h with
  | dep _ Z _=>exact absurd Z X
  | ind _ _ h=>rw [Y h]
theorem AR.sub (h : AR cl) {l Z : LN} (X : ∀x ∈ l,x ∈ Z) {y : Nat} (Y : cl l y) : cl Z y:=h.mono l Z (λx V=>h.mem Z x (X x V)) y Y
theorem AR.drop (h : AR cl) {l : LN} {x y : Nat} (X : cl l x) (Y : cl (x :: l) y) : cl l y :=
 h.mono (x :: l) l (λz Z=>by
  rcases List.mem_cons.1 Z with rfl | Z
  ·exact X
  ·exact h.mem l z Z) y Y
theorem Rk.swap (h : AR cl) {l : LN} {x y n : Nat} (Z : Rk cl (x :: y :: l) n) : Rk cl (y :: x :: l) n:=by
 have up : ∀ {z u},cl l z->cl (u :: l) z:=λO=>h.sub (λx V=>by simp [V]) O;cases Z with
 | dep _ V Z =>
  cases Z with
  | dep _ X Z=>exact .dep y (up X) (.dep x (h.drop X V) Z)
  | ind _ X Z =>
   by_cases Y : cl l x
   ·exact .ind y (λU=>X (h.drop Y U)) (.dep x Y Z)
   ·exact .dep y (h.exch l y x V Y) (.ind x Y Z)
 | ind _ V Z =>
  cases Z with
  | dep _ X Z=>exact .dep y (up X) (.ind x (λU=>V (up U)) Z)
  | ind _ X Z =>
   have Y : ¬ cl l x:=λU=>V (up U)
   exact .ind y (λU=>V (h.exch l x y U X)) (.ind x Y Z)
theorem AR.perm (h : AR cl) {l Z : LN} (X : l.Perm Z) {x : Nat} : cl l x->cl Z x:=h.sub λy Y=>X.mem_iff.1 Y
theorem Rk.perm (h : AR cl) {l O : LN} (Y : l.Perm O) : ∀ {n},Rk cl l n->Rk cl O n:=by
 induction Y with
 | nil=>intro n Z;exact Z
 | cons x Y N =>
  intro n Z
  cases Z with
  | dep _ U Z=>exact .dep x (h.perm Y U) (N Z)
  | ind _ U Z=>exact .ind x (λL=>U (h.perm Y.symm L)) (N Z)
 | swap x y l=>intro n Z;exact Z.swap h
 | trans _ _ X V=>intro n Z;exact V (X Z)
theorem Rk.zp (h : AR cl) {l : LN} {n : Nat} (X : Rk cl l n) : ∀Z,(∀x ∈ Z,cl l x)->Rk cl (Z ++ l) n
 | [],_=>X
 | x :: Z,V=>.dep x (h.sub (λy Y=>List.mem_append.2 (.inr Y)) (V x (by simp))) (Rk.zp h X Z λy Y=>V y (by simp [Y]))
theorem Rk.grow {l : LN} {m : Nat} (X : Rk cl l m) : ∀(Y : LN) {n : Nat},Rk cl (Y ++ l) n->m<=n
 | [],n,Z=>by rw [X.uniq Z];exact JO _
 | x :: Y,n,Z=>by
  cases Z with
  | dep _ _ Z=>exact Rk.grow X Y Z
  | ind _ _ Z=>exact NG (Rk.grow X Y Z)
theorem Rk.le (h : AR cl) {l Z : LN} {m n : Nat} (hm : Rk cl l m) (Y : Rk cl Z n) (X : ∀x ∈ l,cl Z x) : m<=n :=
 hm.grow Z ((Y.zp h l X).perm h List.perm_append_comm)
theorem Rk.same (h : AR cl) {l V : LN} {m n : Nat} (hm : Rk cl l m) (Y : Rk cl V n) (X : ∀x,x ∈ l ↔ x ∈ V) : m=n :=
 M1 (hm.le h Y λx Z=>h.mem _ _ ((X x).1 Z)) (Y.le h hm λx Z=>h.mem _ _ ((X x).2 Z))
theorem Rk.len {l : LN} {n : Nat} (Y : Rk cl l n) : n<=l.length:=by
 induction Y with
 | nil=>exact JO _
 | dep x _ _ Z=>exact NG Z
 | ind x _ _ Z=>exact Nat.succ_le_succ Z
end
section
variable {P : Program} {ops : Array Oper} {Q : Exit->Act->World->Prop} {md : Region.Mode} {S : World->Prop} {n : Nat}
def gz (P : Program) (md : Region.Mode) (ops : Array Oper) (Q : Exit->Act->World->Prop) (S : World->Prop) (n : Nat) : Nat->Array Bool->Act->World->Prop
 | 0,Z,a,w=>Region.ready md ops Z=[]/\Q .normal a w
 | fuel+1,Z,a,w =>
  (Region.ready md ops Z=[]->Q .normal a w) /\
  ∀i ∈ Region.ready md ops Z,wpOp P ops Q i (λa' w'=>(i<n->S w')/\gz P md ops Q S n fuel (Z.setIfInBounds i true) a' w') a w
theorem qH : ∀(fuel : Nat) (Z : Array Bool) (a : Act) (w : World),gz P md ops Q S n fuel Z a w->wpAny P md ops Q fuel Z a w
 | 0,_,_,_,h=>h
 | fuel+1,_,_,_,h=>⟨h.1,λi hi=>wpOp_mono (λa' w' Y=>qH fuel _ a' w' Y.2) (h.2 i hi)⟩
theorem uG {i : Nat} {K : Oper} {v : Value} (hi : ops[i]? = some K) (U : ∀(j : Nat) (o : Oper) cs b,ops[j]? = some o->o.op ≠ .select cs b)
  (hQ : ∀c a w,Q (.panic c) (a.put K.dst v) w->Q (.panic c) a w) (hs : Region.sinkB md ops n=true) (hc : Region.chainB md ops n=true) (hn : n<ops.size) (hin : i<n) :
  ∀(fuel : Nat) (Z : Array Bool) (a : Act) (w : World),HeadInv md ops n Z ->
   (∀j L,ops[j]? = some L->j ≠ i->Z.getD j true=false->(∀e ∈ L.after,Region.binds md e=true->e.on ≠ i)->K.apart ops L=true) ->
   i ∈ Region.ready md ops Z->YieldsIf P ops S K v a->S w ->
   gz P md ops Q S n fuel (Z.setIfInBounds i true) (a.put K.dst v) w->gz P md ops Q S n (fuel+1) Z a w:=by
 intro fuel;induction fuel with
 | zero =>
  intro Z a w inv _ I r hS H
  refine ⟨λh=>(by rw [h] at I;cases I),λj G=>?_⟩
  by_cases Y : j=i
  ·subst Y;exact r.wpOp hi hS ⟨λ_=>hS,H⟩
  ·have:=ready_mono G Y
   rw [H.1] at this
   cases this
 | succ fuel ih =>
  intro Z a w inv X I r hS H
  have E:=(mem_ready.1 I).1
  refine ⟨λh=>(by rw [h] at I;cases I),λj G=>?_⟩
  by_cases Y : j=i
  ·subst Y;exact r.wpOp hi hS ⟨λ_=>hS,H⟩
  ·have C : j<n:=by
    rcases Kz j n with h | h
    ·exact h
    ·exact absurd G (tail_waits hs hc hn inv _ i rfl hin E j h)
   have h1:=H.2 j (ready_mono G Y)
   obtain ⟨O,L,N,D⟩:=mem_ready.1 G
   have B : ∀e ∈ L.after,Region.binds md e=true->e.on ≠ i:=λe he hb heq=>by have h1:=D e he hb;rw [heq,getD_both E] at h1;cases h1
   have h2:=wpOp_putIf N (X j L N Y O B) (λcs b=>U i K cs b hi) (λcs b=>U j L cs b N) hQ r h1
   have V : ∀k ok,ops[k]? = some ok->k ≠ i->(Z.setIfInBounds j true).getD k true=false ->
     (∀e ∈ ok.after,Region.binds md e=true->e.on ≠ i)->K.apart ops ok=true:=λk ok hk hki F hno=>by
    refine X k ok hk hki ?_ hno;by_cases A : j=k
    ·subst A;exact O
    ·rw [getD_set_ne true A] at F;exact F
   refine wpOp_mono (λa' w' h3=>?_) h2
   have z:=h3.2.1 C
   refine ⟨λ_=>z,ih (Z.setIfInBounds j true) a' w' (inv.set G C) V (ready_mono I (NU Y)) h3.1 z ?_⟩
   rw [Array.setIfInBounds_comm _ _ Y]
   exact h3.2.2
theorem aP {i : Nat} {V : Oper} {v : Value} {fuel : Nat} {Z : Array Bool} {a : Act} {w : World} (hi : ops[i]? = some V)
  (Y : (Region.noSelect ops && (Region.sinkB md ops n && (Region.chainB md ops n && (decide (n<ops.size) && decide (i<n)))))=true) (L : Region.free md ops Z i=true) (N : (Region.ready md ops Z).contains i=true)
  (O : ∀c a w,Q (.panic c) (a.put V.dst v) w->Q (.panic c) a w) (U : YieldsIf P ops S V v a) (hI : HeadInv md ops n Z/\S w)
  (h : HeadInv md ops n (Z.setIfInBounds i true)/\S w->gz P md ops Q S n fuel (Z.setIfInBounds i true) (a.put V.dst v) w) : gz P md ops Q S n (fuel+1) Z a w:=by
 simp only [J9,Kt] at Y;have X : i ∈ Region.ready md ops Z:=by simpa using N
 exact uG hi (Region.noSelect_spec Y.1) O Y.2.1 Y.2.2.1 Y.2.2.2.1 Y.2.2.2.2 fuel Z a w hI.1 (Region.free_spec hi L) X U hI.2 (h ⟨hI.1.set X Y.2.2.2.2,hI.2⟩)
theorem Au {i : Nat} {fuel : Nat} {Z : Array Bool} {a : Act} {w : World} (Y : Region.ready md ops Z=[i]) (X : i<n) (hI : HeadInv md ops n Z)
  (h : wpOp P ops Q i (λa' w'=>S w'/\(HeadInv md ops n (Z.setIfInBounds i true)/\S w'->gz P md ops Q S n fuel (Z.setIfInBounds i true) a' w')) a w) : gz P md ops Q S n (fuel+1) Z a w :=
 ⟨λh0=>(by rw [Y] at h0;cases h0),λj U=>by rw [Y,Kx] at U;subst U;exact wpOp_mono (λa' w' V=>⟨λ_=>V.1,V.2 ⟨hI.set (by rw [Y];simp) X,V.1⟩⟩) h⟩
theorem ym {i : Nat} {fuel : Nat} {Z : Array Bool} {a : Act} {w : World} (V : Region.ready md ops Z=[i]) (U : n<=i) (hd : Region.ready md ops (Z.setIfInBounds i true)=[])
  (h : wpOp P ops Q i (λa' w'=>Q .normal a' w') a w) : gz P md ops Q S n (fuel+1) Z a w :=
 ⟨λh0=>(by rw [V] at h0;cases h0),λj X=>by
  rw [V,Kx] at X;subst X;refine wpOp_mono (λa' w' Y=>⟨λh1=>by omega,?_⟩) h;cases fuel with
  | zero=>exact ⟨hd,Y⟩
  | succ f=>exact ⟨λ_=>Y,by rw [hd];simp⟩⟩
theorem lH {i : Nat} {o : Oper} {fuel : Nat} {Z : Array Bool} {a : Act} {w : World} (N : Region.ready md ops Z=[i]) (X : i<n) (hI : HeadInv md ops n Z) (U : ops[i]? = some o)
  (h : ∀Y : Act->World->Prop,Shut (∀a w,S w->(HeadInv md ops n (Z.setIfInBounds i true)/\S w->gz P md ops Q S n fuel (Z.setIfInBounds i true) a w)->Y a w)->if Region.wanted o (yielded ops a.tmps)=true then Oper.wp P o a w Y Q else Y (a.put o.dst undef) w) :
  gz P md ops Q S n (fuel+1) Z a w :=
 Au N X hI (wpOp_step U λY O=>h Y λa w hS V=>O a w ⟨hS,V⟩)
theorem qF {i : Nat} {o : Oper} {fuel : Nat} {Z : Array Bool} {a : Act} {w : World} (O : Region.ready md ops Z=[i]) (X : n<=i) (hd : Region.ready md ops (Z.setIfInBounds i true)=[]) (V : ops[i]? = some o)
  (h : ∀Y : Act->World->Prop,Shut (∀a w,Q .normal a w->Y a w)->if Region.wanted o (yielded ops a.tmps)=true then Oper.wp P o a w Y Q else Y (a.put o.dst undef) w) :
  gz P md ops Q S n (fuel+1) Z a w :=
 ym O X hd (wpOp_step V λY U=>h Y λa w N=>U a w N)
theorem E9 : HeadInv md ops n (Array.replicate ops.size false) :=
 ⟨by simp,λj X _ Z=>(by rw [getD_replicate_false] at Z;cases Z),λt _ Y=>by have:=getD_replicate_false ops.size t;exact getD_in (by simpa using Y) this⟩
theorem oW {id : Nat} {a : Act} {w : World} (S : World->Prop) (n : Nat) (hm : P.follows .mixedOrders=true) (hS : S w.drew)
  (h : HeadInv .any ops n (Array.replicate ops.size false)/\S w.drew->gz P .any ops Q S n ops.size (Array.replicate ops.size false) a w.drew) : (Code.region id ops true).wp P Q a w :=
 wp_region_any hm (qH _ _ _ _ (h ⟨E9,hS⟩))
end
section
open Go.RowKit Go.Shelf
attribute [local go_sem] M3
theorem mI (l : LI) {k : Nat} (h : k<l.length) : l.take (k+1)=l.take k ++ [nth l k]:=by rw [JW h,aj h]
theorem vo (F : Fence) (n : Nat) (hF : F.fn 269) (E : F.round=none) (hn : 1<=n) (l B Y : Nat) (a : OA) (len cap : Nat) (U : LI) (I : len * 8<=140737488351232) (J z : LI->World->Prop)
  (j : ∀pre x W,J pre W->pre.length<len->YieldAt F (n - 1) prog l #[.int .i64 x] W λe O =>
   (e = .returned (.bool true)/\J (pre ++ [x]) O/\Below Y W O)\/(e = .returned (.bool false)/\z (pre ++ [x]) O))
  (W : World) (r : W.cell? ⟨B,0,none⟩=some (.slice a len cap)) (H : Ints W a len U) (hb : 0<len->ablk a<Y) (h0 : J [] W) :
  CallsIn F n prog 269 #[.func (.yield l) #[] #[],.pointer (some ⟨B,0,none⟩)] W λe O=>(∃v,e = .returned v) /\
   ((∃A,A=U/\J A O)\/(∃pre,(∃k,k<=len/\pre=U.take k)/\z pre O)):=by
 have hpl:=H.pl;have Z:=Z5 H.len;refine callsIn_of_wp func269 rfl hF ?_ E;simp only [ntmps269,LB,Kr,Lw,Nat.reduceAdd,Nat.reduceSub,La,Lb,LC,Lg,KL,LH];gi_wp2;gi_loopw [7] (λi wr=>∃k : Nat,k<=len/\i = .int .i64 k/\J (U.take k) wr/\Below Y W wr)
  (λi _=>len - (intOf i).toNat)
 case atStart=>exact ⟨0,JU _,rfl,h0,JP _ _⟩
 case round =>
  obtain ⟨k,hk,rfl,V,L⟩:=hrel
  by_cases N : k<len
  ·have hcx:=(H.below L hb).cell k N
   have X:=mI U (k:=k) (by rw [Z.out];exact N)
   have Htk:=Z5 X
   obtain ⟨fn,tmps,assign,body,hy,C⟩:=j _ (nth U k) wr V (by rw [Ki,Z.out];omega)
   rw [<- X] at C
   clear X
   gi_wp2
   refine C.mono ?_
   rintro e W3 (⟨rfl,G,D⟩ | ⟨rfl,K⟩)
   ·gi_wp2
    go_roundw
    case rel=>exact ⟨k+1,by omega,by simp,G,L.trans D⟩
    case measure=>simp [intOf];omega
   ·gi_wp2
    refine bodyPost_ret (results_none rfl _ _ _) rfl ?_
    exact ⟨⟨_,rfl⟩,.inr ⟨_,⟨k+1,by omega,rfl⟩,K⟩⟩
  ·obtain rfl : k=len:=by omega
   rw [JX (by rw [Z.out];exact JO _)] at V
   gi_wp2
   go_end0
   exact ⟨⟨_,rfl⟩,.inl ⟨_,rfl,V⟩⟩
theorem xK (F : Fence) (n : Nat) (hF : F.fn 260) (Z : F.round=none) (a : OA) (len cap : Nat) (w : World) :
  CallsIn F n prog 260 #[.slice a len cap] w λe w'=>e = .returned (.func (.func 269) #[] #[.pointer (some ⟨w.heap.size,0,none⟩)])/\w'=w.alloc (.cells #[.slice a len cap] 22):=by refine callsIn_of_wp func260 rfl hF ?_ Z;simp only [ntmps260,LB,Kr,Lw,Nat.reduceAdd,Nat.reduceSub,La,Lb,LC,Lg,KL,LH];gi_wp2;go_ret;exact ⟨rfl,rfl⟩
theorem rI (F : Fence) (n : Nat) (hF : F.fn 269) (N : F.round=none) (D : 1<=n) (V Z : Nat) (a : OA) (len cap : Nat) (U : LI) (Y : len * 8<=140737488351232) (w : World) (O : V<w.heap.size) (X : Z<=w.heap.size)
  (G : w.cell? ⟨V,0,none⟩=some (.slice a len cap)) (hI : Ints w a len U) (hb : 0<len->ablk a<Z) :
  SeqStopsK F n prog 269 #[.pointer (some ⟨V,0,none⟩)] (λx : Int=>#[Value.int .i64 x]) (Below Z) (λH=>H=U) (λpre=>pre <+: U) len w:=λl J C W I _ _ E h0=>by
 have L:=(I.cell (p:=⟨V,0,none⟩) O).trans G;refine (vo F n hF N D l V Z a len cap U Y J C E W L (hI.below (I.mono X) hb) hb h0).mono ?_;rintro e A ⟨he,⟨H,rfl,K⟩ | ⟨pre,⟨k,B,rfl⟩,K⟩⟩
 ·exact ⟨he,.inl ⟨_,rfl,K⟩⟩
 ·exact ⟨he,.inr ⟨_,List.take_prefix _ _,K⟩⟩
theorem uI (F : Fence) (n : Nat) (hA : F.fn 272) (hV : F.fn 269) (V : F.round=none) (hn : 3<=n) (U : Nat) (a : OA) (len cap : Nat) (B : LI) (hlen : len<=1000000) (w : World) (C : U<w.heap.size)
  (hc : w.cell? ⟨U,0,none⟩=some (.slice a len cap)) (hI : Ints w a len B) :
  CallsIn F n prog 272 #[.slice none 0 0,.func (.func 269) #[] #[.pointer (some ⟨U,0,none⟩)]] w λe W' =>
   ∃v,e = .returned v/\W'.ownsRow w.heap.size 3 1 v len (B.map (Value.int .i64))/\OC w W':=by
 have h1 : 1<=n:=by omega
 have O:=Z5 hI.len;obtain ⟨i0,hi,hz0,A,j⟩:=info_parts aV;refine callsIn_of_wp_marks func272 rfl hA ?_ V;simp only [ntmps272,LB,Kr,Lw,Nat.reduceAdd,Nat.reduceSub,La,Lb,LC,Lg,KL,LH];gi_wp2;have bO:=Boxed.new w 22 (.slice none 0 0);have G : OC w (w.alloc (.cells #[.slice none 0 0] 22)):=(JP _ w).alloc (JO _) _;refine wpIn_rangeFunc_ownG V h1 (gf:=269) (lb:=#[.pointer (some ⟨U,0,none⟩)]) rfl hV (enters_of func269 (by kernel_rfl) rfl)
  (rI F (n - 1) hV V (by omega) U w.heap.size a len cap B (by omega) w C (JO _) hc hI (λh=>hI.lt h)) belowK_t (belowK_b (by simp)) G (λ_=>rfl)
  (λpre W=>(∃v,Boxed W w.heap.size 22 v/\W.ownsRow w.heap.size 3 1 v pre.length (pre.map (Value.int .i64))/\True)/\OC w W)
  (λ_ _ _=>False)
  (OwnFrom.and (Own.from (holdsRow_own w.heap.size w.heap.size 22 3 1 (λpre : LI=>pre.length) (λpre=>pre.map (Value.int .i64)) (λ_ _=>True)) _) (ownFrom_below (JO _) (by simp)))
  (λ_ _ _ _ _ hs _ _=>hs)
  ⟨⟨_,bO,Ny _ _ _ _,trivial⟩,G⟩
  (λx=>{ tmps:=#[.slice none 0 0,.func (.func 269) #[] #[.pointer (some ⟨U,0,none⟩)],.pointer (some ⟨w.heap.size,0,none⟩),undef,.slice none 0 0,.int .i64 x,.func (.func 269) #[] #[.pointer (some ⟨U,0,none⟩)],.int .i64 x,undef,undef,undef,undef,undef],defers:=[] }) ?assign ?body ?done ?stop
 case assign =>
  intro l x W K L
  gi_wp2
  exact L
 case body =>
  rintro l pre x W ⟨⟨v,E,Z,_⟩,I⟩ hlt
  have z:=E.cell
  gi_wp2_with (gi_at_builtin;refine wpListIn_append_own _ rfl _ _ 22 rfl w.heap.size 3 i0 (.int .i64 0) 1 8 underlying22 hi hz0 A j rfl (by decide) _ _ _ rfl (Z.alloc _) ⟨W.heap.size,0,none⟩ 1 1 [.int .i64 x] rfl rfl (cell_one_new _ _ _) (by simp [Value.oneCell']) (by unfold maxLen;omega) (by omega) (by have:=I.size;simp;omega) ?_;intro v' w1 Y X _;obtain ⟨g',cap',rfl⟩:=ownsRow_succ Y;obtain ⟨H,hv2,r,hk2,N⟩:=E.appended (by decide) Z I.size (JO _) Y X;have hc1:=H.cell;have hf1:=H.frozen)
  exact ⟨hk2.from _,N,⟨_,hv2,by simpa using r,trivial⟩,I.trans N⟩
 case done =>
  rintro D ys W hD rfl ⟨⟨v,E,Z,_⟩,I⟩ L
  have z:=E.cell
  gi_wp2
  refine ⟨by simp,.inl ⟨_,_,rfl,run_takeDeferred L,?_⟩⟩
  exact ⟨_,results_tmp rfl _ _ _,v,rfl,by have:=ownsRow_putObj Z (.deferred none) L rfl;rw [O.out] at this;exact this,I.trans (belowK_b (w:=w) (JO _) W D _ _ (by simp at hD;omega) L rfl rfl)⟩
 case stop =>
  rintro D c pre W _ _ h _
  exact h.elim
theorem yW (F : Fence) (n : Nat) (K : F.fn 268) (I : F.fn 272) (L : F.fn 269) (Z : F.round=none) (H : 4<=n) (X : Nat) (a : OA) (len cap : Nat) (U : LI) (hlen : len<=1000000) (w : World) (V : X<w.heap.size)
  (N : w.cell? ⟨X,0,none⟩=some (.slice a len cap)) (hI : Ints w a len U) :
  CallsIn F n prog 268 #[.func (.func 269) #[] #[.pointer (some ⟨X,0,none⟩)]] w λe O =>
   ∃v,e = .returned v/\O.ownsRow w.heap.size 3 1 v len (U.map (Value.int .i64))/\OC w O:=by refine callsIn_of_wp func268 rfl K ?_ Z;simp only [ntmps268,LB,Kr,Lw,Nat.reduceAdd,Nat.reduceSub,La,Lb,LC,Lg,KL,LH];gi_wp2;refine ⟨λ_=>by omega,?_⟩;refine (uI F (n - 1) I L Z (by omega) X a len cap U hlen _ V N hI).mono ?_;rintro e O ⟨v,rfl,Y,hb⟩;gi_wp2;go_ret;exact ⟨v,rfl,Y,hb⟩
theorem yV (a : OA) (len cap : Nat) (w : World) :
  Calls prog 260 #[.slice a len cap] w λe w'=>e = .returned (.func (.func 269) #[] #[.pointer (some ⟨w.heap.size,0,none⟩)])/\w'=w.alloc (.cells #[.slice a len cap] 22) :=
 callsIn_wide.1 (xK Fence.wide 8 trivial rfl a len cap w)
theorem wX (Z : Nat) (a : OA) (len cap : Nat) (X : LI) (hlen : len<=1000000) (w : World) (Y : Z<w.heap.size) (U : w.cell? ⟨Z,0,none⟩=some (.slice a len cap)) (hI : Ints w a len X) :
  Calls prog 268 #[.func (.func 269) #[] #[.pointer (some ⟨Z,0,none⟩)]] w λe V =>
   ∃v,e = .returned v/\V.ownsRow w.heap.size 3 1 v len (X.map (Value.int .i64))/\OC w V :=
 callsIn_wide.1 (yW Fence.wide 8 trivial trivial trivial rfl (by omega) Z a len cap X hlen w Y U hI)
end
def NX:=@Below.next
def NZ:=@Ints.own
def N0:=@Below.app
def N1:=@Below.bV
def N5:=@Ints.nil
def N7:=@Ints.news
def Od:=@Pl.own
def Oh:=@Cg.of_eq
def Om:=@Cg.refl
def Oo:=@dz.kH
def Ou:=@dz.digs
def Ov:=@Cg.trans
def Oy:=@tN.own
end Go.Proofs.YthglbncgemdcbaaGreat
