import Derived.Test.YthglbncgemdcbaaGreatCE0
import Derived.WalkSpells
import Derived.WalkLawsBesides
import Derived.Laws.CopyOwn
import Derived.Maps.AppendAt
import Derived.Deep.RegionLaw
import Derived.StillTail
import Derived.OrdersHeld
import Derived.Deep.RegionHeld
import Derived.RangeFuncBox
import Derived.RangeFuncLeaves
import Derived.Shelf.Abstract
import Derived.OwnWalkIn
import Derived.TacticsInMore
import Derived.LoopNIn
import Derived.LoopIn
namespace Go.Proofs.YthglbncgemdcbaaGreat
set_option linter.all false
set_option maxRecDepth 100000
set_option maxHeartbeats 2000000
open Go.RowKit Go.Proofs.Tryz
def digs (x p:Int):Nat->LI
 | 0=>[]
 | m+1=>(x % p) :: digs (x / p) p m
def valu (p:Int):LI->Int
 | []=>0
 | c :: d=>c+p * valu p d
def jt (x p:Int):Nat->Int
 | 0=>x
 | k+1=>jt x p k / p
theorem bG (p:Int):∀(m:Nat) (x:Int),(digs x p m).length=m
 | 0,_=>rfl
 | m+1,x=>by simp [digs,bG p m]
theorem pd (x p:Int):∀k,jt x p (k+1)=jt (x / p) p k
 | 0=>rfl
 | k+1=>by rw [jt,pd x p k];rfl
theorem oV (p:Int):∀(k:Nat) (x:Int),digs x p (k+1)=digs x p k ++ [jt x p k % p]
 | 0,x=>rfl
 | k+1,x=>by rw [digs,oV p k (x / p),pd];rfl
theorem vJ (x p:Int) (Z:0<=x) (Y:1<=p):∀k,0<=jt x p k/\jt x p k<=x
 | 0=>⟨Z,Ox _⟩
 | k+1=>by have h:=vJ x p Z Y k;exact ⟨Ms h.1 (by omega),Ob (Mu _ h.1) h.2⟩
def du (l:LI) (k m:Nat):LI:=l ++ List.replicate (m - k) 0
theorem fF (l:LI) (k m:Nat) (x:Int) (Z:l.length=k) (Y:k<m):(du l k m).set k x=du (l ++ [x]) (k+1) m:=by unfold du;rw [NB _ _ (by omega),Z,NT];rw [show m - k=(m - (k+1))+1 from by omega,NR,K1];simp
theorem gn (l:LI) (m:Nat):du l m m=l:=by simp [du]
def nth (l:LI) (i:Nat):Int:=l.getD i 0
def shl (out:LI):LI:=0 :: out.dropLast
def Cs (P:Int) (low a:LI) (top bi:Int) (Z:LI) (j:Nat):Int:=(nth Z j+(P - top) * nth low j+bi * nth a j) % P
def mL (P:Int) (low a:LI) (m:Nat) (bi:Int) (out:LI):LI :=
 (List.range m).map λj=>Cs P low a (nth out (m - 1)) bi (shl out) j
def eG (P:Int) (low a b:LI) (m:Nat):Nat->LI
 | 0=>List.replicate m 0
 | k+1=>mL P low a m (nth b (m - 1 - k)) (eG P low a b m k)
def mB (M:Nat) (mod:LI):LI:=if 1<M then mod else [0]
def dq (P:Int) (M:Nat) (mod:LI) (x y:Int):Int :=
 valu P (eG P (mB M mod) (digs x P M) (digs y P M) M M)
theorem aj {l:LI} {i:Nat} (h:i<l.length):nth l i=l[i]:=by simp [nth,h]
theorem aG {l:LI} {i:Nat} (h:i<l.length):nth l i ∈ l:=by rw [aj h];exact Ly h
theorem jI {l:LI} {i:Nat} (h:l.length<=i):nth l i=0:=by simp [nth,h]
theorem gJ {l Z:LI} (Y:l.length=Z.length) (h:∀i,i<l.length->nth l i=nth Z i):l=Z:=by apply Mi Y;intro i h1 h2;have:=h i h1;rwa [aj h1,aj h2] at this
def dG (P:Int) (l:LI):Prop:=∀i,0<=nth l i/\nth l i<P
theorem dG.lz {P:Int} (Z:0<P) {l:LI} (h:∀x ∈ l,0<=x/\x<P):dG P l:=by
 intro i;rcases LP i l.length with hi | hi
 ·exact h _ (aG hi)
 ·rw [jI hi];omega
theorem dG.digs {P:Int} (Z:0<P):∀(m:Nat) (x:Int),dG P (digs x P m)
 | 0,x=>λi=>by simp [Go.Proofs.YthglbncgemdcbaaGreat.digs,nth];omega
 | m+1,x=>by
  intro i;match i with
  | 0=>simp only [Go.Proofs.YthglbncgemdcbaaGreat.digs,nth,NS];exact ⟨LO _ (by omega),LG _ Z⟩
  | i+1=>simpa only [Go.Proofs.YthglbncgemdcbaaGreat.digs,nth,List.getD_cons_succ] using dG.digs Z m (x / P) i
theorem dG.replicate {P:Int} (Y:0<P) (m:Nat):dG P (List.replicate m 0):=by refine dG.lz Y λx Z=>?_;obtain ⟨_,rfl⟩:=List.mem_replicate.1 Z;omega
theorem iU (P:Int) (low a:LI) (m:Nat) (bi:Int) (out:LI):(mL P low a m bi out).length=m:=by simp [mL]
theorem ml (P:Int) (low a:LI) (m:Nat) (bi:Int) (out:LI) (j:Nat) (Z:j<m) :
  nth (mL P low a m bi out) j=Cs P low a (nth out (m - 1)) bi (shl out) j:=by rw [aj (by rw [iU];exact Z)];simp [mL]
theorem dG.mL {P:Int} (Y:0<P) (low a:LI) (m:Nat) (bi:Int) (out:LI):dG P (mL P low a m bi out):=by
 intro j;rcases LP j m with Z | Z
 ·rw [ml _ _ _ _ _ _ _ Z];exact ⟨LO _ (by omega),LG _ Y⟩
 ·rw [jI (by rw [iU];exact Z)];omega
theorem iw (P:Int) (low a b:LI) (m:Nat):∀k,(eG P low a b m k).length=m
 | 0=>by simp [eG]
 | k+1=>iU ..
theorem dG.eG {P:Int} (Z:0<P) (low a b:LI) (m:Nat):∀k,dG P (eG P low a b m k)
 | 0=>dG.replicate Z m
 | k+1=>by simp only [Go.Proofs.YthglbncgemdcbaaGreat.eG];exact dG.mL Z _ _ _ _ _
theorem AR (out:LI) (h:0<out.length):(shl out).length=out.length:=by simp [shl];omega
theorem dG.shl {P:Int} (Z:0<P) {out:LI} (h:dG P out):dG P (shl out):=by
 intro i;match i with
 | 0=>simp [Go.Proofs.YthglbncgemdcbaaGreat.shl,nth];omega
 | i+1 =>
  have e:nth (Go.Proofs.YthglbncgemdcbaaGreat.shl out) (i+1)=if i<out.length - 1 then nth out i else 0:=by simp only [Go.Proofs.YthglbncgemdcbaaGreat.shl,nth,KZ,K7,Nt];split <;> rfl
  rw [e];split
  ·exact h i
  ·omega
def gv (new l7:LI) (j:Nat):LI:=new.take j ++ l7.drop j
theorem fC (new l7:LI):gv new l7 0=l7:=by simp [gv]
theorem gx (new l7:LI) (m:Nat) (h1:new.length=m) (h2:l7.length=m):gv new l7 m=new:=by simp [gv,K5 (Oc h1),Nu (Oc h2)]
theorem iS (new l7:LI) (j:Nat) (h:new.length=l7.length) (Z:j<=l7.length):(gv new l7 j).length=l7.length:=by simp [gv];omega
theorem eA (new l7:LI) (j i:Nat) (h:new.length=l7.length) (Z:j<=l7.length):nth (gv new l7 j) i=if i<j then nth new i else nth l7 i:=by
 unfold gv nth;simp only [KZ];split
 ·rename_i hi;rw [Lg (by simp;omega),Mo,KX hi]
 ·rename_i hi;rw [L4 (by simp;omega),List.getElem?_drop];congr 2;simp;omega
theorem dS (l:LI) (i j:Nat) (x:Int) (hi:i<l.length):nth (l.set i x) j=if j=i then x else nth l j:=by
 unfold nth;simp only [KZ,Md];by_cases h:i=j
 ·subst h;simp [hi]
 ·rw [KY h,KY (by omega)]
theorem fh (new l7:LI) (j:Nat) (h:new.length=l7.length) (V:j<l7.length):(gv new l7 j).set j (nth new j)=gv new l7 (j+1):=by
 have X:=iS new l7 j h (by omega);have Z:=iS new l7 (j+1) h (by omega);refine gJ (by simp [X,Z]) λi hi=>?_;rw [dS _ _ _ _ (by omega),eA _ _ _ _ h (by omega),eA _ _ _ _ h (by omega)];by_cases e:i=j
 ·subst e;simp
 ·rw [KY e];by_cases Y:i<j
  ·rw [KX Y,KX (by omega)]
  ·rw [KY Y,KY (by omega)]
theorem nF {P:Int} (Z:0<P):∀(l:LI),dG P l->0<=valu P l/\valu P l<P ^ l.length
 | [],_=>by simp [valu]
 | c :: l,h=>by
  have h0:=h 0;have Y:=nF Z l (λi=>by simpa [nth] using h (i+1));simp only [nth,NS] at h0;simp only [valu,LB,LY];have h1:0<=P * valu P l:=MY (by omega) Y.1;have h2:P * valu P l+P<=P ^ l.length * P:=by have:=Lv (show valu P l+1<=P ^ l.length by omega) (show 0<=P by omega);rw [Mp (P ^ l.length)];rw [Mx] at this;omega
  omega
theorem dF {P:Int} (Z:1<=P) {a b:Nat} (h:a<=b):P ^ a<=P ^ b:=by
 obtain ⟨n,rfl⟩:∃n:Nat,P=n:=⟨P.toNat,by omega⟩
 have:=Nat.pow_le_pow_right (n:=n) (by omega) h;exact_mod_cast this
theorem dG.drop {P:Int} {l:LI} (h:dG P l) (k:Nat):dG P (l.drop k):=by intro i;have:=h (k+i);simpa [nth] using this
theorem dG.B1 {P:Int} (X:0<P) {l:LI} (h:dG P l) {m:Nat} (Y:l.length=m) (Z:P ^ m<=256) (k:Nat):0<=valu P (l.drop k)/\valu P (l.drop k)<256:=by have hb:=nF X (l.drop k) (h.drop k);refine ⟨hb.1,Int.lt_of_lt_of_le hb.2 (Ob ?_ Z)⟩;rw [N7,Y];exact dF (by omega) (by omega)
def ablk:OA->Nat | some a=>a.block | none=>0
def aJ:OA->Nat | some a=>a.off | none=>0
@[simp] theorem ablk_some (b o:Nat) (s:Option Nat):ablk (some ⟨b,o,s⟩)=b:=rfl
@[simp] theorem aoff_some (b o:Nat) (s:Option Nat):aJ (some ⟨b,o,s⟩)=o:=rfl
def Pl (a:OA) (n:Nat):Prop:=0<n->a=some ⟨ablk a,aJ a,none⟩
def ai (l:Ll) (i:Nat):LI:=l.getD i []
def qx (l:List Bool) (i:Nat):Bool:=l.getD i false
theorem aE {l:Ll} {i:Nat} (h:i<l.length):ai l i=l[i]:=by simp [ai,h]
theorem eZ {l:Ll} {i:Nat} (h:i<l.length):ai l i ∈ l:=by rw [aE h];exact Ly h
theorem nH {l:List Bool} {i:Nat} (h:i<l.length):qx l i=l[i]:=by simp [qx,h]
structure Ints (w:World) (a:OA) (n:Nat) (l:LI):Prop where
 len:l.length=n
 pl:Pl a n
 max:n<=maxLen
 cell:∀i,i<n->w.cell? ⟨ablk a,aJ a+i,none⟩=some (cG (nth l i))
structure uN (w:World) (a:OA) (n:Nat) (l:List Bool):Prop where
 len:l.length=n
 pl:Pl a n
 max:n<=maxLen
 cell:∀i,i<n->w.cell? ⟨ablk a,aJ a+i,none⟩=some (.bool (qx l i))
structure bw (w:World) (a:OA) (n:Nat) (l:Ll):Prop where
 len:l.length=n
 pl:Pl a n
 max:n<=maxLen
 cell:∀i,i<n->∃b m c,w.cell? ⟨ablk a,aJ a+i,none⟩=some (.slice b m c)/\Ints w b m (ai l i)
def JJ (w:World) (B:Nat) (a:OA) (n:Nat):Prop:=0<n->B<=ablk a/\∀i,i<n->w.frozen? ⟨ablk a,aJ a+i,none⟩=false
theorem Ints.lt {w:World} {a:OA} {n:Nat} {l:LI} (h:Ints w a n l) (Z:0<n):ablk a<w.heap.size :=
 Lb w _ (h.cell 0 Z)
theorem bw.lt {w:World} {a:OA} {n:Nat} {l:Ll} (h:bw w a n l) (Y:0<n):ablk a<w.heap.size:=by obtain ⟨b,m,c,Z,_⟩:=h.cell 0 Y;exact Lb w _ Z
theorem Ints.of_block {w w':World} {a:OA} {n:Nat} {l:LI} (h:Ints w a n l) (hb:0<n->w'.heap[ablk a]? = w.heap[ablk a]?):Ints w' a n l :=
 ⟨h.len,h.pl,h.max,λi hi=>(Lu (w:=w) (a:=⟨ablk a,aJ a+i,none⟩) (hb (by omega))).trans (h.cell i hi)⟩
theorem Ints.below {B:Nat} {w w':World} {a:OA} {n:Nat} {l:LI} (h:Ints w a n l) (hb:Below B w w') (Z:0<n->ablk a<B):Ints w' a n l :=
 h.of_block λY=>hb.block _ (Z Y)
theorem Ints.af {w w':World} {a:OA} {n:Nat} {l:LI} (h:Ints w a n l) (hb:PY w w'):Ints w' a n l :=
 h.below hb λZ=>h.lt Z
theorem bw.af {w w':World} {a:OA} {n:Nat} {l:Ll} (h:bw w a n l) (hb:PY w w'):bw w' a n l:=by refine ⟨h.len,h.pl,h.max,λi hi=>?_⟩;obtain ⟨b,m,c,Z,Y⟩:=h.cell i hi;exact ⟨b,m,c,(hb.cell (Lb w _ Z)).trans Z,Y.af hb⟩
theorem Ints.nil (w:World) (c:OA):Ints w c 0 []:=⟨rfl,λh=>by omega,by unfold maxLen;omega,λi h=>by omega⟩
@[go_sem] theorem run_indexAt_pl {P : Program} (w : World) (t : TypeId) (a : OA) (len cap : Nat) (k : IntKind) (i : Int) (h : P.underlying t=some (.slice (P.elem t)))
  (Z:Pl a len) (h0:0<=i) (h1:i<len) :
  (Instr.indexAt t (.slice a len cap) (.int k i)).run P w=((sizeOf (P.elem t)).run P w).andThen λs w=>.ok (.pointer (some ((⟨ablk a,aJ a,none⟩:Addr).add (i.toNat * s)))) w:=by have e:a=some ⟨ablk a,aJ a,none⟩:=Z (by omega);generalize hb:ablk a=b at *;generalize Y:aJ a=o at *;subst e;rw [run_indexAt_slice (h:=h),KX ⟨h0,h1⟩]
theorem xj (l:List Bool) (i j:Nat) (x:Bool) (hi:i<l.length):qx (l.set i x) j=if j=i then x else qx l j:=by
 unfold qx;simp only [KZ,Md];by_cases h:i=j
 ·subst h;simp [hi]
 ·rw [KY h,KY (by omega)]
theorem Pl.own {w:World} {base:Nat} {e:TypeId} {v:Value} {n:Nat} {xs:List Value} (h:w.ownsRow base e 1 v n xs):∃a c,v = .slice a n c/\Pl a n:=by
 rcases h.2 with ⟨rfl,rfl⟩ | ⟨g,cap,cur,rfl,_⟩
 ·exact ⟨none,0,rfl,λh=>by omega⟩
 ·exact ⟨_,cap,rfl,λ_=>rfl⟩
theorem bH {w:World} {base:Nat} {e:TypeId} {a:OA} {c n:Nat} {xs:List Value} (h:w.ownsRow base e 1 (.slice a n c) n xs) (i:Nat) (hi:i<n) :
  w.cell? ⟨ablk a,aJ a+i,none⟩=xs[i]?/\w.frozen? ⟨ablk a,aJ a+i,none⟩=false/\base<=ablk a/\xs.length=n/\n<=maxLen:=by
 obtain ⟨N,h2⟩:=h;rcases h2 with ⟨h2,rfl⟩ | ⟨g,cap,cur,Y,V,Z,O,hm,U,X⟩
 ·omega
 ·cases Y
  simp only [ablk_some,aoff_some,MR];refine ⟨?_,by simp [World.frozen?,Z],V,by omega,by omega⟩;rw [<- X,Mo,KX (by omega)];simp [World.cell?,Z]
theorem Ints.own {w:World} {base:Nat} {e:TypeId} {a:OA} {c n:Nat} {l:LI} (h:w.ownsRow base e 1 (.slice a n c) n (l.map (Value.int .i64))) :
  Ints w a n l/\JJ w base a n:=by
 have Y:l.length=n:=by have:=h.1;simpa using this
 obtain ⟨a',U,Z,X⟩:=Pl.own h;cases Z
 refine ⟨⟨Y,X,?_,λi hi=>?_⟩,λV=>⟨(bH h 0 V).2.2.1,λi hi=>(bH h i hi).2.1⟩⟩
 ·rcases MI n with h0 | h0
  ·subst h0;unfold maxLen;omega
  ·exact (bH h 0 h0).2.2.2.2
 ·rw [(bH h i hi).1];simp [nth,show i<l.length by omega]
theorem uN.own {w:World} {base:Nat} {e:TypeId} {a:OA} {c n:Nat} {l:List Bool} (h:w.ownsRow base e 1 (.slice a n c) n (l.map Value.bool)) :
  uN w a n l/\JJ w base a n:=by
 have Y:l.length=n:=by have:=h.1;simpa using this
 obtain ⟨a',U,Z,X⟩:=Pl.own h;cases Z
 refine ⟨⟨Y,X,?_,λi hi=>?_⟩,λV=>⟨(bH h 0 V).2.2.1,λi hi=>(bH h i hi).2.1⟩⟩
 ·rcases MI n with h0 | h0
  ·subst h0;unfold maxLen;omega
  ·exact (bH h 0 h0).2.2.2.2
 ·rw [(bH h i hi).1];simp [qx,show i<l.length by omega]
theorem bA {w:World} {B:Nat} {e:TypeId} {a:OA} {c n:Nat} {xs:List Value} (h:w.ownsRow B e 1 (.slice a n c) n xs) (i:Nat) (hi:i<n) (u:Value) :
  (w.setCell ⟨ablk a,aJ a+i,none⟩ u).ownsRow B e 1 (.slice a n c) n (xs.set i u):=by
 have Y:=h;rcases h.2 with ⟨Z,h0⟩ | ⟨g,_,cur,Z,U,N,O,hm,X,V⟩
 ·omega
 ·cases Z
  simpa using (Y.stored i u).1
theorem fg {w w':World} {B:Nat} {e:TypeId} {a:OA} {c n:Nat} {xs:List Value} (h:w.ownsRow B e 1 (.slice a n c) n xs)
  (hb:w'.heap[ablk a]? = w.heap[ablk a]?):w'.ownsRow B e 1 (.slice a n c) n xs:=by
 refine ⟨h.1,?_⟩;rcases h.2 with h2 | ⟨g,cap,cur,Z,Y,X,r⟩
 ·exact .inl h2
 ·cases Z
  exact .inr ⟨g,c,cur,rfl,Y,by rw [ablk_some] at hb;rw [hb];exact X,r⟩
theorem lT {w:World} {B:Nat} {e:TypeId} {a:OA} {c n:Nat} {xs:List Value} (h:w.ownsRow B e 1 (.slice a n c) n xs) :
  (a=none/\n=0/\c=0)\/(B<=ablk a/\ablk a<w.heap.size):=by
 rcases h.2 with ⟨Z,V⟩ | ⟨g,cap,cur,Z,Y,X,r⟩
 ·cases Z;exact .inl ⟨rfl,V,rfl⟩
 ·cases Z;exact .inr ⟨Y,(Array.getElem?_eq_some_iff.1 X).1⟩
theorem cU {w:World} {B:Nat} {e:TypeId}:w.ownsRow B e 1 ds 0 []:=OS _ _ _ _
theorem ee {w:World} {B:Nat} {e:TypeId} {a:OA} {c n:Nat} {xs:List Value} (h:w.ownsRow B e 1 (.slice a n c) n xs) {p:Addr} (u:Value) (Z:a=none\/ablk a ≠ p.block) :
  (w.setCell p u).ownsRow B e 1 (.slice a n c) n xs:=by
 rcases Z with rfl | Z
 ·have h2:=lT h;refine ⟨h.1,.inl ?_⟩;rcases h.2 with h2 | ⟨g,cap,cur,Y,_⟩
  ·exact h2
  ·cases Y
 ·exact fg h (Lf _ _ _ _ Z)
theorem bf {w w':World} {B:Nat} {e:TypeId} {a:OA} {c n:Nat} {xs:List Value} (h:w.ownsRow B e 1 (.slice a n c) n xs) (hb:PY w w') :
  w'.ownsRow B e 1 (.slice a n c) n xs:=by
 refine ⟨h.1,?_⟩;rcases h.2 with h2 | ⟨g,cap,cur,Y,X,Z,r⟩
 ·exact .inl h2
 ·exact .inr ⟨g,cap,cur,Y,X,by rw [hb.block g (Array.getElem?_eq_some_iff.1 Z).1];exact Z,r⟩
theorem aY {w:World} {B B':Nat} {e:TypeId} {v:Value} {n:Nat} {xs:List Value} (h:w.ownsRow B e 1 v n xs) (X:B'<=B):w.ownsRow B' e 1 v n xs:=by
 refine ⟨h.1,?_⟩;rcases h.2 with h2 | ⟨g,cap,cur,Z,Y,r⟩
 ·exact .inl h2
 ·exact .inr ⟨g,cap,cur,Z,K9 X Y,r⟩
theorem jB {w:World} {B:Nat} {e:TypeId} {v:Value} {n:Nat} {xs:List Value} (h:w.ownsRow B e 1 v n xs):xs.length=n:=by simpa using h.1
theorem bV {P:Program} {w:World} {ops:Array Oper} {rest:List Oper} {o:Oper} {ac:Act} {Q:Exit->Act->World->Prop}
  (K:o.guard=none) (l c:Operand) (t e:TypeId) (N:o.op=Op.makeSlice t l c) (z:Value) (bytes:Nat)
  (h1:P.underlying t=some (.slice e)) (h2:(P.info? e).map (λi=>(i.zero,i.size,i.bytes))=some (some z,1,bytes)) (H:z.cells = #[z])
  (n:Nat) (C:ac.eval l = cG n) (L:ac.eval c = cG n) (D:bytes * n<=281474976710656) (B:n<=maxLen)
  (E:∀a w',w'.ownsRow w.heap.size e 1 (.slice a n n) n (List.replicate n z)->PY w w'->w.heap.size<=ablk a->ablk a<w'.heap.size->wpList P ops Q rest (ac.put o.dst (.slice a n n)) w') :
  wpList P ops Q (o :: rest) ac w:=by
 obtain ⟨i,hi,U,O,X⟩:=info_parts h2;refine wpList_make_full w K l c t N w.heap.size e i z 1 h1 hi U O .i64 .i64 n n n C L rfl rfl (by rw [X];exact D) B (KT _) λw' Z V=>?_;refine E _ w' ?_ ((KU _ _).grown V (KT _) (λk F=>by cases F)) (by simp) ?_
 ·simpa [H,toList_madeCells_one] using Z
 ·rcases Z.2 with ⟨Y,_⟩ | ⟨g,cap,cur,Y,_,G,_⟩
  ·cases Y
  ·cases Y;exact (Array.getElem?_eq_some_iff.1 G).1
theorem Below.app {B Y:Nat} {X w w':World} {e:TypeId} {a:OA} {n c:Nat} {xs:List Value} (h:Below Y X w) (Z:w.ownsRow B e 1 (.slice a n c) n xs)
  (U:w.grownBy w' (Value.slice a n c).ownBlock) (h0:Y<=B) (h1:Y<=w.heap.size):Below Y X w' :=
 h.grown U h1 λk V=>K9 h0 (Z.lt k V).1
theorem aB {w w':World} (hb:PY w w') {a:Addr} {v:Value} (h:w.cell? a=some v):w'.cell? a=some v :=
 (hb.cell (Lb w a h)).trans h
theorem Below.next {Z w w':World} (h:PY Z w) (hb:PY w w'):PY Z w' :=
 h.trans (hb.mono h.size)
theorem IF {w:World} {B:Nat} {e:TypeId} {a:OA} {n:Nat} {xs:List Value} (h:w.ownsRow B e 1 (.slice a n n) n xs) (O:0<n) :
  ∃g,a=some ⟨g,0,none⟩/\B<=g/\w.heap[g]? = some (.cells xs.toArray e (0,0)):=by
 rcases h.2 with ⟨Z,h0⟩ | ⟨g,cap,cur,Z,V,U,hle,hm,Y,X⟩
 ·omega
 ·cases Z
  refine ⟨g,rfl,V,?_⟩;rw [U,<- X,K5 (by rw [Array.length_toList,Y];exact KT _)]
theorem AV {w:World} {B:Nat} {e:TypeId} {g n:Nat} {xs:List Value} (Y:B<=g) (h:w.heap[g]? = some (.cells xs.toArray e (0,0))) (Z:xs.length=n) (hm:n<=maxLen) :
  w.ownsRow B e 1 (.slice (some ⟨g,0,none⟩) n n) n xs :=
 ⟨by simpa using Z,.inr ⟨g,n,xs.toArray,rfl,Y,h,KT _,hm,by simpa using Z,by simpa using K5 (by omega)⟩⟩
theorem oN {w:World} {g:Nat} {e:TypeId} {l:LI} (h:w.heap[g]? = some (.cells (l.map (Value.int .i64)).toArray e (0,0))) (j:Nat) (Z:j<l.length) :
  w.cell? ⟨g,j,none⟩=some (cG (nth l j))/\w.frozen? ⟨g,j,none⟩=false:=by refine ⟨?_,by simp [World.frozen?,h]⟩;simp [World.cell?,h,nth,Z]
theorem mU {w:World} {g:Nat} {e:TypeId} {l:LI} (h:w.heap[g]? = some (.cells (l.map (Value.int .i64)).toArray e (0,0))) (j:Nat) (x:Int) :
  (w.setCell ⟨g,j,none⟩ (cG x)).heap[g]? = some (.cells ((l.set j x).map (Value.int .i64)).toArray e (0,0)):=by have:=heap_setCell_same w g j _ e (cG x) h;simpa [Lq] using this
theorem FK (g j:Nat):(⟨g,0,none⟩:Addr).add j=⟨g,j,none⟩:=by unfold Addr.add;split <;> simp_all
theorem wk {w:World} {g:Nat} {e:TypeId} {l:LI} (h:w.heap[g]? = some (.cells (l.map (Value.int .i64)).toArray e (0,0))) :
  ∀j v,(l.dropLast.map (Value.int .i64))[j]? = some v->w.cell? ((⟨g,0,none⟩:Addr).add j)=some v:=by intro j v Y;have Z:=(List.getElem?_eq_some_iff.1 Y).1;simp only [Lc,List.length_dropLast] at Z;rw [FK,(oN h j (by omega)).1];rw [MS,Nt,KX Z,LC (by omega)] at Y;rw [aj (by omega)];simpa using Y
theorem AE (l:LI) (h:0<l.length):splice (l.map (Value.int .i64)) 1 (l.dropLast.map (Value.int .i64))=(nth l 0 :: l.dropLast).map (Value.int .i64):=by
 unfold splice;match l,h with
 | x :: l,_ =>
  have e:(List.map (Value.int .i64) (x :: l)).drop (1+(List.map (Value.int .i64) (x :: l).dropLast).length)=[]:=by apply Nu;simp;omega
  rw [e]
  simp [nth]
theorem bh:(prog.info? 3).map (λi=>(i.zero,i.size,i.bytes))=some (some (cG 0),1,8):=by kernel_rfl
theorem oc (x p:Int) (m:Nat) (w:World) (U:0<=x) (N:x<=9223372036854775807) (L:1<=p) (hm:m<=256) :
  Calls prog 214 #[cG x,cG p,cG m] w λe w' =>
   ∃a c,e = .returned (.slice a m c)/\Ints w' a m (digs x p m)/\JJ w' w.heap.size a m/\PY w w':=by
 go_enter func214,ntmps214;go_wp2_with (at_make;refine bV rfl _ _ 22 3 rfl (cG 0) 8 underlying22 bh rfl m rfl rfl (by omega) (by unfold maxLen;omega) ?_;intro a C Y X K V);go_loopw [0,13] (λO H wr=>∃k:Nat,k<=m/\H = cG k/\O = cG (jt x p k) /\
   wr.ownsRow w.heap.size 3 1 (.slice a m m) m ((du (digs x p k) k m).map (Value.int .i64))/\PY w wr)
  (λ_ i _=>m - (intOf i).toNat)
 case atStart=>exact ⟨0,K0 _,rfl,rfl,by simpa [du,digs] using Y,X⟩
 case round =>
  obtain ⟨k,B,rfl,rfl,Y,X⟩:=hrel
  obtain ⟨hints,Z⟩:=Ints.own Y
  have E:=vJ x p U L k
  have G:=hints.pl
  by_cases V:k<m
  ·have D:=hints.cell k V
   have A:=(Z (by omega)).2 k V
   have F:=(Z (by omega)).1
   go_wp2
   go_roundw
   case rel =>
    refine ⟨k+1,by omega,by go_num,rfl,?_,X.setCell F _⟩
    have h:=bA Y k V (cG (jt x p k % p))
    rw [<- Lq,fF _ _ _ _ (bG p k x) V,<- oV] at h
    exact h
   case measure=>simp [intOf] <;> omega
  ·obtain rfl:k=m:=by omega
   go_wp2
   go_ret
   rw [gn] at hints
   exact ⟨_,_,rfl,hints,Z,X⟩
def eY (a:OA) (b:Nat):Prop:=a=none\/ablk a ≠ b
theorem eY.own {a:OA} {b:Nat} (h:eY a b) (n c:Nat):(Value.slice a n c).ownBlock ≠ some b:=by
 rcases h with rfl | h
 ·simp [Value.ownBlock]
 ·cases a with
  | none=>simp [Value.ownBlock]
  | some x=>simpa [Value.ownBlock,ablk] using h
theorem eY.pI {a:OA} {b n c:Nat} (h:(Value.slice a n c).ownBlock ≠ some b):eY a b:=by
 cases a with
 | none=>exact .inl rfl
 | some x=>exact .inr (by simpa [Value.ownBlock,ablk] using h)
theorem kO {w:World} {B:Nat} {e:TypeId} {a:OA} {c n:Nat} {xs:List Value} (h:w.ownsRow B e 1 (.slice a n c) n xs) {b:Nat} (hb:b<B):eY a b:=by
 rcases lT h with ⟨rfl,_⟩ | ⟨h1,_⟩
 ·exact .inl rfl
 ·exact .inr (by omega)
theorem dR {w:World} {B:Nat} {e:TypeId} {a:OA} {c n:Nat} {xs:List Value} (h:w.ownsRow B e 1 (.slice a n c) n xs) (Z:0<n):B<=ablk a/\ablk a<w.heap.size:=by
 rcases lT h with ⟨_,h0,_⟩ | h
 ·omega
 ·exact h
theorem aS {P:Program} {w:World} {ops:Array Oper} {rest:List Oper} {o:Oper} {ac:Act} {Q:Exit->Act->World->Prop}
  (hg:o.guard=none) (s x:Operand) (t e:TypeId) (G:o.op = .call { callee:=.builtin .append,args:=#[s,x],argTypes:=#[t,t] }) (z:Value) (bytes:Nat)
  (h1:P.underlying t=some (.slice e)) (h2:(P.info? e).map (λi=>(i.zero,i.size,i.bytes))=some (some z,1,bytes)) (hz:z.cells = #[z])
  (B:Nat) (a:OA) (n c:Nat) (xs:List Value) (A:ac.eval s = .slice a n c) (X:w.ownsRow B e 1 (.slice a n c) n xs)
  (ad:Addr) (D:Nat) (u:Value) (C:ac.eval x = .slice (some ad) 1 D) (hu:w.cell? ad=some u) (F:u.oneCell'=true)
  (b2:(n+1) * bytes<=140737488355328) (b3:n+1<=maxLen) (hB:B<=w.heap.size)
  (hK:∀a' Y w',w'.ownsRow B e 1 (.slice a' (n+1) Y) (n+1) (xs ++ [u])->w.grownBy w' (Value.slice a n c).ownBlock->(∀b,b<w.heap.size->eY a b->eY a' b)->wpList P ops Q rest (ac.put o.dst (.slice a' (n+1) Y)) w') :
  wpList P ops Q (o :: rest) ac w:=by
 obtain ⟨i,hi,K,H,O⟩:=info_parts h2;refine wpList_append_own_at w hg s x t G B e i z 1 bytes h1 hi K H O (by rw [hz];rfl) (by decide) _ n xs A X ad 1 D [u] C rfl ?_ ?_ b3 b2 hB λv' w' Z N _ L=>?_
 ·intro j v U;match j,U with
  | 0,U=>simp at U;subst U;simpa [Addr.add] using hu
 ·intro v E;simp at E;subst E;exact F
 ·obtain ⟨a',Y,rfl,_⟩:=Pl.own Z;refine hK a' Y w' Z N λb hb V=>?_;have h:=V.own n c;rcases L with h3 | h3
  ·exact eY.pI (n:=n+1) (c:=Y) (by rw [h3];exact h)
  ·exact eY.pI (n:=n+1) (c:=Y) (by rw [h3];intro r;cases r;omega)
theorem iR {w w':World} {B:Nat} {e:TypeId} {a Y:OA} {n c m X:Nat} {xs:List Value} (h:w.ownsRow B e 1 (.slice a n c) n xs) (U:w.grownBy w' (Value.slice Y m X).ownBlock) (hne:eY Y (ablk a)) :
  w'.ownsRow B e 1 (.slice a n c) n xs:=by
 rcases lT h with ⟨rfl,rfl,rfl⟩ | ⟨_,Z⟩
 ·have V:=jB h;obtain rfl:xs=[]:=Lw V;exact cU
 ·exact fg h (U.block _ Z (λe=>hne.own m X e.symm))
theorem bP {w w':World} {Z:OA} {m c:Nat} {ad:Addr} {v:Value} (Y:w.grownBy w' (Value.slice Z m c).ownBlock) (h:w.cell? ad=some v) (hne:eY Z ad.block):w'.cell? ad=some v :=
 Y.cell h (λe=>hne.own m c e.symm)
theorem xH (w:World) (l:LI) (e:TypeId) {B:Nat} (Y:B<=w.heap.size) (Z:l.length<=maxLen) :
  (w.alloc (.cells (l.map (Value.int .i64)).toArray e)).ownsRow B e 1 (.slice (some ⟨w.heap.size,0,none⟩) l.length l.length) l.length (l.map (Value.int .i64)):=by simpa using OT w (l.map (Value.int .i64)).toArray l.length Y Z (by simp)
theorem vL {P:Int} (Z:0<P) (M:Nat) (mod:LI) (x y:Int):0<=dq P M mod x y/\dq P M mod x y<P ^ M:=by have:=nF Z (eG P (mB M mod) (digs x P M) (digs y P M) M M) (dG.eG Z _ _ _ _ _);rwa [iw] at this
def powTo (mul:Int->Int):Nat->LI->Int->LI
 | 0,l,_=>l
 | n+1,l,y=>if y=0\/y ∈ l then l else powTo mul n (l ++ [y]) (mul y)
theorem jj (mul:Int->Int) (n:Nat) (l:LI) (y:Int) (h:y=0\/y ∈ l):powTo mul n l y=l:=by
 cases n
 ·rfl
 ·rw [powTo,KX h]
theorem rZ (mul:Int->Int) (n:Nat) (l:LI) (y:Int) (h:¬ (y=0\/y ∈ l)):powTo mul (n+1) l y=powTo mul n (l ++ [y]) (mul y):=by rw [powTo,KY h]
def fb (P:Int) (M:Nat) (mod:LI) (q:Nat) (x:Int):LI:=powTo (λy=>dq P M mod y x) q [1] x
def fX (P:Int) (M:Nat) (mod:LI) (q:Nat) (x:Int):Bool :=
 (fb P M mod q x).length == q - 1 && dq P M mod (nth (fb P M mod q x) (q - 2)) x == 1
def genTo (P:Int) (M:Nat) (mod:LI) (q:Nat):Nat->Nat->LI
 | 0,_=>[]
 | n+1,x=>if fX P M mod q x then fb P M mod q x else genTo P M mod q n (x+1)
def fW (P:Int) (M:Nat) (mod:LI) (q:Nat):LI:=genTo P M mod q (q - 1) 1
def cntF:List Bool->Nat
 | []=>0
 | b :: l=>(if b then 0 else 1)+cntF l
theorem rM:∀(l:List Bool) (i:Nat),l[i]? = some false->cntF (l.set i true)+1=cntF l
 | [],i,h=>by simp at h
 | b :: l,0,h=>by simp at h;subst h;simp [cntF];omega
 | b :: l,i+1,h=>by simp at h;have:=rM l i h;simp [cntF];omega
theorem rV (n:Nat):cntF (List.replicate n false)=n:=by
 induction n with
 | zero=>rfl
 | succ n Z=>simp [NR,cntF,Z];omega
theorem xN (mul:Int->Int) (Q:Int) (hm:∀y,0<=mul y/\mul y<Q):∀(n:Nat) (l:LI) (y:Int),0<=y/\y<Q->(∀e ∈ l,0<=e/\e<Q)->∀e ∈ powTo mul n l y,0<=e/\e<Q
 | 0,l,_,_,Z=>Z
 | n+1,l,y,Y,Z=>by
  unfold powTo;split
  ·exact Z
  ·refine xN mul Q hm n _ _ (hm y) λe he=>?_;rcases List.mem_append.1 he with h | h
   ·exact Z e h
   ·rw [List.mem_singleton.1 h];exact Y
theorem I9 {P:Int} (U:0<P) (M:Nat) (mod:LI) (q:Nat) (x:Int) (V:(q:Int)=P ^ M) (X:2<=q) (Y:0<=x) (Z:x<q):∀e ∈ fb P M mod q x,0<=e/\e<q:=by refine xN _ _ (λy=>by rw [V];exact vL U M mod y x) _ _ _ ⟨Y,Z⟩ λe he=>?_;rw [List.mem_singleton.1 he];omega
theorem qf {P:Int} (U:0<P) (M:Nat) (mod:LI) (q:Nat) (x:Int) (V:(q:Int)=P ^ M) (Z:2<=q) (X:0<=x) (Y:x<q) (i:Nat):0<=nth (fb P M mod q x) i/\nth (fb P M mod q x) i<q:=by
 rcases LP i (fb P M mod q x).length with h | h
 ·exact I9 U M mod q x V Z X Y _ (aG h)
 ·rw [jI h];omega
def fsum (P:Int):Nat->Int->Int->Int
 | 0,_,_=>0
 | m+1,x,y=>(x+y) % P+P * fsum P m (x / P) (y / P)
def fneg (P:Int):Nat->Int->Int
 | 0,_=>0
 | m+1,x=>(P - x % P) % P+P * fneg P m (x / P)
theorem uC (P:Int):∀m,fsum P m 0 0=0
 | 0=>rfl
 | m+1=>by simp [fsum,uC P m]
theorem uw (P:Int):∀m,fneg P m 0=0
 | 0=>rfl
 | m+1=>by simp [fneg,uw P m]
theorem wG {P:Int} (Z:0<P):∀(m:Nat) (x y:Int),0<=fsum P m x y/\fsum P m x y<P ^ m
 | 0,x,y=>by simp [fsum]
 | m+1,x,y=>by have X:=wG Z m (x / P) (y / P);have h1:=LO (x+y) (show P ≠ 0 by omega);have h2:=LG (x+y) Z;have h3:0<=P * fsum P m (x / P) (y / P):=MY (by omega) X.1;have Y:=Lv (show fsum P m (x / P) (y / P)+1<=P ^ m by omega) (show 0<=P by omega);rw [Mx] at Y;simp only [fsum,LY];rw [Mp (P ^ m)];omega
theorem qP {P:Int} (Z:0<P):∀(m:Nat) (x:Int),0<=fneg P m x/\fneg P m x<P ^ m
 | 0,x=>by simp [fneg]
 | m+1,x=>by have X:=qP Z m (x / P);have h1:=LO (P - x % P) (show P ≠ 0 by omega);have h2:=LG (P - x % P) Z;have h3:0<=P * fneg P m (x / P):=MY (by omega) X.1;have Y:=Lv (show fneg P m (x / P)+1<=P ^ m by omega) (show 0<=P by omega);rw [Mx] at Y;simp only [fneg,LY];rw [Mp (P ^ m)];omega
theorem nj (P:Int) (Z:0<P):∀(m:Nat) (x:Int),0<=x->x<P ^ m->jt x P m=0
 | 0,x,h0,h1=>by simp at h1;simp [jt];omega
 | m+1,x,h0,h1=>by rw [pd];refine nj P Z m (x / P) (Ms h0 (by omega)) ?_;rw [LY] at h1;exact MN Z h1
theorem Fg (x y:Nat):(x ^^^ y) % 2=(x+y) % 2:=by have h:=Pb x y 0;simp only [Nat.testBit_zero] at h;have Z:=Nf x;have Y:=Nf y;have X:=Nf (x ^^^ y);rcases Z with Z | Z <;> rcases Y with Y | Y <;> rcases X with X | X <;> simp [Z,Y,X] at h <;> omega
theorem xM:∀(m:Nat) (x y:Nat),x<2 ^ m->y<2 ^ m->((x ^^^ y:Nat):Int)=fsum 2 m x y
 | 0,x,y,Z,Y=>by
  have h1:x=0:=by simp at Z;omega
  have h2:y=0:=by simp at Y;omega
  subst h1;subst h2;rfl
 | m+1,x,y,Z,Y=>by
  have V:=xM m (x / 2) (y / 2) (by rw [MT] at Z;omega) (by rw [MT] at Y;omega);simp only [fsum];have e1:((x:Int) / 2)=((x / 2:Nat):Int):=by omega
  have X:((y:Int) / 2)=((y / 2:Nat):Int):=by omega
  rw [e1,X,<- V,<- Nat.xor_div_two];have h3:(x ^^^ y) % 2=(x+y) % 2:=Fg x y;omega
theorem lf {P:Program} (w:World) (t ty e:TypeId) (i:TypeInfo) (Y:P.underlying t=some (.slice e)) (hi:P.info? e=some i) (a Z:OA) (n c cs:Nat) (X:n<=c) :
  (Builtin.append_ #[t,t] ty #[.slice a n c,.slice Z 0 cs]).run P w = .ok (.slice a n c) w:=by cases a <;> cases Z <;> simp [Builtin.append_,run_underlying Y,sizeOf,typeInfo,hi,Builtin.lenOf,Builtin.firstCells,X,storeCells,loadCells,loadCellsFrom]
theorem mz {w:World} {B:Nat} {e:TypeId} {a:OA} {c n:Nat} {xs:List Value} (h:w.ownsRow B e 1 (.slice a n c) n xs):n<=c:=by
 rcases h.2 with ⟨Z,h0⟩ | ⟨g,cap,cur,Z,Y,X,hle,_⟩
 ·omega
 ·cases Z;exact hle
theorem sL {P:Program} {w:World} (t ty e:TypeId) (z:Value) (bytes:Nat)
  (h1:P.underlying t=some (.slice e)) (h2:(P.info? e).map (λi=>(i.zero,i.size,i.bytes))=some (some z,1,bytes)) (A:z.cells = #[z])
  (B:Nat) (a:OA) (n c:Nat) (xs:List Value) (Z:w.ownsRow B e 1 (.slice a n c) n xs)
  (Y:OA) (m H:Nat) (news:List Value) (E:Pl Y m) (hl:news.length=m) (D:∀j,j<m->w.cell? ⟨ablk Y,aJ Y+j,none⟩=news[j]?) (G:∀u ∈ news,u.oneCell'=true)
  (b2:(n+m) * bytes<=140737488355328) (b3:n+m<=maxLen) (hB:B<=w.heap.size) :
  ∃a' X w',(Builtin.append_ #[t,t] ty #[.slice a n c,.slice Y m H]).run P w = .ok (.slice a' (n+m) X) w'/\w'.ownsRow B e 1 (.slice a' (n+m) X) (n+m) (xs ++ news) /\
   w.grownBy w' (Value.slice a n c).ownBlock/\(∀b,b<w.heap.size->eY a b->eY a' b):=by
 obtain ⟨i,hi,L,K,N⟩:=info_parts h2;by_cases hm:m=0
 ·subst hm;obtain rfl:news=[]:=Lw hl;exact ⟨a,c,w,lf w t ty e i h1 hi a Y n c H (mz Z),by simpa using Z,World.grownBy.refl _ _,λb _ h=>h⟩
 ·have O:=E (by omega);obtain ⟨v',w',F,h3,C,_,U⟩:=run_append_own_at (P:=P) w B t ty e i z 1 bytes h1 hi L K N (by rw [A];rfl) (by decide) _ n xs Z ⟨ablk Y,aJ Y,none⟩ m H news (by omega)
   (λj u hu=>by have hj:=(List.getElem?_eq_some_iff.1 hu).1;rw [OU,D j (by omega)];exact hu) G b3 b2 hB
  obtain ⟨a',X,rfl,_⟩:=Pl.own h3;refine ⟨a',X,w',by rw [O];exact F,h3,C,λb hb V=>?_⟩;have h:=V.own n c;rcases U with U | U
  ·exact eY.pI (n:=n+m) (c:=X) (by rw [U];exact h)
  ·exact eY.pI (n:=n+m) (c:=X) (by rw [U];intro r;cases r;omega)
theorem en {P:Program} {w:World} {ops:Array Oper} {rest:List Oper} {o:Oper} {ac:Act} {Q:Exit->Act->World->Prop}
  (D:o.guard=none) (s x:Operand) (t e:TypeId) (U:o.op = .call { callee:=.builtin .append,args:=#[s,x],argTypes:=#[t,t] }) (z:Value) (bytes:Nat)
  (h1:P.underlying t=some (.slice e)) (h2:(P.info? e).map (λi=>(i.zero,i.size,i.bytes))=some (some z,1,bytes)) (A:z.cells = #[z])
  (B:Nat) (a:OA) (n c:Nat) (xs:List Value) (G:ac.eval s = .slice a n c) (Y:w.ownsRow B e 1 (.slice a n c) n xs)
  (Z:OA) (m N:Nat) (news:List Value) (L:ac.eval x = .slice Z m N) (F:Pl Z m) (hl:news.length=m) (E:∀j,j<m->w.cell? ⟨ablk Z,aJ Z+j,none⟩=news[j]?) (O:∀u ∈ news,u.oneCell'=true)
  (b2:(n+m) * bytes<=140737488355328) (b3:n+m<=maxLen) (hB:B<=w.heap.size)
  (r:∀a' X w',w'.ownsRow B e 1 (.slice a' (n+m) X) (n+m) (xs ++ news)->w.grownBy w' (Value.slice a n c).ownBlock->(∀b,b<w.heap.size->eY a b->eY a' b)->wpList P ops Q rest (ac.put o.dst (.slice a' (n+m) X)) w') :
  wpList P ops Q (o :: rest) ac w:=by refine wpList_plain D λK V=>?_;obtain ⟨a',X,w',H,h3,C,h5⟩:=sL (P:=P) t o.type e z bytes h1 h2 A B a n c xs Y Z m N news F hl E O b2 b3 hB;unfold Oper.wp execOp;simp only [U,resolve,invoke,builtin,OV,OW,NZ,N8,N3,OX,G,L,H];exact V _ _ (r a' X w' h3 C h5)
theorem eh {P:Program} {w:World} {ops:Array Oper} {o:Oper} {ac:Act} {K:Act->World->Prop} {Q:Exit->Act->World->Prop} {E:Prop}
  (D:o.guard=none) (s x:Operand) (t e:TypeId) (V:o.op = .call { callee:=.builtin .append,args:=#[s,x],argTypes:=#[t,t] }) (z:Value) (bytes:Nat)
  (h1:P.underlying t=some (.slice e)) (h2:(P.info? e).map (λi=>(i.zero,i.size,i.bytes))=some (some z,1,bytes)) (A:z.cells = #[z])
  (B:Nat) (a:OA) (n c:Nat) (xs:List Value) (H:ac.eval s = .slice a n c) (Y:w.ownsRow B e 1 (.slice a n c) n xs)
  (Z:OA) (m O:Nat) (news:List Value) (N:ac.eval x = .slice Z m O) (G:Pl Z m) (hl:news.length=m) (F:∀j,j<m->w.cell? ⟨ablk Z,aJ Z+j,none⟩=news[j]?) (U:∀u ∈ news,u.oneCell'=true)
  (b2:(n+m) * bytes<=140737488355328) (b3:n+m<=maxLen) (hB:B<=w.heap.size)
  (r:∀a' X w',w'.ownsRow B e 1 (.slice a' (n+m) X) (n+m) (xs ++ news)->w.grownBy w' (Value.slice a n c).ownBlock->(∀b,b<w.heap.size->eY a b->eY a' b)->K (ac.put o.dst (.slice a' (n+m) X)) w') :
  if Region.wanted o (yielded ops ac.tmps)=true then Oper.wp P o ac w K Q else E:=by
 have hw:Region.wanted o (yielded ops ac.tmps)=true:=by simp [Region.wanted,D]
 rw [KX hw];obtain ⟨a',X,w',L,h3,C,h5⟩:=sL (P:=P) t o.type e z bytes h1 h2 A B a n c xs Y Z m O news G hl F U b2 b3 hB;unfold Oper.wp execOp;simp only [V,resolve,invoke,builtin,OV,OW,NZ,N8,N3,OX,H,N,L];exact r a' X w' h3 C h5
theorem run_mk {P:Program} (t e:TypeId) (z:Value) (bytes:Nat) (h1:P.underlying t=some (.slice e)) (h2:(P.info? e).map (λi=>(i.zero,i.size,i.bytes))=some (some z,1,bytes)) (V:z.cells = #[z])
  (n:Nat) (O:bytes * n<=281474976710656) (U:n<=9223372036854775807) (w:World) :
  (Instr.makeSlice t (cG n) (cG n)).run P w = .ok (.slice (some ⟨w.heap.size,0,none⟩) n n) (w.alloc (.cells (List.replicate n z).toArray e)):=by obtain ⟨i,hi,Y,X,Z⟩:=info_parts h2;have h:=run_make (P:=P) w t e i z h1 hi Y .i64 .i64 n n (by omega) (Ox _) (by rw [Z];omega) (by omega);rw [X,Nat.mul_one,V,KV] at h;rw [h];congr 3;rw [<- toList_madeCells_one]
theorem Jj (w:World) (e:TypeId) (z:Value) (n:Nat) {B:Nat} (Z:B<=w.heap.size) (Y:n<=maxLen) :
  (w.alloc (.cells (List.replicate n z).toArray e)).ownsRow B e 1 (.slice (some ⟨w.heap.size,0,none⟩) n n) n (List.replicate n z):=by simpa using OT w (List.replicate n z).toArray n Z Y (by simp)
theorem Ints.news {w:World} {a:OA} {n:Nat} {l:LI} (h:Ints w a n l):∀j,j<n->w.cell? ⟨ablk a,aJ a+j,none⟩=(l.map (Value.int .i64))[j]?:=by intro j Z;rw [h.cell j Z,MS,LC (by rw [h.len];exact Z),aj (by rw [h.len];exact Z)];rfl
theorem Below.bJ {Z w:World} (h:PY Z w) (o:Obj):PY Z (w.alloc o):=h.alloc h.size o
theorem fK (w:World) (e:TypeId):(w.alloc (.cells #[] e)).ownsRow w.heap.size e 1 (.slice (some ⟨w.heap.size,0,none⟩) 0 0) 0 [] :=
 World.ownsRow_made w #[] 0 (KT _) (K0 _) rfl
theorem aF (w:World) (cs:Array Value) (e:TypeId) {g:Nat} (Z:g=w.heap.size) (i:Nat):(w.alloc (.cells cs e)).cell? ⟨g,i,none⟩=cs[i]?:=by subst Z;exact Oo ..
theorem l0 (w:World) (e:TypeId) (z:Value) (n:Nat) {B g:Nat} (Z:g=w.heap.size) (Y:B<=w.heap.size) (X:n<=maxLen) :
  (w.alloc (.cells (Array.replicate n z) e)).ownsRow B e 1 (.slice (some ⟨g,0,none⟩) n n) n (List.replicate n z):=by subst Z;simpa using Jj w e z n Y X
theorem nh {w w':World} {row:Option Nat} (h:w.drew.grownBy w' row):w.grownBy w' row:=⟨h.os,h.tape,h.output,h.size,h.block⟩
section
def sm:Nat->(Nat->Int)->Int
 | 0,_=>0
 | n+1,f=>sm n f+f n
theorem bT {n:Nat} {f g:Nat->Int} (h:∀i,i<n->f i=g i):sm n f=sm n g:=by
 induction n with
 | zero=>rfl
 | succ n Z=>rw [sm,sm,Z λi hi=>h i (by omega),h n (by omega)]
theorem wg (n:Nat) (f g:Nat->Int):sm n (λi=>f i+g i)=sm n f+sm n g:=by
 induction n with
 | zero=>rfl
 | succ n Z=>simp only [sm,Z];omega
theorem jO (n:Nat):sm n (λ_=>0)=0:=by
 induction n with
 | zero=>rfl
 | succ n Z=>simp only [sm,Z];rfl
theorem Gy (n:Nat) (c:Int) (f:Nat->Int):sm n (λi=>c * f i)=c * sm n f:=by
 induction n with
 | zero=>simp [sm]
 | succ n Z=>simp only [sm,Z,Mx]
theorem CU (n m:Nat) (f:Nat->Nat->Int):sm n (λi=>sm m (λj=>f i j))=sm m (λj=>sm n (λi=>f i j)):=by
 induction n with
 | zero=>simp only [sm];rw [jO]
 | succ n Z=>simp only [sm,Z,wg]
theorem JN {n:Nat} {f:Nat->Int} {P:Int} (h:∀i,i<n->P ∣ f i):P ∣ sm n f:=by
 induction n with
 | zero=>exact ⟨0,by simp [sm]⟩
 | succ n Z=>exact Oy (Z λi hi=>h i (by omega)) (h n (by omega))
theorem kA {n:Nat} {f:Nat->Int} {k:Nat} (Y:k<n) (h:∀i,i<n->i ≠ k->f i=0):sm n f=f k:=by
 induction n with
 | zero=>omega
 | succ n Z =>
  rw [sm]
  by_cases e:k=n
  ·subst e
   rw [bT (g:=λ_=>0) λi hi=>h i (by omega) (by omega),jO];omega
  ·rw [Z (by omega) λi hi=>h i (by omega),h n (by omega) (by omega)];omega
theorem Gr (n:Nat) (f:Nat->Int):sm (n+1) f=f 0+sm n (λi=>f (i+1)):=by
 induction n with
 | zero=>simp [sm]
 | succ n Z=>rw [sm,Z];simp only [sm];omega
def tW (M:Nat) (low:Nat->Int) (v:Nat->Int):Nat->Int :=
 λi=>if i<M then (if i=0 then 0 else v (i - 1)) - v (M - 1) * low i else 0
def fA (M:Nat) (low:Nat->Int):Nat->(Nat->Int)->Nat->Int
 | 0,v=>v
 | k+1,v=>tW M low (fA M low k v)
variable {M:Nat} {low:Nat->Int}
theorem GY (u v:Nat->Int):tW M low (λi=>u i+v i)=λi=>tW M low u i+tW M low v i:=by
 funext i;simp only [tW];split
 ·split
  ·rw [Oz];omega
  ·rw [Oz];omega
 ·rfl
theorem EK (c:Int) (v:Nat->Int):tW M low (λi=>c * v i)=λi=>c * tW M low v i:=by
 funext i;simp only [tW];split
 ·split
  ·rw [O9,OY,Mg]
  ·rw [O9,Mg]
 ·rw [OY]
theorem Cv (k:Nat) (u v:Nat->Int):fA M low k (λi=>u i+v i)=λi=>fA M low k u i+fA M low k v i:=by
 induction k with
 | zero=>rfl
 | succ k Z=>rw [fA,Z,GY];rfl
theorem jZ (k:Nat) (c:Int) (v:Nat->Int):fA M low k (λi=>c * v i)=λi=>c * fA M low k v i:=by
 induction k with
 | zero=>rfl
 | succ k Z=>rw [fA,Z,EK];rfl
theorem zA (k:Nat):fA M low k (λ_=>0)=λ_=>0:=by have:=jZ (M:=M) (low:=low) k 0 (λ_=>0);simpa using this
theorem wJ (k n:Nat) (f:Nat->Nat->Int):fA M low k (λi=>sm n (λj=>f j i))=λi=>sm n (λj=>fA M low k (f j) i):=by
 induction n with
 | zero=>simp only [sm];exact zA k
 | succ n Z=>simp only [sm];rw [Cv,Z]
theorem nV (k l:Nat) (v:Nat->Int):fA M low (k+l) v=fA M low k (fA M low l v):=by
 induction k with
 | zero=>rw [MR];rfl
 | succ k Z=>rw [show k+1+l=(k+l)+1 by omega,fA,fA,Z]
def eV (j:Nat):Nat->Int:=λi=>if i=j then 1 else 0
def Sh (M:Nat) (v:Nat->Int):Prop:=∀i,M<=i->v i=0
theorem Fh (v:Nat->Int):Sh M (tW M low v):=λi hi=>by simp only [tW];rw [KY (by omega)]
theorem J1 {v:Nat->Int} (h:Sh M v) (k:Nat):Sh M (fA M low k v):=by
 cases k with
 | zero=>exact h
 | succ k=>exact Fh _
theorem CF (j:Nat) (Y:j<M):fA M low j (eV 0)=eV j:=by
 induction j with
 | zero=>rfl
 | succ j Z =>
  rw [fA,Z (by omega)]
  funext i
  simp only [tW,eV]
  by_cases h:i<M
  ·rw [KX h,KY (show ¬ M - 1=j by omega)]
   by_cases h0:i=0
   ·rw [KX h0,KY (by omega)];omega
   ·rw [KY h0]
    by_cases h1:i=j+1
    ·rw [KX h1,KX (by omega)];omega
    ·rw [KY h1,KY (by omega)];omega
  ·rw [KY h,KY (by omega)]
theorem Sh.expand {v:Nat->Int} (h:Sh M v):v=λk=>sm M (λj=>v j * fA M low j (eV 0) k):=by
 funext k;rw [bT (g:=λj=>v j * eV j k) λj Z=>by rw [CF j Z]];by_cases Y:k<M
 ·rw [kA Y λi hi hne=>by simp only [eV];rw [KY (by omega)];omega];simp [eV]
 ·rw [h k (by omega),bT (g:=λ_=>0) λj Z=>by simp only [eV];rw [KY (by omega)];omega,jO]
def gC (M:Nat) (low:Nat->Int) (x y:Nat->Int):Nat->Int:=λk=>sm M (λi=>x i * fA M low i y k)
theorem IY {x y:Nat->Int} (Z:Sh M y):Sh M (gC M low x y):=λk Y=>by simp only [gC];rw [bT (g:=λ_=>0) λi _=>by rw [J1 Z i k Y];omega,jO]
theorem lR {x y:Nat->Int} (Z:Sh M y):gC M low x y=λk=>sm M (λi=>sm M (λj=>x i * y j * fA M low (i+j) (eV 0) k)):=by funext k;simp only [gC];refine bT λi _=>?_;have e:fA M low i y=fA M low i (λk=>sm M (λj=>y j * fA M low j (eV 0) k)):=congrArg _ Z.expand;rw [e,wJ];simp only;rw [<- Gy];refine bT λj _=>?_;rw [jZ,nV,Mg]
theorem ma {x y:Nat->Int} (Z:Sh M x) (Y:Sh M y):gC M low x y=gC M low y x:=by rw [lR Z,lR Y];funext k;rw [CU];refine bT λi _=>bT λj _=>?_;rw [Mp (x j),Nat.add_comm j i]
theorem um (x y z:Nat->Int):gC M low x (gC M low y z)=λk=>sm M (λi=>sm M (λj=>x i * y j * fA M low (i+j) z k)):=by funext k;refine bT λi _=>?_;rw [show gC M low y z=(λk=>sm M (λj=>y j * fA M low j z k)) from rfl,wJ];simp only;rw [<- Gy];refine bT λj _=>?_;rw [jZ,nV,Mg]
theorem tF (x y z:Nat->Int):gC M low x (gC M low y z)=gC M low y (gC M low x z):=by rw [um,um];funext k;rw [CU];refine bT λi _=>bT λj _=>?_;rw [Mp (x j),Nat.add_comm j i]
theorem z8 {x y z:Nat->Int} (X:Sh M x) (Z:Sh M y) (Y:Sh M z):gC M low (gC M low x y) z=gC M low x (gC M low y z):=by rw [ma (IY Z) Y,tF,ma Y Z]
theorem Fs {x:Nat->Int} (Z:0<M) (Y:Sh M x):gC M low (eV 0) x=x:=by funext k;simp only [gC];rw [kA Z λi _ hne=>by simp only [eV];rw [KY hne];omega];simp [eV,fA]
theorem tS (x y z:Nat->Int):gC M low x (λi=>y i+z i)=λk=>gC M low x y k+gC M low x z k:=by funext k;simp only [gC];rw [<- wg];refine bT λi _=>?_;rw [Cv,Mx]
def Cg (P:Int) (u v:Nat->Int):Prop:=∀i,P ∣ u i - v i
theorem Cg.refl (P:Int) (u:Nat->Int):Cg P u u:=λi=>⟨0,by omega⟩
theorem Cg.symm {P:Int} {u v:Nat->Int} (h:Cg P u v):Cg P v u:=λi=>by obtain ⟨c,Z⟩:=h i;exact ⟨-c,by rw [OB];omega⟩
theorem Cg.trans {P:Int} {u v x:Nat->Int} (h:Cg P u v) (k:Cg P v x):Cg P u x:=λi=>by obtain ⟨c,Z⟩:=h i;obtain ⟨d,hd⟩:=k i;exact ⟨c+d,by rw [Mx];omega⟩
theorem Cg.of_eq {P:Int} {u v:Nat->Int} (h:u=v):Cg P u v:=h ▸ Cg.refl P u
theorem EJ {P:Int} {u v:Nat->Int} (h:Cg P u v):Cg P (tW M low u) (tW M low v):=λi=>by
 simp only [tW];split
 ·obtain ⟨c,Z⟩:=h (M - 1);have e:u (M - 1) * low i - v (M - 1) * low i=P * (c * low i):=by rw [<- OC,Z,Mg]
  split
  ·exact ⟨-(c * low i),by rw [OB,<- e];omega⟩
  ·obtain ⟨d,hd⟩:=h (i - 1);exact ⟨d - c * low i,by rw [O9,<- e,<- hd];omega⟩
 ·exact ⟨0,by omega⟩
theorem JM {P:Int} {u v:Nat->Int} (h:Cg P u v) (k:Nat):Cg P (fA M low k u) (fA M low k v):=by
 induction k with
 | zero=>exact h
 | succ k Z=>exact EJ Z
theorem Cg.add {P:Int} {u v x y:Nat->Int} (h:Cg P u v) (k:Cg P x y):Cg P (λi=>u i+x i) (λi=>v i+y i):=λi=>by obtain ⟨c,Z⟩:=h i;obtain ⟨d,hd⟩:=k i;exact ⟨c+d,by simp only [Mx];omega⟩
theorem zF {P a b c d:Int} (h:P ∣ a - b) (k:P ∣ c - d):P ∣ a * c - b * d:=by
 obtain ⟨x,U⟩:=h;obtain ⟨y,O⟩:=k;have X:a=b+P * x:=by omega
 have V:c=d+P * y:=by omega
 refine ⟨x * d+b * y+P * x * y,?_⟩;rw [X,V];simp only [Oz,Mx];have e1:b * (P * y)=P * (b * y):=by rw [<- Mg,Mp b P,Mg]
 have Z:P * x * (P * y)=P * (P * x * y):=by rw [<- Mg,Mp (P * x) P,Mg]
 have Y:P * (x * d)=P * x * d:=by rw [Mg]
 rw [e1,Z,Y];omega
theorem vf {P:Int} {u v x y:Nat->Int} (h:Cg P u v) (k:Cg P x y):Cg P (gC M low u x) (gC M low v y):=λi=>by
 simp only [gC];have e:sm M (λj=>u j * fA M low j x i) - sm M (λj=>v j * fA M low j y i)=sm M (λj=>u j * fA M low j x i - v j * fA M low j y i):=by
  have:=wg M (λj=>u j * fA M low j x i - v j * fA M low j y i) (λj=>v j * fA M low j y i);have Z:sm M (λj=>u j * fA M low j x i - v j * fA M low j y i+v j * fA M low j y i)=sm M (λj=>u j * fA M low j x i):=bT λj _=>by omega
  omega
 rw [e];exact JN λj _=>zF (h j) (JM k j i)
end
section
def dV (P:Int) (M:Nat) (x:Int):Nat->Int:=nth (digs x P M)
theorem nT (P:Int) (M:Nat) (x:Int):Sh M (dV P M x):=λi hi=>jI (by rw [bG];exact hi)
theorem pN {P:Int} (Z:0<P):∀(M:Nat) (x:Int),0<=x->x<P ^ M->valu P (digs x P M)=x
 | 0,x,h0,h1=>by simp at h1;simp [digs,valu];omega
 | M+1,x,h0,h1=>by rw [digs,valu,pN Z M (x / P) (Ms h0 (by omega)) (MN Z (by rwa [LY] at h1))];exact Oq x P
theorem o7 {P:Int} (c r:Int) (M:Nat) (Y:0<=c) (Z:c<P):digs (c+P * r) P (M+1)=c :: digs r P M:=by rw [digs,Int.add_mul_emod_self_left,N0 Y Z,Int.add_mul_ediv_left _ _ (by omega),Od Y Z,Int.zero_add]
theorem mg {P:Int}:∀(l:LI),dG P l->digs (valu P l) P l.length=l
 | [],_=>rfl
 | c :: l,h=>by have h0:=h 0;simp only [nth,NS] at h0;rw [valu,LB,o7 c _ _ h0.1 h0.2,mg l (λi=>by simpa [nth] using h (i+1))]
theorem oU (P x:Int):P ∣ x % P - x:=⟨-(x / P),by have:=Oq x P;rw [OB];omega⟩
theorem Ep {P a b:Int} (U:0<P) (ha:0<=a) (Y:a<P) (hb:0<=b) (X:b<P) (h:P ∣ a - b):a=b:=by
 obtain ⟨c,V⟩:=h;have Z:c=0:=by
  rcases Int.lt_trichotomy c 0 with h1 | h1 | h1
  ·have:=Lv (show c <= -1 by omega) (show 0<=P by omega);omega
  ·exact h1
  ·have:=Lv (show 1<=c by omega) (show 0<=P by omega);omega
 rw [Z] at V;omega
theorem Jm {P:Int} (Z:0<P) {M:Nat} {x y:Int} (V:0<=x) (X:x<P ^ M) (U:0<=y) (Y:y<P ^ M) (h:Cg P (dV P M x) (dV P M y)):x=y:=by
 have e:digs x P M=digs y P M:=by refine gJ (by rw [bG,bG]) λi _=>?_;have h1:=dG.digs Z M x i;have h2:=dG.digs Z M y i;exact Ep Z h1.1 h1.2 h2.1 h2.2 (h i)
 rw [<- pN Z M x V X,<- pN Z M y U Y,e]
theorem eo (c:Int) (l:LI):nth (c :: l) 0=c:=by simp [nth]
theorem dL (c:Int) (l:LI) (i:Nat):nth (c :: l) (i+1)=nth l i:=by simp [nth]
theorem gF {P:Int} (Z:0<P):∀(M:Nat) (x y:Int),Cg P (dV P M (fsum P M x y)) (λi=>dV P M x i+dV P M y i)
 | 0,x,y=>λi=>by simp [dV,digs,nth]
 | M+1,x,y=>λi=>by
  simp only [dV,fsum];rw [o7 _ _ _ (LO _ (by omega)) (LG _ Z),digs,digs];match i with
  | 0 =>
   rw [eo,eo,eo]
   have h1:=oU P (x+y)
   have h2:=oU P x
   have h3:=oU P y
   have Y:=Int.dvd_sub (Int.dvd_sub h1 h2) h3
   rwa [show (x+y) % P - (x+y) - (x % P - x) - (y % P - y)=(x+y) % P - (x % P+y % P) by omega] at Y
  | i+1 =>
   rw [dL,dL,dL]
   exact gF Z M (x / P) (y / P) i
theorem BJ {P:Int} (Z:0<P):∀(M:Nat) (x:Int),Cg P (dV P M (fneg P M x)) (λi=>- dV P M x i)
 | 0,x=>λi=>by simp [dV,digs,nth]
 | M+1,x=>λi=>by
  simp only [dV,fneg];rw [o7 _ _ _ (LO _ (by omega)) (LG _ Z),digs];match i with
  | 0 =>
   rw [eo,eo]
   have h1:=oU P (P - x % P)
   have Y:=Oy h1 (Int.dvd_refl P)
   rwa [show (P - x % P) % P - (P - x % P)+P=(P - x % P) % P - - (x % P) by omega] at Y
  | i+1 =>
   rw [dL,dL]
   exact BJ Z M (x / P) i
theorem nM (P:Int):∀(M:Nat),dV P M 0=λ_=>0
 | 0=>by funext i;simp [dV,digs,nth]
 | M+1=>by
  funext i;simp only [dV,digs];match i with
  | 0=>rw [eo];simp
  | i+1=>rw [dL];have:=congrFun (nM P M) i;simpa [dV] using this
theorem JP {P:Int} (Y:2<=P) {M:Nat} (Z:0<M):dV P M 1=eV 0:=by
 obtain ⟨m,rfl⟩:∃m,M=m+1:=⟨M - 1,by omega⟩
 funext i;simp only [dV,digs];match i with
 | 0=>rw [eo];simp [eV];exact N0 (by omega) (by omega)
 | i+1 =>
  rw [dL,Od (by omega) (by omega)]
  have:=congrFun (nM P m) i
  simpa [dV,eV] using this
theorem I7 {out:LI} {M i:Nat} (Z:out.length=M) (hi:i<M):nth (shl out) i=if i=0 then 0 else nth out (i - 1):=by
 match i with
 | 0=>simp [shl,nth]
 | i+1 =>
  rw [shl,dL,KY (by omega)]
  simp only [nth,KZ,Nt]
  rw [KX (by omega)];rfl
theorem uv {P:Int} (U:0<P) (low a b:LI) {M:Nat} (ha:a.length=M):∀k,k<=M ->
  Cg P (nth (eG P low a b M k)) (λi=>sm k (λj=>nth b (M - k+j) * fA M (nth low) j (nth a) i))
 | 0,_=>λi=>by
  have e:nth (eG P low a b M 0) i=0:=by simp only [eG,nth,KZ,Ls];split <;> rfl
  rw [e];simp [sm]
 | k+1,N=>by
  have V:=EJ (M:=M) (low:=nth low) (uv U low a b ha k (by omega));have e1:(λi=>sm (k+1) (λj=>nth b (M - (k+1)+j) * fA M (nth low) j (nth a) i)) =
    λi=>tW M (nth low) (λi=>sm k (λj=>nth b (M - k+j) * fA M (nth low) j (nth a) i)) i+nth b (M - 1 - k) * nth a i:=by
   funext i;rw [Gr,show M - (k+1)+0=M - 1 - k by omega];have Z:=congrFun (wJ (M:=M) (low:=nth low) 1 k (λj i=>nth b (M - k+j) * fA M (nth low) j (nth a) i)) i;have X:tW M (nth low) (λi=>sm k (λj=>nth b (M - k+j) * fA M (nth low) j (nth a) i)) i=sm k (λj=>nth b (M - (k+1)+(j+1)) * fA M (nth low) (j+1) (nth a) i):=by refine Eq.trans Z (bT λj _=>?_);rw [jZ,show M - (k+1)+(j+1)=M - k+j by omega];rfl
   rw [X];show nth b (M - 1 - k) * nth a i+_=_;omega
  rw [e1];intro i;show P ∣ nth (eG P low a b M (k+1)) i - (tW M (nth low) (λi=>sm k (λj=>nth b (M - k+j) * fA M (nth low) j (nth a) i)) i+nth b (M - 1 - k) * nth a i);by_cases hi:i<M
  ·rw [eG,ml _ _ _ _ _ _ _ hi,Cs,I7 (iw ..) hi];have h1:=V i;generalize O:tW M (nth low) (λi=>sm k (λj=>nth b (M - k+j) * fA M (nth low) j (nth a) i)) i=z at *;simp only [tW,KX hi] at h1;generalize (if i=0 then (0:Int) else nth (eG P low a b M k) (i - 1))=u at *;generalize nth (eG P low a b M k) (M - 1)=t at *;generalize nth b (M - 1 - k) * nth a i=c at *;have h2:=oU P (u+(P - t) * nth low i+c);have h3:P ∣ P * nth low i:=Int.dvd_mul_right _ _;have Y:=Oy (Oy h2 h1) h3;rw [OC] at Y ⊢;rwa [show (u+(P * nth low i - t * nth low i)+c) % P - (u+(P * nth low i - t * nth low i)+c)+(u - t * nth low i - z)+P * nth low i=(u+(P * nth low i - t * nth low i)+c) % P - (z+c) by omega] at Y
  ·rw [jI (by rw [iw];omega),jI (l:=a) (by omega)];have Z:tW M (nth low) (λi=>sm k (λj=>nth b (M - k+j) * fA M (nth low) j (nth a) i)) i=0:=Fh _ i (by omega);rw [Z];simp
theorem gd {P:Int} (Z:0<P) (M:Nat) (mod:LI) (x y:Int):Cg P (dV P M (dq P M mod x y)) (gC M (nth (mB M mod)) (dV P M x) (dV P M y)):=by
 have h:=uv Z (mB M mod) (digs x P M) (digs y P M) (bG P M x) M (KT _);have e:dV P M (dq P M mod x y)=nth (eG P (mB M mod) (digs x P M) (digs y P M) M M):=by unfold dV dq;have:=mg (P:=P) (eG P (mB M mod) (digs x P M) (digs y P M) M M) (dG.eG Z _ _ _ _ _);rw [iw] at this;rw [this]
 rw [e,ma (nT P M x) (nT P M y)];refine h.trans (Cg.of_eq ?_);funext i;simp only [gC];refine bT λj _=>?_;rw [show M - M+j=j by omega];rfl
structure la (P:Int) (M:Nat):Prop where
 p:2<=P
 m:0<M
def eW (P:Int) (M:Nat) (x:Int):Prop:=0<=x/\x<P ^ M
variable {P:Int} {M:Nat} {mod:LI}
theorem eW.ext (h:la P M) {x y:Int} (Z:eW P M x) (Y:eW P M y) (e:Cg P (dV P M x) (dV P M y)):x=y:=Jm (by have:=h.p;omega) Z.1 Z.2 Y.1 Y.2 e
theorem fH (h:la P M) (x y:Int):eW P M (dq P M mod x y):=vL (by have:=h.p;omega) M mod x y
theorem ib (h:la P M) (x y:Int):eW P M (fsum P M x y):=wG (by have:=h.p;omega) M x y
theorem vB (h:la P M) (x:Int):eW P M (fneg P M x):=qP (by have:=h.p;omega) M x
theorem one_lt_pow (h:la P M):1<P ^ M:=by
 have h1:=dF (P:=P) (by have:=h.p;omega) h.m;have h2:=h.p;have h3:P ^ (0+1)=P:=by rw [LY,MU,Ns]
 have Z:P ^ (0+1)<=P ^ M:=h1;omega
theorem vE (h:la P M):eW P M 1:=⟨by omega,one_lt_pow h⟩
theorem vY (h:la P M):eW P M 0:=⟨by omega,by have:=one_lt_pow h;omega⟩
theorem la.pos (h:la P M):0<P:=by have:=h.p;omega
theorem jb (h:la P M) (x y:Int):dq P M mod x y=dq P M mod y x :=
 (fH h x y).ext h (fH h y x) (((gd h.pos M mod x y).trans (Cg.of_eq (ma (nT _ _ _) (nT _ _ _)))).trans (gd h.pos M mod y x).symm)
theorem s8 (h:la P M) (x y z:Int):dq P M mod (dq P M mod x y) z=dq P M mod x (dq P M mod y z):=by refine (fH h _ z).ext h (fH h x _) ?_;refine (gd h.pos M mod _ z).trans (((vf (gd h.pos M mod x y) (Cg.refl _ _)).trans (Cg.of_eq (z8 (nT _ _ _) (nT _ _ _) (nT _ _ _)))).trans ?_);exact ((gd h.pos M mod x _).trans (vf (Cg.refl _ _) (gd h.pos M mod y z))).symm
theorem ij (h:la P M) {x:Int} (Z:eW P M x):dq P M mod 1 x=x:=by refine (fH h 1 x).ext h Z ((gd h.pos M mod 1 x).trans (Cg.of_eq ?_));rw [JP h.p h.m,Fs h.m (nT _ _ _)]
theorem pf (h:la P M) (x:Int):dq P M mod x 0=0:=by refine (fH h x 0).ext h (vY h) ((gd h.pos M mod x 0).trans (Cg.of_eq ?_));rw [nM];funext i;simp only [gC];rw [bT (g:=λ_=>0) λj _=>by rw [zA];simp,jO]
theorem E5 (h:la P M) (x y z:Int):dq P M mod x (fsum P M y z)=fsum P M (dq P M mod x y) (dq P M mod x z):=by refine (fH h x _).ext h (ib h _ _) ((gd h.pos M mod x _).trans ?_);refine (vf (Cg.refl _ _) (gF h.pos M y z)).trans ((Cg.of_eq (tS _ _ _)).trans ?_);exact ((gF h.pos M _ _).trans (Cg.add (gd h.pos M mod x y) (gd h.pos M mod x z))).symm
theorem Ev (h:la P M) (x y:Int):fsum P M x y=fsum P M y x:=by refine (ib h x y).ext h (ib h y x) ((gF h.pos M x y).trans ((Cg.of_eq ?_).trans (gF h.pos M y x).symm));funext i;show _=_;omega
theorem Bx (h:la P M) (x y z:Int):fsum P M (fsum P M x y) z=fsum P M x (fsum P M y z):=by refine (ib h _ z).ext h (ib h x _) ?_;refine (gF h.pos M _ z).trans ((Cg.add (gF h.pos M x y) (Cg.refl _ _)).trans ((Cg.of_eq ?_).trans ((gF h.pos M x _).trans (Cg.add (Cg.refl _ _) (gF h.pos M y z))).symm));funext i;show _=_;omega
theorem Jb (h:la P M) {x:Int} (Z:eW P M x):fsum P M x 0=x:=by refine (ib h x 0).ext h Z ((gF h.pos M x 0).trans (Cg.of_eq ?_));rw [nM];funext i;simp
theorem Db (h:la P M) (x:Int):fsum P M x (fneg P M x)=0:=by refine (ib h x _).ext h (vY h) ((gF h.pos M x _).trans ((Cg.add (Cg.refl _ _) (BJ h.pos M x)).trans (Cg.of_eq ?_)));rw [nM];funext i;show _=_;omega
end
section
structure BT (cl:LN->Nat->Prop):Prop where
 mem:∀l x,x ∈ l->cl l x
 mono:∀l l',(∀x ∈ l,cl l' x)->∀y,cl l y->cl l' y
 exch:∀l x y,cl (x :: l) y->¬ cl l y->cl (y :: l) x
inductive Rk (cl:LN->Nat->Prop):LN->Nat->Prop
 | nil:Rk cl [] 0
 | dep {l n} (x:Nat):cl l x->Rk cl l n->Rk cl (x :: l) n
 | ind {l n} (x:Nat):¬ cl l x->Rk cl l n->Rk cl (x :: l) (n+1)
variable {cl:LN->Nat->Prop}
theorem Rk.ex (cl:LN->Nat->Prop):∀l,∃n,Rk cl l n
 | []=>⟨0,.nil⟩
 | x :: l=>by
  obtain ⟨n,h⟩:=Rk.ex cl l;by_cases Z:cl l x
  ·exact ⟨n,.dep x Z h⟩
  ·exact ⟨n+1,.ind x Z h⟩
theorem Rk.uniq {l:LN} {n:Nat} (h:Rk cl l n):∀ {m},Rk cl l m->n=m:=by
 induction h with
 | nil=>intro m h;cases h;rfl
 | dep x Z _ Y =>
  intro m h
  cases h with
  | dep _ _ h=>exact Y h
  | ind _ X _=>exact absurd Z X
 | ind x Z _ Y =>
  intro m h
  cases h with
  | dep _ X _=>exact absurd X Z
  | ind _ _ h=>rw [Y h]
theorem BT.sub (h:BT cl) {l Z:LN} (V:∀x ∈ l,x ∈ Z) {y:Nat} (X:cl l y):cl Z y:=h.mono l Z (λx Y=>h.mem Z x (V x Y)) y X
theorem BT.drop (h:BT cl) {l:LN} {x y:Nat} (Y:cl l x) (X:cl (x :: l) y):cl l y :=
 h.mono (x :: l) l (λz Z=>by
  rcases List.mem_cons.1 Z with rfl | Z
  ·exact Y
  ·exact h.mem l z Z) y X
theorem Rk.swap (h:BT cl) {l:LN} {x y n:Nat} (Z:Rk cl (x :: y :: l) n):Rk cl (y :: x :: l) n:=by
 have up:∀ {z u},cl l z->cl (u :: l) z:=λO=>h.sub (λx X=>by simp [X]) O;cases Z with
 | dep _ X Z =>
  cases Z with
  | dep _ V Z=>exact .dep y (up V) (.dep x (h.drop V X) Z)
  | ind _ V Z =>
   by_cases Y:cl l x
   ·exact .ind y (λU=>V (h.drop Y U)) (.dep x Y Z)
   ·exact .dep y (h.exch l y x X Y) (.ind x Y Z)
 | ind _ X Z =>
  cases Z with
  | dep _ V Z=>exact .dep y (up V) (.ind x (λU=>X (up U)) Z)
  | ind _ V Z =>
   have Y:¬ cl l x:=λU=>X (up U)
   exact .ind y (λU=>X (h.exch l x y U V)) (.ind x Y Z)
theorem BT.perm (h:BT cl) {l Z:LN} (X:l.Perm Z) {x:Nat}:cl l x->cl Z x:=h.sub λy Y=>X.mem_iff.1 Y
theorem Rk.perm (h:BT cl) {l O:LN} (Y:l.Perm O):∀ {n},Rk cl l n->Rk cl O n:=by
 induction Y with
 | nil=>intro n Z;exact Z
 | cons x Y N =>
  intro n Z
  cases Z with
  | dep _ X Z=>exact .dep x (h.perm Y X) (N Z)
  | ind _ X Z=>exact .ind x (λL=>X (h.perm Y.symm L)) (N Z)
 | swap x y l=>intro n Z;exact Z.swap h
 | trans _ _ V U=>intro n Z;exact U (V Z)
theorem Rk.zZ (h:BT cl) {l:LN} {n:Nat} (X:Rk cl l n):∀Z,(∀x ∈ Z,cl l x)->Rk cl (Z ++ l) n
 | [],_=>X
 | x :: Z,V=>.dep x (h.sub (λy Y=>List.mem_append.2 (.inr Y)) (V x (by simp))) (Rk.zZ h X Z λy Y=>V y (by simp [Y]))
theorem Rk.grow {l:LN} {m:Nat} (X:Rk cl l m):∀(Y:LN) {n:Nat},Rk cl (Y ++ l) n->m<=n
 | [],n,Z=>by rw [X.uniq Z];exact KT _
 | x :: Y,n,Z=>by
  cases Z with
  | dep _ _ Z=>exact Rk.grow X Y Z
  | ind _ _ Z=>exact OZ (Rk.grow X Y Z)
theorem Rk.le (h:BT cl) {l Z:LN} {m n:Nat} (hm:Rk cl l m) (X:Rk cl Z n) (Y:∀x ∈ l,cl Z x):m<=n :=
 hm.grow Z ((X.zZ h l Y).perm h List.perm_append_comm)
theorem Rk.same (h:BT cl) {l X:LN} {m n:Nat} (hm:Rk cl l m) (V:Rk cl X n) (Y:∀x,x ∈ l ↔ x ∈ X):m=n :=
 Oj (hm.le h V λx Z=>h.mem _ _ ((Y x).1 Z)) (V.le h hm λx Z=>h.mem _ _ ((Y x).2 Z))
theorem Rk.len {l:LN} {n:Nat} (Y:Rk cl l n):n<=l.length:=by
 induction Y with
 | nil=>exact KT _
 | dep x _ _ Z=>exact OZ Z
 | ind x _ _ Z=>exact Nat.succ_le_succ Z
end
section
variable {P:Program} {ops:Array Oper} {Q:Exit->Act->World->Prop} {md:Region.Mode} {S:World->Prop} {n:Nat}
def gV (P:Program) (md:Region.Mode) (ops:Array Oper) (Q:Exit->Act->World->Prop) (S:World->Prop) (n:Nat):Nat->Array Bool->Act->World->Prop
 | 0,Z,a,w=>Region.ready md ops Z=[]/\Q .normal a w
 | fuel+1,Z,a,w =>
  (Region.ready md ops Z=[]->Q .normal a w) /\
  ∀i ∈ Region.ready md ops Z,wpOp P ops Q i (λa' w'=>(i<n->S w')/\gV P md ops Q S n fuel (Z.setIfInBounds i true) a' w') a w
theorem rW:∀(fuel:Nat) (Z:Array Bool) (a:Act) (w:World),gV P md ops Q S n fuel Z a w->wpAny P md ops Q fuel Z a w
 | 0,_,_,_,h=>h
 | fuel+1,_,_,_,h=>⟨h.1,λi hi=>wpOp_mono (λa' w' Y=>rW fuel _ a' w' Y.2) (h.2 i hi)⟩
theorem wB {i:Nat} {L:Oper} {v:Value} (hi:ops[i]? = some L) (U:∀(j:Nat) (o:Oper) cs b,ops[j]? = some o->o.op ≠ .select cs b)
  (hQ:∀c a w,Q (.panic c) (a.put L.dst v) w->Q (.panic c) a w) (hs:Region.sinkB md ops n=true) (hc:Region.chainB md ops n=true) (hn:n<ops.size) (hin:i<n) :
  ∀(fuel:Nat) (Z:Array Bool) (a:Act) (w:World),HeadInv md ops n Z ->
   (∀j G,ops[j]? = some G->j ≠ i->Z.getD j true=false->(∀e ∈ G.after,Region.binds md e=true->e.on ≠ i)->L.apart ops G=true) ->
   i ∈ Region.ready md ops Z->YieldsIf P ops S L v a->S w ->
   gV P md ops Q S n fuel (Z.setIfInBounds i true) (a.put L.dst v) w->gV P md ops Q S n (fuel+1) Z a w:=by
 intro fuel;induction fuel with
 | zero =>
  intro Z a w inv _ N hy hS H
  refine ⟨λh=>(by rw [h] at N;cases N),λj F=>?_⟩
  by_cases Y:j=i
  ·subst Y;exact hy.wpOp hi hS ⟨λ_=>hS,H⟩
  ·have:=ready_mono F Y
   rw [H.1] at this
   cases this
 | succ fuel ih =>
  intro Z a w inv X N hy hS H
  have C:=(mem_ready.1 N).1
  refine ⟨λh=>(by rw [h] at N;cases N),λj F=>?_⟩
  by_cases Y:j=i
  ·subst Y;exact hy.wpOp hi hS ⟨λ_=>hS,H⟩
  ·have D:j<n:=by
    rcases LP j n with h | h
    ·exact h
    ·exact absurd F (tail_waits hs hc hn inv _ i rfl hin C j h)
   have h1:=H.2 j (ready_mono F Y)
   obtain ⟨O,G,K,B⟩:=mem_ready.1 F
   have r:∀e ∈ G.after,Region.binds md e=true->e.on ≠ i:=λe he hb heq=>by have h1:=B e he hb;rw [heq,getD_both C] at h1;cases h1
   have h2:=wpOp_putIf K (X j G K Y O r) (λcs b=>U i L cs b hi) (λcs b=>U j G cs b K) hQ hy h1
   have V:∀k ok,ops[k]? = some ok->k ≠ i->(Z.setIfInBounds j true).getD k true=false ->
     (∀e ∈ ok.after,Region.binds md e=true->e.on ≠ i)->L.apart ops ok=true:=λk ok hk hki E hno=>by
    refine X k ok hk hki ?_ hno;by_cases z:j=k
    ·subst z;exact O
    ·rw [getD_set_ne true z] at E;exact E
   refine wpOp_mono (λa' w' h3=>?_) h2
   have A:=h3.2.1 D
   refine ⟨λ_=>A,ih (Z.setIfInBounds j true) a' w' (inv.set F D) V (ready_mono N (Pf Y)) h3.1 A ?_⟩
   rw [Array.setIfInBounds_comm _ _ Y]
   exact h3.2.2
theorem aR {i:Nat} {V:Oper} {v:Value} {fuel:Nat} {Z:Array Bool} {a:Act} {w:World} (hi:ops[i]? = some V)
  (Y:(Region.noSelect ops && (Region.sinkB md ops n && (Region.chainB md ops n && (decide (n<ops.size) && decide (i<n)))))=true) (N:Region.free md ops Z i=true) (U:(Region.ready md ops Z).contains i=true)
  (L:∀c a w,Q (.panic c) (a.put V.dst v) w->Q (.panic c) a w) (O:YieldsIf P ops S V v a) (hI:HeadInv md ops n Z/\S w)
  (h:HeadInv md ops n (Z.setIfInBounds i true)/\S w->gV P md ops Q S n fuel (Z.setIfInBounds i true) (a.put V.dst v) w):gV P md ops Q S n (fuel+1) Z a w:=by
 simp only [Lm,LM] at Y;have X:i ∈ Region.ready md ops Z:=by simpa using U
 exact wB hi (Region.noSelect_spec Y.1) L Y.2.1 Y.2.2.1 Y.2.2.2.1 Y.2.2.2.2 fuel Z a w hI.1 (Region.free_spec hi N) X O hI.2 (h ⟨hI.1.set X Y.2.2.2.2,hI.2⟩)
theorem A3 {i:Nat} {fuel:Nat} {Z:Array Bool} {a:Act} {w:World} (Y:Region.ready md ops Z=[i]) (V:i<n) (hI:HeadInv md ops n Z)
  (h:wpOp P ops Q i (λa' w'=>S w'/\(HeadInv md ops n (Z.setIfInBounds i true)/\S w'->gV P md ops Q S n fuel (Z.setIfInBounds i true) a' w')) a w):gV P md ops Q S n (fuel+1) Z a w :=
 ⟨λh0=>(by rw [Y] at h0;cases h0),λj U=>by rw [Y,LQ] at U;subst U;exact wpOp_mono (λa' w' X=>⟨λ_=>X.1,X.2 ⟨hI.set (by rw [Y];simp) V,X.1⟩⟩) h⟩
theorem yc {i:Nat} {fuel:Nat} {Z:Array Bool} {a:Act} {w:World} (Y:Region.ready md ops Z=[i]) (U:n<=i) (hd:Region.ready md ops (Z.setIfInBounds i true)=[])
  (h:wpOp P ops Q i (λa' w'=>Q .normal a' w') a w):gV P md ops Q S n (fuel+1) Z a w :=
 ⟨λh0=>(by rw [Y] at h0;cases h0),λj V=>by
  rw [Y,LQ] at V;subst V;refine wpOp_mono (λa' w' X=>⟨λh1=>by omega,?_⟩) h;cases fuel with
  | zero=>exact ⟨hd,X⟩
  | succ f=>exact ⟨λ_=>X,by rw [hd];simp⟩⟩
theorem l9 {i:Nat} {o:Oper} {fuel:Nat} {Z:Array Bool} {a:Act} {w:World} (V:Region.ready md ops Z=[i]) (X:i<n) (hI:HeadInv md ops n Z) (U:ops[i]? = some o)
  (h:∀Y:Act->World->Prop,Shut (∀a w,S w->(HeadInv md ops n (Z.setIfInBounds i true)/\S w->gV P md ops Q S n fuel (Z.setIfInBounds i true) a w)->Y a w)->if Region.wanted o (yielded ops a.tmps)=true then Oper.wp P o a w Y Q else Y (a.put o.dst undef) w) :
  gV P md ops Q S n (fuel+1) Z a w :=
 A3 V X hI (wpOp_step U λY O=>h Y λa w hS N=>O a w ⟨hS,N⟩)
theorem sk {i:Nat} {o:Oper} {fuel:Nat} {Z:Array Bool} {a:Act} {w:World} (V:Region.ready md ops Z=[i]) (X:n<=i) (hd:Region.ready md ops (Z.setIfInBounds i true)=[]) (U:ops[i]? = some o)
  (h:∀Y:Act->World->Prop,Shut (∀a w,Q .normal a w->Y a w)->if Region.wanted o (yielded ops a.tmps)=true then Oper.wp P o a w Y Q else Y (a.put o.dst undef) w) :
  gV P md ops Q S n (fuel+1) Z a w :=
 yc V X hd (wpOp_step U λY N=>h Y λa w O=>N a w O)
theorem Fi:HeadInv md ops n (Array.replicate ops.size false) :=
 ⟨by simp,λj X _ Z=>(by rw [getD_replicate_false] at Z;cases Z),λt _ Y=>by have:=getD_replicate_false ops.size t;exact getD_in (by simpa using Y) this⟩
theorem pY {id:Nat} {a:Act} {w:World} (S:World->Prop) (n:Nat) (hm:P.follows .mixedOrders=true) (hS:S w.drew)
  (h:HeadInv .any ops n (Array.replicate ops.size false)/\S w.drew->gV P .any ops Q S n ops.size (Array.replicate ops.size false) a w.drew):(Code.region id ops true).wp P Q a w :=
 wp_region_any hm (rW _ _ _ _ (h ⟨Fi,hS⟩))
end
section
open Go.RowKit Go.Shelf
attribute [local go_sem] Ol
theorem oe (l:LI) {k:Nat} (h:k<l.length):l.take (k+1)=l.take k ++ [nth l k]:=by rw [K4 h,aj h]
theorem vO (F:Fence) (n:Nat) (hF:F.fn 269) (C:F.round=none) (hn:1<=n) (l B Y:Nat) (a:OA) (len cap:Nat) (U:LI) (H:len * 8<=140737488351232) (J A:LI->World->Prop)
  (hY:∀pre x W,J pre W->pre.length<len->YieldAt F (n - 1) prog l #[cG x] W λe O =>
   (e = .returned (.bool true)/\J (pre ++ [x]) O/\Below Y W O)\/(e = .returned (.bool false)/\A (pre ++ [x]) O))
  (W:World) (hBs:W.cell? ⟨B,0,none⟩=some (.slice a len cap)) (G:Ints W a len U) (hb:0<len->ablk a<Y) (h0:J [] W) :
  CallsIn F n prog 269 #[.func (.yield l) #[] #[],.pointer (some ⟨B,0,none⟩)] W λe O=>(∃v,e = .returned v) /\
   ((∃z,z=U/\J z O)\/(∃pre,(∃k,k<=len/\pre=U.take k)/\A pre O)):=by
 have hpl:=G.pl;have Z:=Z5 G.len;refine callsIn_of_wp func269 rfl hF ?_ C;simp only [ntmps269,MV,LB,M9,Nat.reduceAdd,Nat.reduceSub,My,Mz,MW,ME,L3,MG];gi_wp2;gi_loopw [7] (λi wr=>∃k:Nat,k<=len/\i = cG k/\J (U.take k) wr/\Below Y W wr)
  (λi _=>len - (intOf i).toNat)
 case atStart=>exact ⟨0,K0 _,rfl,h0,KU _ _⟩
 case round =>
  obtain ⟨k,hk,rfl,X,N⟩:=hrel
  by_cases L:k<len
  ·have hcx:=(G.below N hb).cell k L
   have V:=oe U (k:=k) (by rw [Z.out];exact L)
   have j:=Z5 V
   obtain ⟨fn,tmps,assign,body,hy,r⟩:=hY _ (nth U k) wr X (by rw [Lt,Z.out];omega)
   rw [<- V] at r
   clear V
   gi_wp2
   refine r.mono ?_
   rintro e W3 (⟨rfl,E,D⟩ | ⟨rfl,K⟩)
   ·gi_wp2
    go_roundw
    case rel=>exact ⟨k+1,by omega,by simp,E,N.trans D⟩
    case measure=>simp [intOf];omega
   ·gi_wp2
    refine bodyPost_ret (results_none rfl _ _ _) rfl ?_
    exact ⟨⟨_,rfl⟩,.inr ⟨_,⟨k+1,by omega,rfl⟩,K⟩⟩
  ·obtain rfl:k=len:=by omega
   rw [K5 (by rw [Z.out];exact KT _)] at X
   gi_wp2
   go_end0
   exact ⟨⟨_,rfl⟩,.inl ⟨_,rfl,X⟩⟩
theorem yr (F:Fence) (n:Nat) (hF:F.fn 260) (Z:F.round=none) (a:OA) (len cap:Nat) (w:World) :
  CallsIn F n prog 260 #[.slice a len cap] w λe w'=>e = .returned (.func (.func 269) #[] #[.pointer (some ⟨w.heap.size,0,none⟩)])/\w'=w.alloc (.cells #[.slice a len cap] 22):=by refine callsIn_of_wp func260 rfl hF ?_ Z;simp only [ntmps260,MV,LB,M9,Nat.reduceAdd,Nat.reduceSub,My,Mz,MW,ME,L3,MG];gi_wp2;go_ret;exact ⟨rfl,rfl⟩
theorem sI (F:Fence) (n:Nat) (hF:F.fn 269) (L:F.round=none) (D:1<=n) (V Z:Nat) (a:OA) (len cap:Nat) (U:LI) (Y:len * 8<=140737488351232) (w:World) (N:V<w.heap.size) (X:Z<=w.heap.size)
  (E:w.cell? ⟨V,0,none⟩=some (.slice a len cap)) (hI:Ints w a len U) (hb:0<len->ablk a<Z) :
  SeqStopsK F n prog 269 #[.pointer (some ⟨V,0,none⟩)] (λx:Int=>#[Value.int .i64 x]) (Below Z) (λG=>G=U) (λpre=>pre <+: U) len w:=λl J B W H _ _ C h0=>by
 have O:=(H.cell (p:=⟨V,0,none⟩) N).trans E;refine (vO F n hF L D l V Z a len cap U Y J B C W O (hI.below (H.mono X) hb) hb h0).mono ?_;rintro e A ⟨he,⟨G,rfl,K⟩ | ⟨pre,⟨k,z,rfl⟩,K⟩⟩
 ·exact ⟨he,.inl ⟨_,rfl,K⟩⟩
 ·exact ⟨he,.inr ⟨_,List.take_prefix _ _,K⟩⟩
theorem wH (F:Fence) (n:Nat) (hA:F.fn 272) (hV:F.fn 269) (U:F.round=none) (hn:3<=n) (X:Nat) (a:OA) (len cap:Nat) (z:LI) (hlen:len<=1000000) (w:World) (hBs:X<w.heap.size)
  (hc:w.cell? ⟨X,0,none⟩=some (.slice a len cap)) (hI:Ints w a len z) :
  CallsIn F n prog 272 #[ds,.func (.func 269) #[] #[.pointer (some ⟨X,0,none⟩)]] w λe W' =>
   ∃v,e = .returned v/\W'.ownsRow w.heap.size 3 1 v len (z.map (Value.int .i64))/\PY w W':=by
 have h1:1<=n:=by omega
 have G:=Z5 hI.len;obtain ⟨i0,hi,j,hz1,B⟩:=info_parts bh;refine callsIn_of_wp_marks func272 rfl hA ?_ U;simp only [ntmps272,MV,LB,M9,Nat.reduceAdd,Nat.reduceSub,My,Mz,MW,ME,L3,MG];gi_wp2;have bO:=Boxed.new w 22 ds;have H:PY w (w.alloc (.cells #[ds] 22)):=(KU _ w).alloc (KT _) _;refine wpIn_rangeFunc_ownG U h1 (gf:=269) (lb:=#[.pointer (some ⟨X,0,none⟩)]) rfl hV (enters_of func269 (by kernel_rfl) rfl)
  (sI F (n - 1) hV U (by omega) X w.heap.size a len cap z (by omega) w hBs (KT _) hc hI (λh=>hI.lt h)) belowK_t (belowK_b (by simp)) H (λ_=>rfl)
  (λpre W=>(∃v,Boxed W w.heap.size 22 v/\W.ownsRow w.heap.size 3 1 v pre.length (pre.map (Value.int .i64))/\True)/\PY w W)
  (λ_ _ _=>False)
  (OwnFrom.and (Own.from (holdsRow_own w.heap.size w.heap.size 22 3 1 (λpre:LI=>pre.length) (λpre=>pre.map (Value.int .i64)) (λ_ _=>True)) _) (ownFrom_below (KT _) (by simp)))
  (λ_ _ _ _ _ hs _ _=>hs)
  ⟨⟨_,bO,OS _ _ _ _,trivial⟩,H⟩
  (λx=>{ tmps:=#[ds,.func (.func 269) #[] #[.pointer (some ⟨X,0,none⟩)],.pointer (some ⟨w.heap.size,0,none⟩),undef,ds,cG x,.func (.func 269) #[] #[.pointer (some ⟨X,0,none⟩)],cG x,undef,undef,undef,undef,undef],defers:=[] }) ?assign ?body ?done ?stop
 case assign =>
  intro l x W K L
  gi_wp2
  exact L
 case body =>
  rintro l pre x W ⟨⟨v,C,Z,_⟩,E⟩ hlt
  have r:=C.cell
  gi_wp2_with (gi_at_builtin;refine wpListIn_append_own _ rfl _ _ 22 rfl w.heap.size 3 i0 (cG 0) 1 8 underlying22 hi j hz1 B rfl (by decide) _ _ _ rfl (Z.alloc _) ⟨W.heap.size,0,none⟩ 1 1 [cG x] rfl rfl (cell_one_new _ _ _) (by simp [Value.oneCell']) (by unfold maxLen;omega) (by omega) (by have:=E.size;simp;omega) ?_;intro v' w1 Y V _;obtain ⟨g',cap',rfl⟩:=ownsRow_succ Y;obtain ⟨N,hv2,hr2,A,O⟩:=C.appended (by decide) Z E.size (KT _) Y V;have hc1:=N.cell;have hf1:=N.frozen)
  exact ⟨A.from _,O,⟨_,hv2,by simpa using hr2,trivial⟩,E.trans O⟩
 case done =>
  rintro D ys W hD rfl ⟨⟨v,C,Z,_⟩,E⟩ L
  have r:=C.cell
  gi_wp2
  refine ⟨by simp,.inl ⟨_,_,rfl,run_takeDeferred L,?_⟩⟩
  exact ⟨_,results_tmp rfl _ _ _,v,rfl,by have:=ownsRow_putObj Z (.deferred none) L rfl;rw [G.out] at this;exact this,E.trans (belowK_b (w:=w) (KT _) W D _ _ (by simp at hD;omega) L rfl rfl)⟩
 case stop =>
  rintro D c pre W _ _ h _
  exact h.elim
theorem AA (F:Fence) (n:Nat) (H:F.fn 268) (K:F.fn 272) (L:F.fn 269) (Y:F.round=none) (G:4<=n) (X:Nat) (a:OA) (len cap:Nat) (V:LI) (hlen:len<=1000000) (w:World) (U:X<w.heap.size)
  (N:w.cell? ⟨X,0,none⟩=some (.slice a len cap)) (hI:Ints w a len V) :
  CallsIn F n prog 268 #[.func (.func 269) #[] #[.pointer (some ⟨X,0,none⟩)]] w λe O =>
   ∃v,e = .returned v/\O.ownsRow w.heap.size 3 1 v len (V.map (Value.int .i64))/\PY w O:=by refine callsIn_of_wp func268 rfl H ?_ Y;simp only [ntmps268,MV,LB,M9,Nat.reduceAdd,Nat.reduceSub,My,Mz,MW,ME,L3,MG];gi_wp2;refine ⟨λ_=>by omega,?_⟩;refine (wH F (n - 1) K L Y (by omega) X a len cap V hlen _ U N hI).mono ?_;rintro e O ⟨v,rfl,Z,hb⟩;gi_wp2;go_ret;exact ⟨v,rfl,Z,hb⟩
theorem AJ (a:OA) (len cap:Nat) (w:World) :
  Calls prog 260 #[.slice a len cap] w λe w'=>e = .returned (.func (.func 269) #[] #[.pointer (some ⟨w.heap.size,0,none⟩)])/\w'=w.alloc (.cells #[.slice a len cap] 22) :=
 callsIn_wide.1 (yr Fence.wide 8 trivial rfl a len cap w)
theorem xL (Z:Nat) (a:OA) (len cap:Nat) (Y:LI) (hlen:len<=1000000) (w:World) (X:Z<w.heap.size) (U:w.cell? ⟨Z,0,none⟩=some (.slice a len cap)) (hI:Ints w a len Y) :
  Calls prog 268 #[.func (.func 269) #[] #[.pointer (some ⟨Z,0,none⟩)]] w λe V =>
   ∃v,e = .returned v/\V.ownsRow w.heap.size 3 1 v len (Y.map (Value.int .i64))/\PY w V :=
 callsIn_wide.1 (AA Fence.wide 8 trivial trivial trivial rfl (by omega) Z a len cap Y hlen w X U hI)
end
def Pm:=@Below.next
def Pn:=@Ints.own
def Pp:=@Below.app
def Pq:=@Below.bJ
def Pu:=@Ints.nil
def Px:=@Ints.news
def PG:=@Pl.own
def PJ:=@Cg.of_eq
def PM:=@Cg.refl
def PO:=@dG.lz
def PU:=@dG.digs
def PV:=@Cg.trans
def PX:=@uN.own
end Go.Proofs.YthglbncgemdcbaaGreat
