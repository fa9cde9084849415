import Derived.Test.YthglbncgemdcbaaGreatBO0
import Derived.WalkSpells
import Derived.WalkLawsBesides
import Derived.Laws.CopyOwn
import Derived.Maps.AppendAt
import Derived.Deep.RegionLaw
import Derived.StillTail
import Derived.OrdersHeld
import Derived.Deep.RegionHeld
import Derived.RangeFuncBox
import Derived.RangeFuncLeaves
import Derived.Shelf.Abstract
import Derived.OwnWalkIn
import Derived.TacticsInMore
import Derived.LoopNIn
import Derived.LoopIn
namespace Go.Proofs.YthglbncgemdcbaaGreat
set_option linter.all false
set_option maxRecDepth 100000
set_option maxHeartbeats 2000000
open Go.RowKit Go.Proofs.Tryz
def digs (x p:Int):Nat->Lz
 | 0=>[]
 | m+1=>(x % p) :: digs (x / p) p m
def valu (p:Int):Lz->Int
 | []=>0
 | c :: d=>c+p * valu p d
def jG (x p:Int):Nat->Int
 | 0=>x
 | k+1=>jG x p k / p
theorem bM (p:Int):∀(m:Nat) (x:Int),(digs x p m).length=m
 | 0,_=>rfl
 | m+1,x=>by simp [digs,bM p m]
theorem qh (x p:Int):∀k,jG x p (k+1)=jG (x / p) p k
 | 0=>rfl
 | k+1=>by rw [jG,qh x p k];rfl
theorem pV (p:Int):∀(k:Nat) (x:Int),digs x p (k+1)=digs x p k ++ [jG x p k % p]
 | 0,x=>rfl
 | k+1,x=>by rw [digs,pV p k (x / p),qh];rfl
theorem xL (x p:Int) (Z:0<=x) (Y:1<=p):∀k,0<=jG x p k/\jG x p k<=x
 | 0=>⟨Z,Pu _⟩
 | k+1=>by have h:=xL x p Z Y k;exact ⟨Ox h.1 (by omega),Rl (OC _ h.1) h.2⟩
def dz (l:Lz) (k m:Nat):Lz:=l ++ List.replicate (m - k) 0
theorem fJ (l:Lz) (k m:Nat) (x:Int) (Z:l.length=k) (Y:k<m):(dz l k m).set k x=dz (l ++ [x]) (k+1) m:=by unfold dz;rw [P1 _ _ (by omega),Z,PD];rw [show m - k=(m - (k+1))+1 from by omega,Qj,Nc];simp
theorem gr (l:Lz) (m:Nat):dz l m m=l:=by simp [dz]
def nth (l:Lz) (i:Nat):Int:=l.getD i 0
def shl (out:Lz):Lz:=0 :: out.dropLast
def C8 (P:Int) (low a:Lz) (top bi:Int) (Z:Lz) (j:Nat):Int:=(nth Z j+(P - top) * nth low j+bi * nth a j) % P
def nh (P:Int) (low a:Lz) (m:Nat) (bi:Int) (out:Lz):Lz :=
 (List.range m).map λj=>C8 P low a (nth out (m - 1)) bi (shl out) j
def eH (P:Int) (low a b:Lz) (m:Nat):Nat->Lz
 | 0=>List.replicate m 0
 | k+1=>nh P low a m (nth b (m - 1 - k)) (eH P low a b m k)
def mU (M:Nat) (mod:Lz):Lz:=if 1<M then mod else [0]
def dp (P:Int) (M:Nat) (mod:Lz) (x y:Int):Int :=
 valu P (eH P (mU M mod) (digs x P M) (digs y P M) M M)
theorem an {l:Lz} {i:Nat} (h:i<l.length):nth l i=l[i]:=by simp [nth,h]
theorem aG {l:Lz} {i:Nat} (h:i<l.length):nth l i ∈ l:=by rw [an h];exact NL h
theorem jI {l:Lz} {i:Nat} (h:l.length<=i):nth l i=0:=by simp [nth,h]
theorem fy {l Z:Lz} (Y:l.length=Z.length) (h:∀i,i<l.length->nth l i=nth Z i):l=Z:=by apply Ou Y;intro i h1 h2;have:=h i h1;rwa [an h1,an h2] at this
def dL (P:Int) (l:Lz):Prop:=∀i,0<=nth l i/\nth l i<P
theorem dL.ma {P:Int} (Z:0<P) {l:Lz} (h:∀x ∈ l,0<=x/\x<P):dL P l:=by
 intro i;rcases NU i l.length with hi | hi
 ·exact h _ (aG hi)
 ·rw [jI hi];omega
theorem dL.digs {P:Int} (Z:0<P):∀(m:Nat) (x:Int),dL P (digs x P m)
 | 0,x=>λi=>by simp [Go.Proofs.YthglbncgemdcbaaGreat.digs,nth];omega
 | m+1,x=>by
  intro i;match i with
  | 0=>simp only [Go.Proofs.YthglbncgemdcbaaGreat.digs,nth,Qk];exact ⟨NV _ (by omega),NS _ Z⟩
  | i+1=>simpa only [Go.Proofs.YthglbncgemdcbaaGreat.digs,nth,List.getD_cons_succ] using dL.digs Z m (x / P) i
theorem dL.replicate {P:Int} (Z:0<P) (m:Nat):dL P (List.replicate m 0):=by refine dL.ma Z λx Y=>?_;obtain ⟨_,rfl⟩:=List.mem_replicate.1 Y;omega
theorem je (P:Int) (low a:Lz) (m:Nat) (bi:Int) (out:Lz):(nh P low a m bi out).length=m:=by simp [nh]
theorem mS (P:Int) (low a:Lz) (m:Nat) (bi:Int) (out:Lz) (j:Nat) (Z:j<m) :
  nth (nh P low a m bi out) j=C8 P low a (nth out (m - 1)) bi (shl out) j:=by rw [an (by rw [je];exact Z)];simp [nh]
theorem dL.nh {P:Int} (Y:0<P) (low a:Lz) (m:Nat) (bi:Int) (out:Lz):dL P (nh P low a m bi out):=by
 intro j;rcases NU j m with Z | Z
 ·rw [mS _ _ _ _ _ _ _ Z];exact ⟨NV _ (by omega),NS _ Y⟩
 ·rw [jI (by rw [je];exact Z)];omega
theorem iF (P:Int) (low a b:Lz) (m:Nat):∀k,(eH P low a b m k).length=m
 | 0=>by simp [eH]
 | k+1=>je ..
theorem dL.eH {P:Int} (Z:0<P) (low a b:Lz) (m:Nat):∀k,dL P (eH P low a b m k)
 | 0=>dL.replicate Z m
 | k+1=>by simp only [Go.Proofs.YthglbncgemdcbaaGreat.eH];exact dL.nh Z _ _ _ _ _
theorem BQ (out:Lz) (h:0<out.length):(shl out).length=out.length:=by simp [shl];omega
theorem dL.shl {P:Int} (Z:0<P) {out:Lz} (h:dL P out):dL P (shl out):=by
 intro i;match i with
 | 0=>simp [Go.Proofs.YthglbncgemdcbaaGreat.shl,nth];omega
 | i+1 =>
  have e:nth (Go.Proofs.YthglbncgemdcbaaGreat.shl out) (i+1)=if i<out.length - 1 then nth out i else 0:=by simp only [Go.Proofs.YthglbncgemdcbaaGreat.shl,nth,Na,Nk,PU];split<;>rfl
  rw [e];split
  ·exact h i
  ·omega
def eJ (new iO:Lz) (j:Nat):Lz:=new.take j ++ iO.drop j
theorem dX (new iO:Lz):eJ new iO 0=iO:=by simp [eJ]
theorem eD (new iO:Lz) (m:Nat) (h1:new.length=m) (h2:iO.length=m):eJ new iO m=new:=by simp [eJ,Nj (QE h1),PV (QE h2)]
theorem i7 (new iO:Lz) (j:Nat) (h:new.length=iO.length) (Z:j<=iO.length):(eJ new iO j).length=iO.length:=by simp [eJ];omega
theorem dS (new iO:Lz) (j i:Nat) (h:new.length=iO.length) (Z:j<=iO.length):nth (eJ new iO j) i=if i<j then nth new i else nth iO i:=by
 unfold eJ nth;simp only [Na];split
 ·rename_i hi;rw [NA (by simp;omega),Ol,M7 hi]
 ·rename_i hi;rw [N4 (by simp;omega),Qp];congr 2;simp;omega
theorem eT (l:Lz) (i j:Nat) (x:Int) (hi:i<l.length):nth (l.set i x) j=if j=i then x else nth l j:=by
 unfold nth;simp only [Na,OP];by_cases h:i=j
 ·subst h;simp [hi]
 ·rw [M8 h,M8 (by omega)]
theorem dU (new iO:Lz) (j:Nat) (h:new.length=iO.length) (V:j<iO.length):(eJ new iO j).set j (nth new j)=eJ new iO (j+1):=by
 have X:=i7 new iO j h (by omega);have Z:=i7 new iO (j+1) h (by omega);refine fy (by simp [X,Z]) λi hi=>?_;rw [eT _ _ _ _ (by omega),dS _ _ _ _ h (by omega),dS _ _ _ _ h (by omega)];by_cases e:i=j
 ·subst e;simp
 ·rw [M8 e];by_cases Y:i<j
  ·rw [M7 Y,M7 (by omega)]
  ·rw [M8 Y,M8 (by omega)]
theorem oV {P:Int} (Y:0<P):∀(l:Lz),dL P l->0<=valu P l/\valu P l<P ^ l.length
 | [],_=>by simp [valu]
 | c :: l,h=>by
  have h0:=h 0;have Z:=oV Y l (λi=>by simpa [nth] using h (i+1));simp only [nth,Qk] at h0;simp only [valu,NO,N1];have h1:0<=P * valu P l:=OZ (by omega) Z.1;have h2:P * valu P l+P<=P ^ l.length * P:=by have:=NQ (show valu P l+1<=P ^ l.length by omega) (show 0<=P by omega);rw [OE (P ^ l.length)];rw [OM] at this;omega
  omega
theorem dJ {P:Int} (Z:1<=P) {a b:Nat} (h:a<=b):P ^ a<=P ^ b:=by
 obtain ⟨n,rfl⟩:∃n:Nat,P=n:=⟨P.toNat,by omega⟩
 have:=Q0 (n:=n) (by omega) h;exact_mod_cast this
theorem dL.drop {P:Int} {l:Lz} (h:dL P l) (k:Nat):dL P (l.drop k):=by intro i;have:=h (k+i);simpa [nth] using this
theorem dL.DU {P:Int} (Y:0<P) {l:Lz} (h:dL P l) {m:Nat} (X:l.length=m) (Z:P ^ m<=256) (k:Nat):0<=valu P (l.drop k)/\valu P (l.drop k)<256:=by have hb:=oV Y (l.drop k) (h.drop k);refine ⟨hb.1,Int.lt_of_lt_of_le hb.2 (Rl ?_ Z)⟩;rw [OK,X];exact dJ (by omega) (by omega)
def ablk:OA->Nat | some a=>a.block | none=>0
def aN:OA->Nat | some a=>a.off | none=>0
@[simp] theorem ablk_some (b o:Nat) (s:Option Nat):ablk (some ⟨b,o,s⟩)=b:=rfl
@[simp] theorem aoff_some (b o:Nat) (s:Option Nat):aN (some ⟨b,o,s⟩)=o:=rfl
def Pl (a:OA) (n:Nat):Prop:=0<n->a=some ⟨ablk a,aN a,none⟩
def aj (l:ZZ) (i:Nat):Lz:=l.getD i []
def re (l:List Bool) (i:Nat):Bool:=l.getD i false
theorem aH {l:ZZ} {i:Nat} (h:i<l.length):aj l i=l[i]:=by simp [aj,h]
theorem jy {l:ZZ} {i:Nat} (h:i<l.length):aj l i ∈ l:=by rw [aH h];exact NL h
theorem oL {l:List Bool} {i:Nat} (h:i<l.length):re l i=l[i]:=by simp [re,h]
structure Ints (w:ej) (a:OA) (n:Nat) (l:Lz):Prop where
 len:l.length=n
 pl:Pl a n
 max:n<=maxLen
 cell:∀i,i<n->w.cell? ⟨ablk a,aN a+i,none⟩=some (cG (nth l i))
structure vp (w:ej) (a:OA) (n:Nat) (l:List Bool):Prop where
 len:l.length=n
 pl:Pl a n
 max:n<=maxLen
 cell:∀i,i<n->w.cell? ⟨ablk a,aN a+i,none⟩=some (.bool (re l i))
structure bP (w:ej) (a:OA) (n:Nat) (l:ZZ):Prop where
 len:l.length=n
 pl:Pl a n
 max:n<=maxLen
 cell:∀i,i<n->∃b m c,w.cell? ⟨ablk a,aN a+i,none⟩=some (.slice b m c)/\Ints w b m (aj l i)
def Lj (w:ej) (B:Nat) (a:OA) (n:Nat):Prop:=0<n->B<=ablk a/\∀i,i<n->w.frozen? ⟨ablk a,aN a+i,none⟩=false
theorem Ints.lt {w:ej} {a:OA} {n:Nat} {l:Lz} (h:Ints w a n l) (Z:0<n):ablk a<w.heap.size :=
 Nf w _ (h.cell 0 Z)
theorem bP.lt {w:ej} {a:OA} {n:Nat} {l:ZZ} (h:bP w a n l) (Z:0<n):ablk a<w.heap.size:=by obtain ⟨b,m,c,Y,_⟩:=h.cell 0 Z;exact Nf w _ Y
theorem Ints.of_block {w w':ej} {a:OA} {n:Nat} {l:Lz} (h:Ints w a n l) (hb:0<n->w'.heap[ablk a]? = w.heap[ablk a]?):Ints w' a n l :=
 ⟨h.len,h.pl,h.max,λi hi=>(NG (w:=w) (a:=⟨ablk a,aN a+i,none⟩) (hb (by omega))).trans (h.cell i hi)⟩
theorem Ints.below {B:Nat} {w w':ej} {a:OA} {n:Nat} {l:Lz} (h:Ints w a n l) (hb:Below B w w') (Z:0<n->ablk a<B):Ints w' a n l :=
 h.of_block λY=>hb.block _ (Z Y)
theorem Ints.ai {w w':ej} {a:OA} {n:Nat} {l:Lz} (h:Ints w a n l) (hb:SJ w w'):Ints w' a n l :=
 h.below hb λZ=>h.lt Z
theorem bP.ai {w w':ej} {a:OA} {n:Nat} {l:ZZ} (h:bP w a n l) (hb:SJ w w'):bP w' a n l:=by refine ⟨h.len,h.pl,h.max,λi hi=>?_⟩;obtain ⟨b,m,c,Z,Y⟩:=h.cell i hi;exact ⟨b,m,c,(hb.cell (Nf w _ Z)).trans Z,Y.ai hb⟩
theorem Ints.nil (w:ej) (c:OA):Ints w c 0 []:=⟨rfl,λh=>by omega,by unfold maxLen;omega,λi h=>by omega⟩
@[go_sem] theorem run_indexAt_pl {P : Program} (w : ej) (t : TypeId) (a : OA) (len cap : Nat) (k : IntKind) (i : Int) (h : P.underlying t=some (.slice (P.elem t)))
  (Z:Pl a len) (h0:0<=i) (h1:i<len) :
  (Instr.indexAt t (.slice a len cap) (.int k i)).run P w=((sizeOf (P.elem t)).run P w).andThen λs w=>.ok (.pointer (some ((⟨ablk a,aN a,none⟩:Addr).add (i.toNat * s)))) w:=by have e:a=some ⟨ablk a,aN a,none⟩:=Z (by omega);generalize hb:ablk a=b at *;generalize Y:aN a=o at *;subst e;rw [run_indexAt_slice (h:=h),M7 ⟨h0,h1⟩]
theorem Aj (l:List Bool) (i j:Nat) (x:Bool) (hi:i<l.length):re (l.set i x) j=if j=i then x else re l j:=by
 unfold re;simp only [Na,OP];by_cases h:i=j
 ·subst h;simp [hi]
 ·rw [M8 h,M8 (by omega)]
theorem Pl.own {w:ej} {base:Nat} {e:TypeId} {v:Value} {n:Nat} {xs:List Value} (h:w.ownsRow base e 1 v n xs):∃a c,v = .slice a n c/\Pl a n:=by
 rcases h.2 with ⟨rfl,rfl⟩ | ⟨g,cap,cur,rfl,_⟩
 ·exact ⟨none,0,rfl,λh=>by omega⟩
 ·exact ⟨_,cap,rfl,λ_=>rfl⟩
theorem bL {w:ej} {base:Nat} {e:TypeId} {a:OA} {c n:Nat} {xs:List Value} (h:w.ownsRow base e 1 (.slice a n c) n xs) (i:Nat) (hi:i<n) :
  w.cell? ⟨ablk a,aN a+i,none⟩=xs[i]?/\w.frozen? ⟨ablk a,aN a+i,none⟩=false/\base<=ablk a/\xs.length=n/\n<=maxLen:=by
 obtain ⟨O,h2⟩:=h;rcases h2 with ⟨h2,rfl⟩ | ⟨g,cap,cur,Y,X,Z,U,hm,N,V⟩
 ·omega
 ·cases Y
  simp only [ablk_some,aoff_some,Qm];refine ⟨?_,by simp [World.frozen?,Z],X,by omega,by omega⟩;rw [<- V,Ol,M7 (by omega)];simp [World.cell?,Z]
theorem Ints.own {w:ej} {base:Nat} {e:TypeId} {a:OA} {c n:Nat} {l:Lz} (h:w.ownsRow base e 1 (.slice a n c) n (l.map (Value.int .i64))) :
  Ints w a n l/\Lj w base a n:=by
 have X:l.length=n:=by have:=h.1;simpa using this
 obtain ⟨a',U,Z,V⟩:=Pl.own h;cases Z
 refine ⟨⟨X,V,?_,λi hi=>?_⟩,λY=>⟨(bL h 0 Y).2.2.1,λi hi=>(bL h i hi).2.1⟩⟩
 ·rcases Om n with h0 | h0
  ·subst h0;unfold maxLen;omega
  ·exact (bL h 0 h0).2.2.2.2
 ·rw [(bL h i hi).1];simp [nth,show i<l.length by omega]
theorem vp.own {w:ej} {base:Nat} {e:TypeId} {a:OA} {c n:Nat} {l:List Bool} (h:w.ownsRow base e 1 (.slice a n c) n (l.map Value.bool)) :
  vp w a n l/\Lj w base a n:=by
 have X:l.length=n:=by have:=h.1;simpa using this
 obtain ⟨a',U,Z,V⟩:=Pl.own h;cases Z
 refine ⟨⟨X,V,?_,λi hi=>?_⟩,λY=>⟨(bL h 0 Y).2.2.1,λi hi=>(bL h i hi).2.1⟩⟩
 ·rcases Om n with h0 | h0
  ·subst h0;unfold maxLen;omega
  ·exact (bL h 0 h0).2.2.2.2
 ·rw [(bL h i hi).1];simp [re,show i<l.length by omega]
theorem bA {w:ej} {B:Nat} {e:TypeId} {a:OA} {c n:Nat} {xs:List Value} (h:w.ownsRow B e 1 (.slice a n c) n xs) (i:Nat) (hi:i<n) (u:Value) :
  (w.setCell ⟨ablk a,aN a+i,none⟩ u).ownsRow B e 1 (.slice a n c) n (xs.set i u):=by
 have Y:=h;rcases h.2 with ⟨Z,h0⟩ | ⟨g,_,cur,Z,V,U,X,hm,O,N⟩
 ·omega
 ·cases Z
  simpa using (Y.stored i u).1
theorem fh {w w':ej} {B:Nat} {e:TypeId} {a:OA} {c n:Nat} {xs:List Value} (h:w.ownsRow B e 1 (.slice a n c) n xs)
  (hb:w'.heap[ablk a]? = w.heap[ablk a]?):w'.ownsRow B e 1 (.slice a n c) n xs:=by
 refine ⟨h.1,?_⟩;rcases h.2 with h2 | ⟨g,cap,cur,Z,Y,X,r⟩
 ·exact .inl h2
 ·cases Z
  exact .inr ⟨g,c,cur,rfl,Y,by rw [ablk_some] at hb;rw [hb];exact X,r⟩
theorem lS {w:ej} {B:Nat} {e:TypeId} {a:OA} {c n:Nat} {xs:List Value} (h:w.ownsRow B e 1 (.slice a n c) n xs) :
  (a=none/\n=0/\c=0)\/(B<=ablk a/\ablk a<w.heap.size):=by
 rcases h.2 with ⟨Z,Y⟩ | ⟨g,cap,cur,Z,X,V,r⟩
 ·cases Z;exact .inl ⟨rfl,Y,rfl⟩
 ·cases Z;exact .inr ⟨X,(Array.getElem?_eq_some_iff.1 V).1⟩
theorem cJ {w:ej} {B:Nat} {e:TypeId}:w.ownsRow B e 1 ds 0 []:=Rm _ _ _ _
theorem dO {w:ej} {B:Nat} {e:TypeId} {a:OA} {c n:Nat} {xs:List Value} (h:w.ownsRow B e 1 (.slice a n c) n xs) {p:Addr} (u:Value) (Z:a=none\/ablk a ≠ p.block) :
  (w.setCell p u).ownsRow B e 1 (.slice a n c) n xs:=by
 rcases Z with rfl | Z
 ·have h2:=lS h;refine ⟨h.1,.inl ?_⟩;rcases h.2 with h2 | ⟨g,cap,cur,Y,_⟩
  ·exact h2
  ·cases Y
 ·exact fh h (Nt _ _ _ _ Z)
theorem bj {w w':ej} {B:Nat} {e:TypeId} {a:OA} {c n:Nat} {xs:List Value} (h:w.ownsRow B e 1 (.slice a n c) n xs) (hb:SJ w w') :
  w'.ownsRow B e 1 (.slice a n c) n xs:=by
 refine ⟨h.1,?_⟩;rcases h.2 with h2 | ⟨g,cap,cur,Y,X,Z,r⟩
 ·exact .inl h2
 ·exact .inr ⟨g,cap,cur,Y,X,by rw [hb.block g (Array.getElem?_eq_some_iff.1 Z).1];exact Z,r⟩
theorem bq {w:ej} {B B':Nat} {e:TypeId} {v:Value} {n:Nat} {xs:List Value} (h:w.ownsRow B e 1 v n xs) (Y:B'<=B):w.ownsRow B' e 1 v n xs:=by
 refine ⟨h.1,?_⟩;rcases h.2 with h2 | ⟨g,cap,cur,Z,X,r⟩
 ·exact .inl h2
 ·exact .inr ⟨g,cap,cur,Z,Np Y X,r⟩
theorem jd {w:ej} {B:Nat} {e:TypeId} {v:Value} {n:Nat} {xs:List Value} (h:w.ownsRow B e 1 v n xs):xs.length=n:=by simpa using h.1
theorem Ints.grown {w w':ej} {a:OA} {n:Nat} {l:Lz} {row:Option Nat} (h:Ints w a n l) (Y:w.grownBy w' row) (hne:0<n->row ≠ some (ablk a)):Ints w' a n l :=
 h.of_block λZ=>Y.block _ (h.lt Z) (λe=>hne Z e.symm)
theorem bR {P:Program} {w:ej} {ops:Array Oper} {rest:List Oper} {o:Oper} {ac:Act} {Q:Exit->Act->ej->Prop}
  (L:o.guard=none) (l c:Operand) (t e:TypeId) (N:o.op=Op.makeSlice t l c) (z:Value) (bytes:Nat)
  (h1:P.underlying t=some (.slice e)) (h2:(P.info? e).map (λi=>(i.zero,i.size,i.bytes))=some (some z,1,bytes)) (H:z.cells = #[z])
  (n:Nat) (K:ac.eval l = cG n) (D:ac.eval c = cG n) (F:bytes * n<=281474976710656) (E:n<=maxLen)
  (G:∀a w',w'.ownsRow w.heap.size e 1 (.slice a n n) n (List.replicate n z)->SJ w w'->w.heap.size<=ablk a->ablk a<w'.heap.size->wpList P ops Q rest (ac.put o.dst (.slice a n n)) w') :
  wpList P ops Q (o :: rest) ac w:=by
 obtain ⟨i,hi,V,O,U⟩:=info_parts h2;refine wpList_make_full w L l c t N w.heap.size e i z 1 h1 hi V O .i64 .i64 n n n K D rfl rfl (by rw [U];exact F) E (M4 _) λw' Z X=>?_;refine G _ w' ?_ ((M5 _ _).grown X (M4 _) (λk C=>by cases C)) (by simp) ?_
 ·simpa [H,toList_madeCells_one] using Z
 ·rcases Z.2 with ⟨Y,_⟩ | ⟨g,cap,cur,Y,_,I,_⟩
  ·cases Y
  ·cases Y;exact (Array.getElem?_eq_some_iff.1 I).1
theorem Below.app {B Y:Nat} {X w w':ej} {e:TypeId} {a:OA} {n c:Nat} {xs:List Value} (h:Below Y X w) (Z:w.ownsRow B e 1 (.slice a n c) n xs)
  (V:w.grownBy w' (Value.slice a n c).ownBlock) (h0:Y<=B) (h1:Y<=w.heap.size):Below Y X w' :=
 h.grown V h1 λk U=>Np h0 (Z.lt k U).1
theorem aC {w w':ej} (hb:SJ w w') {a:Addr} {v:Value} (h:w.cell? a=some v):w'.cell? a=some v :=
 (hb.cell (Nf w a h)).trans h
theorem Below.next {Z w w':ej} (h:SJ Z w) (hb:SJ w w'):SJ Z w' :=
 h.trans (hb.mono h.size)
theorem JP {w:ej} {B:Nat} {e:TypeId} {a:OA} {n:Nat} {xs:List Value} (h:w.ownsRow B e 1 (.slice a n n) n xs) (O:0<n) :
  ∃g,a=some ⟨g,0,none⟩/\B<=g/\w.heap[g]? = some (.cells xs.toArray e (0,0)):=by
 rcases h.2 with ⟨Z,h0⟩ | ⟨g,cap,cur,Z,Y,X,hle,hm,V,U⟩
 ·omega
 ·cases Z
  refine ⟨g,rfl,Y,?_⟩;rw [X,<- U,Nj (by rw [Array.length_toList,V];exact M4 _)]
theorem Cm {w:ej} {B:Nat} {e:TypeId} {g n:Nat} {xs:List Value} (Y:B<=g) (h:w.heap[g]? = some (.cells xs.toArray e (0,0))) (Z:xs.length=n) (hm:n<=maxLen) :
  w.ownsRow B e 1 (.slice (some ⟨g,0,none⟩) n n) n xs :=
 ⟨by simpa using Z,.inr ⟨g,n,xs.toArray,rfl,Y,h,M4 _,hm,by simpa using Z,by simpa using Nj (by omega)⟩⟩
theorem oX {w:ej} {g:Nat} {e:TypeId} {l:Lz} (h:w.heap[g]? = some (.cells (l.map (Value.int .i64)).toArray e (0,0))) (j:Nat) (Z:j<l.length) :
  w.cell? ⟨g,j,none⟩=some (cG (nth l j))/\w.frozen? ⟨g,j,none⟩=false:=by refine ⟨?_,by simp [World.frozen?,h]⟩;simp [World.cell?,h,nth,Z]
theorem nB {w:ej} {g:Nat} {e:TypeId} {l:Lz} (h:w.heap[g]? = some (.cells (l.map (Value.int .i64)).toArray e (0,0))) (j:Nat) (x:Int) :
  (w.setCell ⟨g,j,none⟩ (cG x)).heap[g]? = some (.cells ((l.set j x).map (Value.int .i64)).toArray e (0,0)):=by have:=heap_setCell_same w g j _ e (cG x) h;simpa [Ny] using this
theorem I0 (g j:Nat):(⟨g,0,none⟩:Addr).add j=⟨g,j,none⟩:=by unfold Addr.add;split<;>simp_all
theorem xo {w:ej} {g:Nat} {e:TypeId} {l:Lz} (h:w.heap[g]? = some (.cells (l.map (Value.int .i64)).toArray e (0,0))) :
  ∀j v,(l.dropLast.map (Value.int .i64))[j]? = some v->w.cell? ((⟨g,0,none⟩:Addr).add j)=some v:=by intro j v Y;have Z:=(List.getElem?_eq_some_iff.1 Y).1;simp only [No,List.length_dropLast] at Z;rw [I0,(oX h j (by omega)).1];rw [OQ,PU,M7 Z,NJ (by omega)] at Y;rw [an (by omega)];simpa using Y
theorem CC (l:Lz) (h:0<l.length):splice (l.map (Value.int .i64)) 1 (l.dropLast.map (Value.int .i64))=(nth l 0 :: l.dropLast).map (Value.int .i64):=by
 unfold splice;match l,h with
 | x :: l,_ =>
  have e:(List.map (Value.int .i64) (x :: l)).drop (1+(List.map (Value.int .i64) (x :: l).dropLast).length)=[]:=by apply PV;simp;omega
  rw [e]
  simp [nth]
theorem br:(prog.info? 3).map (λi=>(i.zero,i.size,i.bytes))=some (some (cG 0),1,8):=by kernel_rfl
theorem pd (x p:Int) (m:Nat) (w:ej) (G:0<=x) (U:x<=9223372036854775807) (H:1<=p) (hm:m<=256) :
  Calls prog 214 #[cG x,cG p,cG m] w λe w' =>
   ∃a c,e = .returned (.slice a m c)/\Ints w' a m (digs x p m)/\Lj w' w.heap.size a m/\SJ w w':=by
 go_enter func214,ntmps214;go_wp2_with (at_make;refine bR rfl _ _ 22 3 rfl (cG 0) 8 underlying22 br rfl m rfl rfl (by omega) (by unfold maxLen;omega) ?_;intro a E X Y L V);go_loopw [0,13] (λN K wr=>∃k:Nat,k<=m/\K = cG k/\N = cG (jG x p k) /\
   wr.ownsRow w.heap.size 3 1 (.slice a m m) m ((dz (digs x p k) k m).map (Value.int .i64))/\SJ w wr)
  (λ_ i _=>m - (intOf i).toNat)
 case atStart=>exact ⟨0,Nb _,rfl,rfl,by simpa [dz,digs] using X,Y⟩
 case round =>
  obtain ⟨k,B,rfl,rfl,X,Y⟩:=hrel
  obtain ⟨hints,Z⟩:=Ints.own X
  have D:=xL x p G H k
  have O:=hints.pl
  by_cases V:k<m
  ·have C:=hints.cell k V
   have F:=(Z (by omega)).2 k V
   have I:=(Z (by omega)).1
   go_wp2
   go_roundw
   case rel =>
    refine ⟨k+1,by omega,by go_num,rfl,?_,Y.setCell I _⟩
    have h:=bA X k V (cG (jG x p k % p))
    rw [<- Ny,fJ _ _ _ _ (bM p k x) V,<- pV] at h
    exact h
   case measure=>simp [intOf]<;>omega
  ·obtain rfl:k=m:=by omega
   go_wp2
   go_ret
   rw [gr] at hints
   exact ⟨_,_,rfl,hints,Z,Y⟩
def dq (a:OA) (b:Nat):Prop:=a=none\/ablk a ≠ b
theorem dq.own {a:OA} {b:Nat} (h:dq a b) (n c:Nat):(Value.slice a n c).ownBlock ≠ some b:=by
 rcases h with rfl | h
 ·simp [Value.ownBlock]
 ·cases a with
  | none=>simp [Value.ownBlock]
  | some x=>simpa [Value.ownBlock,ablk] using h
theorem dq.jV {a:OA} {b n c:Nat} (h:(Value.slice a n c).ownBlock ≠ some b):dq a b:=by
 cases a with
 | none=>exact .inl rfl
 | some x=>exact .inr (by simpa [Value.ownBlock,ablk] using h)
theorem jb {w:ej} {B:Nat} {e:TypeId} {a:OA} {c n:Nat} {xs:List Value} (h:w.ownsRow B e 1 (.slice a n c) n xs) {b:Nat} (hb:b<B):dq a b:=by
 rcases lS h with ⟨rfl,_⟩ | ⟨h1,_⟩
 ·exact .inl rfl
 ·exact .inr (by omega)
theorem ew {w:ej} {B:Nat} {e:TypeId} {a:OA} {c n:Nat} {xs:List Value} (h:w.ownsRow B e 1 (.slice a n c) n xs) (Z:0<n):B<=ablk a/\ablk a<w.heap.size:=by
 rcases lS h with ⟨_,h0,_⟩ | h
 ·omega
 ·exact h
theorem bd {P:Program} {w:ej} {ops:Array Oper} {rest:List Oper} {o:Oper} {ac:Act} {Q:Exit->Act->ej->Prop}
  (D:o.guard=none) (s x:Operand) (t e:TypeId) (G:o.op = .call { callee:=.builtin .append,args:=#[s,x],argTypes:=#[t,t] }) (z:Value) (bytes:Nat)
  (h1:P.underlying t=some (.slice e)) (h2:(P.info? e).map (λi=>(i.zero,i.size,i.bytes))=some (some z,1,bytes)) (A:z.cells = #[z])
  (B:Nat) (a:OA) (n c:Nat) (xs:List Value) (C:ac.eval s = .slice a n c) (V:w.ownsRow B e 1 (.slice a n c) n xs)
  (ad:Addr) (E:Nat) (u:Value) (hx:ac.eval x = .slice (some ad) 1 E) (hu:w.cell? ad=some u) (O:u.oneCell'=true)
  (b2:(n+1) * bytes<=140737488355328) (b3:n+1<=maxLen) (r:B<=w.heap.size)
  (hK:∀a' Y w',w'.ownsRow B e 1 (.slice a' (n+1) Y) (n+1) (xs ++ [u])->w.grownBy w' (Value.slice a n c).ownBlock->(∀b,b<w.heap.size->dq a b->dq a' b)->wpList P ops Q rest (ac.put o.dst (.slice a' (n+1) Y)) w') :
  wpList P ops Q (o :: rest) ac w:=by
 obtain ⟨i,hi,L,H,K⟩:=info_parts h2;refine wpList_append_own_at w D s x t G B e i z 1 bytes h1 hi L H K (by rw [A];rfl) (by decide) _ n xs C V ad 1 E [u] hx rfl ?_ ?_ b3 b2 r λv' w' Z N _ I=>?_
 ·intro j v U;match j,U with
  | 0,U=>simp at U;subst U;simpa [Addr.add] using hu
 ·intro v F;simp at F;subst F;exact O
 ·obtain ⟨a',Y,rfl,_⟩:=Pl.own Z;refine hK a' Y w' Z N λb hb X=>?_;have h:=X.own n c;rcases I with h3 | h3
  ·exact dq.jV (n:=n+1) (c:=Y) (by rw [h3];exact h)
  ·exact dq.jV (n:=n+1) (c:=Y) (by rw [h3];intro h4;cases h4;omega)
theorem Ints.y5 {w w':ej} {a Z:OA} {n m c:Nat} {l:Lz} (h:Ints w a n l) (X:w.grownBy w' (Value.slice Z m c).ownBlock) (hne:0<n->dq Z (ablk a)):Ints w' a n l :=
 h.grown X λY=>(hne Y).own m c
theorem gN {w w':ej} {B:Nat} {e:TypeId} {a Y:OA} {n c m X:Nat} {xs:List Value} (h:w.ownsRow B e 1 (.slice a n c) n xs) (V:w.grownBy w' (Value.slice Y m X).ownBlock) (hne:dq Y (ablk a)) :
  w'.ownsRow B e 1 (.slice a n c) n xs:=by
 rcases lS h with ⟨rfl,rfl,rfl⟩ | ⟨_,Z⟩
 ·have U:=jd h;obtain rfl:xs=[]:=NF U;exact cJ
 ·exact fh h (V.block _ Z (λe=>hne.own m X e.symm))
theorem bG {w w':ej} {Z:OA} {m c:Nat} {ad:Addr} {v:Value} (Y:w.grownBy w' (Value.slice Z m c).ownBlock) (h:w.cell? ad=some v) (hne:dq Z ad.block):w'.cell? ad=some v :=
 Y.cell h (λe=>hne.own m c e.symm)
theorem zZ (w:ej) (l:Lz) (e:TypeId) {B:Nat} (Z:B<=w.heap.size) (Y:l.length<=maxLen) :
  (w.alloc (.cells (l.map (Value.int .i64)).toArray e)).ownsRow B e 1 (.slice (some ⟨w.heap.size,0,none⟩) l.length l.length) l.length (l.map (Value.int .i64)):=by simpa using Rn w (l.map (Value.int .i64)).toArray l.length Z Y (by simp)
theorem xd {P:Int} (Z:0<P) (M:Nat) (mod:Lz) (x y:Int):0<=dp P M mod x y/\dp P M mod x y<P ^ M:=by have:=oV Z (eH P (mU M mod) (digs x P M) (digs y P M) M M) (dL.eH Z _ _ _ _ _);rwa [iF] at this
def powTo (mul:Int->Int):Nat->Lz->Int->Lz
 | 0,l,_=>l
 | n+1,l,y=>if y=0\/y ∈ l then l else powTo mul n (l ++ [y]) (mul y)
theorem jw (mul:Int->Int) (n:Nat) (l:Lz) (y:Int) (h:y=0\/y ∈ l):powTo mul n l y=l:=by
 cases n
 ·rfl
 ·rw [powTo,M7 h]
theorem sY (mul:Int->Int) (n:Nat) (l:Lz) (y:Int) (h:¬ (y=0\/y ∈ l)):powTo mul (n+1) l y=powTo mul n (l ++ [y]) (mul y):=by rw [powTo,M8 h]
def eX (P:Int) (M:Nat) (mod:Lz) (q:Nat) (x:Int):Lz:=powTo (λy=>dp P M mod y x) q [1] x
def fX (P:Int) (M:Nat) (mod:Lz) (q:Nat) (x:Int):Bool :=
 (eX P M mod q x).length == q - 1 && dp P M mod (nth (eX P M mod q x) (q - 2)) x == 1
def genTo (P:Int) (M:Nat) (mod:Lz) (q:Nat):Nat->Nat->Lz
 | 0,_=>[]
 | n+1,x=>if fX P M mod q x then eX P M mod q x else genTo P M mod q n (x+1)
def fW (P:Int) (M:Nat) (mod:Lz) (q:Nat):Lz:=genTo P M mod q (q - 1) 1
def cntF:List Bool->Nat
 | []=>0
 | b :: l=>(if b then 0 else 1)+cntF l
theorem ud:∀(l:List Bool) (i:Nat),l[i]? = some false->cntF (l.set i true)+1=cntF l
 | [],i,h=>by simp at h
 | b :: l,0,h=>by simp at h;subst h;simp [cntF];omega
 | b :: l,i+1,h=>by simp at h;have:=ud l i h;simp [cntF];omega
theorem sP (n:Nat):cntF (List.replicate n false)=n:=by
 induction n with
 | zero=>rfl
 | succ n Z=>simp [Qj,cntF,Z];omega
theorem z7 (mul:Int->Int) (Q:Int) (hm:∀y,0<=mul y/\mul y<Q):∀(n:Nat) (l:Lz) (y:Int),0<=y/\y<Q->(∀e ∈ l,0<=e/\e<Q)->∀e ∈ powTo mul n l y,0<=e/\e<Q
 | 0,l,_,_,Z=>Z
 | n+1,l,y,hy,Z=>by
  unfold powTo;split
  ·exact Z
  ·refine z7 mul Q hm n _ _ (hm y) λe he=>?_;rcases List.mem_append.1 he with h | h
   ·exact Z e h
   ·rw [List.mem_singleton.1 h];exact hy
theorem Kt {P:Int} (V:0<P) (M:Nat) (mod:Lz) (q:Nat) (x:Int) (X:(q:Int)=P ^ M) (Y:2<=q) (U:0<=x) (Z:x<q):∀e ∈ eX P M mod q x,0<=e/\e<q:=by refine z7 _ _ (λy=>by rw [X];exact xd V M mod y x) _ _ _ ⟨U,Z⟩ λe he=>?_;rw [List.mem_singleton.1 he];omega
theorem qQ {P:Int} (V:0<P) (M:Nat) (mod:Lz) (q:Nat) (x:Int) (X:(q:Int)=P ^ M) (Y:2<=q) (U:0<=x) (Z:x<q) (i:Nat):0<=nth (eX P M mod q x) i/\nth (eX P M mod q x) i<q:=by
 rcases NU i (eX P M mod q x).length with h | h
 ·exact Kt V M mod q x X Y U Z _ (aG h)
 ·rw [jI h];omega
def fsum (P:Int):Nat->Int->Int->Int
 | 0,_,_=>0
 | m+1,x,y=>(x+y) % P+P * fsum P m (x / P) (y / P)
def fneg (P:Int):Nat->Int->Int
 | 0,_=>0
 | m+1,x=>(P - x % P) % P+P * fneg P m (x / P)
theorem vx (P:Int):∀m,fsum P m 0 0=0
 | 0=>rfl
 | m+1=>by simp [fsum,vx P m]
theorem vG (P:Int):∀m,fneg P m 0=0
 | 0=>rfl
 | m+1=>by simp [fneg,vG P m]
theorem xk {P:Int} (Z:0<P):∀(m:Nat) (x y:Int),0<=fsum P m x y/\fsum P m x y<P ^ m
 | 0,x,y=>by simp [fsum]
 | m+1,x,y=>by have Y:=xk Z m (x / P) (y / P);have h1:=NV (x+y) (show P ≠ 0 by omega);have h2:=NS (x+y) Z;have h3:0<=P * fsum P m (x / P) (y / P):=OZ (by omega) Y.1;have h4:=NQ (show fsum P m (x / P) (y / P)+1<=P ^ m by omega) (show 0<=P by omega);rw [OM] at h4;simp only [fsum,N1];rw [OE (P ^ m)];omega
theorem rF {P:Int} (Z:0<P):∀(m:Nat) (x:Int),0<=fneg P m x/\fneg P m x<P ^ m
 | 0,x=>by simp [fneg]
 | m+1,x=>by have Y:=rF Z m (x / P);have h1:=NV (P - x % P) (show P ≠ 0 by omega);have h2:=NS (P - x % P) Z;have h3:0<=P * fneg P m (x / P):=OZ (by omega) Y.1;have h4:=NQ (show fneg P m (x / P)+1<=P ^ m by omega) (show 0<=P by omega);rw [OM] at h4;simp only [fneg,N1];rw [OE (P ^ m)];omega
theorem oz (P:Int) (Z:0<P):∀(m:Nat) (x:Int),0<=x->x<P ^ m->jG x P m=0
 | 0,x,h0,h1=>by simp at h1;simp [jG];omega
 | m+1,x,h0,h1=>by rw [qh];refine oz P Z m (x / P) (Ox h0 (by omega)) ?_;rw [N1] at h1;exact O2 Z h1
theorem I1 (x y:Nat):(x ^^^ y) % 2=(x+y) % 2:=by have h:=RK x y 0;simp only [Nat.testBit_zero] at h;have Y:=Px x;have hy:=Px y;have Z:=Px (x ^^^ y);rcases Y with Y | Y<;>rcases hy with hy | hy<;>rcases Z with Z | Z<;>simp [Y,hy,Z] at h<;>omega
theorem yV:∀(m:Nat) (x y:Nat),x<2 ^ m->y<2 ^ m->((x ^^^ y:Nat):Int)=fsum 2 m x y
 | 0,x,y,Z,hy=>by
  have h1:x=0:=by simp at Z;omega
  have h2:y=0:=by simp at hy;omega
  subst h1;subst h2;rfl
 | m+1,x,y,Z,hy=>by
  have X:=yV m (x / 2) (y / 2) (by rw [Pf] at Z;omega) (by rw [Pf] at hy;omega);simp only [fsum];have e1:((x:Int) / 2)=((x / 2:Nat):Int):=by omega
  have Y:((y:Int) / 2)=((y / 2:Nat):Int):=by omega
  rw [e1,Y,<- X,<- Nat.xor_div_two];have h3:(x ^^^ y) % 2=(x+y) % 2:=I1 x y;omega
theorem lC {P:Program} (w:ej) (t ty e:TypeId) (i:TypeInfo) (X:P.underlying t=some (.slice e)) (hi:P.info? e=some i) (a Z:OA) (n c cs:Nat) (Y:n<=c) :
  (Builtin.append_ #[t,t] ty #[.slice a n c,.slice Z 0 cs]).run P w = .ok (.slice a n c) w:=by cases a<;>cases Z<;>simp [Builtin.append_,run_underlying X,sizeOf,typeInfo,hi,Builtin.lenOf,Builtin.firstCells,Y,storeCells,loadCells,loadCellsFrom]
theorem o7 {w:ej} {B:Nat} {e:TypeId} {a:OA} {c n:Nat} {xs:List Value} (h:w.ownsRow B e 1 (.slice a n c) n xs):n<=c:=by
 rcases h.2 with ⟨Z,h0⟩ | ⟨g,cap,cur,Z,Y,X,hle,_⟩
 ·omega
 ·cases Z;exact hle
theorem tT {P:Program} {w:ej} (t ty e:TypeId) (z:Value) (bytes:Nat)
  (h1:P.underlying t=some (.slice e)) (h2:(P.info? e).map (λi=>(i.zero,i.size,i.bytes))=some (some z,1,bytes)) (F:z.cells = #[z])
  (B:Nat) (a:OA) (n c:Nat) (xs:List Value) (Z:w.ownsRow B e 1 (.slice a n c) n xs)
  (Y:OA) (m K:Nat) (news:List Value) (D:Pl Y m) (G:news.length=m) (hc:∀j,j<m->w.cell? ⟨ablk Y,aN Y+j,none⟩=news[j]?) (O:∀u ∈ news,u.oneCell'=true)
  (C:(n+m) * bytes<=140737488355328) (A:n+m<=maxLen) (E:B<=w.heap.size) :
  ∃a' X w',(Builtin.append_ #[t,t] ty #[.slice a n c,.slice Y m K]).run P w = .ok (.slice a' (n+m) X) w'/\w'.ownsRow B e 1 (.slice a' (n+m) X) (n+m) (xs ++ news) /\
   w.grownBy w' (Value.slice a n c).ownBlock/\(∀b,b<w.heap.size->dq a b->dq a' b):=by
 obtain ⟨i,hi,N,I,L⟩:=info_parts h2;by_cases hm:m=0
 ·subst hm;obtain rfl:news=[]:=NF G;exact ⟨a,c,w,lC w t ty e i h1 hi a Y n c K (o7 Z),by simpa using Z,World.grownBy.refl _ _,λb _ h=>h⟩
 ·have H:=D (by omega);obtain ⟨v',w',hr,h3,h4,_,V⟩:=run_append_own_at (P:=P) w B t ty e i z 1 bytes h1 hi N I L (by rw [F];rfl) (by decide) _ n xs Z ⟨ablk Y,aN Y,none⟩ m K news (by omega)
   (λj u hu=>by have hj:=(List.getElem?_eq_some_iff.1 hu).1;rw [Qn,hc j (by omega)];exact hu) O A C E
  obtain ⟨a',X,rfl,_⟩:=Pl.own h3;refine ⟨a',X,w',by rw [H];exact hr,h3,h4,λb hb U=>?_⟩;have h:=U.own n c;rcases V with V | V
  ·exact dq.jV (n:=n+m) (c:=X) (by rw [V];exact h)
  ·exact dq.jV (n:=n+m) (c:=X) (by rw [V];intro r;cases r;omega)
theorem fZ {P:Program} {w:ej} {ops:Array Oper} {rest:List Oper} {o:Oper} {ac:Act} {Q:Exit->Act->ej->Prop}
  (L:o.guard=none) (s x:Operand) (t e:TypeId) (O:o.op = .call { callee:=.builtin .append,args:=#[s,x],argTypes:=#[t,t] }) (z:Value) (bytes:Nat)
  (h1:P.underlying t=some (.slice e)) (h2:(P.info? e).map (λi=>(i.zero,i.size,i.bytes))=some (some z,1,bytes)) (G:z.cells = #[z])
  (B:Nat) (a:OA) (n c:Nat) (xs:List Value) (H:ac.eval s = .slice a n c) (Y:w.ownsRow B e 1 (.slice a n c) n xs)
  (Z:OA) (m N:Nat) (news:List Value) (r:ac.eval x = .slice Z m N) (E:Pl Z m) (I:news.length=m) (hc:∀j,j<m->w.cell? ⟨ablk Z,aN Z+j,none⟩=news[j]?) (V:∀u ∈ news,u.oneCell'=true)
  (C:(n+m) * bytes<=140737488355328) (A:n+m<=maxLen) (F:B<=w.heap.size)
  (D:∀a' X w',w'.ownsRow B e 1 (.slice a' (n+m) X) (n+m) (xs ++ news)->w.grownBy w' (Value.slice a n c).ownBlock->(∀b,b<w.heap.size->dq a b->dq a' b)->wpList P ops Q rest (ac.put o.dst (.slice a' (n+m) X)) w') :
  wpList P ops Q (o :: rest) ac w:=by refine wpList_plain L λK U=>?_;obtain ⟨a',X,w',hr,h3,h4,h5⟩:=tT (P:=P) t o.type e z bytes h1 h2 G B a n c xs Y Z m N news E I hc V C A F;unfold Oper.wp execOp;simp only [O,resolve,invoke,builtin,QF,QG,PW,P7,Oq,QH,H,r,hr];exact U _ _ (D a' X w' h3 h4 h5)
theorem gB {P:Program} {w:ej} {ops:Array Oper} {o:Oper} {ac:Act} {K:Act->ej->Prop} {Q:Exit->Act->ej->Prop} {E:Prop}
  (N:o.guard=none) (s x:Operand) (t e:TypeId) (U:o.op = .call { callee:=.builtin .append,args:=#[s,x],argTypes:=#[t,t] }) (z:Value) (bytes:Nat)
  (h1:P.underlying t=some (.slice e)) (h2:(P.info? e).map (λi=>(i.zero,i.size,i.bytes))=some (some z,1,bytes)) (H:z.cells = #[z])
  (B:Nat) (a:OA) (n c:Nat) (xs:List Value) (I:ac.eval s = .slice a n c) (Y:w.ownsRow B e 1 (.slice a n c) n xs)
  (Z:OA) (m O:Nat) (news:List Value) (r:ac.eval x = .slice Z m O) (F:Pl Z m) (L:news.length=m) (hc:∀j,j<m->w.cell? ⟨ablk Z,aN Z+j,none⟩=news[j]?) (V:∀u ∈ news,u.oneCell'=true)
  (C:(n+m) * bytes<=140737488355328) (A:n+m<=maxLen) (G:B<=w.heap.size)
  (D:∀a' X w',w'.ownsRow B e 1 (.slice a' (n+m) X) (n+m) (xs ++ news)->w.grownBy w' (Value.slice a n c).ownBlock->(∀b,b<w.heap.size->dq a b->dq a' b)->K (ac.put o.dst (.slice a' (n+m) X)) w') :
  if Region.wanted o (yielded ops ac.tmps)=true then Oper.wp P o ac w K Q else E:=by
 have hw:Region.wanted o (yielded ops ac.tmps)=true:=by simp [Region.wanted,N]
 rw [M7 hw];obtain ⟨a',X,w',hr,h3,h4,h5⟩:=tT (P:=P) t o.type e z bytes h1 h2 H B a n c xs Y Z m O news F L hc V C A G;unfold Oper.wp execOp;simp only [U,resolve,invoke,builtin,QF,QG,PW,P7,Oq,QH,I,r,hr];exact D a' X w' h3 h4 h5
theorem run_mk {P:Program} (t e:TypeId) (z:Value) (bytes:Nat) (h1:P.underlying t=some (.slice e)) (h2:(P.info? e).map (λi=>(i.zero,i.size,i.bytes))=some (some z,1,bytes)) (V:z.cells = #[z])
  (n:Nat) (O:bytes * n<=281474976710656) (U:n<=9223372036854775807) (w:ej) :
  (Instr.makeSlice t (cG n) (cG n)).run P w = .ok (.slice (some ⟨w.heap.size,0,none⟩) n n) (w.alloc (.cells (List.replicate n z).toArray e)):=by obtain ⟨i,hi,Y,Z,X⟩:=info_parts h2;have h:=run_make (P:=P) w t e i z h1 hi Y .i64 .i64 n n (by omega) (Pu _) (by rw [X];omega) (by omega);rw [Z,RG,V,M9] at h;rw [h];congr 3;rw [<- toList_madeCells_one]
theorem Lc (w:ej) (e:TypeId) (z:Value) (n:Nat) {B:Nat} (Z:B<=w.heap.size) (Y:n<=maxLen) :
  (w.alloc (.cells (List.replicate n z).toArray e)).ownsRow B e 1 (.slice (some ⟨w.heap.size,0,none⟩) n n) n (List.replicate n z):=by simpa using Rn w (List.replicate n z).toArray n Z Y (by simp)
theorem Ints.news {w:ej} {a:OA} {n:Nat} {l:Lz} (h:Ints w a n l):∀j,j<n->w.cell? ⟨ablk a,aN a+j,none⟩=(l.map (Value.int .i64))[j]?:=by intro j Z;rw [h.cell j Z,OQ,NJ (by rw [h.len];exact Z),an (by rw [h.len];exact Z)];rfl
theorem Below.fS {Z w:ej} (h:SJ Z w) (o:Obj):SJ Z (w.alloc o):=h.alloc h.size o
theorem k8 (w:ej) (e:TypeId):(w.alloc (.cells #[] e)).ownsRow w.heap.size e 1 (.slice (some ⟨w.heap.size,0,none⟩) 0 0) 0 [] :=
 World.ownsRow_made w #[] 0 (M4 _) (Nb _) rfl
theorem aF (w:ej) (cs:Array Value) (e:TypeId) {g:Nat} (Z:g=w.heap.size) (i:Nat):(w.alloc (.cells cs e)).cell? ⟨g,i,none⟩=cs[i]?:=by subst Z;exact QU ..
theorem mH (w:ej) (e:TypeId) (z:Value) (n:Nat) {B g:Nat} (X:g=w.heap.size) (Z:B<=w.heap.size) (Y:n<=maxLen) :
  (w.alloc (.cells (Array.replicate n z) e)).ownsRow B e 1 (.slice (some ⟨g,0,none⟩) n n) n (List.replicate n z):=by subst X;simpa using Lc w e z n Z Y
theorem pc {w w':ej} {row:Option Nat} (h:w.drew.grownBy w' row):w.grownBy w' row:=⟨h.os,h.tape,h.output,h.size,h.block⟩
section
def sm:Nat->(Nat->Int)->Int
 | 0,_=>0
 | n+1,f=>sm n f+f n
theorem bV {n:Nat} {f g:Nat->Int} (h:∀i,i<n->f i=g i):sm n f=sm n g:=by
 induction n with
 | zero=>rfl
 | succ n Z=>rw [sm,sm,Z λi hi=>h i (by omega),h n (by omega)]
theorem wB (n:Nat) (f g:Nat->Int):sm n (λi=>f i+g i)=sm n f+sm n g:=by
 induction n with
 | zero=>rfl
 | succ n Z=>simp only [sm,Z];omega
theorem jH (n:Nat):sm n (λ_=>0)=0:=by
 induction n with
 | zero=>rfl
 | succ n Z=>simp only [sm,Z];rfl
theorem Jg (n:Nat) (c:Int) (f:Nat->Int):sm n (λi=>c * f i)=c * sm n f:=by
 induction n with
 | zero=>simp [sm]
 | succ n Z=>simp only [sm,Z,OM]
theorem D8 (n m:Nat) (f:Nat->Nat->Int):sm n (λi=>sm m (λj=>f i j))=sm m (λj=>sm n (λi=>f i j)):=by
 induction n with
 | zero=>simp only [sm];rw [jH]
 | succ n Z=>simp only [sm,Z,wB]
theorem Ld {n:Nat} {f:Nat->Int} {P:Int} (h:∀i,i<n->P ∣ f i):P ∣ sm n f:=by
 induction n with
 | zero=>exact ⟨0,by simp [sm]⟩
 | succ n Z=>exact Q1 (Z λi hi=>h i (by omega)) (h n (by omega))
theorem kH {n:Nat} {f:Nat->Int} {k:Nat} (Y:k<n) (h:∀i,i<n->i ≠ k->f i=0):sm n f=f k:=by
 induction n with
 | zero=>omega
 | succ n Z =>
  rw [sm]
  by_cases e:k=n
  ·subst e
   rw [bV (g:=λ_=>0) λi hi=>h i (by omega) (by omega),jH];omega
  ·rw [Z (by omega) λi hi=>h i (by omega),h n (by omega) (by omega)];omega
theorem Iu (n:Nat) (f:Nat->Int):sm (n+1) f=f 0+sm n (λi=>f (i+1)):=by
 induction n with
 | zero=>simp [sm]
 | succ n Z=>rw [sm,Z];simp only [sm];omega
def uF (M:Nat) (low:Nat->Int) (v:Nat->Int):Nat->Int :=
 λi=>if i<M then (if i=0 then 0 else v (i - 1)) - v (M - 1) * low i else 0
def fB (M:Nat) (low:Nat->Int):Nat->(Nat->Int)->Nat->Int
 | 0,v=>v
 | k+1,v=>uF M low (fB M low k v)
variable {M:Nat} {low:Nat->Int}
theorem JS (u v:Nat->Int):uF M low (λi=>u i+v i)=λi=>uF M low u i+uF M low v i:=by
 funext i;simp only [uF];split
 ·split
  ·rw [Q2];omega
  ·rw [Q2];omega
 ·rfl
theorem GF (c:Int) (v:Nat->Int):uF M low (λi=>c * v i)=λi=>c * uF M low v i:=by
 funext i;simp only [uF];split
 ·split
  ·rw [RH,Rp,Oh]
  ·rw [RH,Oh]
 ·rw [Rp]
theorem D2 (k:Nat) (u v:Nat->Int):fB M low k (λi=>u i+v i)=λi=>fB M low k u i+fB M low k v i:=by
 induction k with
 | zero=>rfl
 | succ k Z=>rw [fB,Z,JS];rfl
theorem ko (k:Nat) (c:Int) (v:Nat->Int):fB M low k (λi=>c * v i)=λi=>c * fB M low k v i:=by
 induction k with
 | zero=>rfl
 | succ k Z=>rw [fB,Z,GF];rfl
theorem Aq (k:Nat):fB M low k (λ_=>0)=λ_=>0:=by have:=ko (M:=M) (low:=low) k 0 (λ_=>0);simpa using this
theorem yo (k n:Nat) (f:Nat->Nat->Int):fB M low k (λi=>sm n (λj=>f j i))=λi=>sm n (λj=>fB M low k (f j) i):=by
 induction n with
 | zero=>simp only [sm];exact Aq k
 | succ n Z=>simp only [sm];rw [D2,Z]
theorem oM (k l:Nat) (v:Nat->Int):fB M low (k+l) v=fB M low k (fB M low l v):=by
 induction k with
 | zero=>rw [Qm];rfl
 | succ k Z=>rw [show k+1+l=(k+l)+1 by omega,fB,fB,Z]
def eV (j:Nat):Nat->Int:=λi=>if i=j then 1 else 0
def Sh (M:Nat) (v:Nat->Int):Prop:=∀i,M<=i->v i=0
theorem GS (v:Nat->Int):Sh M (uF M low v):=λi hi=>by simp only [uF];rw [M8 (by omega)]
theorem Ls {v:Nat->Int} (h:Sh M v) (k:Nat):Sh M (fB M low k v):=by
 cases k with
 | zero=>exact h
 | succ k=>exact GS _
theorem DZ (j:Nat) (Y:j<M):fB M low j (eV 0)=eV j:=by
 induction j with
 | zero=>rfl
 | succ j Z =>
  rw [fB,Z (by omega)]
  funext i
  simp only [uF,eV]
  by_cases h:i<M
  ·rw [M7 h,M8 (show ¬ M - 1=j by omega)]
   by_cases h0:i=0
   ·rw [M7 h0,M8 (by omega)];omega
   ·rw [M8 h0]
    by_cases h1:i=j+1
    ·rw [M7 h1,M7 (by omega)];omega
    ·rw [M8 h1,M8 (by omega)];omega
  ·rw [M8 h,M8 (by omega)]
theorem Sh.expand {v:Nat->Int} (h:Sh M v):v=λk=>sm M (λj=>v j * fB M low j (eV 0) k):=by
 funext k;rw [bV (g:=λj=>v j * eV j k) λj Z=>by rw [DZ j Z]];by_cases Y:k<M
 ·rw [kH Y λi hi hne=>by simp only [eV];rw [M8 (by omega)];omega];simp [eV]
 ·rw [h k (by omega),bV (g:=λ_=>0) λj Z=>by simp only [eV];rw [M8 (by omega)];omega,jH]
def gF (M:Nat) (low:Nat->Int) (x y:Nat->Int):Nat->Int:=λk=>sm M (λi=>x i * fB M low i y k)
theorem J0 {x y:Nat->Int} (hy:Sh M y):Sh M (gF M low x y):=λk Z=>by simp only [gF];rw [bV (g:=λ_=>0) λi _=>by rw [Ls hy i k Z];omega,jH]
theorem l0 {x y:Nat->Int} (hy:Sh M y):gF M low x y=λk=>sm M (λi=>sm M (λj=>x i * y j * fB M low (i+j) (eV 0) k)):=by funext k;simp only [gF];refine bV λi _=>?_;have e:fB M low i y=fB M low i (λk=>sm M (λj=>y j * fB M low j (eV 0) k)):=congrArg _ hy.expand;rw [e,yo];simp only;rw [<- Jg];refine bV λj _=>?_;rw [ko,oM,Oh]
theorem mK {x y:Nat->Int} (Z:Sh M x) (hy:Sh M y):gF M low x y=gF M low y x:=by rw [l0 Z,l0 hy];funext k;rw [D8];refine bV λi _=>bV λj _=>?_;rw [OE (x j),Nat.add_comm j i]
theorem eI (x y z:Nat->Int):gF M low x (gF M low y z)=λk=>sm M (λi=>sm M (λj=>x i * y j * fB M low (i+j) z k)):=by funext k;refine bV λi _=>?_;rw [show gF M low y z=(λk=>sm M (λj=>y j * fB M low j z k)) from rfl,yo];simp only;rw [<- Jg];refine bV λj _=>?_;rw [ko,oM,Oh]
theorem uA (x y z:Nat->Int):gF M low x (gF M low y z)=gF M low y (gF M low x z):=by rw [eI,eI];funext k;rw [D8];refine bV λi _=>bV λj _=>?_;rw [OE (x j),Nat.add_comm j i]
theorem CF {x y z:Nat->Int} (Y:Sh M x) (hy:Sh M y) (Z:Sh M z):gF M low (gF M low x y) z=gF M low x (gF M low y z):=by rw [mK (J0 hy) Z,uA,mK Z hy]
theorem IL {x:Nat->Int} (Z:0<M) (Y:Sh M x):gF M low (eV 0) x=x:=by funext k;simp only [gF];rw [kH Z λi _ hne=>by simp only [eV];rw [M8 hne];omega];simp [eV,fB]
theorem uk (x y z:Nat->Int):gF M low x (λi=>y i+z i)=λk=>gF M low x y k+gF M low x z k:=by funext k;simp only [gF];rw [<- wB];refine bV λi _=>?_;rw [D2,OM]
def Cg (P:Int) (u v:Nat->Int):Prop:=∀i,P ∣ u i - v i
theorem Cg.refl (P:Int) (u:Nat->Int):Cg P u u:=λi=>⟨0,by omega⟩
theorem Cg.symm {P:Int} {u v:Nat->Int} (h:Cg P u v):Cg P v u:=λi=>by obtain ⟨c,Z⟩:=h i;exact ⟨-c,by rw [Q3];omega⟩
theorem Cg.trans {P:Int} {u v x:Nat->Int} (h:Cg P u v) (k:Cg P v x):Cg P u x:=λi=>by obtain ⟨c,Z⟩:=h i;obtain ⟨d,hd⟩:=k i;exact ⟨c+d,by rw [OM];omega⟩
theorem Cg.of_eq {P:Int} {u v:Nat->Int} (h:u=v):Cg P u v:=h ▸ Cg.refl P u
theorem Iq {P:Int} {u v:Nat->Int} (h:Cg P u v):Cg P (uF M low u) (uF M low v):=λi=>by
 simp only [uF];split
 ·obtain ⟨c,Z⟩:=h (M - 1);have e:u (M - 1) * low i - v (M - 1) * low i=P * (c * low i):=by rw [<- Q4,Z,Oh]
  split
  ·exact ⟨-(c * low i),by rw [Q3,<- e];omega⟩
  ·obtain ⟨d,hd⟩:=h (i - 1);exact ⟨d - c * low i,by rw [RH,<- e,<- hd];omega⟩
 ·exact ⟨0,by omega⟩
theorem LX {P:Int} {u v:Nat->Int} (h:Cg P u v) (k:Nat):Cg P (fB M low k u) (fB M low k v):=by
 induction k with
 | zero=>exact h
 | succ k Z=>exact Iq Z
theorem Cg.add {P:Int} {u v x y:Nat->Int} (h:Cg P u v) (k:Cg P x y):Cg P (λi=>u i+x i) (λi=>v i+y i):=λi=>by obtain ⟨c,Z⟩:=h i;obtain ⟨d,hd⟩:=k i;exact ⟨c+d,by simp only [OM];omega⟩
theorem AG {P a b c d:Int} (h:P ∣ a - b) (k:P ∣ c - d):P ∣ a * c - b * d:=by
 obtain ⟨x,U⟩:=h;obtain ⟨y,hy⟩:=k;have V:a=b+P * x:=by omega
 have Y:c=d+P * y:=by omega
 refine ⟨x * d+b * y+P * x * y,?_⟩;rw [V,Y];simp only [Q2,OM];have e1:b * (P * y)=P * (b * y):=by rw [<- Oh,OE b P,Oh]
 have X:P * x * (P * y)=P * (P * x * y):=by rw [<- Oh,OE (P * x) P,Oh]
 have Z:P * (x * d)=P * x * d:=by rw [Oh]
 rw [e1,X,Z];omega
theorem wG {P:Int} {u v x y:Nat->Int} (h:Cg P u v) (k:Cg P x y):Cg P (gF M low u x) (gF M low v y):=λi=>by
 simp only [gF];have e:sm M (λj=>u j * fB M low j x i) - sm M (λj=>v j * fB M low j y i)=sm M (λj=>u j * fB M low j x i - v j * fB M low j y i):=by
  have:=wB M (λj=>u j * fB M low j x i - v j * fB M low j y i) (λj=>v j * fB M low j y i);have Z:sm M (λj=>u j * fB M low j x i - v j * fB M low j y i+v j * fB M low j y i)=sm M (λj=>u j * fB M low j x i):=bV λj _=>by omega
  omega
 rw [e];exact Ld λj _=>AG (h j) (LX k j i)
end
section
def dV (P:Int) (M:Nat) (x:Int):Nat->Int:=nth (digs x P M)
theorem n7 (P:Int) (M:Nat) (x:Int):Sh M (dV P M x):=λi hi=>jI (by rw [bM];exact hi)
theorem pY {P:Int} (Z:0<P):∀(M:Nat) (x:Int),0<=x->x<P ^ M->valu P (digs x P M)=x
 | 0,x,h0,h1=>by simp at h1;simp [digs,valu];omega
 | M+1,x,h0,h1=>by rw [digs,valu,pY Z M (x / P) (Ox h0 (by omega)) (O2 Z (by rwa [N1] at h1))];exact QV x P
theorem pU {P:Int} (c r:Int) (M:Nat) (Z:0<=c) (Y:c<P):digs (c+P * r) P (M+1)=c :: digs r P M:=by rw [digs,Int.add_mul_emod_self_left,Qu Z Y,QW _ _ (by omega),QI Z Y,Int.zero_add]
theorem mJ {P:Int}:∀(l:Lz),dL P l->digs (valu P l) P l.length=l
 | [],_=>rfl
 | c :: l,h=>by have h0:=h 0;simp only [nth,Qk] at h0;rw [valu,NO,pU c _ _ h0.1 h0.2,mJ l (λi=>by simpa [nth] using h (i+1))]
theorem qa (P x:Int):P ∣ x % P - x:=⟨-(x / P),by have:=QV x P;rw [Q3];omega⟩
theorem FW {P a b:Int} (U:0<P) (ha:0<=a) (Y:a<P) (hb:0<=b) (V:b<P) (h:P ∣ a - b):a=b:=by
 obtain ⟨c,X⟩:=h;have Z:c=0:=by
  rcases Int.lt_trichotomy c 0 with h1 | h1 | h1
  ·have:=NQ (show c <= -1 by omega) (show 0<=P by omega);omega
  ·exact h1
  ·have:=NQ (show 1<=c by omega) (show 0<=P by omega);omega
 rw [Z] at X;omega
theorem L4 {P:Int} (Z:0<P) {M:Nat} {x y:Int} (U:0<=x) (X:x<P ^ M) (V:0<=y) (Y:y<P ^ M) (h:Cg P (dV P M x) (dV P M y)):x=y:=by
 have e:digs x P M=digs y P M:=by refine fy (by rw [bM,bM]) λi _=>?_;have h1:=dL.digs Z M x i;have h2:=dL.digs Z M y i;exact FW Z h1.1 h1.2 h2.1 h2.2 (h i)
 rw [<- pY Z M x U X,<- pY Z M y V Y,e]
theorem eA (c:Int) (l:Lz):nth (c :: l) 0=c:=by simp [nth]
theorem dQ (c:Int) (l:Lz) (i:Nat):nth (c :: l) (i+1)=nth l i:=by simp [nth]
theorem gK {P:Int} (Z:0<P):∀(M:Nat) (x y:Int),Cg P (dV P M (fsum P M x y)) (λi=>dV P M x i+dV P M y i)
 | 0,x,y=>λi=>by simp [dV,digs,nth]
 | M+1,x,y=>λi=>by
  simp only [dV,fsum];rw [pU _ _ _ (NV _ (by omega)) (NS _ Z),digs,digs];match i with
  | 0 =>
   rw [eA,eA,eA]
   have h1:=qa P (x+y)
   have h2:=qa P x
   have h3:=qa P y
   have h4:=Int.dvd_sub (Int.dvd_sub h1 h2) h3
   rwa [show (x+y) % P - (x+y) - (x % P - x) - (y % P - y)=(x+y) % P - (x % P+y % P) by omega] at h4
  | i+1 =>
   rw [dQ,dQ,dQ]
   exact gK Z M (x / P) (y / P) i
theorem D5 {P:Int} (Z:0<P):∀(M:Nat) (x:Int),Cg P (dV P M (fneg P M x)) (λi=>- dV P M x i)
 | 0,x=>λi=>by simp [dV,digs,nth]
 | M+1,x=>λi=>by
  simp only [dV,fneg];rw [pU _ _ _ (NV _ (by omega)) (NS _ Z),digs];match i with
  | 0 =>
   rw [eA,eA]
   have h1:=qa P (P - x % P)
   have h4:=Q1 h1 (Int.dvd_refl P)
   rwa [show (P - x % P) % P - (P - x % P)+P=(P - x % P) % P - - (x % P) by omega] at h4
  | i+1 =>
   rw [dQ,dQ]
   exact D5 Z M (x / P) i
theorem pf (P:Int):∀(M:Nat),dV P M 0=λ_=>0
 | 0=>by funext i;simp [dV,digs,nth]
 | M+1=>by
  funext i;simp only [dV,digs];match i with
  | 0=>rw [eA];simp
  | i+1=>rw [dQ];have:=congrFun (pf P M) i;simpa [dV] using this
theorem Lv {P:Int} (Y:2<=P) {M:Nat} (Z:0<M):dV P M 1=eV 0:=by
 obtain ⟨m,rfl⟩:∃m,M=m+1:=⟨M - 1,by omega⟩
 funext i;simp only [dV,digs];match i with
 | 0=>rw [eA];simp [eV];exact Qu (by omega) (by omega)
 | i+1 =>
  rw [dQ,QI (by omega) (by omega)]
  have:=congrFun (pf P m) i
  simpa [dV,eV] using this
theorem JQ {out:Lz} {M i:Nat} (Z:out.length=M) (hi:i<M):nth (shl out) i=if i=0 then 0 else nth out (i - 1):=by
 match i with
 | 0=>simp [shl,nth]
 | i+1 =>
  rw [shl,dQ,M8 (by omega)]
  simp only [nth,Na,PU]
  rw [M7 (by omega)];rfl
theorem vL {P:Int} (X:0<P) (low a b:Lz) {M:Nat} (ha:a.length=M):∀k,k<=M ->
  Cg P (nth (eH P low a b M k)) (λi=>sm k (λj=>nth b (M - k+j) * fB M (nth low) j (nth a) i))
 | 0,_=>λi=>by
  have e:nth (eH P low a b M 0) i=0:=by simp only [eH,nth,Na,NP];split<;>rfl
  rw [e];simp [sm]
 | k+1,O=>by
  have V:=Iq (M:=M) (low:=nth low) (vL X low a b ha k (by omega));have e1:(λi=>sm (k+1) (λj=>nth b (M - (k+1)+j) * fB M (nth low) j (nth a) i)) =
    λi=>uF M (nth low) (λi=>sm k (λj=>nth b (M - k+j) * fB M (nth low) j (nth a) i)) i+nth b (M - 1 - k) * nth a i:=by
   funext i;rw [Iu,show M - (k+1)+0=M - 1 - k by omega];have Z:=congrFun (yo (M:=M) (low:=nth low) 1 k (λj i=>nth b (M - k+j) * fB M (nth low) j (nth a) i)) i;have Y:uF M (nth low) (λi=>sm k (λj=>nth b (M - k+j) * fB M (nth low) j (nth a) i)) i=sm k (λj=>nth b (M - (k+1)+(j+1)) * fB M (nth low) (j+1) (nth a) i):=by refine Eq.trans Z (bV λj _=>?_);rw [ko,show M - (k+1)+(j+1)=M - k+j by omega];rfl
   rw [Y];show nth b (M - 1 - k) * nth a i+_=_;omega
  rw [e1];intro i;show P ∣ nth (eH P low a b M (k+1)) i - (uF M (nth low) (λi=>sm k (λj=>nth b (M - k+j) * fB M (nth low) j (nth a) i)) i+nth b (M - 1 - k) * nth a i);by_cases hi:i<M
  ·rw [eH,mS _ _ _ _ _ _ _ hi,C8,JQ (iF ..) hi];have h1:=V i;generalize U:uF M (nth low) (λi=>sm k (λj=>nth b (M - k+j) * fB M (nth low) j (nth a) i)) i=z at *;simp only [uF,M7 hi] at h1;generalize (if i=0 then (0:Int) else nth (eH P low a b M k) (i - 1))=u at *;generalize nth (eH P low a b M k) (M - 1)=t at *;generalize nth b (M - 1 - k) * nth a i=c at *;have h2:=qa P (u+(P - t) * nth low i+c);have h3:P ∣ P * nth low i:=Int.dvd_mul_right _ _;have h4:=Q1 (Q1 h2 h1) h3;rw [Q4] at h4 ⊢;rwa [show (u+(P * nth low i - t * nth low i)+c) % P - (u+(P * nth low i - t * nth low i)+c)+(u - t * nth low i - z)+P * nth low i=(u+(P * nth low i - t * nth low i)+c) % P - (z+c) by omega] at h4
  ·rw [jI (by rw [iF];omega),jI (l:=a) (by omega)];have Z:uF M (nth low) (λi=>sm k (λj=>nth b (M - k+j) * fB M (nth low) j (nth a) i)) i=0:=GS _ i (by omega);rw [Z];simp
theorem gg {P:Int} (Z:0<P) (M:Nat) (mod:Lz) (x y:Int):Cg P (dV P M (dp P M mod x y)) (gF M (nth (mU M mod)) (dV P M x) (dV P M y)):=by
 have h:=vL Z (mU M mod) (digs x P M) (digs y P M) (bM P M x) M (M4 _);have e:dV P M (dp P M mod x y)=nth (eH P (mU M mod) (digs x P M) (digs y P M) M M):=by unfold dV dp;have:=mJ (P:=P) (eH P (mU M mod) (digs x P M) (digs y P M) M M) (dL.eH Z _ _ _ _ _);rw [iF] at this;rw [this]
 rw [e,mK (n7 P M x) (n7 P M y)];refine h.trans (Cg.of_eq ?_);funext i;simp only [gF];refine bV λj _=>?_;rw [show M - M+j=j by omega];rfl
structure lA (P:Int) (M:Nat):Prop where
 p:2<=P
 m:0<M
def fo (P:Int) (M:Nat) (x:Int):Prop:=0<=x/\x<P ^ M
variable {P:Int} {M:Nat} {mod:Lz}
theorem fo.ext (h:lA P M) {x y:Int} (Z:fo P M x) (hy:fo P M y) (e:Cg P (dV P M x) (dV P M y)):x=y:=L4 (by have:=h.p;omega) Z.1 Z.2 hy.1 hy.2 e
theorem fN (h:lA P M) (x y:Int):fo P M (dp P M mod x y):=xd (by have:=h.p;omega) M mod x y
theorem il (h:lA P M) (x y:Int):fo P M (fsum P M x y):=xk (by have:=h.p;omega) M x y
theorem xH (h:lA P M) (x:Int):fo P M (fneg P M x):=rF (by have:=h.p;omega) M x
theorem one_lt_pow (h:lA P M):1<P ^ M:=by
 have h1:=dJ (P:=P) (by have:=h.p;omega) h.m;have h2:=h.p;have h3:P ^ (0+1)=P:=by rw [N1,O4,PS]
 have h4:P ^ (0+1)<=P ^ M:=h1;omega
theorem xK (h:lA P M):fo P M 1:=⟨by omega,one_lt_pow h⟩
theorem wC (h:lA P M):fo P M 0:=⟨by omega,by have:=one_lt_pow h;omega⟩
theorem lA.pos (h:lA P M):0<P:=by have:=h.p;omega
theorem jh (h:lA P M) (x y:Int):dp P M mod x y=dp P M mod y x :=
 (fN h x y).ext h (fN h y x) (((gg h.pos M mod x y).trans (Cg.of_eq (mK (n7 _ _ _) (n7 _ _ _)))).trans (gg h.pos M mod y x).symm)
theorem tH (h:lA P M) (x y z:Int):dp P M mod (dp P M mod x y) z=dp P M mod x (dp P M mod y z):=by refine (fN h _ z).ext h (fN h x _) ?_;refine (gg h.pos M mod _ z).trans (((wG (gg h.pos M mod x y) (Cg.refl _ _)).trans (Cg.of_eq (CF (n7 _ _ _) (n7 _ _ _) (n7 _ _ _)))).trans ?_);exact ((gg h.pos M mod x _).trans (wG (Cg.refl _ _) (gg h.pos M mod y z))).symm
theorem iB (h:lA P M) {x:Int} (Z:fo P M x):dp P M mod 1 x=x:=by refine (fN h 1 x).ext h Z ((gg h.pos M mod 1 x).trans (Cg.of_eq ?_));rw [Lv h.p h.m,IL h.m (n7 _ _ _)]
theorem pW (h:lA P M) (x:Int):dp P M mod x 0=0:=by refine (fN h x 0).ext h (wC h) ((gg h.pos M mod x 0).trans (Cg.of_eq ?_));rw [pf];funext i;simp only [gF];rw [bV (g:=λ_=>0) λj _=>by rw [Aq];simp,jH]
theorem Jr (h:lA P M) (x y z:Int):dp P M mod x (fsum P M y z)=fsum P M (dp P M mod x y) (dp P M mod x z):=by refine (fN h x _).ext h (il h _ _) ((gg h.pos M mod x _).trans ?_);refine (wG (Cg.refl _ _) (gK h.pos M y z)).trans ((Cg.of_eq (uk _ _ _)).trans ?_);exact ((gK h.pos M _ _).trans (Cg.add (gg h.pos M mod x y) (gg h.pos M mod x z))).symm
theorem Fq (h:lA P M) (x y:Int):fsum P M x y=fsum P M y x:=by refine (il h x y).ext h (il h y x) ((gK h.pos M x y).trans ((Cg.of_eq ?_).trans (gK h.pos M y x).symm));funext i;show _=_;omega
theorem B9 (h:lA P M) (x y z:Int):fsum P M (fsum P M x y) z=fsum P M x (fsum P M y z):=by refine (il h _ z).ext h (il h x _) ?_;refine (gK h.pos M _ z).trans ((Cg.add (gK h.pos M x y) (Cg.refl _ _)).trans ((Cg.of_eq ?_).trans ((gK h.pos M x _).trans (Cg.add (Cg.refl _ _) (gK h.pos M y z))).symm));funext i;show _=_;omega
theorem KI (h:lA P M) {x:Int} (Z:fo P M x):fsum P M x 0=x:=by refine (il h x 0).ext h Z ((gK h.pos M x 0).trans (Cg.of_eq ?_));rw [pf];funext i;simp
theorem EJ (h:lA P M) (x:Int):fsum P M x (fneg P M x)=0:=by refine (il h x _).ext h (wC h) ((gK h.pos M x _).trans ((Cg.add (Cg.refl _ _) (D5 h.pos M x)).trans (Cg.of_eq ?_)));rw [pf];funext i;show _=_;omega
end
section
structure vd (cl:Z6->Nat->Prop):Prop where
 mem:∀l x,x ∈ l->cl l x
 mono:∀l l',(∀x ∈ l,cl l' x)->∀y,cl l y->cl l' y
 exch:∀l x y,cl (x :: l) y->¬ cl l y->cl (y :: l) x
inductive Rk (cl:Z6->Nat->Prop):Z6->Nat->Prop
 | nil:Rk cl [] 0
 | dep {l n} (x:Nat):cl l x->Rk cl l n->Rk cl (x :: l) n
 | ind {l n} (x:Nat):¬ cl l x->Rk cl l n->Rk cl (x :: l) (n+1)
variable {cl:Z6->Nat->Prop}
theorem Rk.ex (cl:Z6->Nat->Prop):∀l,∃n,Rk cl l n
 | []=>⟨0,.nil⟩
 | x :: l=>by
  obtain ⟨n,h⟩:=Rk.ex cl l;by_cases Z:cl l x
  ·exact ⟨n,.dep x Z h⟩
  ·exact ⟨n+1,.ind x Z h⟩
theorem Rk.uniq {l:Z6} {n:Nat} (h:Rk cl l n):∀ {m},Rk cl l m->n=m:=by
 induction h with
 | nil=>intro m h;cases h;rfl
 | dep x Y _ X =>
  intro m h
  cases h with
  | dep _ _ h=>exact X h
  | ind _ Z _=>exact absurd Y Z
 | ind x Y _ X =>
  intro m h
  cases h with
  | dep _ Z _=>exact absurd Z Y
  | ind _ _ h=>rw [X h]
theorem vd.sub (h:vd cl) {l Z:Z6} (X:∀x ∈ l,x ∈ Z) {y:Nat} (hy:cl l y):cl Z y:=h.mono l Z (λx Y=>h.mem Z x (X x Y)) y hy
theorem vd.drop (h:vd cl) {l:Z6} {x y:Nat} (Y:cl l x) (hy:cl (x :: l) y):cl l y :=
 h.mono (x :: l) l (λz Z=>by
  rcases List.mem_cons.1 Z with rfl | Z
  ·exact Y
  ·exact h.mem l z Z) y hy
theorem Rk.swap (h:vd cl) {l:Z6} {x y n:Nat} (Z:Rk cl (x :: y :: l) n):Rk cl (y :: x :: l) n:=by
 have up:∀ {z u},cl l z->cl (u :: l) z:=λU=>h.sub (λx X=>by simp [X]) U;cases Z with
 | dep _ X Z =>
  cases Z with
  | dep _ hy Z=>exact .dep y (up hy) (.dep x (h.drop hy X) Z)
  | ind _ hy Z =>
   by_cases Y:cl l x
   ·exact .ind y (λV=>hy (h.drop Y V)) (.dep x Y Z)
   ·exact .dep y (h.exch l y x X Y) (.ind x Y Z)
 | ind _ X Z =>
  cases Z with
  | dep _ hy Z=>exact .dep y (up hy) (.ind x (λV=>X (up V)) Z)
  | ind _ hy Z =>
   have Y:¬ cl l x:=λV=>X (up V)
   exact .ind y (λV=>X (h.exch l x y V hy)) (.ind x Y Z)
theorem vd.perm (h:vd cl) {l Z:Z6} (Y:l.Perm Z) {x:Nat}:cl l x->cl Z x:=h.sub λy hy=>Y.mem_iff.1 hy
theorem Rk.perm (h:vd cl) {l O:Z6} (Y:l.Perm O):∀ {n},Rk cl l n->Rk cl O n:=by
 induction Y with
 | nil=>intro n Z;exact Z
 | cons x Y N =>
  intro n Z
  cases Z with
  | dep _ V Z=>exact .dep x (h.perm Y V) (N Z)
  | ind _ V Z=>exact .ind x (λL=>V (h.perm Y.symm L)) (N Z)
 | swap x y l=>intro n Z;exact Z.swap h
 | trans _ _ U X=>intro n Z;exact X (U Z)
theorem Rk.Bi (h:vd cl) {l:Z6} {n:Nat} (X:Rk cl l n):∀Z,(∀x ∈ Z,cl l x)->Rk cl (Z ++ l) n
 | [],_=>X
 | x :: Z,Y=>.dep x (h.sub (λy hy=>List.mem_append.2 (.inr hy)) (Y x (by simp))) (Rk.Bi h X Z λy hy=>Y y (by simp [hy]))
theorem Rk.grow {l:Z6} {m:Nat} (X:Rk cl l m):∀(Y:Z6) {n:Nat},Rk cl (Y ++ l) n->m<=n
 | [],n,Z=>by rw [X.uniq Z];exact M4 _
 | x :: Y,n,Z=>by
  cases Z with
  | dep _ _ Z=>exact Rk.grow X Y Z
  | ind _ _ Z=>exact Rq (Rk.grow X Y Z)
theorem Rk.le (h:vd cl) {l Z:Z6} {m n:Nat} (hm:Rk cl l m) (Y:Rk cl Z n) (X:∀x ∈ l,cl Z x):m<=n :=
 hm.grow Z ((Y.Bi h l X).perm h List.perm_append_comm)
theorem Rk.same (h:vd cl) {l X:Z6} {m n:Nat} (hm:Rk cl l m) (Y:Rk cl X n) (V:∀x,x ∈ l ↔ x ∈ X):m=n :=
 RM (hm.le h Y λx Z=>h.mem _ _ ((V x).1 Z)) (Y.le h hm λx Z=>h.mem _ _ ((V x).2 Z))
theorem Rk.Jf (h:vd cl) {l X:Z6} {m n:Nat} (hm:Rk cl l m) (Y:Rk cl X n) {p:Nat} (U:∀x,x ∈ X ↔ x ∈ l\/x=p):m<=n/\n<=m+1:=by
 refine ⟨hm.le h Y λx O=>h.mem _ _ ((U x).2 (.inl O)),?_⟩;have Z:∀x,x ∈ p :: l ↔ x ∈ X:=λx=>by rw [U x,PL];exact or_comm
 by_cases V:cl l p
 ·rw [(Rk.dep p V hm).same h Y Z];omega
 ·rw [<- (Rk.ind p V hm).same h Y Z];exact M4 _
end
section
variable {P:Program} {ops:Array Oper} {Q:Exit->Act->ej->Prop} {md:Region.Mode} {S:ej->Prop} {n:Nat}
def ib (P:Program) (md:Region.Mode) (ops:Array Oper) (Q:Exit->Act->ej->Prop) (S:ej->Prop) (n:Nat):Nat->Array Bool->Act->ej->Prop
 | 0,Z,a,w=>Region.ready md ops Z=[]/\Q .normal a w
 | fuel+1,Z,a,w =>
  (Region.ready md ops Z=[]->Q .normal a w) /\
  ∀i ∈ Region.ready md ops Z,wpOp P ops Q i (λa' w'=>(i<n->S w')/\ib P md ops Q S n fuel (Z.setIfInBounds i true) a' w') a w
theorem sf:∀(fuel:Nat) (Z:Array Bool) (a:Act) (w:ej),ib P md ops Q S n fuel Z a w->wpAny P md ops Q fuel Z a w
 | 0,_,_,_,h=>h
 | fuel+1,_,_,_,h=>⟨h.1,λi hi=>wpOp_mono (λa' w' Y=>sf fuel _ a' w' Y.2) (h.2 i hi)⟩
theorem wK {i:Nat} {K:Oper} {v:Value} (hi:ops[i]? = some K) (O:∀(j:Nat) (o:Oper) cs b,ops[j]? = some o->o.op ≠ .select cs b)
  (hQ:∀c a w,Q (.panic c) (a.put K.dst v) w->Q (.panic c) a w) (hs:Region.sinkB md ops n=true) (hc:Region.chainB md ops n=true) (hn:n<ops.size) (r:i<n) :
  ∀(fuel:Nat) (Z:Array Bool) (a:Act) (w:ej),HeadInv md ops n Z ->
   (∀j L,ops[j]? = some L->j ≠ i->Z.getD j true=false->(∀e ∈ L.after,Region.binds md e=true->e.on ≠ i)->K.apart ops L=true) ->
   i ∈ Region.ready md ops Z->YieldsIf P ops S K v a->S w ->
   ib P md ops Q S n fuel (Z.setIfInBounds i true) (a.put K.dst v) w->ib P md ops Q S n (fuel+1) Z a w:=by
 intro fuel;induction fuel with
 | zero =>
  intro Z a w inv _ I hy hS H
  refine ⟨λh=>(by rw [h] at I;cases I),λj G=>?_⟩
  by_cases Y:j=i
  ·subst Y;exact hy.wpOp hi hS ⟨λ_=>hS,H⟩
  ·have:=ready_mono G Y
   rw [H.1] at this
   cases this
 | succ fuel ih =>
  intro Z a w inv X I hy hS H
  have F:=(mem_ready.1 I).1
  refine ⟨λh=>(by rw [h] at I;cases I),λj G=>?_⟩
  by_cases Y:j=i
  ·subst Y;exact hy.wpOp hi hS ⟨λ_=>hS,H⟩
  ·have E:j<n:=by
    rcases NU j n with h | h
    ·exact h
    ·exact absurd G (tail_waits hs hc hn inv _ i rfl r F j h)
   have h1:=H.2 j (ready_mono G Y)
   obtain ⟨U,L,N,z⟩:=mem_ready.1 G
   have C:∀e ∈ L.after,Region.binds md e=true->e.on ≠ i:=λe he hb heq=>by have h1:=z e he hb;rw [heq,getD_both F] at h1;cases h1
   have h2:=wpOp_putIf N (X j L N Y U C) (λcs b=>O i K cs b hi) (λcs b=>O j L cs b N) hQ hy h1
   have V:∀k ok,ops[k]? = some ok->k ≠ i->(Z.setIfInBounds j true).getD k true=false ->
     (∀e ∈ ok.after,Region.binds md e=true->e.on ≠ i)->K.apart ops ok=true:=λk ok hk hki D hno=>by
    refine X k ok hk hki ?_ hno;by_cases B:j=k
    ·subst B;exact U
    ·rw [getD_set_ne true B] at D;exact D
   refine wpOp_mono (λa' w' h3=>?_) h2
   have A:=h3.2.1 E
   refine ⟨λ_=>A,ih (Z.setIfInBounds j true) a' w' (inv.set G E) V (ready_mono I (RP Y)) h3.1 A ?_⟩
   rw [Array.setIfInBounds_comm _ _ Y]
   exact h3.2.2
theorem aV {i:Nat} {V:Oper} {v:Value} {fuel:Nat} {Z:Array Bool} {a:Act} {w:ej} (hi:ops[i]? = some V)
  (Y:(Region.noSelect ops && (Region.sinkB md ops n && (Region.chainB md ops n && (decide (n<ops.size) && decide (i<n)))))=true) (O:Region.free md ops Z i=true) (N:(Region.ready md ops Z).contains i=true)
  (U:∀c a w,Q (.panic c) (a.put V.dst v) w->Q (.panic c) a w) (hy:YieldsIf P ops S V v a) (hI:HeadInv md ops n Z/\S w)
  (h:HeadInv md ops n (Z.setIfInBounds i true)/\S w->ib P md ops Q S n fuel (Z.setIfInBounds i true) (a.put V.dst v) w):ib P md ops Q S n (fuel+1) Z a w:=by
 simp only [Nx,NM] at Y;have X:i ∈ Region.ready md ops Z:=by simpa using N
 exact wK hi (Region.noSelect_spec Y.1) U Y.2.1 Y.2.2.1 Y.2.2.2.1 Y.2.2.2.2 fuel Z a w hI.1 (Region.free_spec hi O) X hy hI.2 (h ⟨hI.1.set X Y.2.2.2.2,hI.2⟩)
theorem B5 {i:Nat} {fuel:Nat} {Z:Array Bool} {a:Act} {w:ej} (X:Region.ready md ops Z=[i]) (Y:i<n) (hI:HeadInv md ops n Z)
  (h:wpOp P ops Q i (λa' w'=>S w'/\(HeadInv md ops n (Z.setIfInBounds i true)/\S w'->ib P md ops Q S n fuel (Z.setIfInBounds i true) a' w')) a w):ib P md ops Q S n (fuel+1) Z a w :=
 ⟨λh0=>(by rw [X] at h0;cases h0),λj U=>by rw [X,NR] at U;subst U;exact wpOp_mono (λa' w' V=>⟨λ_=>V.1,V.2 ⟨hI.set (by rw [X];simp) Y,V.1⟩⟩) h⟩
theorem zG {i:Nat} {fuel:Nat} {Z:Array Bool} {a:Act} {w:ej} (V:Region.ready md ops Z=[i]) (U:n<=i) (hd:Region.ready md ops (Z.setIfInBounds i true)=[])
  (h:wpOp P ops Q i (λa' w'=>Q .normal a' w') a w):ib P md ops Q S n (fuel+1) Z a w :=
 ⟨λh0=>(by rw [V] at h0;cases h0),λj X=>by
  rw [V,NR] at X;subst X;refine wpOp_mono (λa' w' Y=>⟨λh1=>by omega,?_⟩) h;cases fuel with
  | zero=>exact ⟨hd,Y⟩
  | succ f=>exact ⟨λ_=>Y,by rw [hd];simp⟩⟩
theorem mE {i:Nat} {o:Oper} {fuel:Nat} {Z:Array Bool} {a:Act} {w:ej} (U:Region.ready md ops Z=[i]) (X:i<n) (hI:HeadInv md ops n Z) (V:ops[i]? = some o)
  (h:∀Y:Act->ej->Prop,Shut (∀a w,S w->(HeadInv md ops n (Z.setIfInBounds i true)/\S w->ib P md ops Q S n fuel (Z.setIfInBounds i true) a w)->Y a w)->if Region.wanted o (yielded ops a.tmps)=true then Oper.wp P o a w Y Q else Y (a.put o.dst undef) w) :
  ib P md ops Q S n (fuel+1) Z a w :=
 B5 U X hI (wpOp_step V λY N=>h Y λa w hS O=>N a w ⟨hS,O⟩)
theorem sT {i:Nat} {o:Oper} {fuel:Nat} {Z:Array Bool} {a:Act} {w:ej} (O:Region.ready md ops Z=[i]) (X:n<=i) (hd:Region.ready md ops (Z.setIfInBounds i true)=[]) (V:ops[i]? = some o)
  (h:∀Y:Act->ej->Prop,Shut (∀a w,Q .normal a w->Y a w)->if Region.wanted o (yielded ops a.tmps)=true then Oper.wp P o a w Y Q else Y (a.put o.dst undef) w) :
  ib P md ops Q S n (fuel+1) Z a w :=
 zG O X hd (wpOp_step V λY N=>h Y λa w U=>N a w U)
theorem Gm:HeadInv md ops n (Array.replicate ops.size false) :=
 ⟨by simp,λj X _ Z=>(by rw [getD_replicate_false] at Z;cases Z),λt _ Y=>by have:=getD_replicate_false ops.size t;exact getD_in (by simpa using Y) this⟩
theorem qR {id:Nat} {a:Act} {w:ej} (S:ej->Prop) (n:Nat) (hm:P.follows .mixedOrders=true) (hS:S w.drew)
  (h:HeadInv .any ops n (Array.replicate ops.size false)/\S w.drew->ib P .any ops Q S n ops.size (Array.replicate ops.size false) a w.drew):(Code.region id ops true).wp P Q a w :=
 wp_region_any hm (sf _ _ _ _ (h ⟨Gm,hS⟩))
end
section
open Go.RowKit Go.Shelf
attribute [local go_sem] QO
theorem rZ (l:Lz) {k:Nat} (h:k<l.length):l.take (k+1)=l.take k ++ [nth l k]:=by rw [Nh h,an h]
theorem wI (F:Fence) (n:Nat) (hF:F.fn 269) (H:F.round=none) (hn:1<=n) (l C Y:Nat) (a:OA) (len cap:Nat) (U:Lz) (I:len * 8<=140737488351232) (J B:Lz->ej->Prop)
  (j:∀pre x W,J pre W->pre.length<len->YieldAt F (n - 1) prog l #[cG x] W λe O =>
   (e = .returned (.bool true)/\J (pre ++ [x]) O/\Below Y W O)\/(e = .returned (.bool false)/\B (pre ++ [x]) O))
  (W:ej) (hBs:W.cell? ⟨C,0,none⟩=some (.slice a len cap)) (E:Ints W a len U) (hb:0<len->ablk a<Y) (h0:J [] W) :
  CallsIn F n prog 269 #[.func (.yield l) #[] #[],ea C 0] W λe O=>(∃v,e = .returned v) /\
   ((∃z,z=U/\J z O)\/(∃pre,(∃k,k<=len/\pre=U.take k)/\B pre O)):=by
 have r:=E.pl;have Z:=Z5 E.len;refine callsIn_of_wp func269 rfl hF ?_ H;simp only [ntmps269,O5,NO,Pn,Nat.reduceAdd,Nat.reduceSub,ON,OO,O6,OU,Oy,OD];gi_wp2;gi_loopw [7] (λi wr=>∃k:Nat,k<=len/\i = cG k/\J (U.take k) wr/\Below Y W wr)
  (λi _=>len - (intOf i).toNat)
 case atStart=>exact ⟨0,Nb _,rfl,h0,M5 _ _⟩
 case round =>
  obtain ⟨k,hk,rfl,V,K⟩:=hrel
  by_cases L:k<len
  ·have hcx:=(E.below K hb).cell k L
   have X:=rZ U (k:=k) (by rw [Z.out];exact L)
   have Htk:=Z5 X
   obtain ⟨fn,tmps,assign,body,hy,A⟩:=j _ (nth U k) wr V (by rw [NH,Z.out];omega)
   rw [<- X] at A
   clear X
   gi_wp2
   refine A.mono ?_
   rintro e W3 (⟨rfl,G,D⟩ | ⟨rfl,N⟩)
   ·gi_wp2
    go_roundw
    case rel=>exact ⟨k+1,by omega,by simp,G,K.trans D⟩
    case measure=>simp [intOf];omega
   ·gi_wp2
    refine bodyPost_ret (results_none rfl _ _ _) rfl ?_
    exact ⟨⟨_,rfl⟩,.inr ⟨_,⟨k+1,by omega,rfl⟩,N⟩⟩
  ·obtain rfl:k=len:=by omega
   rw [Nj (by rw [Z.out];exact M4 _)] at V
   gi_wp2
   go_end0
   exact ⟨⟨_,rfl⟩,.inl ⟨_,rfl,V⟩⟩
theorem yJ (F:Fence) (n:Nat) (hF:F.fn 260) (Z:F.round=none) (a:OA) (len cap:Nat) (w:ej) :
  CallsIn F n prog 260 #[.slice a len cap] w λe w'=>e = .returned (.func (.func 269) #[] #[ea w.heap.size 0])/\w'=w.alloc (.cells #[.slice a len cap] 22):=by refine callsIn_of_wp func260 rfl hF ?_ Z;simp only [ntmps260,O5,NO,Pn,Nat.reduceAdd,Nat.reduceSub,ON,OO,O6,OU,Oy,OD];gi_wp2;go_ret;exact ⟨rfl,rfl⟩
theorem te (F:Fence) (n:Nat) (hF:F.fn 269) (N:F.round=none) (G:1<=n) (V Z:Nat) (a:OA) (len cap:Nat) (U:Lz) (Y:len * 8<=140737488351232) (w:ej) (K:V<w.heap.size) (X:Z<=w.heap.size)
  (C:w.cell? ⟨V,0,none⟩=some (.slice a len cap)) (hI:Ints w a len U) (hb:0<len->ablk a<Z) :
  SeqStopsK F n prog 269 #[ea V 0] (λx:Int=>#[Value.int .i64 x]) (Below Z) (λH=>H=U) (λpre=>pre <+: U) len w:=λl J D W I _ _ E h0=>by
 have O:=(I.cell (p:=⟨V,0,none⟩) K).trans C;refine (wI F n hF N G l V Z a len cap U Y J D E W O (hI.below (I.mono X) hb) hb h0).mono ?_;rintro e B ⟨he,⟨H,rfl,L⟩ | ⟨pre,⟨k,A,rfl⟩,L⟩⟩
 ·exact ⟨he,.inl ⟨_,rfl,L⟩⟩
 ·exact ⟨he,.inr ⟨_,List.take_prefix _ _,L⟩⟩
theorem xx (F:Fence) (n:Nat) (hA:F.fn 272) (hV:F.fn 269) (V:F.round=none) (hn:3<=n) (X:Nat) (a:OA) (len cap:Nat) (C:Lz) (hlen:len<=1000000) (w:ej) (j:X<w.heap.size)
  (hc:w.cell? ⟨X,0,none⟩=some (.slice a len cap)) (hI:Ints w a len C) :
  CallsIn F n prog 272 #[ds,.func (.func 269) #[] #[ea X 0]] w λe W' =>
   ∃v,e = .returned v/\W'.ownsRow w.heap.size 3 1 v len (C.map (Value.int .i64))/\SJ w W':=by
 have h1:1<=n:=by omega
 have O:=Z5 hI.len;obtain ⟨i0,hi,B,z,A⟩:=info_parts br;refine callsIn_of_wp_marks func272 rfl hA ?_ V;simp only [ntmps272,O5,NO,Pn,Nat.reduceAdd,Nat.reduceSub,ON,OO,O6,OU,Oy,OD];gi_wp2;have bO:=Boxed.new w 22 ds;have L:SJ w (w.alloc (.cells #[ds] 22)):=(M5 _ w).alloc (M4 _) _;refine wpIn_rangeFunc_ownG V h1 (gf:=269) (lb:=#[ea X 0]) rfl hV (enters_of func269 (by kernel_rfl) rfl)
  (te F (n - 1) hV V (by omega) X w.heap.size a len cap C (by omega) w j (M4 _) hc hI (λh=>hI.lt h)) belowK_t (belowK_b (by simp)) L (λ_=>rfl)
  (λpre W=>(∃v,Boxed W w.heap.size 22 v/\W.ownsRow w.heap.size 3 1 v pre.length (pre.map (Value.int .i64))/\True)/\SJ w W)
  (λ_ _ _=>False)
  (OwnFrom.and (Own.from (holdsRow_own w.heap.size w.heap.size 22 3 1 (λpre:Lz=>pre.length) (λpre=>pre.map (Value.int .i64)) (λ_ _=>True)) _) (ownFrom_below (M4 _) (by simp)))
  (λ_ _ _ _ _ hs _ _=>hs)
  ⟨⟨_,bO,Rm _ _ _ _,trivial⟩,L⟩
  (λx=>{ tmps:=#[ds,.func (.func 269) #[] #[ea X 0],ea w.heap.size 0,undef,ds,cG x,.func (.func 269) #[] #[ea X 0],cG x,undef,undef,undef,undef,undef],defers:=[] }) ?assign ?body ?done ?stop
 case assign =>
  intro l x W K H
  gi_wp2
  exact H
 case body =>
  rintro l pre x W ⟨⟨v,E,Z,_⟩,I⟩ hlt
  have hcv:=E.cell
  gi_wp2_with (gi_at_builtin;refine wpListIn_append_own _ rfl _ _ 22 rfl w.heap.size 3 i0 (cG 0) 1 8 underlying22 hi B z A rfl (by decide) _ _ _ rfl (Z.alloc _) ⟨W.heap.size,0,none⟩ 1 1 [cG x] rfl rfl (cell_one_new _ _ _) (by simp [Value.oneCell']) (by unfold maxLen;omega) (by omega) (by have:=I.size;simp;omega) ?_;intro v' w1 Y U _;obtain ⟨g',cap',rfl⟩:=ownsRow_succ Y;obtain ⟨G,r,hr2,hk2,N⟩:=E.appended (by decide) Z I.size (M4 _) Y U;have hc1:=G.cell;have hf1:=G.frozen)
  exact ⟨hk2.from _,N,⟨_,r,by simpa using hr2,trivial⟩,I.trans N⟩
 case done =>
  rintro D ys W hD rfl ⟨⟨v,E,Z,_⟩,I⟩ H
  have hcv:=E.cell
  gi_wp2
  refine ⟨by simp,.inl ⟨_,_,rfl,run_takeDeferred H,?_⟩⟩
  exact ⟨_,results_tmp rfl _ _ _,v,rfl,by have:=ownsRow_putObj Z (.deferred none) H rfl;rw [O.out] at this;exact this,I.trans (belowK_b (w:=w) (M4 _) W D _ _ (by simp at hD;omega) H rfl rfl)⟩
 case stop =>
  rintro D c pre W _ _ h _
  exact h.elim
theorem C0 (F:Fence) (n:Nat) (K:F.fn 268) (N:F.fn 272) (L:F.fn 269) (Z:F.round=none) (H:4<=n) (X:Nat) (a:OA) (len cap:Nat) (V:Lz) (hlen:len<=1000000) (w:ej) (U:X<w.heap.size)
  (I:w.cell? ⟨X,0,none⟩=some (.slice a len cap)) (hI:Ints w a len V) :
  CallsIn F n prog 268 #[.func (.func 269) #[] #[ea X 0]] w λe O =>
   ∃v,e = .returned v/\O.ownsRow w.heap.size 3 1 v len (V.map (Value.int .i64))/\SJ w O:=by refine callsIn_of_wp func268 rfl K ?_ Z;simp only [ntmps268,O5,NO,Pn,Nat.reduceAdd,Nat.reduceSub,ON,OO,O6,OU,Oy,OD];gi_wp2;refine ⟨λ_=>by omega,?_⟩;refine (xx F (n - 1) N L Z (by omega) X a len cap V hlen _ U I hI).mono ?_;rintro e O ⟨v,rfl,Y,hb⟩;gi_wp2;go_ret;exact ⟨v,rfl,Y,hb⟩
theorem Cb (a:OA) (len cap:Nat) (w:ej) :
  Calls prog 260 #[.slice a len cap] w λe w'=>e = .returned (.func (.func 269) #[] #[ea w.heap.size 0])/\w'=w.alloc (.cells #[.slice a len cap] 22) :=
 callsIn_wide.1 (yJ Fence.wide 8 trivial rfl a len cap w)
theorem AR (Z:Nat) (a:OA) (len cap:Nat) (Y:Lz) (hlen:len<=1000000) (w:ej) (X:Z<w.heap.size) (U:w.cell? ⟨Z,0,none⟩=some (.slice a len cap)) (hI:Ints w a len Y) :
  Calls prog 268 #[.func (.func 269) #[] #[ea Z 0]] w λe V =>
   ∃v,e = .returned v/\V.ownsRow w.heap.size 3 1 v len (Y.map (Value.int .i64))/\SJ w V :=
 callsIn_wide.1 (C0 Fence.wide 8 trivial trivial trivial rfl (by omega) Z a len cap Y hlen w X U hI)
end
def dW:Nat->Nat->Nat
 | _,0=>1
 | 0,_+1=>0
 | n+1,k+1=>dW n k+dW n (k+1)
theorem xe (k:Nat):∀n,((List.range n).map λi=>dW i k).sum=dW n (k+1)
 | 0=>by simp [dW]
 | n+1=>by rw [Ot,NT,RN,xe k n];simp [dW];omega
theorem oJ:∀n k,n<k->dW n k=0
 | 0,k+1,_=>by rw [dW]
 | n+1,k+1,h=>by rw [dW,oJ n k (by omega),oJ n (k+1) (by omega)]
theorem sl:∀n,dW n n=1
 | 0=>by rw [dW]
 | n+1=>by rw [dW,sl n,oJ n (n+1) (by omega)]
theorem ja (n:Nat):dW n 0=1:=by cases n<;>rw [dW]
theorem zu (n k:Nat):dW (n+1) (k+1)=dW n k+dW n (k+1):=by rw [dW]
theorem rC:∀n k,(k+1) * dW (n+1) (k+1)=(n+1) * dW n k
 | 0,0=>by simp [dW]
 | 0,k+1=>by simp [dW]
 | n+1,0=>by have h:=rC n 0;rw [ja] at h;rw [zu (n+1) 0,ja];omega
 | n+1,k+1=>by
  have h1:=rC n k;have h2:=rC n (k+1);rw [dW,Qc,h2];have h3:dW (n+1) (k+1)=dW n k+dW n (k+1):=by rw [dW]
  have e:(k+1+1) * dW (n+1) (k+1)=(k+1) * dW (n+1) (k+1)+dW (n+1) (k+1):=by rw [PT,RI]
  rw [e,h1];have Y:(n+1+1) * dW (n+1) (k+1)=(n+1) * dW (n+1) (k+1)+dW (n+1) (k+1):=by rw [PT,RI]
  rw [Y];have Z:(n+1) * dW (n+1) (k+1)=(n+1) * dW n k+(n+1) * dW n (k+1):=by rw [h3,Qc]
  rw [Z];omega
theorem o0:∀n k,k<=n->1<=dW n k
 | n,0,_=>by rw [ja];exact M4 _
 | n+1,k+1,h=>by rw [dW];have:=o0 n k (by omega);omega
theorem GX {n k:Nat}:dW n k<=dW (n+1) (k+1):=by rw [dW];omega
theorem tS:∀n k,k<=n->dW n k=dW n (n - k)
 | 0,0,_=>rfl
 | n+1,0,_=>by rw [ja,Rs,sl]
 | n+1,k+1,h=>by
  rw [show n+1 - (k+1)=n - k by omega];by_cases e:k=n
  ·subst e;rw [sl,PD,ja]
  ·obtain ⟨d,hd⟩:∃d,n - k=d+1:=⟨n - k - 1,by omega⟩
   rw [hd,dW,dW,tS n k (by omega),tS n (k+1) (by omega),hd,show n - (k+1)=d by omega];omega
def Fk (n k:Nat):Int:=if dW n k<=65536 then dW n k else 0
def FP (n k:Nat):Int:=if dW n k<=65536 then 0 else 8
theorem IB (n k i:Nat):dW (n - k+i) i * (n - k+(i+1)) / (i+1)=dW (n - k+(i+1)) (i+1):=by have h:=rC (n - k+i) i;rw [<- Pq,Oz,<- h,Nat.mul_div_cancel_left _ (by omega)]
theorem vM {n k:Nat} (Z:k<=n):∀d i,i+d=k->dW (n - k+i) i<=dW n k
 | 0,i,h=>by
  obtain rfl:i=k:=by omega
  rw [show n - i+i=n by omega];exact M4 _
 | d+1,i,h=>by refine Np ?_ (vM Z d (i+1) (by omega));rw [<- Pq];exact GX
def dr (l:Lz):Nat->Int
 | 0=>1
 | k+1=>dr l k * nth l k
def EU (most:Int) (l:Lz):Int:=if dr l l.length<=most then dr l l.length else 0
def B1 (most:Int) (l:Lz):Int:=if dr l l.length<=most then 0 else 8
theorem tY {l:Lz} (h:∀x ∈ l,1<=x):∀k,k<=l.length->1<=dr l k
 | 0,_=>by simp [dr]
 | k+1,X=>by have Z:=tY h k (by omega);have Y:=h _ (aG (show k<l.length by omega));rw [dr];have:=Ow Z Y (by omega) (by omega);omega
theorem qj {l:Lz} (h:∀x ∈ l,1<=x) (i:Nat):∀d,i+d<=l.length->dr l i<=dr l (i+d)
 | 0,_=>Pu _
 | d+1,hd=>by have Y:=qj h i d (by omega);have X:=tY h (i+d) (by omega);have Z:=h _ (aG (show i+d<l.length by omega));rw [<- Pq,dr];have:=Ow (Pu (dr l (i+d))) Z (by omega) (by omega);omega
theorem div_lt_iff {most x o:Int} (Y:1<=x) (Z:0<=o) (hm:0<=most):most.tdiv x<o ↔ most<o * x:=by rw [OF hm];exact Int.ediv_lt_iff_lt_mul (by omega)
def RU:=@Below.next
def RW:=@Ints.own
def RY:=@Below.app
def R6:=@Below.fS
def R9:=@Ints.nil
def Sf:=@Pl.own
def Sm:=@Ints.news
def Sp:=@Cg.of_eq
def St:=@Cg.refl
def Su:=@dL.ma
def Sv:=@Rk.same
def Sz:=@dL.digs
def SC:=@dq.jV
def SE:=@Cg.trans
def SH:=@vp.own
def SI:=@Rk.ex
end Go.Proofs.YthglbncgemdcbaaGreat
