import Derived.Test.YtcfmiocdlcapoaaGreatHBS0
import Derived.WalkSpells
import Derived.WalkLawsBesides
import Derived.Laws.CopyOwn
import Derived.Maps.AppendAt
import Derived.Deep.RegionLaw
import Derived.StillTail
import Derived.OrdersHeld
import Derived.Deep.RegionHeld
namespace Go.Proofs.YtcfmiocdlcapoaaGreat
set_option linter.all false
set_option maxRecDepth 100000
set_option maxHeartbeats 400000
open Go.RowKit Tryz
def bw (x p : Int) : Nat->Lz
 | 0=>[]
 | m+1=>(x % p) :: bw (x / p) p m
def dy (p : Int) : Lz->Int
 | []=>0
 | c :: d=>c+p * dy p d
def jQ (x p : Int) : Nat->Int
 | 0=>x
 | k+1=>jQ x p k / p
theorem bJ (p : Int) : ∀(m : Nat) (x : Int),(bw x p m).length=m
 | 0,_=>rfl
 | m+1,x=>by simp [bw,bJ p m]
theorem pK (x p : Int) : ∀k,jQ x p (k+1)=jQ (x / p) p k
 | 0=>rfl
 | k+1=>by rw [jQ,pK x p k];rfl
theorem pB (p : Int) : ∀(k : Nat) (x : Int),bw x p (k+1)=bw x p k ++ [jQ x p k % p]
 | 0,x=>rfl
 | k+1,x=>by rw [bw,pB p k (x / p),pK];rfl
theorem wF (x p : Int) (hx : 0<=x) (hp : 1<=p) : ∀k,0<=jQ x p k/\jQ x p k<=x
 | 0=>⟨hx,Ob _⟩
 | k+1=>by have h:=wF x p hx hp k;exact ⟨ND h.1 (by omega),OM (NG _ h.1) h.2⟩
def dn (l : Lz) (k m : Nat) : Lz:=l ++ List.replicate (m - k) 0
theorem fK (l : Lz) (k m : Nat) (x : Int) (hl : l.length=k) (hk : k<m) : (dn l k m).set k x=dn (l ++ [x]) (k+1) m:=by unfold dn;rw [OX _ _ (by omega),hl,NS];rw [show m - k=(m - (k+1))+1 from by omega,Pe,Mo];simp
theorem gD (l : Lz) (m : Nat) : dn l m m=l:=by simp [dn]
def nth (l : Lz) (i : Nat) : Int:=l.getD i 0
def shl (out : Lz) : Lz:=0 :: out.dropLast
def CS (P : Int) (low a : Lz) (top bi : Int) (sh : Lz) (j : Nat) : Int:=(nth sh j+(P - top) * nth low j+bi * nth a j) % P
def mU (P : Int) (low a : Lz) (m : Nat) (bi : Int) (out : Lz) : Lz :=
 (List.range m).map λj=>CS P low a (nth out (m - 1)) bi (shl out) j
def eS (P : Int) (low a b : Lz) (m : Nat) : Nat->Lz
 | 0=>List.replicate m 0
 | k+1=>mU P low a m (nth b (m - 1 - k)) (eS P low a b m k)
def mR (M : Nat) (mod : Lz) : Lz:=if 1<M then mod else [0]
def dk (P : Int) (M : Nat) (mod : Lz) (x y : Int) : Int :=
 dy P (eS P (mR M mod) (bw x P M) (bw y P M) M M)
theorem aj {l : Lz} {i : Nat} (h : i<l.length) : nth l i=l[i]:=by simp [nth,h]
theorem aN {l : Lz} {i : Nat} (h : i<l.length) : nth l i ∈ l:=by rw [aj h];exact MM h
theorem jY {l : Lz} {i : Nat} (h : l.length<=i) : nth l i=0:=by simp [nth,h]
theorem fR {l l' : Lz} (hl : l.length=l'.length) (h : ∀i,i<l.length->nth l i=nth l' i) : l=l':=by apply NP hl;intro i h1 h2;have:=h i h1;rwa [aj h1,aj h2] at this
def dI (P : Int) (l : Lz) : Prop:=∀i,0<=nth l i/\nth l i<P
theorem dI.lZ {P : Int} (hP : 0<P) {l : Lz} (h : ∀x ∈ l,0<=x/\x<P) : dI P l:=by
 intro i;rcases MU i l.length with hi | hi
 ·exact h _ (aN hi)
 ·rw [jY hi];omega
theorem dI.bw {P : Int} (hP : 0<P) : ∀(m : Nat) (x : Int),dI P (bw x P m)
 | 0,x=>λi=>by simp [Go.Proofs.YtcfmiocdlcapoaaGreat.bw,nth];omega
 | m+1,x=>by
  intro i;match i with
  | 0=>simp only [Go.Proofs.YtcfmiocdlcapoaaGreat.bw,nth,Pf];exact ⟨MZ _ (by omega),MR _ hP⟩
  | i+1=>simpa only [Go.Proofs.YtcfmiocdlcapoaaGreat.bw,nth,List.getD_cons_succ] using dI.bw hP m (x / P) i
theorem dI.replicate {P : Int} (hP : 0<P) (m : Nat) : dI P (List.replicate m 0):=by refine dI.lZ hP λx hx=>?_;obtain ⟨_,rfl⟩:=List.mem_replicate.1 hx;omega
theorem jm (P : Int) (low a : Lz) (m : Nat) (bi : Int) (out : Lz) : (mU P low a m bi out).length=m:=by simp [mU]
theorem mE (P : Int) (low a : Lz) (m : Nat) (bi : Int) (out : Lz) (j : Nat) (hj : j<m) :
  nth (mU P low a m bi out) j=CS P low a (nth out (m - 1)) bi (shl out) j:=by rw [aj (by rw [jm];exact hj)];simp [mU]
theorem dI.mU {P : Int} (hP : 0<P) (low a : Lz) (m : Nat) (bi : Int) (out : Lz) : dI P (mU P low a m bi out):=by
 intro j;rcases MU j m with hj | hj
 ·rw [mE _ _ _ _ _ _ _ hj];exact ⟨MZ _ (by omega),MR _ hP⟩
 ·rw [jY (by rw [jm];exact hj)];omega
theorem iL (P : Int) (low a b : Lz) (m : Nat) : ∀k,(eS P low a b m k).length=m
 | 0=>by simp [eS]
 | k+1=>jm ..
theorem dI.eS {P : Int} (hP : 0<P) (low a b : Lz) (m : Nat) : ∀k,dI P (eS P low a b m k)
 | 0=>dI.replicate hP m
 | k+1=>by simp only [Go.Proofs.YtcfmiocdlcapoaaGreat.eS];exact dI.mU hP _ _ _ _ _
theorem Br (out : Lz) (h : 0<out.length) : (shl out).length=out.length:=by simp [shl];omega
theorem dI.shl {P : Int} (hP : 0<P) {out : Lz} (h : dI P out) : dI P (shl out):=by
 intro i;match i with
 | 0=>simp [Go.Proofs.YtcfmiocdlcapoaaGreat.shl,nth];omega
 | i+1 =>
  have e : nth (Go.Proofs.YtcfmiocdlcapoaaGreat.shl out) (i+1)=if i<out.length - 1 then nth out i else 0:=by simp only [Go.Proofs.YtcfmiocdlcapoaaGreat.shl,nth,Mk,MV,ON];split <;> rfl
  rw [e];split
  ·exact h i
  ·omega
def fA (new i5 : Lz) (j : Nat) : Lz:=new.take j ++ i5.drop j
theorem eU (new i5 : Lz) : fA new i5 0=i5:=by simp [fA]
theorem fT (new i5 : Lz) (m : Nat) (h1 : new.length=m) (h2 : i5.length=m) : fA new i5 m=new:=by simp [fA,Ms (Nat.le_of_eq h1),OO (Nat.le_of_eq h2)]
theorem jh (new i5 : Lz) (j : Nat) (h : new.length=i5.length) (hj : j<=i5.length) : (fA new i5 j).length=i5.length:=by simp [fA];omega
theorem eO (new i5 : Lz) (j i : Nat) (h : new.length=i5.length) (hj : j<=i5.length) : nth (fA new i5 j) i=if i<j then nth new i else nth i5 i:=by
 unfold fA nth;simp only [Mk];split
 ·rename_i hi;rw [ML (by simp;omega),Nj,Mg hi]
 ·rename_i hi;rw [NI (by simp;omega),OF];congr 2;simp;omega
theorem dD (l : Lz) (i j : Nat) (x : Int) (hi : i<l.length) : nth (l.set i x) j=if j=i then x else nth l j:=by
 unfold nth;simp only [Mk,NU];by_cases h : i=j
 ·subst h;simp [hi]
 ·rw [Mh h,Mh (by omega)]
theorem eH (new i5 : Lz) (j : Nat) (h : new.length=i5.length) (hj : j<i5.length) : (fA new i5 j).set j (nth new j)=fA new i5 (j+1):=by
 have hl:=jh new i5 j h (by omega);have hl':=jh new i5 (j+1) h (by omega);refine fR (by simp [hl,hl']) λi hi=>?_;rw [dD _ _ _ _ (by omega),eO _ _ _ _ h (by omega),eO _ _ _ _ h (by omega)];by_cases e : i=j
 ·subst e;simp
 ·rw [Mh e];by_cases e2 : i<j
  ·rw [Mg e2,Mg (by omega)]
  ·rw [Mh e2,Mh (by omega)]
theorem oS {P : Int} (hP : 0<P) : ∀(l : Lz),dI P l->0<=dy P l/\dy P l<P ^ l.length
 | [],_=>by simp [dy]
 | c :: l,h=>by
  have h0:=h 0;have ih:=oS hP l (λi=>by simpa [nth] using h (i+1));simp only [nth,Pf] at h0;simp only [dy,MT,M6];have h1 : 0<=P * dy P l:=NB (by omega) ih.1;have h2 : P * dy P l+P<=P ^ l.length * P:=by have:=MQ (show dy P l+1<=P ^ l.length by omega) (show 0<=P by omega);rw [NF (P ^ l.length)];rw [NM] at this;omega
  omega
theorem dF {P : Int} (hP : 1<=P) {a b : Nat} (h : a<=b) : P ^ a<=P ^ b:=by
 obtain ⟨n,rfl⟩ : ∃n : Nat,P=n:=⟨P.toNat,by omega⟩
 have:=Ns (n:=n) (by omega) h;exact_mod_cast this
theorem dI.drop {P : Int} {l : Lz} (h : dI P l) (k : Nat) : dI P (l.drop k):=by intro i;have:=h (k+i);simpa [nth] using this
theorem dI.CH {P : Int} (hP : 0<P) {l : Lz} (h : dI P l) {m : Nat} (hl : l.length=m) (hpw : P ^ m<=256) (k : Nat) : 0<=dy P (l.drop k)/\dy P (l.drop k)<256:=by have hb:=oS hP (l.drop k) (h.drop k);refine ⟨hb.1,Int.lt_of_lt_of_le hb.2 (OM ?_ hpw)⟩;rw [NQ,hl];exact dF (by omega) (by omega)
def an : OA->Nat | some a=>a.block | none=>0
def aP : OA->Nat | some a=>a.off | none=>0
@[simp] theorem ablk_some (b o : Nat) (s : Option Nat) : an (some ⟨b,o,s⟩)=b:=rfl
@[simp] theorem aoff_some (b o : Nat) (s : Option Nat) : aP (some ⟨b,o,s⟩)=o:=rfl
def Pl (a : OA) (n : Nat) : Prop:=0<n->a=some ⟨an a,aP a,none⟩
def ai (l : ZZ) (i : Nat) : Lz:=l.getD i []
def sB (l : List Bool) (i : Nat) : Bool:=l.getD i false
theorem aF {l : ZZ} {i : Nat} (h : i<l.length) : ai l i=l[i]:=by simp [ai,h]
theorem dj {l : ZZ} {i : Nat} (h : i<l.length) : ai l i ∈ l:=by rw [aF h];exact MM h
theorem wY {l : List Bool} {i : Nat} (h : i<l.length) : sB l i=l[i]:=by simp [sB,h]
structure Ints (w : World) (a : OA) (n : Nat) (l : Lz) : Prop where
 len : l.length=n
 pl : Pl a n
 max : n<=maxLen
 cell : ∀i,i<n->w.cell? ⟨an a,aP a+i,none⟩=some (.int .i64 (nth l i))
structure eG (w : World) (a : OA) (n : Nat) (l : List Bool) : Prop where
 len : l.length=n
 pl : Pl a n
 max : n<=maxLen
 cell : ∀i,i<n->w.cell? ⟨an a,aP a+i,none⟩=some (.bool (sB l i))
structure cU (w : World) (a : OA) (n : Nat) (l : ZZ) : Prop where
 len : l.length=n
 pl : Pl a n
 max : n<=maxLen
 cell : ∀i,i<n->∃b m c,w.cell? ⟨an a,aP a+i,none⟩=some (.slice b m c)/\Ints w b m (ai l i)
def l5 (w : World) (B : Nat) (a : OA) (n : Nat) : Prop:=0<n->B<=an a/\∀i,i<n->w.frozen? ⟨an a,aP a+i,none⟩=false
theorem Ints.lt {w : World} {a : OA} {n : Nat} {l : Lz} (h : Ints w a n l) (hn : 0<n) : an a<w.heap.size :=
 Mn w _ (h.cell 0 hn)
theorem eG.lt {w : World} {a : OA} {n : Nat} {l : List Bool} (h : eG w a n l) (hn : 0<n) : an a<w.heap.size :=
 Mn w _ (h.cell 0 hn)
theorem cU.lt {w : World} {a : OA} {n : Nat} {l : ZZ} (h : cU w a n l) (hn : 0<n) : an a<w.heap.size:=by obtain ⟨b,m,c,hc,_⟩:=h.cell 0 hn;exact Mn w _ hc
theorem Ints.of_block {w w' : World} {a : OA} {n : Nat} {l : Lz} (h : Ints w a n l) (hb : 0<n->w'.heap[an a]? = w.heap[an a]?) : Ints w' a n l :=
 ⟨h.len,h.pl,h.max,λi hi=>(MI (w:=w) (a:=⟨an a,aP a+i,none⟩) (hb (by omega))).trans (h.cell i hi)⟩
theorem eG.of_block {w w' : World} {a : OA} {n : Nat} {l : List Bool} (h : eG w a n l) (hb : 0<n->w'.heap[an a]? = w.heap[an a]?) : eG w' a n l :=
 ⟨h.len,h.pl,h.max,λi hi=>(MI (w:=w) (a:=⟨an a,aP a+i,none⟩) (hb (by omega))).trans (h.cell i hi)⟩
theorem l5.of_block {w w' : World} {B : Nat} {a : OA} {n : Nat} (h : l5 w B a n) (hb : 0<n->w'.heap[an a]? = w.heap[an a]?) : l5 w' B a n :=
 λhn=>⟨(h hn).1,λi hi=>(MD (w:=w) (a:=⟨an a,aP a+i,none⟩) (hb hn)).trans ((h hn).2 i hi)⟩
theorem Ints.below {B : Nat} {w w' : World} {a : OA} {n : Nat} {l : Lz} (h : Ints w a n l) (hb : Below B w w') (hB : 0<n->an a<B) : Ints w' a n l :=
 h.of_block λhn=>hb.block _ (hB hn)
theorem eG.below {B : Nat} {w w' : World} {a : OA} {n : Nat} {l : List Bool} (h : eG w a n l) (hb : Below B w w') (hB : 0<n->an a<B) : eG w' a n l :=
 h.of_block λhn=>hb.block _ (hB hn)
theorem Ints.ah {w w' : World} {a : OA} {n : Nat} {l : Lz} (h : Ints w a n l) (hb : Rs w w') : Ints w' a n l :=
 h.below hb λhn=>h.lt hn
theorem eG.ah {w w' : World} {a : OA} {n : Nat} {l : List Bool} (h : eG w a n l) (hb : Rs w w') : eG w' a n l :=
 h.below hb λhn=>h.lt hn
theorem cU.ah {w w' : World} {a : OA} {n : Nat} {l : ZZ} (h : cU w a n l) (hb : Rs w w') : cU w' a n l:=by refine ⟨h.len,h.pl,h.max,λi hi=>?_⟩;obtain ⟨b,m,c,hc,hr⟩:=h.cell i hi;exact ⟨b,m,c,(hb.cell (Mn w _ hc)).trans hc,hr.ah hb⟩
theorem l5.ah {w w' : World} {B : Nat} {a : OA} {n : Nat} (h : l5 w B a n) (hb : Rs w w') (hl : 0<n->an a<w.heap.size) : l5 w' B a n :=
 h.of_block λhn=>hb.block _ (hl hn)
theorem l5.mono {w : World} {B B' : Nat} {a : OA} {n : Nat} (h : l5 w B a n) (hB : B'<=B) : l5 w B' a n :=
 λhn=>⟨Mt hB (h hn).1,(h hn).2⟩
theorem Ints.nil (w : World) (c : OA) : Ints w c 0 []:=⟨rfl,λh=>by omega,by unfold maxLen;omega,λi h=>by omega⟩
theorem l5.nil (w : World) (B : Nat) (c : OA) : l5 w B c 0:=λh=>by omega
@[go_sem] theorem run_indexAt_pl {P : Program} (w : World) (t : TypeId) (a : OA) (len cap : Nat) (k : IntKind) (i : Int) (h : P.underlying t=some (.slice (P.elem t)))
  (hp : Pl a len) (h0 : 0<=i) (h1 : i<len) :
  (Instr.indexAt t (.slice a len cap) (.int k i)).run P w=((sizeOf (P.elem t)).run P w).andThen λs w=>.ok (.pointer (some ((⟨an a,aP a,none⟩ : Addr).add (i.toNat * s)))) w:=by have e : a=some ⟨an a,aP a,none⟩:=hp (by omega);generalize hb : an a=b at *;generalize ho : aP a=o at *;subst e;rw [run_indexAt_slice (h:=h),Mg ⟨h0,h1⟩]
theorem tR (l : List Bool) (i j : Nat) (x : Bool) (hi : i<l.length) : sB (l.set i x) j=if j=i then x else sB l j:=by
 unfold sB;simp only [Mk,NU];by_cases h : i=j
 ·subst h;simp [hi]
 ·rw [Mh h,Mh (by omega)]
theorem Ints.set {w : World} {a : OA} {n : Nat} {l : Lz} (h : Ints w a n l) (i : Nat) (hi : i<n) (x : Int) :
  Ints (w.setCell ⟨an a,aP a+i,none⟩ (.int .i64 x)) a n (l.set i x):=by
 refine ⟨by rw [M9];exact h.len,h.pl,h.max,λj hj=>?_⟩;rw [dD _ _ _ _ (by rw [h.len];exact hi)];by_cases e : j=i
 ·subst e;rw [Mg rfl];exact Mw w _ _ (h.cell j hj)
 ·rw [Mh e,MA _ _ _ _ (by simp <;> omega)];exact h.cell j hj
theorem eG.set {w : World} {a : OA} {n : Nat} {l : List Bool} (h : eG w a n l) (i : Nat) (hi : i<n) (x : Bool) :
  eG (w.setCell ⟨an a,aP a+i,none⟩ (.bool x)) a n (l.set i x):=by
 refine ⟨by rw [M9];exact h.len,h.pl,h.max,λj hj=>?_⟩;rw [tR _ _ _ _ (by rw [h.len];exact hi)];by_cases e : j=i
 ·subst e;rw [Mg rfl];exact Mw w _ _ (h.cell j hj)
 ·rw [Mh e,MA _ _ _ _ (by simp <;> omega)];exact h.cell j hj
theorem l5.set {w : World} {B : Nat} {a : OA} {n : Nat} (h : l5 w B a n) (p : Addr) (x : Value) : l5 (w.setCell p x) B a n :=
 λhn=>⟨(h hn).1,λi hi=>by rw [MW];exact (h hn).2 i hi⟩
theorem Ints.setOther {w : World} {a : OA} {n : Nat} {l : Lz} (h : Ints w a n l) {p : Addr} (x : Value) (hp : 0<n->an a ≠ p.block) : Ints (w.setCell p x) a n l :=
 h.of_block λhn=>MB _ _ _ _ (hp hn)
theorem eG.setOther {w : World} {a : OA} {n : Nat} {l : List Bool} (h : eG w a n l) {p : Addr} (x : Value) (hp : 0<n->an a ≠ p.block) : eG (w.setCell p x) a n l :=
 h.of_block λhn=>MB _ _ _ _ (hp hn)
theorem Pl.own {w : World} {base : Nat} {e : TypeId} {v : Value} {n : Nat} {xs : List Value} (h : w.ownsRow base e 1 v n xs) : ∃a c,v = .slice a n c/\Pl a n:=by
 rcases h.2 with ⟨rfl,rfl⟩ | ⟨g,cap,cur,rfl,_⟩
 ·exact ⟨none,0,rfl,λh=>by omega⟩
 ·exact ⟨_,cap,rfl,λ_=>rfl⟩
theorem bC {w : World} {base : Nat} {e : TypeId} {a : OA} {c n : Nat} {xs : List Value} (h : w.ownsRow base e 1 (.slice a n c) n xs) (i : Nat) (hi : i<n) :
  w.cell? ⟨an a,aP a+i,none⟩=xs[i]?/\w.frozen? ⟨an a,aP a+i,none⟩=false/\base<=an a/\xs.length=n/\n<=maxLen:=by
 obtain ⟨hl,h2⟩:=h;rcases h2 with ⟨h2,rfl⟩ | ⟨g,cap,cur,hv,hg,hh,hn,hm,hs,ht⟩
 ·omega
 ·cases hv
  simp only [ablk_some,aoff_some,OP];refine ⟨?_,by simp [World.frozen?,hh],hg,by omega,by omega⟩;rw [<- ht,Nj,Mg (by omega)];simp [World.cell?,hh]
theorem Ints.own {w : World} {base : Nat} {e : TypeId} {a : OA} {c n : Nat} {l : Lz} (h : w.ownsRow base e 1 (.slice a n c) n (l.map (Value.int .i64))) :
  Ints w a n l/\l5 w base a n:=by
 have hl : l.length=n:=by have:=h.1;simpa using this
 obtain ⟨a',c',hv,hp⟩:=Pl.own h;cases hv
 refine ⟨⟨hl,hp,?_,λi hi=>?_⟩,λhn=>⟨(bC h 0 hn).2.2.1,λi hi=>(bC h i hi).2.1⟩⟩
 ·rcases Na n with h0 | h0
  ·subst h0;unfold maxLen;omega
  ·exact (bC h 0 h0).2.2.2.2
 ·rw [(bC h i hi).1];simp [nth,show i<l.length by omega]
theorem eG.own {w : World} {base : Nat} {e : TypeId} {a : OA} {c n : Nat} {l : List Bool} (h : w.ownsRow base e 1 (.slice a n c) n (l.map Value.bool)) :
  eG w a n l/\l5 w base a n:=by
 have hl : l.length=n:=by have:=h.1;simpa using this
 obtain ⟨a',c',hv,hp⟩:=Pl.own h;cases hv
 refine ⟨⟨hl,hp,?_,λi hi=>?_⟩,λhn=>⟨(bC h 0 hn).2.2.1,λi hi=>(bC h i hi).2.1⟩⟩
 ·rcases Na n with h0 | h0
  ·subst h0;unfold maxLen;omega
  ·exact (bC h 0 h0).2.2.2.2
 ·rw [(bC h i hi).1];simp [sB,show i<l.length by omega]
theorem bN {w : World} {B : Nat} {e : TypeId} {a : OA} {c n : Nat} {xs : List Value} (h : w.ownsRow B e 1 (.slice a n c) n xs) (i : Nat) (hi : i<n) (u : Value) :
  (w.setCell ⟨an a,aP a+i,none⟩ u).ownsRow B e 1 (.slice a n c) n (xs.set i u):=by
 have h':=h;rcases h.2 with ⟨hv,h0⟩ | ⟨g,_,cur,hv,hg,hh,hn,hm,hs,ht⟩
 ·omega
 ·cases hv
  simpa using (h'.stored i u).1
theorem js {w w' : World} {B : Nat} {e : TypeId} {a : OA} {c n : Nat} {xs : List Value} (h : w.ownsRow B e 1 (.slice a n c) n xs)
  (hb : w'.heap[an a]? = w.heap[an a]?) : w'.ownsRow B e 1 (.slice a n c) n xs:=by
 refine ⟨h.1,?_⟩;rcases h.2 with h2 | ⟨g,cap,cur,hv,hg,hh,r⟩
 ·exact .inl h2
 ·cases hv
  exact .inr ⟨g,c,cur,rfl,hg,by rw [ablk_some] at hb;rw [hb];exact hh,r⟩
theorem nh {w : World} {B : Nat} {e : TypeId} {a : OA} {c n : Nat} {xs : List Value} (h : w.ownsRow B e 1 (.slice a n c) n xs) :
  (a=none/\n=0/\c=0)\/(B<=an a/\an a<w.heap.size):=by
 rcases h.2 with ⟨hv,hn⟩ | ⟨g,cap,cur,hv,hg,hh,r⟩
 ·cases hv;exact .inl ⟨rfl,hn,rfl⟩
 ·cases hv;exact .inr ⟨hg,(Array.getElem?_eq_some_iff.1 hh).1⟩
theorem bP {w : World} {B : Nat} {e : TypeId} : w.ownsRow B e 1 (.slice none 0 0) 0 []:=Qk _ _ _ _
theorem du {w : World} {B : Nat} {e : TypeId} {a : OA} {c n : Nat} {xs : List Value} (h : w.ownsRow B e 1 (.slice a n c) n xs) {p : Addr} (u : Value) (hp : a=none\/an a ≠ p.block) :
  (w.setCell p u).ownsRow B e 1 (.slice a n c) n xs:=by
 rcases hp with rfl | hp
 ·have h2:=nh h;refine ⟨h.1,.inl ?_⟩;rcases h.2 with h2 | ⟨g,cap,cur,hv,_⟩
  ·exact h2
  ·cases hv
 ·exact js h (MB _ _ _ _ hp)
theorem ba {w w' : World} {B : Nat} {e : TypeId} {a : OA} {c n : Nat} {xs : List Value} (h : w.ownsRow B e 1 (.slice a n c) n xs) (hb : Rs w w') :
  w'.ownsRow B e 1 (.slice a n c) n xs:=by
 refine ⟨h.1,?_⟩;rcases h.2 with h2 | ⟨g,cap,cur,hv,hg,hh,r⟩
 ·exact .inl h2
 ·exact .inr ⟨g,cap,cur,hv,hg,by rw [hb.block g (Array.getElem?_eq_some_iff.1 hh).1];exact hh,r⟩
theorem bg {w : World} {B B' : Nat} {e : TypeId} {v : Value} {n : Nat} {xs : List Value} (h : w.ownsRow B e 1 v n xs) (hB : B'<=B) : w.ownsRow B' e 1 v n xs:=by
 refine ⟨h.1,?_⟩;rcases h.2 with h2 | ⟨g,cap,cur,hv,hg,r⟩
 ·exact .inl h2
 ·exact .inr ⟨g,cap,cur,hv,Mt hB hg,r⟩
theorem jT {w : World} {B : Nat} {e : TypeId} {v : Value} {n : Nat} {xs : List Value} (h : w.ownsRow B e 1 v n xs) : xs.length=n:=by simpa using h.1
theorem Ints.grown {w w' : World} {a : OA} {n : Nat} {l : Lz} {row : Option Nat} (h : Ints w a n l) (hg : w.grownBy w' row) (hne : 0<n->row ≠ some (an a)) : Ints w' a n l :=
 h.of_block λhn=>hg.block _ (h.lt hn) (λe=>hne hn e.symm)
theorem eG.grown {w w' : World} {a : OA} {n : Nat} {l : List Bool} {row : Option Nat} (h : eG w a n l) (hg : w.grownBy w' row) (hne : 0<n->row ≠ some (an a)) : eG w' a n l :=
 h.of_block λhn=>hg.block _ (h.lt hn) (λe=>hne hn e.symm)
theorem b9 {P : Program} {w : World} {ops : Array Oper} {rest : List Oper} {o : Oper} {ac : Act} {Q : Exit->Act->World->Prop}
  (hg : o.guard=none) (l c : Operand) (t e : TypeId) (hop : o.op=Op.makeSlice t l c) (z : Value) (bytes : Nat)
  (h1 : P.underlying t=some (.slice e)) (h2 : (P.info? e).map (λi=>(i.zero,i.size,i.bytes))=some (some z,1,bytes)) (hz : z.cells = #[z])
  (n : Nat) (hl : ac.eval l = .int .i64 n) (hc : ac.eval c = .int .i64 n) (b2 : bytes * n<=281474976710656) (b3 : n<=maxLen)
  (hK : ∀a w',w'.ownsRow w.heap.size e 1 (.slice a n n) n (List.replicate n z)->Rs w w'->w.heap.size<=an a->an a<w'.heap.size->wpList P ops Q rest (ac.put o.dst (.slice a n n)) w') :
  wpList P ops Q (o :: rest) ac w:=by
 obtain ⟨i,hi,hz0,hz1,hz2⟩:=info_parts h2;refine wpList_make_full w hg l c t hop w.heap.size e i z 1 h1 hi hz0 hz1 .i64 .i64 n n n hl hc rfl rfl (by rw [hz2];exact b2) b3 (Mf _) λw' hown hgr=>?_;refine hK _ w' ?_ ((Mi _ _).grown hgr (Mf _) (λk hk=>by cases hk)) (by simp) ?_
 ·simpa [hz,toList_madeCells_one] using hown
 ·rcases hown.2 with ⟨hv,_⟩ | ⟨g,cap,cur,hv,_,hh,_⟩
  ·cases hv
  ·cases hv;exact (Array.getElem?_eq_some_iff.1 hh).1
theorem Below.app {B B0 : Nat} {w0 w w' : World} {e : TypeId} {a : OA} {n c : Nat} {xs : List Value} (h : Below B0 w0 w) (hown : w.ownsRow B e 1 (.slice a n c) n xs)
  (hg : w.grownBy w' (Value.slice a n c).ownBlock) (h0 : B0<=B) (h1 : B0<=w.heap.size) : Below B0 w0 w' :=
 h.grown hg h1 λk hk=>Mt h0 (hown.lt k hk).1
theorem aA {w w' : World} (hb : Rs w w') {a : Addr} {v : Value} (h : w.cell? a=some v) : w'.cell? a=some v :=
 (hb.cell (Mn w a h)).trans h
theorem Below.next {w0 w w' : World} (h : Rs w0 w) (hb : Rs w w') : Rs w0 w' :=
 h.trans (hb.mono h.size)
theorem I5 {w : World} {B : Nat} {e : TypeId} {a : OA} {n : Nat} {xs : List Value} (h : w.ownsRow B e 1 (.slice a n n) n xs) (hn : 0<n) :
  ∃g,a=some ⟨g,0,none⟩/\B<=g/\w.heap[g]? = some (.cells xs.toArray e (0,0)):=by
 rcases h.2 with ⟨hv,h0⟩ | ⟨g,cap,cur,hv,hg,hh,hle,hm,hs,ht⟩
 ·omega
 ·cases hv
  refine ⟨g,rfl,hg,?_⟩;rw [hh,<- ht,Ms (by rw [Array.length_toList,hs];exact Mf _)]
theorem BY {w : World} {B : Nat} {e : TypeId} {g n : Nat} {xs : List Value} (hB : B<=g) (h : w.heap[g]? = some (.cells xs.toArray e (0,0))) (hl : xs.length=n) (hm : n<=maxLen) :
  w.ownsRow B e 1 (.slice (some ⟨g,0,none⟩) n n) n xs :=
 ⟨by simpa using hl,.inr ⟨g,n,xs.toArray,rfl,hB,h,Mf _,hm,by simpa using hl,by simpa using Ms (by omega)⟩⟩
theorem oe {w : World} {g : Nat} {e : TypeId} {l : Lz} (h : w.heap[g]? = some (.cells (l.map (Value.int .i64)).toArray e (0,0))) (j : Nat) (hj : j<l.length) :
  w.cell? ⟨g,j,none⟩=some (.int .i64 (nth l j))/\w.frozen? ⟨g,j,none⟩=false:=by refine ⟨?_,by simp [World.frozen?,h]⟩;simp [World.cell?,h,nth,hj]
theorem nF {w : World} {g : Nat} {e : TypeId} {l : Lz} (h : w.heap[g]? = some (.cells (l.map (Value.int .i64)).toArray e (0,0))) (j : Nat) (x : Int) :
  (w.setCell ⟨g,j,none⟩ (.int .i64 x)).heap[g]? = some (.cells ((l.set j x).map (Value.int .i64)).toArray e (0,0)):=by have:=heap_setCell_same w g j _ e (.int .i64 x) h;simpa [MH] using this
theorem F7 (g j : Nat) : (⟨g,0,none⟩ : Addr).add j=⟨g,j,none⟩:=by unfold Addr.add;split <;> simp_all
theorem xm {w : World} {g : Nat} {e : TypeId} {l : Lz} (h : w.heap[g]? = some (.cells (l.map (Value.int .i64)).toArray e (0,0))) :
  ∀j v,(l.dropLast.map (Value.int .i64))[j]? = some v->w.cell? ((⟨g,0,none⟩ : Addr).add j)=some v:=by intro j v hj;have hlt:=(List.getElem?_eq_some_iff.1 hj).1;simp only [Mx,List.length_dropLast] at hlt;rw [F7,(oe h j (by omega)).1];rw [NV,ON,Mg hlt,MP (by omega)] at hj;rw [aj (by omega)];simpa using hj
theorem B4 (l : Lz) (h : 0<l.length) : splice (l.map (Value.int .i64)) 1 (l.dropLast.map (Value.int .i64))=(nth l 0 :: l.dropLast).map (Value.int .i64):=by
 unfold splice;match l,h with
 | x :: l,_ =>
  have e : (List.map (Value.int .i64) (x :: l)).drop (1+(List.map (Value.int .i64) (x :: l).dropLast).length)=[]:=by apply OO;simp;omega
  rw [e]
  simp [nth]
theorem bt : (prog.info? 3).map (λi=>(i.zero,i.size,i.bytes))=some (some (.int .i64 0),1,8):=by kernel_rfl
theorem oR (x p : Int) (m : Nat) (w : World) (hx : 0<=x) (hx2 : x<=9223372036854775807) (hp : 1<=p) (hm : m<=256) :
  Calls prog 253 #[.int .i64 x,.int .i64 p,.int .i64 m] w λe w' =>
   ∃a c,e = .returned (.slice a m c)/\Ints w' a m (bw x p m)/\l5 w' w.heap.size a m/\Rs w w':=by
 go_enter func253,ntmps253;go_wp2_with (at_make;refine b9 rfl _ _ 22 3 rfl (.int .i64 0) 8 underlying22 bt rfl m rfl rfl (by omega) (by unfold maxLen;omega) ?_;intro a w1 hown hbel hge hlt);go_loopw [0,13] (λxv iv wr=>∃k : Nat,k<=m/\iv = .int .i64 k/\xv = .int .i64 (jQ x p k) /\
   wr.ownsRow w.heap.size 3 1 (.slice a m m) m ((dn (bw x p k) k m).map (Value.int .i64))/\Rs w wr)
  (λ_ i _=>m - (intOf i).toNat)
 case atStart=>exact ⟨0,Mj _,rfl,rfl,by simpa [dn,bw] using hown,hbel⟩
 case round =>
  obtain ⟨k,hk,rfl,rfl,hown,hbel⟩:=hrel
  obtain ⟨hints,hmine⟩:=Ints.own hown
  have hq:=wF x p hx hp k
  have hpl:=hints.pl
  by_cases hlt : k<m
  ·have hc:=hints.cell k hlt
   have hf:=(hmine (by omega)).2 k hlt
   have hB:=(hmine (by omega)).1
   go_wp2
   go_roundw
   case rel =>
    refine ⟨k+1,by omega,by go_num,rfl,?_,hbel.setCell hB _⟩
    have h:=bN hown k hlt (.int .i64 (jQ x p k % p))
    rw [<- MH,fK _ _ _ _ (bJ p k x) hlt,<- pB] at h
    exact h
   case measure=>simp [intOf] <;> omega
  ·obtain rfl : k=m:=by omega
   go_wp2
   go_ret
   rw [gD] at hints
   exact ⟨_,_,rfl,hints,hmine,hbel⟩
def cF (a : OA) (b : Nat) : Prop:=a=none\/an a ≠ b
theorem cF.own {a : OA} {b : Nat} (h : cF a b) (n c : Nat) : (Value.slice a n c).ownBlock ≠ some b:=by
 rcases h with rfl | h
 ·simp [Value.ownBlock]
 ·cases a with
  | none=>simp [Value.ownBlock]
  | some x=>simpa [Value.ownBlock,an] using h
theorem cF.kg {a : OA} {b n c : Nat} (h : (Value.slice a n c).ownBlock ≠ some b) : cF a b:=by
 cases a with
 | none=>exact .inl rfl
 | some x=>exact .inr (by simpa [Value.ownBlock,an] using h)
theorem cF.nil (b : Nat) : cF none b:=.inl rfl
theorem mI {w : World} {B : Nat} {e : TypeId} {a : OA} {c n : Nat} {xs : List Value} (h : w.ownsRow B e 1 (.slice a n c) n xs) {b : Nat} (hb : b<B) : cF a b:=by
 rcases nh h with ⟨rfl,_⟩ | ⟨h1,_⟩
 ·exact .inl rfl
 ·exact .inr (by omega)
theorem fG {w : World} {B : Nat} {e : TypeId} {a : OA} {c n : Nat} {xs : List Value} (h : w.ownsRow B e 1 (.slice a n c) n xs) (hn : 0<n) : B<=an a/\an a<w.heap.size:=by
 rcases nh h with ⟨_,h0,_⟩ | h
 ·omega
 ·exact h
theorem bj {P : Program} {w : World} {ops : Array Oper} {rest : List Oper} {o : Oper} {ac : Act} {Q : Exit->Act->World->Prop}
  (hg : o.guard=none) (s x : Operand) (t e : TypeId) (hop : o.op = .call { callee:=.builtin .append,args:=#[s,x],argTypes:=#[t,t] }) (z : Value) (bytes : Nat)
  (h1 : P.underlying t=some (.slice e)) (h2 : (P.info? e).map (λi=>(i.zero,i.size,i.bytes))=some (some z,1,bytes)) (hz : z.cells = #[z])
  (B : Nat) (a : OA) (n c : Nat) (xs : List Value) (hs : ac.eval s = .slice a n c) (hown : w.ownsRow B e 1 (.slice a n c) n xs)
  (ad : Addr) (cc : Nat) (u : Value) (hx : ac.eval x = .slice (some ad) 1 cc) (hu : w.cell? ad=some u) (h1c : u.oneCell'=true)
  (b2 : (n+1) * bytes<=140737488355328) (b3 : n+1<=maxLen) (hB : B<=w.heap.size)
  (hK : ∀a' c' w',w'.ownsRow B e 1 (.slice a' (n+1) c') (n+1) (xs ++ [u])->w.grownBy w' (Value.slice a n c).ownBlock->(∀b,b<w.heap.size->cF a b->cF a' b)->wpList P ops Q rest (ac.put o.dst (.slice a' (n+1) c')) w') :
  wpList P ops Q (o :: rest) ac w:=by
 obtain ⟨i,hi,hz0,hz1,hz2⟩:=info_parts h2;refine wpList_append_own_at w hg s x t hop B e i z 1 bytes h1 hi hz0 hz1 hz2 (by rw [hz];rfl) (by decide) _ n xs hs hown ad 1 cc [u] hx rfl ?_ ?_ b3 b2 hB λv' w' hown' hgr _ hat=>?_
 ·intro j v hj;match j,hj with
  | 0,hj=>simp at hj;subst hj;simpa [Addr.add] using hu
 ·intro v hv;simp at hv;subst hv;exact h1c
 ·obtain ⟨a',c',rfl,_⟩:=Pl.own hown';refine hK a' c' w' hown' hgr λb hb hapt=>?_;have h:=hapt.own n c;rcases hat with h3 | h3
  ·exact cF.kg (n:=n+1) (c:=c') (by rw [h3];exact h)
  ·exact cF.kg (n:=n+1) (c:=c') (by rw [h3];intro h4;cases h4;omega)
theorem Ints.oN {w w' : World} {a ao : OA} {n m c : Nat} {l : Lz} (h : Ints w a n l) (hg : w.grownBy w' (Value.slice ao m c).ownBlock) (hne : 0<n->cF ao (an a)) : Ints w' a n l :=
 h.grown hg λhn=>(hne hn).own m c
theorem eG.oN {w w' : World} {a ao : OA} {n m c : Nat} {l : List Bool} (h : eG w a n l) (hg : w.grownBy w' (Value.slice ao m c).ownBlock) (hne : 0<n->cF ao (an a)) : eG w' a n l :=
 h.grown hg λhn=>(hne hn).own m c
theorem ji {w w' : World} {B : Nat} {e : TypeId} {a ao : OA} {n c m c' : Nat} {xs : List Value} (h : w.ownsRow B e 1 (.slice a n c) n xs) (hg : w.grownBy w' (Value.slice ao m c').ownBlock) (hne : cF ao (an a)) :
  w'.ownsRow B e 1 (.slice a n c) n xs:=by
 rcases nh h with ⟨rfl,rfl,rfl⟩ | ⟨_,hlt⟩
 ·have hx:=jT h;obtain rfl : xs=[]:=MF hx;exact bP
 ·exact js h (hg.block _ hlt (λe=>hne.own m c' e.symm))
theorem bA {w w' : World} {ao : OA} {m c : Nat} {ad : Addr} {v : Value} (hg : w.grownBy w' (Value.slice ao m c).ownBlock) (h : w.cell? ad=some v) (hne : cF ao ad.block) : w'.cell? ad=some v :=
 hg.cell h (λe=>hne.own m c e.symm)
theorem Ak (w : World) (l : Lz) (e : TypeId) {B : Nat} (hB : B<=w.heap.size) (hl : l.length<=maxLen) :
  (w.alloc (.cells (l.map (Value.int .i64)).toArray e)).ownsRow B e 1 (.slice (some ⟨w.heap.size,0,none⟩) l.length l.length) l.length (l.map (Value.int .i64)):=by simpa using Ql w (l.map (Value.int .i64)).toArray l.length hB hl (by simp)
theorem wS {P : Int} (hP : 0<P) (M : Nat) (mod : Lz) (x y : Int) : 0<=dk P M mod x y/\dk P M mod x y<P ^ M:=by have:=oS hP (eS P (mR M mod) (bw x P M) (bw y P M) M M) (dI.eS hP _ _ _ _ _);rwa [iL] at this
def jb (mul : Int->Int) : Nat->Lz->Int->Lz
 | 0,l,_=>l
 | n+1,l,y=>if y=0\/y ∈ l then l else jb mul n (l ++ [y]) (mul y)
theorem jD (mul : Int->Int) (n : Nat) (l : Lz) (y : Int) (h : y=0\/y ∈ l) : jb mul n l y=l:=by
 cases n
 ·rfl
 ·rw [jb,Mg h]
theorem rK (mul : Int->Int) (n : Nat) (l : Lz) (y : Int) (h : ¬ (y=0\/y ∈ l)) : jb mul (n+1) l y=jb mul n (l ++ [y]) (mul y):=by rw [jb,Mh h]
def e9 (P : Int) (M : Nat) (mod : Lz) (q : Nat) (x : Int) : Lz:=jb (λy=>dk P M mod y x) q [1] x
def gn (P : Int) (M : Nat) (mod : Lz) (q : Nat) (x : Int) : Bool :=
 (e9 P M mod q x).length == q - 1 && dk P M mod (nth (e9 P M mod q x) (q - 2)) x == 1
def lG (P : Int) (M : Nat) (mod : Lz) (q : Nat) : Nat->Nat->Lz
 | 0,_=>[]
 | n+1,x=>if gn P M mod q x then e9 P M mod q x else lG P M mod q n (x+1)
def gC (P : Int) (M : Nat) (mod : Lz) (q : Nat) : Lz:=lG P M mod q (q - 1) 1
def wg : List Bool->Nat
 | []=>0
 | b :: l=>(if b then 0 else 1)+wg l
theorem rO : ∀(l : List Bool) (i : Nat),l[i]? = some false->wg (l.set i true)+1=wg l
 | [],i,h=>by simp at h
 | b :: l,0,h=>by simp at h;subst h;simp [wg];omega
 | b :: l,i+1,h=>by simp at h;have:=rO l i h;simp [wg];omega
theorem sN (n : Nat) : wg (List.replicate n false)=n:=by
 induction n with
 | zero=>rfl
 | succ n ih=>simp [Pe,wg,ih];omega
theorem Aq (mul : Int->Int) (Q : Int) (hm : ∀y,0<=mul y/\mul y<Q) : ∀(n : Nat) (l : Lz) (y : Int),0<=y/\y<Q->(∀e ∈ l,0<=e/\e<Q)->∀e ∈ jb mul n l y,0<=e/\e<Q
 | 0,l,_,_,hl=>hl
 | n+1,l,y,hy,hl=>by
  unfold jb;split
  ·exact hl
  ·refine Aq mul Q hm n _ _ (hm y) λe he=>?_;rcases List.mem_append.1 he with h | h
   ·exact hl e h
   ·rw [List.mem_singleton.1 h];exact hy
theorem Jt {P : Int} (hP : 0<P) (M : Nat) (mod : Lz) (q : Nat) (x : Int) (hq : (q : Int)=P ^ M) (hq2 : 2<=q) (hx : 0<=x) (hx2 : x<q) : ∀e ∈ e9 P M mod q x,0<=e/\e<q:=by refine Aq _ _ (λy=>by rw [hq];exact wS hP M mod y x) _ _ _ ⟨hx,hx2⟩ λe he=>?_;rw [List.mem_singleton.1 he];omega
theorem qb {P : Int} (hP : 0<P) (M : Nat) (mod : Lz) (q : Nat) (x : Int) (hq : (q : Int)=P ^ M) (hq2 : 2<=q) (hx : 0<=x) (hx2 : x<q) (i : Nat) : 0<=nth (e9 P M mod q x) i/\nth (e9 P M mod q x) i<q:=by
 rcases MU i (e9 P M mod q x).length with h | h
 ·exact Jt hP M mod q x hq hq2 hx hx2 _ (aN h)
 ·rw [jY h];omega
def eD (P : Int) : Nat->Int->Int->Int
 | 0,_,_=>0
 | m+1,x,y=>(x+y) % P+P * eD P m (x / P) (y / P)
def gu (P : Int) : Nat->Int->Int
 | 0,_=>0
 | m+1,x=>(P - x % P) % P+P * gu P m (x / P)
theorem vI (P : Int) : ∀m,eD P m 0 0=0
 | 0=>rfl
 | m+1=>by simp [eD,vI P m]
theorem u9 (P : Int) : ∀m,gu P m 0=0
 | 0=>rfl
 | m+1=>by simp [gu,u9 P m]
theorem xW {P : Int} (hP : 0<P) : ∀(m : Nat) (x y : Int),0<=eD P m x y/\eD P m x y<P ^ m
 | 0,x,y=>by simp [eD]
 | m+1,x,y=>by have ih:=xW hP m (x / P) (y / P);have h1:=MZ (x+y) (show P ≠ 0 by omega);have h2:=MR (x+y) hP;have h3 : 0<=P * eD P m (x / P) (y / P):=NB (by omega) ih.1;have h4:=MQ (show eD P m (x / P) (y / P)+1<=P ^ m by omega) (show 0<=P by omega);rw [NM] at h4;simp only [eD,M6];rw [NF (P ^ m)];omega
theorem rq {P : Int} (hP : 0<P) : ∀(m : Nat) (x : Int),0<=gu P m x/\gu P m x<P ^ m
 | 0,x=>by simp [gu]
 | m+1,x=>by have ih:=rq hP m (x / P);have h1:=MZ (P - x % P) (show P ≠ 0 by omega);have h2:=MR (P - x % P) hP;have h3 : 0<=P * gu P m (x / P):=NB (by omega) ih.1;have h4:=MQ (show gu P m (x / P)+1<=P ^ m by omega) (show 0<=P by omega);rw [NM] at h4;simp only [gu,M6];rw [NF (P ^ m)];omega
theorem oy (P : Int) (hP : 0<P) : ∀(m : Nat) (x : Int),0<=x->x<P ^ m->jQ x P m=0
 | 0,x,h0,h1=>by simp at h1;simp [jQ];omega
 | m+1,x,h0,h1=>by rw [pK];refine oy P hP m (x / P) (ND h0 (by omega)) ?_;rw [M6] at h1;exact NZ hP h1
theorem Iq (x y : Nat) : (x ^^^ y) % 2=(x+y) % 2:=by have h:=QH x y 0;simp only [Nat.testBit_zero] at h;have hx:=Nt x;have hy:=Nt y;have hz:=Nt (x ^^^ y);rcases hx with hx | hx <;> rcases hy with hy | hy <;> rcases hz with hz | hz <;> simp [hx,hy,hz] at h <;> omega
theorem Ad : ∀(m : Nat) (x y : Nat),x<2 ^ m->y<2 ^ m->((x ^^^ y : Nat) : Int)=eD 2 m x y
 | 0,x,y,hx,hy=>by
  have h1 : x=0:=by simp at hx;omega
  have h2 : y=0:=by simp at hy;omega
  subst h1;subst h2;rfl
 | m+1,x,y,hx,hy=>by
  have ih:=Ad m (x / 2) (y / 2) (by rw [NJ] at hx;omega) (by rw [NJ] at hy;omega);simp only [eD];have e1 : ((x : Int) / 2)=((x / 2 : Nat) : Int):=by omega
  have e2 : ((y : Int) / 2)=((y / 2 : Nat) : Int):=by omega
  rw [e1,e2,<- ih,<- Nat.xor_div_two];have h3 : (x ^^^ y) % 2=(x+y) % 2:=Iq x y;omega
theorem qP {P : Program} (w : World) (t ty e : TypeId) (i : TypeInfo) (ht : P.underlying t=some (.slice e)) (hi : P.info? e=some i) (a ao : OA) (n c cs : Nat) (hn : n<=c) :
  (Builtin.append_ #[t,t] ty #[.slice a n c,.slice ao 0 cs]).run P w = .ok (.slice a n c) w:=by cases a <;> cases ao <;> simp [Builtin.append_,run_underlying ht,sizeOf,typeInfo,hi,Builtin.lenOf,Builtin.firstCells,hn,storeCells,loadCells,loadCellsFrom]
theorem rz {w : World} {B : Nat} {e : TypeId} {a : OA} {c n : Nat} {xs : List Value} (h : w.ownsRow B e 1 (.slice a n c) n xs) : n<=c:=by
 rcases h.2 with ⟨hv,h0⟩ | ⟨g,cap,cur,hv,hg,hh,hle,_⟩
 ·omega
 ·cases hv;exact hle
theorem rR {P : Program} {w : World} (t ty e : TypeId) (z : Value) (bytes : Nat)
  (h1 : P.underlying t=some (.slice e)) (h2 : (P.info? e).map (λi=>(i.zero,i.size,i.bytes))=some (some z,1,bytes)) (hz : z.cells = #[z])
  (B : Nat) (a : OA) (n c : Nat) (xs : List Value) (hown : w.ownsRow B e 1 (.slice a n c) n xs)
  (ao : OA) (m cc : Nat) (news : List Value) (hp : Pl ao m) (hl : news.length=m) (hc : ∀j,j<m->w.cell? ⟨an ao,aP ao+j,none⟩=news[j]?) (h1c : ∀u ∈ news,u.oneCell'=true)
  (b2 : (n+m) * bytes<=140737488355328) (b3 : n+m<=maxLen) (hB : B<=w.heap.size) :
  ∃a' c' w',(Builtin.append_ #[t,t] ty #[.slice a n c,.slice ao m cc]).run P w = .ok (.slice a' (n+m) c') w'/\w'.ownsRow B e 1 (.slice a' (n+m) c') (n+m) (xs ++ news) /\
   w.grownBy w' (Value.slice a n c).ownBlock/\(∀b,b<w.heap.size->cF a b->cF a' b):=by
 obtain ⟨i,hi,hz0,hz1,hz2⟩:=info_parts h2;by_cases hm : m=0
 ·subst hm;obtain rfl : news=[]:=MF hl;exact ⟨a,c,w,qP w t ty e i h1 hi a ao n c cc (rz hown),by simpa using hown,World.grownBy.refl _ _,λb _ h=>h⟩
 ·have hao:=hp (by omega);obtain ⟨v',w',hr,h3,h4,_,h6⟩:=run_append_own_at (P:=P) w B t ty e i z 1 bytes h1 hi hz0 hz1 hz2 (by rw [hz];rfl) (by decide) _ n xs hown ⟨an ao,aP ao,none⟩ m cc news (by omega)
   (λj u hu=>by have hj:=(List.getElem?_eq_some_iff.1 hu).1;rw [Qm,hc j (by omega)];exact hu) h1c b3 b2 hB
  obtain ⟨a',c',rfl,_⟩:=Pl.own h3;refine ⟨a',c',w',by rw [hao];exact hr,h3,h4,λb hb hapt=>?_⟩;have h:=hapt.own n c;rcases h6 with h6 | h6
  ·exact cF.kg (n:=n+m) (c:=c') (by rw [h6];exact h)
  ·exact cF.kg (n:=n+m) (c:=c') (by rw [h6];intro h7;cases h7;omega)
theorem iH {P : Program} {w : World} {ops : Array Oper} {rest : List Oper} {o : Oper} {ac : Act} {Q : Exit->Act->World->Prop}
  (hg : o.guard=none) (s x : Operand) (t e : TypeId) (hop : o.op = .call { callee:=.builtin .append,args:=#[s,x],argTypes:=#[t,t] }) (z : Value) (bytes : Nat)
  (h1 : P.underlying t=some (.slice e)) (h2 : (P.info? e).map (λi=>(i.zero,i.size,i.bytes))=some (some z,1,bytes)) (hz : z.cells = #[z])
  (B : Nat) (a : OA) (n c : Nat) (xs : List Value) (hs : ac.eval s = .slice a n c) (hown : w.ownsRow B e 1 (.slice a n c) n xs)
  (ao : OA) (m cc : Nat) (news : List Value) (hx : ac.eval x = .slice ao m cc) (hp : Pl ao m) (hl : news.length=m) (hc : ∀j,j<m->w.cell? ⟨an ao,aP ao+j,none⟩=news[j]?) (h1c : ∀u ∈ news,u.oneCell'=true)
  (b2 : (n+m) * bytes<=140737488355328) (b3 : n+m<=maxLen) (hB : B<=w.heap.size)
  (hK : ∀a' c' w',w'.ownsRow B e 1 (.slice a' (n+m) c') (n+m) (xs ++ news)->w.grownBy w' (Value.slice a n c).ownBlock->(∀b,b<w.heap.size->cF a b->cF a' b)->wpList P ops Q rest (ac.put o.dst (.slice a' (n+m) c')) w') :
  wpList P ops Q (o :: rest) ac w:=by refine wpList_plain hg λK hK'=>?_;obtain ⟨a',c',w',hr,h3,h4,h5⟩:=rR (P:=P) t o.type e z bytes h1 h2 hz B a n c xs hown ao m cc news hp hl hc h1c b2 b3 hB;unfold Oper.wp execOp;simp only [hop,resolve,invoke,builtin,Qn,Qo,Pu,PG,Nc,Pj,hs,hx,hr];exact hK' _ _ (hK a' c' w' h3 h4 h5)
theorem iQ {P : Program} {w : World} {ops : Array Oper} {o : Oper} {ac : Act} {K : Act->World->Prop} {Q : Exit->Act->World->Prop} {E : Prop}
  (hg : o.guard=none) (s x : Operand) (t e : TypeId) (hop : o.op = .call { callee:=.builtin .append,args:=#[s,x],argTypes:=#[t,t] }) (z : Value) (bytes : Nat)
  (h1 : P.underlying t=some (.slice e)) (h2 : (P.info? e).map (λi=>(i.zero,i.size,i.bytes))=some (some z,1,bytes)) (hz : z.cells = #[z])
  (B : Nat) (a : OA) (n c : Nat) (xs : List Value) (hs : ac.eval s = .slice a n c) (hown : w.ownsRow B e 1 (.slice a n c) n xs)
  (ao : OA) (m cc : Nat) (news : List Value) (hx : ac.eval x = .slice ao m cc) (hp : Pl ao m) (hl : news.length=m) (hc : ∀j,j<m->w.cell? ⟨an ao,aP ao+j,none⟩=news[j]?) (h1c : ∀u ∈ news,u.oneCell'=true)
  (b2 : (n+m) * bytes<=140737488355328) (b3 : n+m<=maxLen) (hB : B<=w.heap.size)
  (hK : ∀a' c' w',w'.ownsRow B e 1 (.slice a' (n+m) c') (n+m) (xs ++ news)->w.grownBy w' (Value.slice a n c).ownBlock->(∀b,b<w.heap.size->cF a b->cF a' b)->K (ac.put o.dst (.slice a' (n+m) c')) w') :
  if Region.wanted o (yielded ops ac.tmps)=true then Oper.wp P o ac w K Q else E:=by
 have hw : Region.wanted o (yielded ops ac.tmps)=true:=by simp [Region.wanted,hg]
 rw [Mg hw];obtain ⟨a',c',w',hr,h3,h4,h5⟩:=rR (P:=P) t o.type e z bytes h1 h2 hz B a n c xs hown ao m cc news hp hl hc h1c b2 b3 hB;unfold Oper.wp execOp;simp only [hop,resolve,invoke,builtin,Qn,Qo,Pu,PG,Nc,Pj,hs,hx,hr];exact hK a' c' w' h3 h4 h5
theorem run_mk {P : Program} (t e : TypeId) (z : Value) (bytes : Nat) (h1 : P.underlying t=some (.slice e)) (h2 : (P.info? e).map (λi=>(i.zero,i.size,i.bytes))=some (some z,1,bytes)) (hz : z.cells = #[z])
  (n : Nat) (b2 : bytes * n<=281474976710656) (b3 : n<=9223372036854775807) (w : World) :
  (Instr.makeSlice t (.int .i64 n) (.int .i64 n)).run P w = .ok (.slice (some ⟨w.heap.size,0,none⟩) n n) (w.alloc (.cells (List.replicate n z).toArray e)):=by obtain ⟨i,hi,hz0,hz1,hz2⟩:=info_parts h2;have h:=run_make (P:=P) w t e i z h1 hi hz0 .i64 .i64 n n (by omega) (Ob _) (by rw [hz2];omega) (by omega);rw [hz1,QF,hz,Mm] at h;rw [h];congr 3;rw [<- toList_madeCells_one]
theorem xK (w : World) (e : TypeId) (z : Value) (n : Nat) {B : Nat} (hB : B<=w.heap.size) (hn : n<=maxLen) :
  (w.alloc (.cells (List.replicate n z).toArray e)).ownsRow B e 1 (.slice (some ⟨w.heap.size,0,none⟩) n n) n (List.replicate n z):=by simpa using Ql w (List.replicate n z).toArray n hB hn (by simp)
theorem Ints.news {w : World} {a : OA} {n : Nat} {l : Lz} (h : Ints w a n l) : ∀j,j<n->w.cell? ⟨an a,aP a+j,none⟩=(l.map (Value.int .i64))[j]?:=by intro j hj;rw [h.cell j hj,NV,MP (by rw [h.len];exact hj),aj (by rw [h.len];exact hj)];rfl
theorem Below.kp {w0 w : World} (h : Rs w0 w) (o : Obj) : Rs w0 (w.alloc o):=h.alloc h.size o
theorem mL (w : World) (e : TypeId) : (w.alloc (.cells #[] e)).ownsRow w.heap.size e 1 (.slice (some ⟨w.heap.size,0,none⟩) 0 0) 0 [] :=
 World.ownsRow_made w #[] 0 (Mf _) (Mj _) rfl
theorem aE (w : World) (cs : Array Value) (e : TypeId) {g : Nat} (hg : g=w.heap.size) (i : Nat) : (w.alloc (.cells cs e)).cell? ⟨g,i,none⟩=cs[i]?:=by subst hg;exact P0 ..
theorem ph (w : World) (e : TypeId) (z : Value) (n : Nat) {B g : Nat} (hg : g=w.heap.size) (hB : B<=w.heap.size) (hn : n<=maxLen) :
  (w.alloc (.cells (Array.replicate n z) e)).ownsRow B e 1 (.slice (some ⟨g,0,none⟩) n n) n (List.replicate n z):=by subst hg;simpa using xK w e z n hB hn
theorem ot {w w' : World} {row : Option Nat} (h : w.drew.grownBy w' row) : w.grownBy w' row:=⟨h.os,h.tape,h.output,h.size,h.block⟩
section
def sm : Nat->(Nat->Int)->Int
 | 0,_=>0
 | n+1,f=>sm n f+f n
theorem bV {n : Nat} {f g : Nat->Int} (h : ∀i,i<n->f i=g i) : sm n f=sm n g:=by
 induction n with
 | zero=>rfl
 | succ n ih=>rw [sm,sm,ih λi hi=>h i (by omega),h n (by omega)]
theorem wR (n : Nat) (f g : Nat->Int) : sm n (λi=>f i+g i)=sm n f+sm n g:=by
 induction n with
 | zero=>rfl
 | succ n ih=>simp only [sm,ih];omega
theorem jU (n : Nat) : sm n (λ_=>0)=0:=by
 induction n with
 | zero=>rfl
 | succ n ih=>simp only [sm,ih];rfl
theorem GM (n : Nat) (c : Int) (f : Nat->Int) : sm n (λi=>c * f i)=c * sm n f:=by
 induction n with
 | zero=>simp [sm]
 | succ n ih=>simp only [sm,ih,NM]
theorem CU (n m : Nat) (f : Nat->Nat->Int) : sm n (λi=>sm m (λj=>f i j))=sm m (λj=>sm n (λi=>f i j)):=by
 induction n with
 | zero=>simp only [sm];rw [jU]
 | succ n ih=>simp only [sm,ih,wR]
theorem KR {n : Nat} {f : Nat->Int} {P : Int} (h : ∀i,i<n->P ∣ f i) : P ∣ sm n f:=by
 induction n with
 | zero=>exact ⟨0,by simp [sm]⟩
 | succ n ih=>exact P5 (ih λi hi=>h i (by omega)) (h n (by omega))
theorem kJ {n : Nat} {f : Nat->Int} {k : Nat} (hk : k<n) (h : ∀i,i<n->i ≠ k->f i=0) : sm n f=f k:=by
 induction n with
 | zero=>omega
 | succ n ih =>
  rw [sm]
  by_cases e : k=n
  ·subst e
   rw [bV (g:=λ_=>0) λi hi=>h i (by omega) (by omega),jU];omega
  ·rw [ih (by omega) λi hi=>h i (by omega),h n (by omega) (by omega)];omega
theorem Gn (n : Nat) (f : Nat->Int) : sm (n+1) f=f 0+sm n (λi=>f (i+1)):=by
 induction n with
 | zero=>simp [sm]
 | succ n ih=>rw [sm,ih];simp only [sm];omega
def ub (M : Nat) (low : Nat->Int) (v : Nat->Int) : Nat->Int :=
 λi=>if i<M then (if i=0 then 0 else v (i - 1)) - v (M - 1) * low i else 0
def fB (M : Nat) (low : Nat->Int) : Nat->(Nat->Int)->Nat->Int
 | 0,v=>v
 | k+1,v=>ub M low (fB M low k v)
variable {M : Nat} {low : Nat->Int}
theorem Iy (u v : Nat->Int) : ub M low (λi=>u i+v i)=λi=>ub M low u i+ub M low v i:=by
 funext i;simp only [ub];split
 ·split
  ·rw [P6];omega
  ·rw [P6];omega
 ·rfl
theorem Fg (c : Int) (v : Nat->Int) : ub M low (λi=>c * v i)=λi=>c * ub M low v i:=by
 funext i;simp only [ub];split
 ·split
  ·rw [QG,Qp,No]
  ·rw [QG,No]
 ·rw [Qp]
theorem CK (k : Nat) (u v : Nat->Int) : fB M low k (λi=>u i+v i)=λi=>fB M low k u i+fB M low k v i:=by
 induction k with
 | zero=>rfl
 | succ k ih=>rw [fB,ih,Iy];rfl
theorem kM (k : Nat) (c : Int) (v : Nat->Int) : fB M low k (λi=>c * v i)=λi=>c * fB M low k v i:=by
 induction k with
 | zero=>rfl
 | succ k ih=>rw [fB,ih,Fg];rfl
theorem yU (k : Nat) : fB M low k (λ_=>0)=λ_=>0:=by have:=kM (M:=M) (low:=low) k 0 (λ_=>0);simpa using this
theorem wN (k n : Nat) (f : Nat->Nat->Int) : fB M low k (λi=>sm n (λj=>f j i))=λi=>sm n (λj=>fB M low k (f j) i):=by
 induction n with
 | zero=>simp only [sm];exact yU k
 | succ n ih=>simp only [sm];rw [CK,ih]
theorem oI (k l : Nat) (v : Nat->Int) : fB M low (k+l) v=fB M low k (fB M low l v):=by
 induction k with
 | zero=>rw [OP];rfl
 | succ k ih=>rw [show k+1+l=(k+l)+1 by omega,fB,fB,ih]
def eV (j : Nat) : Nat->Int:=λi=>if i=j then 1 else 0
def Sh (M : Nat) (v : Nat->Int) : Prop:=∀i,M<=i->v i=0
theorem Ig (v : Nat->Int) : Sh M (ub M low v):=λi hi=>by simp only [ub];rw [Mh (by omega)]
theorem KW {v : Nat->Int} (h : Sh M v) (k : Nat) : Sh M (fB M low k v):=by
 cases k with
 | zero=>exact h
 | succ k=>exact Ig _
theorem CZ (j : Nat) (hj : j<M) : fB M low j (eV 0)=eV j:=by
 induction j with
 | zero=>rfl
 | succ j ih =>
  rw [fB,ih (by omega)]
  funext i
  simp only [ub,eV]
  by_cases h : i<M
  ·rw [Mg h,Mh (show ¬ M - 1=j by omega)]
   by_cases h0 : i=0
   ·rw [Mg h0,Mh (by omega)];omega
   ·rw [Mh h0]
    by_cases h1 : i=j+1
    ·rw [Mg h1,Mg (by omega)];omega
    ·rw [Mh h1,Mh (by omega)];omega
  ·rw [Mh h,Mh (by omega)]
theorem Sh.expand {v : Nat->Int} (h : Sh M v) : v=λk=>sm M (λj=>v j * fB M low j (eV 0) k):=by
 funext k;rw [bV (g:=λj=>v j * eV j k) λj hj=>by rw [CZ j hj]];by_cases hk : k<M
 ·rw [kJ hk λi hi hne=>by simp only [eV];rw [Mh (by omega)];omega];simp [eV]
 ·rw [h k (by omega),bV (g:=λ_=>0) λj hj=>by simp only [eV];rw [Mh (by omega)];omega,jU]
def gM (M : Nat) (low : Nat->Int) (x y : Nat->Int) : Nat->Int:=λk=>sm M (λi=>x i * fB M low i y k)
theorem IG {x y : Nat->Int} (hy : Sh M y) : Sh M (gM M low x y):=λk hk=>by simp only [gM];rw [bV (g:=λ_=>0) λi _=>by rw [KW hy i k hk];omega,jU]
theorem lR {x y : Nat->Int} (hy : Sh M y) : gM M low x y=λk=>sm M (λi=>sm M (λj=>x i * y j * fB M low (i+j) (eV 0) k)):=by funext k;simp only [gM];refine bV λi _=>?_;have e : fB M low i y=fB M low i (λk=>sm M (λj=>y j * fB M low j (eV 0) k)):=congrArg _ hy.expand;rw [e,wN];simp only;rw [<- GM];refine bV λj _=>?_;rw [kM,oI,No]
theorem mM {x y : Nat->Int} (hx : Sh M x) (hy : Sh M y) : gM M low x y=gM M low y x:=by rw [lR hx,lR hy];funext k;rw [CU];refine bV λi _=>bV λj _=>?_;rw [NF (x j),Qq j i]
theorem vM (x y z : Nat->Int) : gM M low x (gM M low y z)=λk=>sm M (λi=>sm M (λj=>x i * y j * fB M low (i+j) z k)):=by funext k;refine bV λi _=>?_;rw [show gM M low y z=(λk=>sm M (λj=>y j * fB M low j z k)) from rfl,wN];simp only;rw [<- GM];refine bV λj _=>?_;rw [kM,oI,No]
theorem uG (x y z : Nat->Int) : gM M low x (gM M low y z)=gM M low y (gM M low x z):=by rw [vM,vM];funext k;rw [CU];refine bV λi _=>bV λj _=>?_;rw [NF (x j),Qq j i]
theorem AW {x y z : Nat->Int} (hx : Sh M x) (hy : Sh M y) (hz : Sh M z) : gM M low (gM M low x y) z=gM M low x (gM M low y z):=by rw [mM (IG hy) hz,uG,mM hz hy]
theorem GU {x : Nat->Int} (hM : 0<M) (hx : Sh M x) : gM M low (eV 0) x=x:=by funext k;simp only [gM];rw [kJ hM λi _ hne=>by simp only [eV];rw [Mh hne];omega];simp [eV,fB]
theorem uw (x y z : Nat->Int) : gM M low x (λi=>y i+z i)=λk=>gM M low x y k+gM M low x z k:=by funext k;simp only [gM];rw [<- wR];refine bV λi _=>?_;rw [CK,NM]
def Cg (P : Int) (u v : Nat->Int) : Prop:=∀i,P ∣ u i - v i
theorem Cg.refl (P : Int) (u : Nat->Int) : Cg P u u:=λi=>⟨0,by omega⟩
theorem Cg.symm {P : Int} {u v : Nat->Int} (h : Cg P u v) : Cg P v u:=λi=>by obtain ⟨c,hc⟩:=h i;exact ⟨-c,by rw [P7];omega⟩
theorem Cg.trans {P : Int} {u v x : Nat->Int} (h : Cg P u v) (k : Cg P v x) : Cg P u x:=λi=>by obtain ⟨c,hc⟩:=h i;obtain ⟨d,hd⟩:=k i;exact ⟨c+d,by rw [NM];omega⟩
theorem Cg.of_eq {P : Int} {u v : Nat->Int} (h : u=v) : Cg P u v:=h ▸ Cg.refl P u
theorem GD {P : Int} {u v : Nat->Int} (h : Cg P u v) : Cg P (ub M low u) (ub M low v):=λi=>by
 simp only [ub];split
 ·obtain ⟨c,hc⟩:=h (M - 1);have e : u (M - 1) * low i - v (M - 1) * low i=P * (c * low i):=by rw [<- Px,hc,No]
  split
  ·exact ⟨-(c * low i),by rw [P7,<- e];omega⟩
  ·obtain ⟨d,hd⟩:=h (i - 1);exact ⟨d - c * low i,by rw [QG,<- e,<- hd];omega⟩
 ·exact ⟨0,by omega⟩
theorem KU {P : Int} {u v : Nat->Int} (h : Cg P u v) (k : Nat) : Cg P (fB M low k u) (fB M low k v):=by
 induction k with
 | zero=>exact h
 | succ k ih=>exact GD ih
theorem Cg.add {P : Int} {u v x y : Nat->Int} (h : Cg P u v) (k : Cg P x y) : Cg P (λi=>u i+x i) (λi=>v i+y i):=λi=>by obtain ⟨c,hc⟩:=h i;obtain ⟨d,hd⟩:=k i;exact ⟨c+d,by simp only [NM];omega⟩
theorem yW {P a b c d : Int} (h : P ∣ a - b) (k : P ∣ c - d) : P ∣ a * c - b * d:=by
 obtain ⟨x,hx⟩:=h;obtain ⟨y,hy⟩:=k;have ea : a=b+P * x:=by omega
 have ec : c=d+P * y:=by omega
 refine ⟨x * d+b * y+P * x * y,?_⟩;rw [ea,ec];simp only [P6,NM];have e1 : b * (P * y)=P * (b * y):=by rw [<- No,NF b P,No]
 have e2 : P * x * (P * y)=P * (P * x * y):=by rw [<- No,NF (P * x) P,No]
 have e3 : P * (x * d)=P * x * d:=by rw [No]
 rw [e1,e2,e3];omega
theorem wP {P : Int} {u v x y : Nat->Int} (h : Cg P u v) (k : Cg P x y) : Cg P (gM M low u x) (gM M low v y):=λi=>by
 simp only [gM];have e : sm M (λj=>u j * fB M low j x i) - sm M (λj=>v j * fB M low j y i)=sm M (λj=>u j * fB M low j x i - v j * fB M low j y i):=by
  have:=wR M (λj=>u j * fB M low j x i - v j * fB M low j y i) (λj=>v j * fB M low j y i);have e2 : sm M (λj=>u j * fB M low j x i - v j * fB M low j y i+v j * fB M low j y i)=sm M (λj=>u j * fB M low j x i):=bV λj _=>by omega
  omega
 rw [e];exact KR λj _=>yW (h j) (KU k j i)
end
section
def dV (P : Int) (M : Nat) (x : Int) : Nat->Int:=nth (bw x P M)
theorem n8 (P : Int) (M : Nat) (x : Int) : Sh M (dV P M x):=λi hi=>jY (by rw [bJ];exact hi)
theorem pJ {P : Int} (hP : 0<P) : ∀(M : Nat) (x : Int),0<=x->x<P ^ M->dy P (bw x P M)=x
 | 0,x,h0,h1=>by simp at h1;simp [bw,dy];omega
 | M+1,x,h0,h1=>by rw [bw,dy,pJ hP M (x / P) (ND h0 (by omega)) (NZ hP (by rwa [M6] at h1))];exact P1 x P
theorem pW {P : Int} (c r : Int) (M : Nat) (hc0 : 0<=c) (hc1 : c<P) : bw (c+P * r) P (M+1)=c :: bw r P M:=by rw [bw,Int.add_mul_emod_self_left,Qr hc0 hc1,Int.add_mul_ediv_left _ _ (by omega),PL hc0 hc1,Int.zero_add]
theorem mC {P : Int} : ∀(l : Lz),dI P l->bw (dy P l) P l.length=l
 | [],_=>rfl
 | c :: l,h=>by have h0:=h 0;simp only [nth,Pf] at h0;rw [dy,MT,pW c _ _ h0.1 h0.2,mC l (λi=>by simpa [nth] using h (i+1))]
theorem pZ (P x : Int) : P ∣ x % P - x:=⟨-(x / P),by have:=P1 x P;rw [P7];omega⟩
theorem DJ {P a b : Int} (hP : 0<P) (ha : 0<=a) (ha1 : a<P) (hb : 0<=b) (hb1 : b<P) (h : P ∣ a - b) : a=b:=by
 obtain ⟨c,hc⟩:=h;have hc0 : c=0:=by
  rcases Int.lt_trichotomy c 0 with h1 | h1 | h1
  ·have:=MQ (show c <= -1 by omega) (show 0<=P by omega);omega
  ·exact h1
  ·have:=MQ (show 1<=c by omega) (show 0<=P by omega);omega
 rw [hc0] at hc;omega
theorem Kn {P : Int} (hP : 0<P) {M : Nat} {x y : Int} (hx0 : 0<=x) (hx1 : x<P ^ M) (hy0 : 0<=y) (hy1 : y<P ^ M) (h : Cg P (dV P M x) (dV P M y)) : x=y:=by
 have e : bw x P M=bw y P M:=by refine fR (by rw [bJ,bJ]) λi _=>?_;have h1:=dI.bw hP M x i;have h2:=dI.bw hP M y i;exact DJ hP h1.1 h1.2 h2.1 h2.2 (h i)
 rw [<- pJ hP M x hx0 hx1,<- pJ hP M y hy0 hy1,e]
theorem eA (c : Int) (l : Lz) : nth (c :: l) 0=c:=by simp [nth]
theorem dL (c : Int) (l : Lz) (i : Nat) : nth (c :: l) (i+1)=nth l i:=by simp [nth]
theorem gW {P : Int} (hP : 0<P) : ∀(M : Nat) (x y : Int),Cg P (dV P M (eD P M x y)) (λi=>dV P M x i+dV P M y i)
 | 0,x,y=>λi=>by simp [dV,bw,nth]
 | M+1,x,y=>λi=>by
  simp only [dV,eD];rw [pW _ _ _ (MZ _ (by omega)) (MR _ hP),bw,bw];match i with
  | 0 =>
   rw [eA,eA,eA]
   have h1:=pZ P (x+y)
   have h2:=pZ P x
   have h3:=pZ P y
   have h4:=Int.dvd_sub (Int.dvd_sub h1 h2) h3
   rwa [show (x+y) % P - (x+y) - (x % P - x) - (y % P - y)=(x+y) % P - (x % P+y % P) by omega] at h4
  | i+1 =>
   rw [dL,dL,dL]
   exact gW hP M (x / P) (y / P) i
theorem CD {P : Int} (hP : 0<P) : ∀(M : Nat) (x : Int),Cg P (dV P M (gu P M x)) (λi=>- dV P M x i)
 | 0,x=>λi=>by simp [dV,bw,nth]
 | M+1,x=>λi=>by
  simp only [dV,gu];rw [pW _ _ _ (MZ _ (by omega)) (MR _ hP),bw];match i with
  | 0 =>
   rw [eA,eA]
   have h1:=pZ P (P - x % P)
   have h4:=P5 h1 (Int.dvd_refl P)
   rwa [show (P - x % P) % P - (P - x % P)+P=(P - x % P) % P - - (x % P) by omega] at h4
  | i+1 =>
   rw [dL,dL]
   exact CD hP M (x / P) i
theorem og (P : Int) : ∀(M : Nat),dV P M 0=λ_=>0
 | 0=>by funext i;simp [dV,bw,nth]
 | M+1=>by
  funext i;simp only [dV,bw];match i with
  | 0=>rw [eA];simp
  | i+1=>rw [dL];have:=congrFun (og P M) i;simpa [dV] using this
theorem KP {P : Int} (hP : 2<=P) {M : Nat} (hM : 0<M) : dV P M 1=eV 0:=by
 obtain ⟨m,rfl⟩ : ∃m,M=m+1:=⟨M - 1,by omega⟩
 funext i;simp only [dV,bw];match i with
 | 0=>rw [eA];simp [eV];exact Qr (by omega) (by omega)
 | i+1 =>
  rw [dL,PL (by omega) (by omega)]
  have:=congrFun (og P m) i
  simpa [dV,eV] using this
theorem IY {out : Lz} {M i : Nat} (hl : out.length=M) (hi : i<M) : nth (shl out) i=if i=0 then 0 else nth out (i - 1):=by
 match i with
 | 0=>simp [shl,nth]
 | i+1 =>
  rw [shl,dL,Mh (by omega)]
  simp only [nth,Mk,ON]
  rw [Mg (by omega)];rfl
theorem uV {P : Int} (hP : 0<P) (low a b : Lz) {M : Nat} (ha : a.length=M) : ∀k,k<=M ->
  Cg P (nth (eS P low a b M k)) (λi=>sm k (λj=>nth b (M - k+j) * fB M (nth low) j (nth a) i))
 | 0,_=>λi=>by
  have e : nth (eS P low a b M 0) i=0:=by simp only [eS,nth,Mk,MN];split <;> rfl
  rw [e];simp [sm]
 | k+1,hk=>by
  have ih:=GD (M:=M) (low:=nth low) (uV hP low a b ha k (by omega));have e1 : (λi=>sm (k+1) (λj=>nth b (M - (k+1)+j) * fB M (nth low) j (nth a) i)) =
    λi=>ub M (nth low) (λi=>sm k (λj=>nth b (M - k+j) * fB M (nth low) j (nth a) i)) i+nth b (M - 1 - k) * nth a i:=by
   funext i;rw [Gn,show M - (k+1)+0=M - 1 - k by omega];have e2:=congrFun (wN (M:=M) (low:=nth low) 1 k (λj i=>nth b (M - k+j) * fB M (nth low) j (nth a) i)) i;have e3 : ub M (nth low) (λi=>sm k (λj=>nth b (M - k+j) * fB M (nth low) j (nth a) i)) i=sm k (λj=>nth b (M - (k+1)+(j+1)) * fB M (nth low) (j+1) (nth a) i):=by refine Eq.trans e2 (bV λj _=>?_);rw [kM,show M - (k+1)+(j+1)=M - k+j by omega];rfl
   rw [e3];show nth b (M - 1 - k) * nth a i+_=_;omega
  rw [e1];intro i;show P ∣ nth (eS P low a b M (k+1)) i - (ub M (nth low) (λi=>sm k (λj=>nth b (M - k+j) * fB M (nth low) j (nth a) i)) i+nth b (M - 1 - k) * nth a i);by_cases hi : i<M
  ·rw [eS,mE _ _ _ _ _ _ _ hi,CS,IY (iL ..) hi];have h1:=ih i;generalize hv : ub M (nth low) (λi=>sm k (λj=>nth b (M - k+j) * fB M (nth low) j (nth a) i)) i=z at *;simp only [ub,Mg hi] at h1;generalize (if i=0 then (0 : Int) else nth (eS P low a b M k) (i - 1))=u at *;generalize nth (eS P low a b M k) (M - 1)=t at *;generalize nth b (M - 1 - k) * nth a i=c at *;have h2:=pZ P (u+(P - t) * nth low i+c);have h3 : P ∣ P * nth low i:=Int.dvd_mul_right _ _;have h4:=P5 (P5 h2 h1) h3;rw [Px] at h4 ⊢;rwa [show (u+(P * nth low i - t * nth low i)+c) % P - (u+(P * nth low i - t * nth low i)+c)+(u - t * nth low i - z)+P * nth low i=(u+(P * nth low i - t * nth low i)+c) % P - (z+c) by omega] at h4
  ·rw [jY (by rw [iL];omega),jY (l:=a) (by omega)];have e2 : ub M (nth low) (λi=>sm k (λj=>nth b (M - k+j) * fB M (nth low) j (nth a) i)) i=0:=Ig _ i (by omega);rw [e2];simp
theorem gz {P : Int} (hP : 0<P) (M : Nat) (mod : Lz) (x y : Int) : Cg P (dV P M (dk P M mod x y)) (gM M (nth (mR M mod)) (dV P M x) (dV P M y)):=by
 have h:=uV hP (mR M mod) (bw x P M) (bw y P M) (bJ P M x) M (Mf _);have e : dV P M (dk P M mod x y)=nth (eS P (mR M mod) (bw x P M) (bw y P M) M M):=by unfold dV dk;have:=mC (P:=P) (eS P (mR M mod) (bw x P M) (bw y P M) M M) (dI.eS hP _ _ _ _ _);rw [iL] at this;rw [this]
 rw [e,mM (n8 P M x) (n8 P M y)];refine h.trans (Cg.of_eq ?_);funext i;simp only [gM];refine bV λj _=>?_;rw [show M - M+j=j by omega];rfl
structure lJ (P : Int) (M : Nat) : Prop where
 p : 2<=P
 m : 0<M
def fC (P : Int) (M : Nat) (x : Int) : Prop:=0<=x/\x<P ^ M
variable {P : Int} {M : Nat} {mod : Lz}
theorem fC.ext (h : lJ P M) {x y : Int} (hx : fC P M x) (hy : fC P M y) (e : Cg P (dV P M x) (dV P M y)) : x=y:=Kn (by have:=h.p;omega) hx.1 hx.2 hy.1 hy.2 e
theorem fW (h : lJ P M) (x y : Int) : fC P M (dk P M mod x y):=wS (by have:=h.p;omega) M mod x y
theorem iI (h : lJ P M) (x y : Int) : fC P M (eD P M x y):=xW (by have:=h.p;omega) M x y
theorem wk (h : lJ P M) (x : Int) : fC P M (gu P M x):=rq (by have:=h.p;omega) M x
theorem one_lt_pow (h : lJ P M) : 1<P ^ M:=by
 have h1:=dF (P:=P) (by have:=h.p;omega) h.m;have h2:=h.p;have h3 : P ^ (0+1)=P:=by rw [M6,N0,OK]
 have h4 : P ^ (0+1)<=P ^ M:=h1;omega
theorem wq (h : lJ P M) : fC P M 1:=⟨by omega,one_lt_pow h⟩
theorem wW (h : lJ P M) : fC P M 0:=⟨by omega,by have:=one_lt_pow h;omega⟩
theorem lJ.pos (h : lJ P M) : 0<P:=by have:=h.p;omega
theorem ju (h : lJ P M) (x y : Int) : dk P M mod x y=dk P M mod y x :=
 (fW h x y).ext h (fW h y x) (((gz h.pos M mod x y).trans (Cg.of_eq (mM (n8 _ _ _) (n8 _ _ _)))).trans (gz h.pos M mod y x).symm)
theorem sf (h : lJ P M) (x y z : Int) : dk P M mod (dk P M mod x y) z=dk P M mod x (dk P M mod y z):=by refine (fW h _ z).ext h (fW h x _) ?_;refine (gz h.pos M mod _ z).trans (((wP (gz h.pos M mod x y) (Cg.refl _ _)).trans (Cg.of_eq (AW (n8 _ _ _) (n8 _ _ _) (n8 _ _ _)))).trans ?_);exact ((gz h.pos M mod x _).trans (wP (Cg.refl _ _) (gz h.pos M mod y z))).symm
theorem iY (h : lJ P M) {x : Int} (hx : fC P M x) : dk P M mod 1 x=x:=by refine (fW h 1 x).ext h hx ((gz h.pos M mod 1 x).trans (Cg.of_eq ?_));rw [KP h.p h.m,GU h.m (n8 _ _ _)]
theorem pE (h : lJ P M) (x : Int) : dk P M mod x 0=0:=by refine (fW h x 0).ext h (wW h) ((gz h.pos M mod x 0).trans (Cg.of_eq ?_));rw [og];funext i;simp only [gM];rw [bV (g:=λ_=>0) λj _=>by rw [yU];simp,jU]
theorem Fu (h : lJ P M) (x y z : Int) : dk P M mod x (eD P M y z)=eD P M (dk P M mod x y) (dk P M mod x z):=by refine (fW h x _).ext h (iI h _ _) ((gz h.pos M mod x _).trans ?_);refine (wP (Cg.refl _ _) (gW h.pos M y z)).trans ((Cg.of_eq (uw _ _ _)).trans ?_);exact ((gW h.pos M _ _).trans (Cg.add (gz h.pos M mod x y) (gz h.pos M mod x z))).symm
theorem EP (h : lJ P M) (x y : Int) : eD P M x y=eD P M y x:=by refine (iI h x y).ext h (iI h y x) ((gW h.pos M x y).trans ((Cg.of_eq ?_).trans (gW h.pos M y x).symm));funext i;show _=_;omega
theorem A4 (h : lJ P M) (x y z : Int) : eD P M (eD P M x y) z=eD P M x (eD P M y z):=by refine (iI h _ z).ext h (iI h x _) ?_;refine (gW h.pos M _ z).trans ((Cg.add (gW h.pos M x y) (Cg.refl _ _)).trans ((Cg.of_eq ?_).trans ((gW h.pos M x _).trans (Cg.add (Cg.refl _ _) (gW h.pos M y z))).symm));funext i;show _=_;omega
theorem JD (h : lJ P M) {x : Int} (hx : fC P M x) : eD P M x 0=x:=by refine (iI h x 0).ext h hx ((gW h.pos M x 0).trans (Cg.of_eq ?_));rw [og];funext i;simp
theorem Ev (h : lJ P M) (x : Int) : eD P M x (gu P M x)=0:=by refine (iI h x _).ext h (wW h) ((gW h.pos M x _).trans ((Cg.add (Cg.refl _ _) (CD h.pos M x)).trans (Cg.of_eq ?_)));rw [og];funext i;show _=_;omega
end
section
structure yA (cl : Z6->Nat->Prop) : Prop where
 mem : ∀l x,x ∈ l->cl l x
 mono : ∀l l',(∀x ∈ l,cl l' x)->∀y,cl l y->cl l' y
 exch : ∀l x y,cl (x :: l) y->¬ cl l y->cl (y :: l) x
inductive Rk (cl : Z6->Nat->Prop) : Z6->Nat->Prop
 | nil : Rk cl [] 0
 | dep {l n} (x : Nat) : cl l x->Rk cl l n->Rk cl (x :: l) n
 | ind {l n} (x : Nat) : ¬ cl l x->Rk cl l n->Rk cl (x :: l) (n+1)
variable {cl : Z6->Nat->Prop}
theorem Rk.ex (cl : Z6->Nat->Prop) : ∀l,∃n,Rk cl l n
 | []=>⟨0,.nil⟩
 | x :: l=>by
  obtain ⟨n,h⟩:=Rk.ex cl l;by_cases hx : cl l x
  ·exact ⟨n,.dep x hx h⟩
  ·exact ⟨n+1,.ind x hx h⟩
theorem Rk.uniq {l : Z6} {n : Nat} (h : Rk cl l n) : ∀ {m},Rk cl l m->n=m:=by
 induction h with
 | nil=>intro m h;cases h;rfl
 | dep x hx _ ih =>
  intro m h
  cases h with
  | dep _ _ h=>exact ih h
  | ind _ hn _=>exact absurd hx hn
 | ind x hx _ ih =>
  intro m h
  cases h with
  | dep _ hn _=>exact absurd hn hx
  | ind _ _ h=>rw [ih h]
theorem yA.sub (h : yA cl) {l l' : Z6} (hs : ∀x ∈ l,x ∈ l') {y : Nat} (hy : cl l y) : cl l' y:=h.mono l l' (λx hx=>h.mem l' x (hs x hx)) y hy
theorem yA.drop (h : yA cl) {l : Z6} {x y : Nat} (hx : cl l x) (hy : cl (x :: l) y) : cl l y :=
 h.mono (x :: l) l (λz hz=>by
  rcases List.mem_cons.1 hz with rfl | hz
  ·exact hx
  ·exact h.mem l z hz) y hy
theorem Rk.swap (h : yA cl) {l : Z6} {x y n : Nat} (hr : Rk cl (x :: y :: l) n) : Rk cl (y :: x :: l) n:=by
 have up : ∀ {z u},cl l z->cl (u :: l) z:=λhz=>h.sub (λx hx=>by simp [hx]) hz;cases hr with
 | dep _ hx hr =>
  cases hr with
  | dep _ hy hr=>exact .dep y (up hy) (.dep x (h.drop hy hx) hr)
  | ind _ hy hr =>
   by_cases hxl : cl l x
   ·exact .ind y (λhc=>hy (h.drop hxl hc)) (.dep x hxl hr)
   ·exact .dep y (h.exch l y x hx hxl) (.ind x hxl hr)
 | ind _ hx hr =>
  cases hr with
  | dep _ hy hr=>exact .dep y (up hy) (.ind x (λhc=>hx (up hc)) hr)
  | ind _ hy hr =>
   have hxl : ¬ cl l x:=λhc=>hx (up hc)
   exact .ind y (λhc=>hx (h.exch l x y hc hy)) (.ind x hxl hr)
theorem yA.perm (h : yA cl) {l l' : Z6} (hp : l.Perm l') {x : Nat} : cl l x->cl l' x:=h.sub λy hy=>hp.mem_iff.1 hy
theorem Rk.perm (h : yA cl) {l l' : Z6} (hp : l.Perm l') : ∀ {n},Rk cl l n->Rk cl l' n:=by
 induction hp with
 | nil=>intro n hr;exact hr
 | cons x hp ih =>
  intro n hr
  cases hr with
  | dep _ hx hr=>exact .dep x (h.perm hp hx) (ih hr)
  | ind _ hx hr=>exact .ind x (λhc=>hx (h.perm hp.symm hc)) (ih hr)
 | swap x y l=>intro n hr;exact hr.swap h
 | trans _ _ ih1 ih2=>intro n hr;exact ih2 (ih1 hr)
theorem Rk.BR (h : yA cl) {l : Z6} {n : Nat} (hr : Rk cl l n) : ∀l',(∀x ∈ l',cl l x)->Rk cl (l' ++ l) n
 | [],_=>hr
 | x :: l',hx=>.dep x (h.sub (λy hy=>List.mem_append.2 (.inr hy)) (hx x (by simp))) (Rk.BR h hr l' λy hy=>hx y (by simp [hy]))
theorem Rk.grow {l : Z6} {m : Nat} (hr : Rk cl l m) : ∀(l' : Z6) {n : Nat},Rk cl (l' ++ l) n->m<=n
 | [],n,hn=>by rw [hr.uniq hn];exact Mf _
 | x :: l',n,hn=>by
  cases hn with
  | dep _ _ hn=>exact Rk.grow hr l' hn
  | ind _ _ hn=>exact Qs (Rk.grow hr l' hn)
theorem Rk.le (h : yA cl) {l l' : Z6} {m n : Nat} (hm : Rk cl l m) (hn : Rk cl l' n) (hs : ∀x ∈ l,cl l' x) : m<=n :=
 hm.grow l' ((hn.BR h l hs).perm h List.perm_append_comm)
theorem Rk.same (h : yA cl) {l l' : Z6} {m n : Nat} (hm : Rk cl l m) (hn : Rk cl l' n) (hs : ∀x,x ∈ l ↔ x ∈ l') : m=n :=
 O9 (hm.le h hn λx hx=>h.mem _ _ ((hs x).1 hx)) (hn.le h hm λx hx=>h.mem _ _ ((hs x).2 hx))
theorem Rk.len {l : Z6} {n : Nat} (hr : Rk cl l n) : n<=l.length:=by
 induction hr with
 | nil=>exact Mf _
 | dep x _ _ ih=>exact Qs ih
 | ind x _ _ ih=>exact Nat.succ_le_succ ih
theorem Rk.Lt (h : yA cl) {l l' : Z6} {m n : Nat} (hm : Rk cl l m) (hn : Rk cl l' n) {p : Nat} (hs : ∀x,x ∈ l' ↔ x ∈ l\/x=p) : m<=n/\n<=m+1:=by
 refine ⟨hm.le h hn λx hx=>h.mem _ _ ((hs x).2 (.inl hx)),?_⟩;have hs' : ∀x,x ∈ p :: l ↔ x ∈ l':=λx=>by rw [hs x,List.mem_cons];exact or_comm
 by_cases hp : cl l p
 ·rw [(Rk.dep p hp hm).same h hn hs'];omega
 ·rw [<- (Rk.ind p hp hm).same h hn hs'];exact Mf _
theorem Rk.re (h : yA cl) {S V : Z6} {a v : Nat} (ha : Rk cl S a) (hv : Rk cl V v) (hVS : ∀x ∈ V,x ∈ S) : ∀(T : Z6) {u b : Nat},Rk cl (T ++ S) u->Rk cl (T ++ V) b->u+v<=a+b
 | [],u,b,hu,hb=>by rw [ha.uniq hu,hv.uniq hb];exact Mf _
 | x :: T,u,b,hu,hb=>by
  have up : cl (T ++ V) x->cl (T ++ S) x:=h.sub λy hy=>by
   rcases List.mem_append.1 hy with h1 | h1
   ·exact List.mem_append.2 (.inl h1)
   ·exact List.mem_append.2 (.inr (hVS y h1))
  cases hb with
  | dep _ hc hb =>
   cases hu with
   | dep _ _ hu=>exact Rk.re h ha hv hVS T hu hb
   | ind _ hn _=>exact absurd (up hc) hn
  | ind _ _ hb =>
   cases hu with
   | dep _ _ hu=>have:=Rk.re h ha hv hVS T hu hb;omega
   | ind _ _ hu=>have:=Rk.re h ha hv hVS T hu hb;omega
theorem Rk.LD (h : yA cl) {S T U V : Z6} {a b u v : Nat} (ha : Rk cl S a) (hb : Rk cl T b) (hu : Rk cl U u) (hv : Rk cl V v) (hU : ∀x ∈ U,x ∈ S\/x ∈ T) (hV : ∀x ∈ V,x ∈ S/\x ∈ T) : u+v<=a+b:=by
 obtain ⟨u',hu'⟩:=Rk.ex cl (T ++ S);obtain ⟨b',hb'⟩:=Rk.ex cl (T ++ V);have h1 : u<=u':=hu.le h hu' λx hx=>h.mem _ _ (by rcases hU x hx with h2 | h2;exact List.mem_append.2 (.inr h2);exact List.mem_append.2 (.inl h2));have h2 : b'=b:=hb'.same h hb λx=>⟨λhx=>by rcases List.mem_append.1 hx with h3 | h3;exact h3;exact (hV x h3).2,λhx=>List.mem_append.2 (.inl hx)⟩
 have h3:=Rk.re h ha hv (λx hx=>(hV x hx).1) T hu' hb';omega
end
section
variable {P : Program} {ops : Array Oper} {Q : Exit->Act->World->Prop} {md : Region.Mode} {S : World->Prop} {n : Nat}
def il (P : Program) (md : Region.Mode) (ops : Array Oper) (Q : Exit->Act->World->Prop) (S : World->Prop) (n : Nat) : Nat->Array Bool->Act->World->Prop
 | 0,listed,a,w=>Region.ready md ops listed=[]/\Q .normal a w
 | fuel+1,listed,a,w =>
  (Region.ready md ops listed=[]->Q .normal a w) /\
  ∀i ∈ Region.ready md ops listed,wpOp P ops Q i (λa' w'=>(i<n->S w')/\il P md ops Q S n fuel (listed.setIfInBounds i true) a' w') a w
theorem tf : ∀(fuel : Nat) (listed : Array Bool) (a : Act) (w : World),il P md ops Q S n fuel listed a w->wpAny P md ops Q fuel listed a w
 | 0,_,_,_,h=>h
 | fuel+1,_,_,_,h=>⟨h.1,λi hi=>wpOp_mono (λa' w' h'=>tf fuel _ a' w' h'.2) (h.2 i hi)⟩
theorem wD {i : Nat} {oi : Oper} {v : Value} (hi : ops[i]? = some oi) (hsel : ∀(j : Nat) (o : Oper) cs b,ops[j]? = some o->o.op ≠ .select cs b)
  (hQ : ∀c a w,Q (.panic c) (a.put oi.dst v) w->Q (.panic c) a w) (hs : Region.sinkB md ops n=true) (hc : Region.chainB md ops n=true) (hn : n<ops.size) (hin : i<n) :
  ∀(fuel : Nat) (listed : Array Bool) (a : Act) (w : World),HeadInv md ops n listed ->
   (∀j oj,ops[j]? = some oj->j ≠ i->listed.getD j true=false->(∀e ∈ oj.after,Region.binds md e=true->e.on ≠ i)->oi.apart ops oj=true) ->
   i ∈ Region.ready md ops listed->YieldsIf P ops S oi v a->S w ->
   il P md ops Q S n fuel (listed.setIfInBounds i true) (a.put oi.dst v) w->il P md ops Q S n (fuel+1) listed a w:=by
 intro fuel;induction fuel with
 | zero =>
  intro listed a w inv _ hr hy hS H
  refine ⟨λh=>(by rw [h] at hr;cases hr),λj hj=>?_⟩
  by_cases hji : j=i
  ·subst hji;exact hy.wpOp hi hS ⟨λ_=>hS,H⟩
  ·have:=ready_mono hj hji
   rw [H.1] at this
   cases this
 | succ fuel ih =>
  intro listed a w inv hfree hr hy hS H
  have hun:=(mem_ready.1 hr).1
  refine ⟨λh=>(by rw [h] at hr;cases hr),λj hj=>?_⟩
  by_cases hji : j=i
  ·subst hji;exact hy.wpOp hi hS ⟨λ_=>hS,H⟩
  ·have hjn : j<n:=by
    rcases MU j n with h | h
    ·exact h
    ·exact absurd hj (tail_waits hs hc hn inv _ i rfl hin hun j h)
   have h1:=H.2 j (ready_mono hj hji)
   obtain ⟨hjun,oj,hoj,hall⟩:=mem_ready.1 hj
   have hnot : ∀e ∈ oj.after,Region.binds md e=true->e.on ≠ i:=λe he hb heq=>by have h1:=hall e he hb;rw [heq,getD_both hun] at h1;cases h1
   have h2:=wpOp_putIf hoj (hfree j oj hoj hji hjun hnot) (λcs b=>hsel i oi cs b hi) (λcs b=>hsel j oj cs b hoj) hQ hy h1
   have hfree' : ∀k ok,ops[k]? = some ok->k ≠ i->(listed.setIfInBounds j true).getD k true=false ->
     (∀e ∈ ok.after,Region.binds md e=true->e.on ≠ i)->oi.apart ops ok=true:=λk ok hk hki hku hno=>by
    refine hfree k ok hk hki ?_ hno;by_cases hjk : j=k
    ·subst hjk;exact hjun
    ·rw [getD_set_ne true hjk] at hku;exact hku
   refine wpOp_mono (λa' w' h3=>?_) h2
   have hSw:=h3.2.1 hjn
   refine ⟨λ_=>hSw,ih (listed.setIfInBounds j true) a' w' (inv.set hj hjn) hfree' (ready_mono hr (Ne.symm hji)) h3.1 hSw ?_⟩
   rw [Array.setIfInBounds_comm _ _ hji]
   exact h3.2.2
theorem aX {i : Nat} {oi : Oper} {v : Value} {fuel : Nat} {listed : Array Bool} {a : Act} {w : World} (hi : ops[i]? = some oi)
  (hs : (Region.noSelect ops && (Region.sinkB md ops n && (Region.chainB md ops n && (decide (n<ops.size) && decide (i<n)))))=true) (hf : Region.free md ops listed i=true) (hr : (Region.ready md ops listed).contains i=true)
  (hQ : ∀c a w,Q (.panic c) (a.put oi.dst v) w->Q (.panic c) a w) (hy : YieldsIf P ops S oi v a) (hI : HeadInv md ops n listed/\S w)
  (h : HeadInv md ops n (listed.setIfInBounds i true)/\S w->il P md ops Q S n fuel (listed.setIfInBounds i true) (a.put oi.dst v) w) : il P md ops Q S n (fuel+1) listed a w:=by
 simp only [MC,MG] at hs;have hr' : i ∈ Region.ready md ops listed:=by simpa using hr
 exact wD hi (Region.noSelect_spec hs.1) hQ hs.2.1 hs.2.2.1 hs.2.2.2.1 hs.2.2.2.2 fuel listed a w hI.1 (Region.free_spec hi hf) hr' hy hI.2 (h ⟨hI.1.set hr' hs.2.2.2.2,hI.2⟩)
theorem BZ {i : Nat} {fuel : Nat} {listed : Array Bool} {a : Act} {w : World} (hr : Region.ready md ops listed=[i]) (hin : i<n) (hI : HeadInv md ops n listed)
  (h : wpOp P ops Q i (λa' w'=>S w'/\(HeadInv md ops n (listed.setIfInBounds i true)/\S w'->il P md ops Q S n fuel (listed.setIfInBounds i true) a' w')) a w) : il P md ops Q S n (fuel+1) listed a w :=
 ⟨λh0=>(by rw [hr] at h0;cases h0),λj hj=>by rw [hr,MK] at hj;subst hj;exact wpOp_mono (λa' w' h'=>⟨λ_=>h'.1,h'.2 ⟨hI.set (by rw [hr];simp) hin,h'.1⟩⟩) h⟩
theorem zo {i : Nat} {fuel : Nat} {listed : Array Bool} {a : Act} {w : World} (hr : Region.ready md ops listed=[i]) (hin : n<=i) (hd : Region.ready md ops (listed.setIfInBounds i true)=[])
  (h : wpOp P ops Q i (λa' w'=>Q .normal a' w') a w) : il P md ops Q S n (fuel+1) listed a w :=
 ⟨λh0=>(by rw [hr] at h0;cases h0),λj hj=>by
  rw [hr,MK] at hj;subst hj;refine wpOp_mono (λa' w' h'=>⟨λh1=>by omega,?_⟩) h;cases fuel with
  | zero=>exact ⟨hd,h'⟩
  | succ f=>exact ⟨λ_=>h',by rw [hd];simp⟩⟩
theorem mi {i : Nat} {o : Oper} {fuel : Nat} {listed : Array Bool} {a : Act} {w : World} (hr : Region.ready md ops listed=[i]) (hin : i<n) (hI : HeadInv md ops n listed) (ho : ops[i]? = some o)
  (h : ∀K' : Act->World->Prop,Shut (∀a w,S w->(HeadInv md ops n (listed.setIfInBounds i true)/\S w->il P md ops Q S n fuel (listed.setIfInBounds i true) a w)->K' a w)->if Region.wanted o (yielded ops a.tmps)=true then Oper.wp P o a w K' Q else K' (a.put o.dst undef) w) :
  il P md ops Q S n (fuel+1) listed a w :=
 BZ hr hin hI (wpOp_step ho λK' hK=>h K' λa w hS hW=>hK a w ⟨hS,hW⟩)
theorem se {i : Nat} {o : Oper} {fuel : Nat} {listed : Array Bool} {a : Act} {w : World} (hr : Region.ready md ops listed=[i]) (hin : n<=i) (hd : Region.ready md ops (listed.setIfInBounds i true)=[]) (ho : ops[i]? = some o)
  (h : ∀K' : Act->World->Prop,Shut (∀a w,Q .normal a w->K' a w)->if Region.wanted o (yielded ops a.tmps)=true then Oper.wp P o a w K' Q else K' (a.put o.dst undef) w) :
  il P md ops Q S n (fuel+1) listed a w :=
 zo hr hin hd (wpOp_step ho λK' hK=>h K' λa w hq=>hK a w hq)
theorem Fh : HeadInv md ops n (Array.replicate ops.size false) :=
 ⟨by simp,λj oj _ hl=>(by rw [getD_replicate_false] at hl;cases hl),λt _ ht=>by have:=getD_replicate_false ops.size t;exact getD_in (by simpa using ht) this⟩
theorem qf {id : Nat} {a : Act} {w : World} (S : World->Prop) (n : Nat) (hm : P.follows .mixedOrders=true) (hS : S w.drew)
  (h : HeadInv .any ops n (Array.replicate ops.size false)/\S w.drew->il P .any ops Q S n ops.size (Array.replicate ops.size false) a w.drew) : (Code.region id ops true).wp P Q a w :=
 wp_region_any hm (tf _ _ _ _ (h ⟨Fh,hS⟩))
end
def QQ:=@Below.next
def QR:=@Ints.own
def QT:=@Below.app
def QX:=@Ints.nil
def Q0:=@Pl.own
def Q3:=@Below.kp
def Q7:=@Cg.of_eq
def Q8:=@Ints.news
def Q9:=@Rk.same
def Rf:=@Cg.refl
def Rh:=@dI.lZ
def Rl:=@cF.kg
def Rm:=@Rk.le
def Rn:=@Cg.trans
def Rq:=@Rk.ex
end Go.Proofs.YtcfmiocdlcapoaaGreat
