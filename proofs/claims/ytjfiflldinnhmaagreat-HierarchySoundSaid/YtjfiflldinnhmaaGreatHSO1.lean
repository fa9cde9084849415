import Derived.Test.YtjfiflldinnhmaaGreatHSO0
import Derived.WalkSpells
import Derived.WalkLawsBesides
import Derived.Laws.CopyOwn
import Derived.Maps.AppendAt
import Derived.Deep.RegionLaw
import Derived.StillTail
import Derived.OrdersHeld
import Derived.Deep.RegionHeld
namespace Go.Proofs.YtjfiflldinnhmaaGreat
set_option linter.all false
set_option maxRecDepth 100000
set_option maxHeartbeats 400000
open Go.RowKit Go.Proofs.Tryz
def bg (x p : Int) : Nat->LI
 | 0=>[]
 | m+1=>(x % p) :: bg (x / p) p m
def cO (p : Int) : LI->Int
 | []=>0
 | c :: d=>c+p * cO p d
def gX (x p : Int) : Nat->Int
 | 0=>x
 | k+1=>gX x p k / p
theorem bu (p : Int) : ∀(m : Nat) (x : Int),(bg x p m).length=m
 | 0,_=>rfl
 | m+1,x=>by simp [bg,bu p m]
theorem l4 (x p : Int) : ∀k,gX x p (k+1)=gX (x / p) p k
 | 0=>rfl
 | k+1=>by rw [gX,l4 x p k];rfl
theorem lY (p : Int) : ∀(k : Nat) (x : Int),bg x p (k+1)=bg x p k ++ [gX x p k % p]
 | 0,x=>rfl
 | k+1,x=>by rw [bg,lY p k (x / p),l4];rfl
theorem rS (x p : Int) (hx : 0<=x) (hp : 1<=p) : ∀k,0<=gX x p k/\gX x p k<=x
 | 0=>⟨hx,IV _⟩
 | k+1=>by have h:=rS x p hx hp k;exact ⟨F4 h.1 (by omega),H4 (F8 _ h.1) h.2⟩
def cH (l : LI) (k m : Nat) : LI:=l ++ List.replicate (m - k) 0
theorem en (l : LI) (k m : Nat) (x : Int) (hl : l.length=k) (hk : k<m) : (cH l k m).set k x=cH (l ++ [x]) (k+1) m:=by unfold cH;rw [Ib _ _ (by omega),hl,Ge];rw [show m - k=(m - (k+1))+1 from by omega,GS,EN];simp
theorem eZ (l : LI) (m : Nat) : cH l m m=l:=by simp [cH]
def nth (l : LI) (i : Nat) : Int:=l.getD i 0
def shl (out : LI) : LI:=0 :: out.dropLast
def xL (P : Int) (low a : LI) (top bi : Int) (sh : LI) (j : Nat) : Int:=(nth sh j+(P - top) * nth low j+bi * nth a j) % P
def ko (P : Int) (low a : LI) (m : Nat) (bi : Int) (out : LI) : LI :=
 (List.range m).map λj=>xL P low a (nth out (m - 1)) bi (shl out) j
def dE (P : Int) (low a b : LI) (m : Nat) : Nat->LI
 | 0=>List.replicate m 0
 | k+1=>ko P low a m (nth b (m - 1 - k)) (dE P low a b m k)
def kj (M : Nat) (mod : LI) : LI:=if 1<M then mod else [0]
def cF (P : Int) (M : Nat) (mod : LI) (x y : Int) : Int :=
 cO P (dE P (kj M mod) (bg x P M) (bg y P M) M M)
theorem ai {l : LI} {i : Nat} (h : i<l.length) : nth l i=l[i]:=by simp [nth,h]
theorem aO {l : LI} {i : Nat} (h : i<l.length) : nth l i ∈ l:=by rw [ai h];exact Fj h
theorem ia {l : LI} {i : Nat} (h : l.length<=i) : nth l i=0:=by simp [nth,h]
theorem ij {l l' : LI} (hl : l.length=l'.length) (h : ∀i,i<l.length->nth l i=nth l' i) : l=l':=by apply Gp hl;intro i h1 h2;have:=h i h1;rwa [ai h1,ai h2] at this
def cU (P : Int) (l : LI) : Prop:=∀i,0<=nth l i/\nth l i<P
theorem cU.jF {P : Int} (hP : 0<P) {l : LI} (h : ∀x ∈ l,0<=x/\x<P) : cU P l:=by
 intro i;rcases Fm i l.length with hi | hi
 ·exact h _ (aO hi)
 ·rw [ia hi];omega
theorem cU.bg {P : Int} (hP : 0<P) : ∀(m : Nat) (x : Int),cU P (bg x P m)
 | 0,x=>λi=>by simp [Go.Proofs.YtjfiflldinnhmaaGreat.bg,nth];omega
 | m+1,x=>by
  intro i;match i with
  | 0=>simp only [Go.Proofs.YtjfiflldinnhmaaGreat.bg,nth,GU];exact ⟨Fl _ (by omega),Fb _ hP⟩
  | i+1=>simpa only [Go.Proofs.YtjfiflldinnhmaaGreat.bg,nth,List.getD_cons_succ] using cU.bg hP m (x / P) i
theorem cU.replicate {P : Int} (hP : 0<P) (m : Nat) : cU P (List.replicate m 0):=by refine cU.jF hP λx hx=>?_;obtain ⟨_,rfl⟩:=List.mem_replicate.1 hx;omega
theorem gz (P : Int) (low a : LI) (m : Nat) (bi : Int) (out : LI) : (ko P low a m bi out).length=m:=by simp [ko]
theorem jT (P : Int) (low a : LI) (m : Nat) (bi : Int) (out : LI) (j : Nat) (hj : j<m) :
  nth (ko P low a m bi out) j=xL P low a (nth out (m - 1)) bi (shl out) j:=by rw [ai (by rw [gz];exact hj)];simp [ko]
theorem cU.ko {P : Int} (hP : 0<P) (low a : LI) (m : Nat) (bi : Int) (out : LI) : cU P (ko P low a m bi out):=by
 intro j;rcases Fm j m with hj | hj
 ·rw [jT _ _ _ _ _ _ _ hj];exact ⟨Fl _ (by omega),Fb _ hP⟩
 ·rw [ia (by rw [gz];exact hj)];omega
theorem fV (P : Int) (low a b : LI) (m : Nat) : ∀k,(dE P low a b m k).length=m
 | 0=>by simp [dE]
 | k+1=>gz ..
theorem cU.dE {P : Int} (hP : 0<P) (low a b : LI) (m : Nat) : ∀k,cU P (dE P low a b m k)
 | 0=>cU.replicate hP m
 | k+1=>by simp only [Go.Proofs.YtjfiflldinnhmaaGreat.dE];exact cU.ko hP _ _ _ _ _
theorem vE (out : LI) (h : 0<out.length) : (shl out).length=out.length:=by simp [shl];omega
theorem cU.shl {P : Int} (hP : 0<P) {out : LI} (h : cU P out) : cU P (shl out):=by
 intro i;match i with
 | 0=>simp [Go.Proofs.YtjfiflldinnhmaaGreat.shl,nth];omega
 | i+1 =>
  have e : nth (Go.Proofs.YtjfiflldinnhmaaGreat.shl out) (i+1)=if i<out.length - 1 then nth out i else 0:=by simp only [Go.Proofs.YtjfiflldinnhmaaGreat.shl,nth,EJ,Fh,Gw];split <;> rfl
  rw [e];split
  ·exact h i
  ·omega
def ei (new kl : LI) (j : Nat) : LI:=new.take j ++ kl.drop j
theorem ew (new kl : LI) : ei new kl 0=kl:=by simp [ei]
theorem fb (new kl : LI) (m : Nat) (h1 : new.length=m) (h2 : kl.length=m) : ei new kl m=new:=by simp [ei,ES (Nat.le_of_eq h1),Gx (Nat.le_of_eq h2)]
theorem gD (new kl : LI) (j : Nat) (h : new.length=kl.length) (hj : j<=kl.length) : (ei new kl j).length=kl.length:=by simp [ei];omega
theorem dR (new kl : LI) (j i : Nat) (h : new.length=kl.length) (hj : j<=kl.length) : nth (ei new kl j) i=if i<j then nth new i else nth kl i:=by
 unfold ei nth;simp only [EJ];split
 ·rename_i hi;rw [E2 (by simp;omega),FE,EH hi]
 ·rename_i hi;rw [F0 (by simp;omega),Iu];congr 2;simp;omega
theorem cX (l : LI) (i j : Nat) (x : Int) (hi : i<l.length) : nth (l.set i x) j=if j=i then x else nth l j:=by
 unfold nth;simp only [EJ,FQ];by_cases h : i=j
 ·subst h;simp [hi]
 ·rw [EG h,EG (by omega)]
theorem dW (new kl : LI) (j : Nat) (h : new.length=kl.length) (hj : j<kl.length) : (ei new kl j).set j (nth new j)=ei new kl (j+1):=by
 have hl:=gD new kl j h (by omega);have hl':=gD new kl (j+1) h (by omega);refine ij (by simp [hl,hl']) λi hi=>?_;rw [cX _ _ _ _ (by omega),dR _ _ _ _ h (by omega),dR _ _ _ _ h (by omega)];by_cases e : i=j
 ·subst e;simp
 ·rw [EG e];by_cases e2 : i<j
  ·rw [EH e2,EH (by omega)]
  ·rw [EG e2,EG (by omega)]
theorem kR {P : Int} (hP : 0<P) : ∀(l : LI),cU P l->0<=cO P l/\cO P l<P ^ l.length
 | [],_=>by simp [cO]
 | c :: l,h=>by
  have h0:=h 0;have ih:=kR hP l (λi=>by simpa [nth] using h (i+1));simp only [nth,GU] at h0;simp only [cO,FF,Fv];have h1 : 0<=P * cO P l:=F9 (by omega) ih.1;have h2 : P * cO P l+P<=P ^ l.length * P:=by have:=E8 (show cO P l+1<=P ^ l.length by omega) (show 0<=P by omega);rw [FG (P ^ l.length)];rw [FO] at this;omega
  omega
theorem dB {P : Int} (hP : 1<=P) {a b : Nat} (h : a<=b) : P ^ a<=P ^ b:=by
 obtain ⟨n,rfl⟩ : ∃n : Nat,P=n:=⟨P.toNat,by omega⟩
 have:=FP (n:=n) (by omega) h;exact_mod_cast this
theorem cU.drop {P : Int} {l : LI} (h : cU P l) (k : Nat) : cU P (l.drop k):=by intro i;have:=h (k+i);simpa [nth] using this
theorem cU.xm {P : Int} (hP : 0<P) {l : LI} (h : cU P l) {m : Nat} (hl : l.length=m) (hpw : P ^ m<=256) (k : Nat) : 0<=cO P (l.drop k)/\cO P (l.drop k)<256:=by have hb:=kR hP (l.drop k) (h.drop k);refine ⟨hb.1,Int.lt_of_lt_of_le hb.2 (H4 ?_ hpw)⟩;rw [H0,hl];exact dB (by omega) (by omega)
def ah : OA->Nat | some a=>a.block | none=>0
def aG : OA->Nat | some a=>a.off | none=>0
@[simp] theorem ablk_some (b o : Nat) (s : Option Nat) : ah (some ⟨b,o,s⟩)=b:=rfl
@[simp] theorem aoff_some (b o : Nat) (s : Option Nat) : aG (some ⟨b,o,s⟩)=o:=rfl
def Pl (a : OA) (n : Nat) : Prop:=0<n->a=some ⟨ah a,aG a,none⟩
def af (l : LL) (i : Nat) : LI:=l.getD i []
def oN (l : List Bool) (i : Nat) : Bool:=l.getD i false
theorem aE {l : LL} {i : Nat} (h : i<l.length) : af l i=l[i]:=by simp [af,h]
theorem dN {l : LL} {i : Nat} (h : i<l.length) : af l i ∈ l:=by rw [aE h];exact Fj h
theorem rI {l : List Bool} {i : Nat} (h : i<l.length) : oN l i=l[i]:=by simp [oN,h]
structure Ints (w : World) (a : OA) (n : Nat) (l : LI) : Prop where
 len : l.length=n
 pl : Pl a n
 max : n<=maxLen
 cell : ∀i,i<n->w.cell? ⟨ah a,aG a+i,none⟩=some (.int .i64 (nth l i))
structure dx (w : World) (a : OA) (n : Nat) (l : List Bool) : Prop where
 len : l.length=n
 pl : Pl a n
 max : n<=maxLen
 cell : ∀i,i<n->w.cell? ⟨ah a,aG a+i,none⟩=some (.bool (oN l i))
structure bY (w : World) (a : OA) (n : Nat) (l : LL) : Prop where
 len : l.length=n
 pl : Pl a n
 max : n<=maxLen
 cell : ∀i,i<n->∃b m c,w.cell? ⟨ah a,aG a+i,none⟩=some (.slice b m c)/\Ints w b m (af l i)
def jN (w : World) (B : Nat) (a : OA) (n : Nat) : Prop:=0<n->B<=ah a/\∀i,i<n->w.frozen? ⟨ah a,aG a+i,none⟩=false
theorem Ints.lt {w : World} {a : OA} {n : Nat} {l : LI} (h : Ints w a n l) (hn : 0<n) : ah a<w.heap.size :=
 EP w _ (h.cell 0 hn)
theorem dx.lt {w : World} {a : OA} {n : Nat} {l : List Bool} (h : dx w a n l) (hn : 0<n) : ah a<w.heap.size :=
 EP w _ (h.cell 0 hn)
theorem bY.lt {w : World} {a : OA} {n : Nat} {l : LL} (h : bY w a n l) (hn : 0<n) : ah a<w.heap.size:=by obtain ⟨b,m,c,hc,_⟩:=h.cell 0 hn;exact EP w _ hc
theorem Ints.of_block {w w' : World} {a : OA} {n : Nat} {l : LI} (h : Ints w a n l) (hb : 0<n->w'.heap[ah a]? = w.heap[ah a]?) : Ints w' a n l :=
 ⟨h.len,h.pl,h.max,λi hi=>(E4 (w:=w) (a:=⟨ah a,aG a+i,none⟩) (hb (by omega))).trans (h.cell i hi)⟩
theorem dx.of_block {w w' : World} {a : OA} {n : Nat} {l : List Bool} (h : dx w a n l) (hb : 0<n->w'.heap[ah a]? = w.heap[ah a]?) : dx w' a n l :=
 ⟨h.len,h.pl,h.max,λi hi=>(E4 (w:=w) (a:=⟨ah a,aG a+i,none⟩) (hb (by omega))).trans (h.cell i hi)⟩
theorem jN.of_block {w w' : World} {B : Nat} {a : OA} {n : Nat} (h : jN w B a n) (hb : 0<n->w'.heap[ah a]? = w.heap[ah a]?) : jN w' B a n :=
 λhn=>⟨(h hn).1,λi hi=>(E5 (w:=w) (a:=⟨ah a,aG a+i,none⟩) (hb hn)).trans ((h hn).2 i hi)⟩
theorem Ints.below {B : Nat} {w w' : World} {a : OA} {n : Nat} {l : LI} (h : Ints w a n l) (hb : Below B w w') (hB : 0<n->ah a<B) : Ints w' a n l :=
 h.of_block λhn=>hb.block _ (hB hn)
theorem dx.below {B : Nat} {w w' : World} {a : OA} {n : Nat} {l : List Bool} (h : dx w a n l) (hb : Below B w w') (hB : 0<n->ah a<B) : dx w' a n l :=
 h.of_block λhn=>hb.block _ (hB hn)
theorem Ints.aa {w w' : World} {a : OA} {n : Nat} {l : LI} (h : Ints w a n l) (hb : JA w w') : Ints w' a n l :=
 h.below hb λhn=>h.lt hn
theorem dx.aa {w w' : World} {a : OA} {n : Nat} {l : List Bool} (h : dx w a n l) (hb : JA w w') : dx w' a n l :=
 h.below hb λhn=>h.lt hn
theorem bY.aa {w w' : World} {a : OA} {n : Nat} {l : LL} (h : bY w a n l) (hb : JA w w') : bY w' a n l:=by refine ⟨h.len,h.pl,h.max,λi hi=>?_⟩;obtain ⟨b,m,c,hc,hr⟩:=h.cell i hi;exact ⟨b,m,c,(hb.cell (EP w _ hc)).trans hc,hr.aa hb⟩
theorem jN.aa {w w' : World} {B : Nat} {a : OA} {n : Nat} (h : jN w B a n) (hb : JA w w') (hl : 0<n->ah a<w.heap.size) : jN w' B a n :=
 h.of_block λhn=>hb.block _ (hl hn)
theorem jN.mono {w : World} {B B' : Nat} {a : OA} {n : Nat} (h : jN w B a n) (hB : B'<=B) : jN w B' a n :=
 λhn=>⟨ET hB (h hn).1,(h hn).2⟩
theorem Ints.nil (w : World) (c : OA) : Ints w c 0 []:=⟨rfl,λh=>by omega,by unfold maxLen;omega,λi h=>by omega⟩
theorem jN.nil (w : World) (B : Nat) (c : OA) : jN w B c 0:=λh=>by omega
@[go_sem] theorem run_indexAt_pl {P : Program} (w : World) (t : TypeId) (a : OA) (len cap : Nat) (k : IntKind) (i : Int) (h : P.underlying t=some (.slice (P.elem t)))
  (hp : Pl a len) (h0 : 0<=i) (h1 : i<len) :
  (Instr.indexAt t (.slice a len cap) (.int k i)).run P w=((sizeOf (P.elem t)).run P w).andThen λs w=>.ok (.pointer (some ((⟨ah a,aG a,none⟩ : Addr).add (i.toNat * s)))) w:=by have e : a=some ⟨ah a,aG a,none⟩:=hp (by omega);generalize hb : ah a=b at *;generalize ho : aG a=o at *;subst e;rw [run_indexAt_slice (h:=h),EH ⟨h0,h1⟩]
theorem pc (l : List Bool) (i j : Nat) (x : Bool) (hi : i<l.length) : oN (l.set i x) j=if j=i then x else oN l j:=by
 unfold oN;simp only [EJ,FQ];by_cases h : i=j
 ·subst h;simp [hi]
 ·rw [EG h,EG (by omega)]
theorem Ints.set {w : World} {a : OA} {n : Nat} {l : LI} (h : Ints w a n l) (i : Nat) (hi : i<n) (x : Int) :
  Ints (w.setCell ⟨ah a,aG a+i,none⟩ (.int .i64 x)) a n (l.set i x):=by
 refine ⟨by rw [Fu];exact h.len,h.pl,h.max,λj hj=>?_⟩;rw [cX _ _ _ _ (by rw [h.len];exact hi)];by_cases e : j=i
 ·subst e;rw [EH rfl];exact EX w _ _ (h.cell j hj)
 ·rw [EG e,EY _ _ _ _ (by simp <;> omega)];exact h.cell j hj
theorem dx.set {w : World} {a : OA} {n : Nat} {l : List Bool} (h : dx w a n l) (i : Nat) (hi : i<n) (x : Bool) :
  dx (w.setCell ⟨ah a,aG a+i,none⟩ (.bool x)) a n (l.set i x):=by
 refine ⟨by rw [Fu];exact h.len,h.pl,h.max,λj hj=>?_⟩;rw [pc _ _ _ _ (by rw [h.len];exact hi)];by_cases e : j=i
 ·subst e;rw [EH rfl];exact EX w _ _ (h.cell j hj)
 ·rw [EG e,EY _ _ _ _ (by simp <;> omega)];exact h.cell j hj
theorem jN.set {w : World} {B : Nat} {a : OA} {n : Nat} (h : jN w B a n) (p : Addr) (x : Value) : jN (w.setCell p x) B a n :=
 λhn=>⟨(h hn).1,λi hi=>by rw [Fp];exact (h hn).2 i hi⟩
theorem Ints.setOther {w : World} {a : OA} {n : Nat} {l : LI} (h : Ints w a n l) {p : Addr} (x : Value) (hp : 0<n->ah a ≠ p.block) : Ints (w.setCell p x) a n l :=
 h.of_block λhn=>EZ _ _ _ _ (hp hn)
theorem dx.setOther {w : World} {a : OA} {n : Nat} {l : List Bool} (h : dx w a n l) {p : Addr} (x : Value) (hp : 0<n->ah a ≠ p.block) : dx (w.setCell p x) a n l :=
 h.of_block λhn=>EZ _ _ _ _ (hp hn)
theorem Pl.own {w : World} {base : Nat} {e : TypeId} {v : Value} {n : Nat} {xs : List Value} (h : w.ownsRow base e 1 v n xs) : ∃a c,v = .slice a n c/\Pl a n:=by
 rcases h.2 with ⟨rfl,rfl⟩ | ⟨g,cap,cur,rfl,_⟩
 ·exact ⟨none,0,rfl,λh=>by omega⟩
 ·exact ⟨_,cap,rfl,λ_=>rfl⟩
theorem bs {w : World} {base : Nat} {e : TypeId} {a : OA} {c n : Nat} {xs : List Value} (h : w.ownsRow base e 1 (.slice a n c) n xs) (i : Nat) (hi : i<n) :
  w.cell? ⟨ah a,aG a+i,none⟩=xs[i]?/\w.frozen? ⟨ah a,aG a+i,none⟩=false/\base<=ah a/\xs.length=n/\n<=maxLen:=by
 obtain ⟨hl,h2⟩:=h;rcases h2 with ⟨h2,rfl⟩ | ⟨g,cap,cur,hv,hg,hh,hn,hm,hs,ht⟩
 ·omega
 ·cases hv
  simp only [ablk_some,aoff_some,GX];refine ⟨?_,by simp [World.frozen?,hh],hg,by omega,by omega⟩;rw [<- ht,FE,EH (by omega)];simp [World.cell?,hh]
theorem Ints.own {w : World} {base : Nat} {e : TypeId} {a : OA} {c n : Nat} {l : LI} (h : w.ownsRow base e 1 (.slice a n c) n (l.map (Value.int .i64))) :
  Ints w a n l/\jN w base a n:=by
 have hl : l.length=n:=by have:=h.1;simpa using this
 obtain ⟨a',c',hv,hp⟩:=Pl.own h;cases hv
 refine ⟨⟨hl,hp,?_,λi hi=>?_⟩,λhn=>⟨(bs h 0 hn).2.2.1,λi hi=>(bs h i hi).2.1⟩⟩
 ·rcases F1 n with h0 | h0
  ·subst h0;unfold maxLen;omega
  ·exact (bs h 0 h0).2.2.2.2
 ·rw [(bs h i hi).1];simp [nth,show i<l.length by omega]
theorem dx.own {w : World} {base : Nat} {e : TypeId} {a : OA} {c n : Nat} {l : List Bool} (h : w.ownsRow base e 1 (.slice a n c) n (l.map Value.bool)) :
  dx w a n l/\jN w base a n:=by
 have hl : l.length=n:=by have:=h.1;simpa using this
 obtain ⟨a',c',hv,hp⟩:=Pl.own h;cases hv
 refine ⟨⟨hl,hp,?_,λi hi=>?_⟩,λhn=>⟨(bs h 0 hn).2.2.1,λi hi=>(bs h i hi).2.1⟩⟩
 ·rcases F1 n with h0 | h0
  ·subst h0;unfold maxLen;omega
  ·exact (bs h 0 h0).2.2.2.2
 ·rw [(bs h i hi).1];simp [oN,show i<l.length by omega]
theorem bz {w : World} {B : Nat} {e : TypeId} {a : OA} {c n : Nat} {xs : List Value} (h : w.ownsRow B e 1 (.slice a n c) n xs) (i : Nat) (hi : i<n) (u : Value) :
  (w.setCell ⟨ah a,aG a+i,none⟩ u).ownsRow B e 1 (.slice a n c) n (xs.set i u):=by
 have h':=h;rcases h.2 with ⟨hv,h0⟩ | ⟨g,_,cur,hv,hg,hh,hn,hm,hs,ht⟩
 ·omega
 ·cases hv
  simpa using (h'.stored i u).1
theorem gI {w w' : World} {B : Nat} {e : TypeId} {a : OA} {c n : Nat} {xs : List Value} (h : w.ownsRow B e 1 (.slice a n c) n xs)
  (hb : w'.heap[ah a]? = w.heap[ah a]?) : w'.ownsRow B e 1 (.slice a n c) n xs:=by
 refine ⟨h.1,?_⟩;rcases h.2 with h2 | ⟨g,cap,cur,hv,hg,hh,r⟩
 ·exact .inl h2
 ·cases hv
  exact .inr ⟨g,c,cur,rfl,hg,by rw [ablk_some] at hb;rw [hb];exact hh,r⟩
theorem iM {w : World} {B : Nat} {e : TypeId} {a : OA} {c n : Nat} {xs : List Value} (h : w.ownsRow B e 1 (.slice a n c) n xs) :
  (a=none/\n=0/\c=0)\/(B<=ah a/\ah a<w.heap.size):=by
 rcases h.2 with ⟨hv,hn⟩ | ⟨g,cap,cur,hv,hg,hh,r⟩
 ·cases hv;exact .inl ⟨rfl,hn,rfl⟩
 ·cases hv;exact .inr ⟨hg,(Array.getElem?_eq_some_iff.1 hh).1⟩
theorem bG {w : World} {B : Nat} {e : TypeId} : w.ownsRow B e 1 (.slice none 0 0) 0 []:=Iy _ _ _ _
theorem cY {w : World} {B : Nat} {e : TypeId} {a : OA} {c n : Nat} {xs : List Value} (h : w.ownsRow B e 1 (.slice a n c) n xs) {p : Addr} (u : Value) (hp : a=none\/ah a ≠ p.block) :
  (w.setCell p u).ownsRow B e 1 (.slice a n c) n xs:=by
 rcases hp with rfl | hp
 ·have h2:=iM h;refine ⟨h.1,.inl ?_⟩;rcases h.2 with h2 | ⟨g,cap,cur,hv,_⟩
  ·exact h2
  ·cases hv
 ·exact gI h (EZ _ _ _ _ hp)
theorem aY {w w' : World} {B : Nat} {e : TypeId} {a : OA} {c n : Nat} {xs : List Value} (h : w.ownsRow B e 1 (.slice a n c) n xs) (hb : JA w w') :
  w'.ownsRow B e 1 (.slice a n c) n xs:=by
 refine ⟨h.1,?_⟩;rcases h.2 with h2 | ⟨g,cap,cur,hv,hg,hh,r⟩
 ·exact .inl h2
 ·exact .inr ⟨g,cap,cur,hv,hg,by rw [hb.block g (Array.getElem?_eq_some_iff.1 hh).1];exact hh,r⟩
theorem aW {w : World} {B B' : Nat} {e : TypeId} {v : Value} {n : Nat} {xs : List Value} (h : w.ownsRow B e 1 v n xs) (hB : B'<=B) : w.ownsRow B' e 1 v n xs:=by
 refine ⟨h.1,?_⟩;rcases h.2 with h2 | ⟨g,cap,cur,hv,hg,r⟩
 ·exact .inl h2
 ·exact .inr ⟨g,cap,cur,hv,ET hB hg,r⟩
theorem iw {w : World} {B : Nat} {e : TypeId} {v : Value} {n : Nat} {xs : List Value} (h : w.ownsRow B e 1 v n xs) : xs.length=n:=by simpa using h.1
theorem Ints.grown {w w' : World} {a : OA} {n : Nat} {l : LI} {row : Option Nat} (h : Ints w a n l) (hg : w.grownBy w' row) (hne : 0<n->row ≠ some (ah a)) : Ints w' a n l :=
 h.of_block λhn=>hg.block _ (h.lt hn) (λe=>hne hn e.symm)
theorem dx.grown {w w' : World} {a : OA} {n : Nat} {l : List Bool} {row : Option Nat} (h : dx w a n l) (hg : w.grownBy w' row) (hne : 0<n->row ≠ some (ah a)) : dx w' a n l :=
 h.of_block λhn=>hg.block _ (h.lt hn) (λe=>hne hn e.symm)
theorem bZ {P : Program} {w : World} {ops : Array Oper} {rest : List Oper} {o : Oper} {ac : Act} {Q : Exit->Act->World->Prop}
  (hg : o.guard=none) (l c : Operand) (t e : TypeId) (hop : o.op=Op.makeSlice t l c) (z : Value) (bytes : Nat)
  (h1 : P.underlying t=some (.slice e)) (h2 : (P.info? e).map (λi=>(i.zero,i.size,i.bytes))=some (some z,1,bytes)) (hz : z.cells = #[z])
  (n : Nat) (hl : ac.eval l = .int .i64 n) (hc : ac.eval c = .int .i64 n) (b2 : bytes * n<=281474976710656) (b3 : n<=maxLen)
  (hK : ∀a w',w'.ownsRow w.heap.size e 1 (.slice a n n) n (List.replicate n z)->JA w w'->w.heap.size<=ah a->ah a<w'.heap.size->wpList P ops Q rest (ac.put o.dst (.slice a n n)) w') :
  wpList P ops Q (o :: rest) ac w:=by
 obtain ⟨i,hi,hz0,hz1,hz2⟩:=info_parts h2;refine wpList_make_full w hg l c t hop w.heap.size e i z 1 h1 hi hz0 hz1 .i64 .i64 n n n hl hc rfl rfl (by rw [hz2];exact b2) b3 (EF _) λw' hown hgr=>?_;refine hK _ w' ?_ ((EI _ _).grown hgr (EF _) (λk hk=>by cases hk)) (by simp) ?_
 ·simpa [hz,toList_madeCells_one] using hown
 ·rcases hown.2 with ⟨hv,_⟩ | ⟨g,cap,cur,hv,_,hh,_⟩
  ·cases hv
  ·cases hv;exact (Array.getElem?_eq_some_iff.1 hh).1
theorem Below.app {B B0 : Nat} {w0 w w' : World} {e : TypeId} {a : OA} {n c : Nat} {xs : List Value} (h : Below B0 w0 w) (hown : w.ownsRow B e 1 (.slice a n c) n xs)
  (hg : w.grownBy w' (Value.slice a n c).ownBlock) (h0 : B0<=B) (h1 : B0<=w.heap.size) : Below B0 w0 w' :=
 h.grown hg h1 λk hk=>ET h0 (hown.lt k hk).1
theorem aj {w w' : World} (hb : JA w w') {a : Addr} {v : Value} (h : w.cell? a=some v) : w'.cell? a=some v :=
 (hb.cell (EP w a h)).trans h
theorem Below.next {w0 w w' : World} (h : JA w0 w) (hb : JA w w') : JA w0 w' :=
 h.trans (hb.mono h.size)
theorem Cn {w : World} {B : Nat} {e : TypeId} {a : OA} {n : Nat} {xs : List Value} (h : w.ownsRow B e 1 (.slice a n n) n xs) (hn : 0<n) :
  ∃g,a=some ⟨g,0,none⟩/\B<=g/\w.heap[g]? = some (.cells xs.toArray e (0,0)):=by
 rcases h.2 with ⟨hv,h0⟩ | ⟨g,cap,cur,hv,hg,hh,hle,hm,hs,ht⟩
 ·omega
 ·cases hv
  refine ⟨g,rfl,hg,?_⟩;rw [hh,<- ht,ES (by rw [Array.length_toList,hs];exact EF _)]
theorem we {w : World} {B : Nat} {e : TypeId} {g n : Nat} {xs : List Value} (hB : B<=g) (h : w.heap[g]? = some (.cells xs.toArray e (0,0))) (hl : xs.length=n) (hm : n<=maxLen) :
  w.ownsRow B e 1 (.slice (some ⟨g,0,none⟩) n n) n xs :=
 ⟨by simpa using hl,.inr ⟨g,n,xs.toArray,rfl,hB,h,EF _,hm,by simpa using hl,by simpa using ES (by omega)⟩⟩
theorem kZ {w : World} {g : Nat} {e : TypeId} {l : LI} (h : w.heap[g]? = some (.cells (l.map (Value.int .i64)).toArray e (0,0))) (j : Nat) (hj : j<l.length) :
  w.cell? ⟨g,j,none⟩=some (.int .i64 (nth l j))/\w.frozen? ⟨g,j,none⟩=false:=by refine ⟨?_,by simp [World.frozen?,h]⟩;simp [World.cell?,h,nth,hj]
theorem kP {w : World} {g : Nat} {e : TypeId} {l : LI} (h : w.heap[g]? = some (.cells (l.map (Value.int .i64)).toArray e (0,0))) (j : Nat) (x : Int) :
  (w.setCell ⟨g,j,none⟩ (.int .i64 x)).heap[g]? = some (.cells ((l.set j x).map (Value.int .i64)).toArray e (0,0)):=by have:=heap_setCell_same w g j _ e (.int .i64 x) h;simpa [Ff] using this
theorem AP (g j : Nat) : (⟨g,0,none⟩ : Addr).add j=⟨g,j,none⟩:=by unfold Addr.add;split <;> simp_all
theorem rO {w : World} {g : Nat} {e : TypeId} {l : LI} (h : w.heap[g]? = some (.cells (l.map (Value.int .i64)).toArray e (0,0))) :
  ∀j v,(l.dropLast.map (Value.int .i64))[j]? = some v->w.cell? ((⟨g,0,none⟩ : Addr).add j)=some v:=by intro j v hj;have hlt:=(List.getElem?_eq_some_iff.1 hj).1;simp only [Fo,List.length_dropLast] at hlt;rw [AP,(kZ h j (by omega)).1];rw [F5,Gw,EH hlt,Fa (by omega)] at hj;rw [ai (by omega)];simpa using hj
theorem wI (l : LI) (h : 0<l.length) : splice (l.map (Value.int .i64)) 1 (l.dropLast.map (Value.int .i64))=(nth l 0 :: l.dropLast).map (Value.int .i64):=by
 unfold splice;match l,h with
 | x :: l,_ =>
  have e : (List.map (Value.int .i64) (x :: l)).drop (1+(List.map (Value.int .i64) (x :: l).dropLast).length)=[]:=by apply Gx;simp;omega
  rw [e]
  simp [nth]
theorem bh : (prog.info? 3).map (λi=>(i.zero,i.size,i.bytes))=some (some (.int .i64 0),1,8):=by kernel_rfl
theorem k8 (x p : Int) (m : Nat) (w : World) (hx : 0<=x) (hx2 : x<=9223372036854775807) (hp : 1<=p) (hm : m<=256) :
  Calls prog 249 #[.int .i64 x,.int .i64 p,.int .i64 m] w λe w' =>
   ∃a c,e = .returned (.slice a m c)/\Ints w' a m (bg x p m)/\jN w' w.heap.size a m/\JA w w':=by
 go_enter func249,ntmps249;go_wp2_with (at_make;refine bZ rfl _ _ 22 3 rfl (.int .i64 0) 8 underlying22 bh rfl m rfl rfl (by omega) (by unfold maxLen;omega) ?_;intro a w1 hown hbel hge hlt);go_loopw [0,13] (λxv iv wr=>∃k : Nat,k<=m/\iv = .int .i64 k/\xv = .int .i64 (gX x p k) /\
   wr.ownsRow w.heap.size 3 1 (.slice a m m) m ((cH (bg x p k) k m).map (Value.int .i64))/\JA w wr)
  (λ_ i _=>m - (intOf i).toNat)
 case atStart=>exact ⟨0,EL _,rfl,rfl,by simpa [cH,bg] using hown,hbel⟩
 case round =>
  obtain ⟨k,hk,rfl,rfl,hown,hbel⟩:=hrel
  obtain ⟨hints,hmine⟩:=Ints.own hown
  have hq:=rS x p hx hp k
  have hpl:=hints.pl
  by_cases hlt : k<m
  ·have hc:=hints.cell k hlt
   have hf:=(hmine (by omega)).2 k hlt
   have hB:=(hmine (by omega)).1
   go_wp2
   go_roundw
   case rel =>
    refine ⟨k+1,by omega,by go_num,rfl,?_,hbel.setCell hB _⟩
    have h:=bz hown k hlt (.int .i64 (gX x p k % p))
    rw [<- Ff,en _ _ _ _ (bu p k x) hlt,<- lY] at h
    exact h
   case measure=>simp [intOf] <;> omega
  ·obtain rfl : k=m:=by omega
   go_wp2
   go_ret
   rw [eZ] at hints
   exact ⟨_,_,rfl,hints,hmine,hbel⟩
def db (a : OA) (b : Nat) : Prop:=a=none\/ah a ≠ b
theorem db.own {a : OA} {b : Nat} (h : db a b) (n c : Nat) : (Value.slice a n c).ownBlock ≠ some b:=by
 rcases h with rfl | h
 ·simp [Value.ownBlock]
 ·cases a with
  | none=>simp [Value.ownBlock]
  | some x=>simpa [Value.ownBlock,ah] using h
theorem db.ml {a : OA} {b n c : Nat} (h : (Value.slice a n c).ownBlock ≠ some b) : db a b:=by
 cases a with
 | none=>exact .inl rfl
 | some x=>exact .inr (by simpa [Value.ownBlock,ah] using h)
theorem db.nil (b : Nat) : db none b:=.inl rfl
theorem la {w : World} {B : Nat} {e : TypeId} {a : OA} {c n : Nat} {xs : List Value} (h : w.ownsRow B e 1 (.slice a n c) n xs) {b : Nat} (hb : b<B) : db a b:=by
 rcases iM h with ⟨rfl,_⟩ | ⟨h1,_⟩
 ·exact .inl rfl
 ·exact .inr (by omega)
theorem uH {w : World} {B : Nat} {e : TypeId} {a : OA} {c n : Nat} {xs : List Value} (h : w.ownsRow B e 1 (.slice a n c) n xs) {b : Nat} (hb : w.heap.size<=b) : db a b:=by
 rcases iM h with ⟨rfl,_⟩ | ⟨_,h1⟩
 ·exact .inl rfl
 ·exact .inr (by omega)
theorem ez {w : World} {B : Nat} {e : TypeId} {a : OA} {c n : Nat} {xs : List Value} (h : w.ownsRow B e 1 (.slice a n c) n xs) (hn : 0<n) : B<=ah a/\ah a<w.heap.size:=by
 rcases iM h with ⟨_,h0,_⟩ | h
 ·omega
 ·exact h
theorem aX {P : Program} {w : World} {ops : Array Oper} {rest : List Oper} {o : Oper} {ac : Act} {Q : Exit->Act->World->Prop}
  (hg : o.guard=none) (s x : Operand) (t e : TypeId) (hop : o.op = .call { callee:=.builtin .append,args:=#[s,x],argTypes:=#[t,t] }) (z : Value) (bytes : Nat)
  (h1 : P.underlying t=some (.slice e)) (h2 : (P.info? e).map (λi=>(i.zero,i.size,i.bytes))=some (some z,1,bytes)) (hz : z.cells = #[z])
  (B : Nat) (a : OA) (n c : Nat) (xs : List Value) (hs : ac.eval s = .slice a n c) (hown : w.ownsRow B e 1 (.slice a n c) n xs)
  (ad : Addr) (cc : Nat) (u : Value) (hx : ac.eval x = .slice (some ad) 1 cc) (hu : w.cell? ad=some u) (h1c : u.oneCell'=true)
  (b2 : (n+1) * bytes<=140737488355328) (b3 : n+1<=maxLen) (hB : B<=w.heap.size)
  (hK : ∀a' c' w',w'.ownsRow B e 1 (.slice a' (n+1) c') (n+1) (xs ++ [u])->w.grownBy w' (Value.slice a n c).ownBlock->(∀b,b<w.heap.size->db a b->db a' b)->wpList P ops Q rest (ac.put o.dst (.slice a' (n+1) c')) w') :
  wpList P ops Q (o :: rest) ac w:=by
 obtain ⟨i,hi,hz0,hz1,hz2⟩:=info_parts h2;refine wpList_append_own_at w hg s x t hop B e i z 1 bytes h1 hi hz0 hz1 hz2 (by rw [hz];rfl) (by decide) _ n xs hs hown ad 1 cc [u] hx rfl ?_ ?_ b3 b2 hB λv' w' hown' hgr _ hat=>?_
 ·intro j v hj;match j,hj with
  | 0,hj=>simp at hj;subst hj;simpa [Addr.add] using hu
 ·intro v hv;simp at hv;subst hv;exact h1c
 ·obtain ⟨a',c',rfl,_⟩:=Pl.own hown';refine hK a' c' w' hown' hgr λb hb hapt=>?_;have h:=hapt.own n c;rcases hat with h3 | h3
  ·exact db.ml (n:=n+1) (c:=c') (by rw [h3];exact h)
  ·exact db.ml (n:=n+1) (c:=c') (by rw [h3];intro h4;cases h4;omega)
theorem Ints.tW {w w' : World} {a ao : OA} {n m c : Nat} {l : LI} (h : Ints w a n l) (hg : w.grownBy w' (Value.slice ao m c).ownBlock) (hne : 0<n->db ao (ah a)) : Ints w' a n l :=
 h.grown hg λhn=>(hne hn).own m c
theorem dx.tW {w w' : World} {a ao : OA} {n m c : Nat} {l : List Bool} (h : dx w a n l) (hg : w.grownBy w' (Value.slice ao m c).ownBlock) (hne : 0<n->db ao (ah a)) : dx w' a n l :=
 h.grown hg λhn=>(hne hn).own m c
theorem fw {w w' : World} {B : Nat} {e : TypeId} {a ao : OA} {n c m c' : Nat} {xs : List Value} (h : w.ownsRow B e 1 (.slice a n c) n xs) (hg : w.grownBy w' (Value.slice ao m c').ownBlock) (hne : db ao (ah a)) :
  w'.ownsRow B e 1 (.slice a n c) n xs:=by
 rcases iM h with ⟨rfl,rfl,rfl⟩ | ⟨_,hlt⟩
 ·have hx:=iw h;obtain rfl : xs=[]:=Fi hx;exact bG
 ·exact gI h (hg.block _ hlt (λe=>hne.own m c' e.symm))
theorem bF {w w' : World} {ao : OA} {m c : Nat} {ad : Addr} {v : Value} (hg : w.grownBy w' (Value.slice ao m c).ownBlock) (h : w.cell? ad=some v) (hne : db ao ad.block) : w'.cell? ad=some v :=
 hg.cell h (λe=>hne.own m c e.symm)
theorem uN (w : World) (l : LI) (e : TypeId) {B : Nat} (hB : B<=w.heap.size) (hl : l.length<=maxLen) :
  (w.alloc (.cells (l.map (Value.int .i64)).toArray e)).ownsRow B e 1 (.slice (some ⟨w.heap.size,0,none⟩) l.length l.length) l.length (l.map (Value.int .i64)):=by simpa using Iz w (l.map (Value.int .i64)).toArray l.length hB hl (by simp)
theorem rR {P : Int} (hP : 0<P) (M : Nat) (mod : LI) (x y : Int) : 0<=cF P M mod x y/\cF P M mod x y<P ^ M:=by have:=kR hP (dE P (kj M mod) (bg x P M) (bg y P M) M M) (cU.dE hP _ _ _ _ _);rwa [fV] at this
def gq (mul : Int->Int) : Nat->LI->Int->LI
 | 0,l,_=>l
 | n+1,l,y=>if y=0\/y ∈ l then l else gq mul n (l ++ [y]) (mul y)
theorem gN (mul : Int->Int) (n : Nat) (l : LI) (y : Int) (h : y=0\/y ∈ l) : gq mul n l y=l:=by
 cases n
 ·rfl
 ·rw [gq,EH h]
theorem pd (mul : Int->Int) (n : Nat) (l : LI) (y : Int) (h : ¬ (y=0\/y ∈ l)) : gq mul (n+1) l y=gq mul n (l ++ [y]) (mul y):=by rw [gq,EG h]
def dP (P : Int) (M : Nat) (mod : LI) (q : Nat) (x : Int) : LI:=gq (λy=>cF P M mod y x) q [1] x
def eO (P : Int) (M : Nat) (mod : LI) (q : Nat) (x : Int) : Bool :=
 (dP P M mod q x).length == q - 1 && cF P M mod (nth (dP P M mod q x) (q - 2)) x == 1
def jn (P : Int) (M : Nat) (mod : LI) (q : Nat) : Nat->Nat->LI
 | 0,_=>[]
 | n+1,x=>if eO P M mod q x then dP P M mod q x else jn P M mod q n (x+1)
def eX (P : Int) (M : Nat) (mod : LI) (q : Nat) : LI:=jn P M mod q (q - 1) 1
def si : List Bool->Nat
 | []=>0
 | b :: l=>(if b then 0 else 1)+si l
theorem ow : ∀(l : List Bool) (i : Nat),l[i]? = some false->si (l.set i true)+1=si l
 | [],i,h=>by simp at h
 | b :: l,0,h=>by simp at h;subst h;simp [si];omega
 | b :: l,i+1,h=>by simp at h;have:=ow l i h;simp [si];omega
theorem oG (n : Nat) : si (List.replicate n false)=n:=by
 induction n with
 | zero=>rfl
 | succ n ih=>simp [GS,si,ih];omega
theorem uf (mul : Int->Int) (Q : Int) (hm : ∀y,0<=mul y/\mul y<Q) : ∀(n : Nat) (l : LI) (y : Int),0<=y/\y<Q->(∀e ∈ l,0<=e/\e<Q)->∀e ∈ gq mul n l y,0<=e/\e<Q
 | 0,l,_,_,hl=>hl
 | n+1,l,y,hy,hl=>by
  unfold gq;split
  ·exact hl
  ·refine uf mul Q hm n _ _ (hm y) λe he=>?_;rcases List.mem_append.1 he with h | h
   ·exact hl e h
   ·rw [List.mem_singleton.1 h];exact hy
theorem BW {P : Int} (hP : 0<P) (M : Nat) (mod : LI) (q : Nat) (x : Int) (hq : (q : Int)=P ^ M) (hq2 : 2<=q) (hx : 0<=x) (hx2 : x<q) : ∀e ∈ dP P M mod q x,0<=e/\e<q:=by refine uf _ _ (λy=>by rw [hq];exact rR hP M mod y x) _ _ _ ⟨hx,hx2⟩ λe he=>?_;rw [List.mem_singleton.1 he];omega
theorem mT {P : Int} (hP : 0<P) (M : Nat) (mod : LI) (q : Nat) (x : Int) (hq : (q : Int)=P ^ M) (hq2 : 2<=q) (hx : 0<=x) (hx2 : x<q) (i : Nat) : 0<=nth (dP P M mod q x) i/\nth (dP P M mod q x) i<q:=by
 rcases Fm i (dP P M mod q x).length with h | h
 ·exact BW hP M mod q x hq hq2 hx hx2 _ (aO h)
 ·rw [ia h];omega
def du (P : Int) : Nat->Int->Int->Int
 | 0,_,_=>0
 | m+1,x,y=>(x+y) % P+P * du P m (x / P) (y / P)
def eQ (P : Int) : Nat->Int->Int
 | 0,_=>0
 | m+1,x=>(P - x % P) % P+P * eQ P m (x / P)
theorem qM (P : Int) : ∀m,du P m 0 0=0
 | 0=>rfl
 | m+1=>by simp [du,qM P m]
theorem qJ (P : Int) : ∀m,eQ P m 0=0
 | 0=>rfl
 | m+1=>by simp [eQ,qJ P m]
theorem se {P : Int} (hP : 0<P) : ∀(m : Nat) (x y : Int),0<=du P m x y/\du P m x y<P ^ m
 | 0,x,y=>by simp [du]
 | m+1,x,y=>by have ih:=se hP m (x / P) (y / P);have h1:=Fl (x+y) (show P ≠ 0 by omega);have h2:=Fb (x+y) hP;have h3 : 0<=P * du P m (x / P) (y / P):=F9 (by omega) ih.1;have h4:=E8 (show du P m (x / P) (y / P)+1<=P ^ m by omega) (show 0<=P by omega);rw [FO] at h4;simp only [du,Fv];rw [FG (P ^ m)];omega
theorem nG {P : Int} (hP : 0<P) : ∀(m : Nat) (x : Int),0<=eQ P m x/\eQ P m x<P ^ m
 | 0,x=>by simp [eQ]
 | m+1,x=>by have ih:=nG hP m (x / P);have h1:=Fl (P - x % P) (show P ≠ 0 by omega);have h2:=Fb (P - x % P) hP;have h3 : 0<=P * eQ P m (x / P):=F9 (by omega) ih.1;have h4:=E8 (show eQ P m (x / P)+1<=P ^ m by omega) (show 0<=P by omega);rw [FO] at h4;simp only [eQ,Fv];rw [FG (P ^ m)];omega
theorem kW (P : Int) (hP : 0<P) : ∀(m : Nat) (x : Int),0<=x->x<P ^ m->gX x P m=0
 | 0,x,h0,h1=>by simp at h1;simp [gX];omega
 | m+1,x,h0,h1=>by rw [l4];refine kW P hP m (x / P) (F4 h0 (by omega)) ?_;rw [Fv] at h1;exact F2 hP h1
theorem A5 (x y : Nat) : (x ^^^ y) % 2=(x+y) % 2:=by have h:=Nat.testBit_xor x y 0;simp only [Nat.testBit_zero] at h;have hx:=FA x;have hy:=FA y;have hz:=FA (x ^^^ y);rcases hx with hx | hx <;> rcases hy with hy | hy <;> rcases hz with hz | hz <;> simp [hx,hy,hz] at h <;> omega
theorem tA : ∀(m : Nat) (x y : Nat),x<2 ^ m->y<2 ^ m->((x ^^^ y : Nat) : Int)=du 2 m x y
 | 0,x,y,hx,hy=>by
  have h1 : x=0:=by simp at hx;omega
  have h2 : y=0:=by simp at hy;omega
  subst h1;subst h2;rfl
 | m+1,x,y,hx,hy=>by
  have ih:=tA m (x / 2) (y / 2) (by rw [Gy] at hx;omega) (by rw [Gy] at hy;omega);simp only [du];have e1 : ((x : Int) / 2)=((x / 2 : Nat) : Int):=by omega
  have e2 : ((y : Int) / 2)=((y / 2 : Nat) : Int):=by omega
  rw [e1,e2,<- ih,<- Nat.xor_div_two];have h3 : (x ^^^ y) % 2=(x+y) % 2:=A5 x y;omega
theorem nf {P : Program} (w : World) (t ty e : TypeId) (i : TypeInfo) (ht : P.underlying t=some (.slice e)) (hi : P.info? e=some i) (a ao : OA) (n c cs : Nat) (hn : n<=c) :
  (Builtin.append_ #[t,t] ty #[.slice a n c,.slice ao 0 cs]).run P w = .ok (.slice a n c) w:=by cases a <;> cases ao <;> simp [Builtin.append_,run_underlying ht,sizeOf,typeInfo,hi,Builtin.lenOf,Builtin.firstCells,hn,storeCells,loadCells,loadCellsFrom]
theorem nE {w : World} {B : Nat} {e : TypeId} {a : OA} {c n : Nat} {xs : List Value} (h : w.ownsRow B e 1 (.slice a n c) n xs) : n<=c:=by
 rcases h.2 with ⟨hv,h0⟩ | ⟨g,cap,cur,hv,hg,hh,hle,_⟩
 ·omega
 ·cases hv;exact hle
theorem oV {P : Program} {w : World} (t ty e : TypeId) (z : Value) (bytes : Nat)
  (h1 : P.underlying t=some (.slice e)) (h2 : (P.info? e).map (λi=>(i.zero,i.size,i.bytes))=some (some z,1,bytes)) (hz : z.cells = #[z])
  (B : Nat) (a : OA) (n c : Nat) (xs : List Value) (hown : w.ownsRow B e 1 (.slice a n c) n xs)
  (ao : OA) (m cc : Nat) (news : List Value) (hp : Pl ao m) (hl : news.length=m) (hc : ∀j,j<m->w.cell? ⟨ah ao,aG ao+j,none⟩=news[j]?) (h1c : ∀u ∈ news,u.oneCell'=true)
  (b2 : (n+m) * bytes<=140737488355328) (b3 : n+m<=maxLen) (hB : B<=w.heap.size) :
  ∃a' c' w',(Builtin.append_ #[t,t] ty #[.slice a n c,.slice ao m cc]).run P w = .ok (.slice a' (n+m) c') w'/\w'.ownsRow B e 1 (.slice a' (n+m) c') (n+m) (xs ++ news) /\
   w.grownBy w' (Value.slice a n c).ownBlock/\(∀b,b<w.heap.size->db a b->db a' b):=by
 obtain ⟨i,hi,hz0,hz1,hz2⟩:=info_parts h2;by_cases hm : m=0
 ·subst hm;obtain rfl : news=[]:=Fi hl;exact ⟨a,c,w,nf w t ty e i h1 hi a ao n c cc (nE hown),by simpa using hown,World.grownBy.refl _ _,λb _ h=>h⟩
 ·have hao:=hp (by omega);obtain ⟨v',w',hr,h3,h4,_,h6⟩:=run_append_own_at (P:=P) w B t ty e i z 1 bytes h1 hi hz0 hz1 hz2 (by rw [hz];rfl) (by decide) _ n xs hown ⟨ah ao,aG ao,none⟩ m cc news (by omega)
   (λj u hu=>by have hj:=(List.getElem?_eq_some_iff.1 hu).1;rw [Addr.add_lit,hc j (by omega)];exact hu) h1c b3 b2 hB
  obtain ⟨a',c',rfl,_⟩:=Pl.own h3;refine ⟨a',c',w',by rw [hao];exact hr,h3,h4,λb hb hapt=>?_⟩;have h:=hapt.own n c;rcases h6 with h6 | h6
  ·exact db.ml (n:=n+m) (c:=c') (by rw [h6];exact h)
  ·exact db.ml (n:=n+m) (c:=c') (by rw [h6];intro h7;cases h7;omega)
theorem iJ {P : Program} {w : World} {ops : Array Oper} {rest : List Oper} {o : Oper} {ac : Act} {Q : Exit->Act->World->Prop}
  (hg : o.guard=none) (s x : Operand) (t e : TypeId) (hop : o.op = .call { callee:=.builtin .append,args:=#[s,x],argTypes:=#[t,t] }) (z : Value) (bytes : Nat)
  (h1 : P.underlying t=some (.slice e)) (h2 : (P.info? e).map (λi=>(i.zero,i.size,i.bytes))=some (some z,1,bytes)) (hz : z.cells = #[z])
  (B : Nat) (a : OA) (n c : Nat) (xs : List Value) (hs : ac.eval s = .slice a n c) (hown : w.ownsRow B e 1 (.slice a n c) n xs)
  (ao : OA) (m cc : Nat) (news : List Value) (hx : ac.eval x = .slice ao m cc) (hp : Pl ao m) (hl : news.length=m) (hc : ∀j,j<m->w.cell? ⟨ah ao,aG ao+j,none⟩=news[j]?) (h1c : ∀u ∈ news,u.oneCell'=true)
  (b2 : (n+m) * bytes<=140737488355328) (b3 : n+m<=maxLen) (hB : B<=w.heap.size)
  (hK : ∀a' c' w',w'.ownsRow B e 1 (.slice a' (n+m) c') (n+m) (xs ++ news)->w.grownBy w' (Value.slice a n c).ownBlock->(∀b,b<w.heap.size->db a b->db a' b)->wpList P ops Q rest (ac.put o.dst (.slice a' (n+m) c')) w') :
  wpList P ops Q (o :: rest) ac w:=by refine wpList_plain hg λK hK'=>?_;obtain ⟨a',c',w',hr,h3,h4,h5⟩:=oV (P:=P) t o.type e z bytes h1 h2 hz B a n c xs hown ao m cc news hp hl hc h1c b2 b3 hB;unfold Oper.wp execOp;simp only [hop,resolve,invoke,builtin,Sem.run_bind,Sem.run_pure,IA,IN,HZ,IB,hs,hx,hr];exact hK' _ _ (hK a' c' w' h3 h4 h5)
theorem ie {P : Program} {w : World} {ops : Array Oper} {o : Oper} {ac : Act} {K : Act->World->Prop} {Q : Exit->Act->World->Prop} {E : Prop}
  (hg : o.guard=none) (s x : Operand) (t e : TypeId) (hop : o.op = .call { callee:=.builtin .append,args:=#[s,x],argTypes:=#[t,t] }) (z : Value) (bytes : Nat)
  (h1 : P.underlying t=some (.slice e)) (h2 : (P.info? e).map (λi=>(i.zero,i.size,i.bytes))=some (some z,1,bytes)) (hz : z.cells = #[z])
  (B : Nat) (a : OA) (n c : Nat) (xs : List Value) (hs : ac.eval s = .slice a n c) (hown : w.ownsRow B e 1 (.slice a n c) n xs)
  (ao : OA) (m cc : Nat) (news : List Value) (hx : ac.eval x = .slice ao m cc) (hp : Pl ao m) (hl : news.length=m) (hc : ∀j,j<m->w.cell? ⟨ah ao,aG ao+j,none⟩=news[j]?) (h1c : ∀u ∈ news,u.oneCell'=true)
  (b2 : (n+m) * bytes<=140737488355328) (b3 : n+m<=maxLen) (hB : B<=w.heap.size)
  (hK : ∀a' c' w',w'.ownsRow B e 1 (.slice a' (n+m) c') (n+m) (xs ++ news)->w.grownBy w' (Value.slice a n c).ownBlock->(∀b,b<w.heap.size->db a b->db a' b)->K (ac.put o.dst (.slice a' (n+m) c')) w') :
  if Region.wanted o (yielded ops ac.tmps)=true then Oper.wp P o ac w K Q else E:=by
 have hw : Region.wanted o (yielded ops ac.tmps)=true:=by simp [Region.wanted,hg]
 rw [EH hw];obtain ⟨a',c',w',hr,h3,h4,h5⟩:=oV (P:=P) t o.type e z bytes h1 h2 hz B a n c xs hown ao m cc news hp hl hc h1c b2 b3 hB;unfold Oper.wp execOp;simp only [hop,resolve,invoke,builtin,Sem.run_bind,Sem.run_pure,IA,IN,HZ,IB,hs,hx,hr];exact hK a' c' w' h3 h4 h5
theorem run_mk {P : Program} (t e : TypeId) (z : Value) (bytes : Nat) (h1 : P.underlying t=some (.slice e)) (h2 : (P.info? e).map (λi=>(i.zero,i.size,i.bytes))=some (some z,1,bytes)) (hz : z.cells = #[z])
  (n : Nat) (b2 : bytes * n<=281474976710656) (b3 : n<=9223372036854775807) (w : World) :
  (Instr.makeSlice t (.int .i64 n) (.int .i64 n)).run P w = .ok (.slice (some ⟨w.heap.size,0,none⟩) n n) (w.alloc (.cells (List.replicate n z).toArray e)):=by obtain ⟨i,hi,hz0,hz1,hz2⟩:=info_parts h2;have h:=run_make (P:=P) w t e i z h1 hi hz0 .i64 .i64 n n (by omega) (IV _) (by rw [hz2];omega) (by omega);rw [hz1,Nat.mul_one,hz,EM] at h;rw [h];congr 3;rw [<- toList_madeCells_one]
theorem rC (w : World) (e : TypeId) (z : Value) (n : Nat) {B : Nat} (hB : B<=w.heap.size) (hn : n<=maxLen) :
  (w.alloc (.cells (List.replicate n z).toArray e)).ownsRow B e 1 (.slice (some ⟨w.heap.size,0,none⟩) n n) n (List.replicate n z):=by simpa using Iz w (List.replicate n z).toArray n hB hn (by simp)
theorem Ints.news {w : World} {a : OA} {n : Nat} {l : LI} (h : Ints w a n l) : ∀j,j<n->w.cell? ⟨ah a,aG a+j,none⟩=(l.map (Value.int .i64))[j]?:=by intro j hj;rw [h.cell j hj,F5,Fa (by rw [h.len];exact hj),ai (by rw [h.len];exact hj)];rfl
theorem Below.iN {w0 w : World} (h : JA w0 w) (o : Obj) : JA w0 (w.alloc o):=h.alloc h.size o
theorem ke (w : World) (e : TypeId) : (w.alloc (.cells #[] e)).ownsRow w.heap.size e 1 (.slice (some ⟨w.heap.size,0,none⟩) 0 0) 0 [] :=
 World.ownsRow_made w #[] 0 (EF _) (EL _) rfl
theorem aC (w : World) (cs : Array Value) (e : TypeId) {g : Nat} (hg : g=w.heap.size) (i : Nat) : (w.alloc (.cells cs e)).cell? ⟨g,i,none⟩=cs[i]?:=by subst hg;exact Ic ..
theorem mC (w : World) (e : TypeId) (z : Value) (n : Nat) {B g : Nat} (hg : g=w.heap.size) (hB : B<=w.heap.size) (hn : n<=maxLen) :
  (w.alloc (.cells (Array.replicate n z) e)).ownsRow B e 1 (.slice (some ⟨g,0,none⟩) n n) n (List.replicate n z):=by subst hg;simpa using rC w e z n hB hn
theorem lk {w w' : World} {row : Option Nat} (h : w.drew.grownBy w' row) : w.grownBy w' row:=⟨h.os,h.tape,h.output,h.size,h.block⟩
section
def sm : Nat->(Nat->Int)->Int
 | 0,_=>0
 | n+1,f=>sm n f+f n
theorem bC {n : Nat} {f g : Nat->Int} (h : ∀i,i<n->f i=g i) : sm n f=sm n g:=by
 induction n with
 | zero=>rfl
 | succ n ih=>rw [sm,sm,ih λi hi=>h i (by omega),h n (by omega)]
theorem sH (n : Nat) (f g : Nat->Int) : sm n (λi=>f i+g i)=sm n f+sm n g:=by
 induction n with
 | zero=>rfl
 | succ n ih=>simp only [sm,ih];omega
theorem ik (n : Nat) : sm n (λ_=>0)=0:=by
 induction n with
 | zero=>rfl
 | succ n ih=>simp only [sm,ih];rfl
theorem AW (n : Nat) (c : Int) (f : Nat->Int) : sm n (λi=>c * f i)=c * sm n f:=by
 induction n with
 | zero=>simp [sm]
 | succ n ih=>simp only [sm,ih,FO]
theorem xe (n m : Nat) (f : Nat->Nat->Int) : sm n (λi=>sm m (λj=>f i j))=sm m (λj=>sm n (λi=>f i j)):=by
 induction n with
 | zero=>simp only [sm];rw [ik]
 | succ n ih=>simp only [sm,ih,sH]
theorem Dv {n : Nat} {f : Nat->Int} {P : Int} (h : ∀i,i<n->P ∣ f i) : P ∣ sm n f:=by
 induction n with
 | zero=>exact ⟨0,by simp [sm]⟩
 | succ n ih=>exact Ii (ih λi hi=>h i (by omega)) (h n (by omega))
theorem jc {n : Nat} {f : Nat->Int} {k : Nat} (hk : k<n) (h : ∀i,i<n->i ≠ k->f i=0) : sm n f=f k:=by
 induction n with
 | zero=>omega
 | succ n ih =>
  rw [sm]
  by_cases e : k=n
  ·subst e
   rw [bC (g:=λ_=>0) λi hi=>h i (by omega) (by omega),ik];omega
  ·rw [ih (by omega) λi hi=>h i (by omega),h n (by omega) (by omega)];omega
theorem AT (n : Nat) (f : Nat->Int) : sm (n+1) f=f 0+sm n (λi=>f (i+1)):=by
 induction n with
 | zero=>simp [sm]
 | succ n ih=>rw [sm,ih];simp only [sm];omega
def pR (M : Nat) (low : Nat->Int) (v : Nat->Int) : Nat->Int :=
 λi=>if i<M then (if i=0 then 0 else v (i - 1)) - v (M - 1) * low i else 0
def ee (M : Nat) (low : Nat->Int) : Nat->(Nat->Int)->Nat->Int
 | 0,v=>v
 | k+1,v=>pR M low (ee M low k v)
variable {M : Nat} {low : Nat->Int}
theorem BN (u v : Nat->Int) : pR M low (λi=>u i+v i)=λi=>pR M low u i+pR M low v i:=by
 funext i;simp only [pR];split
 ·split
  ·rw [Ij];omega
  ·rw [Ij];omega
 ·rfl
theorem Ba (c : Int) (v : Nat->Int) : pR M low (λi=>c * v i)=λi=>c * pR M low v i:=by
 funext i;simp only [pR];split
 ·split
  ·rw [IW,IC,FB]
  ·rw [IW,FB]
 ·rw [IC]
theorem xx (k : Nat) (u v : Nat->Int) : ee M low k (λi=>u i+v i)=λi=>ee M low k u i+ee M low k v i:=by
 induction k with
 | zero=>rfl
 | succ k ih=>rw [ee,ih,BN];rfl
theorem iS (k : Nat) (c : Int) (v : Nat->Int) : ee M low k (λi=>c * v i)=λi=>c * ee M low k v i:=by
 induction k with
 | zero=>rfl
 | succ k ih=>rw [ee,ih,Ba];rfl
theorem sV (k : Nat) : ee M low k (λ_=>0)=λ_=>0:=by have:=iS (M:=M) (low:=low) k 0 (λ_=>0);simpa using this
theorem ry (k n : Nat) (f : Nat->Nat->Int) : ee M low k (λi=>sm n (λj=>f j i))=λi=>sm n (λj=>ee M low k (f j) i):=by
 induction n with
 | zero=>simp only [sm];exact sV k
 | succ n ih=>simp only [sm];rw [xx,ih]
theorem lG (k l : Nat) (v : Nat->Int) : ee M low (k+l) v=ee M low k (ee M low l v):=by
 induction k with
 | zero=>rw [GX];rfl
 | succ k ih=>rw [show k+1+l=(k+l)+1 by omega,ee,ee,ih]
def eV (j : Nat) : Nat->Int:=λi=>if i=j then 1 else 0
def Sh (M : Nat) (v : Nat->Int) : Prop:=∀i,M<=i->v i=0
theorem AN (v : Nat->Int) : Sh M (pR M low v):=λi hi=>by simp only [pR];rw [EG (by omega)]
theorem CQ {v : Nat->Int} (h : Sh M v) (k : Nat) : Sh M (ee M low k v):=by
 cases k with
 | zero=>exact h
 | succ k=>exact AN _
theorem xK (j : Nat) (hj : j<M) : ee M low j (eV 0)=eV j:=by
 induction j with
 | zero=>rfl
 | succ j ih =>
  rw [ee,ih (by omega)]
  funext i
  simp only [pR,eV]
  by_cases h : i<M
  ·rw [EH h,EG (show ¬ M - 1=j by omega)]
   by_cases h0 : i=0
   ·rw [EH h0,EG (by omega)];omega
   ·rw [EG h0]
    by_cases h1 : i=j+1
    ·rw [EH h1,EH (by omega)];omega
    ·rw [EG h1,EG (by omega)];omega
  ·rw [EG h,EG (by omega)]
theorem Sh.expand {v : Nat->Int} (h : Sh M v) : v=λk=>sm M (λj=>v j * ee M low j (eV 0) k):=by
 funext k;rw [bC (g:=λj=>v j * eV j k) λj hj=>by rw [xK j hj]];by_cases hk : k<M
 ·rw [jc hk λi hi hne=>by simp only [eV];rw [EG (by omega)];omega];simp [eV]
 ·rw [h k (by omega),bC (g:=λ_=>0) λj hj=>by simp only [eV];rw [EG (by omega)];omega,ik]
def fp (M : Nat) (low : Nat->Int) (x y : Nat->Int) : Nat->Int:=λk=>sm M (λi=>x i * ee M low i y k)
theorem BK {x y : Nat->Int} (hy : Sh M y) : Sh M (fp M low x y):=λk hk=>by simp only [fp];rw [bC (g:=λ_=>0) λi _=>by rw [CQ hy i k hk];omega,ik]
theorem jA {x y : Nat->Int} (hy : Sh M y) : fp M low x y=λk=>sm M (λi=>sm M (λj=>x i * y j * ee M low (i+j) (eV 0) k)):=by funext k;simp only [fp];refine bC λi _=>?_;have e : ee M low i y=ee M low i (λk=>sm M (λj=>y j * ee M low j (eV 0) k)):=congrArg _ hy.expand;rw [e,ry];simp only;rw [<- AW];refine bC λj _=>?_;rw [iS,lG,FB]
theorem jY {x y : Nat->Int} (hx : Sh M x) (hy : Sh M y) : fp M low x y=fp M low y x:=by rw [jA hx,jA hy];funext k;rw [xe];refine bC λi _=>bC λj _=>?_;rw [FG (x j),ID j i]
theorem pY (x y z : Nat->Int) : fp M low x (fp M low y z)=λk=>sm M (λi=>sm M (λj=>x i * y j * ee M low (i+j) z k)):=by funext k;refine bC λi _=>?_;rw [show fp M low y z=(λk=>sm M (λj=>y j * ee M low j z k)) from rfl,ry];simp only;rw [<- AW];refine bC λj _=>?_;rw [iS,lG,FB]
theorem pN (x y z : Nat->Int) : fp M low x (fp M low y z)=fp M low y (fp M low x z):=by rw [pY,pY];funext k;rw [xe];refine bC λi _=>bC λj _=>?_;rw [FG (x j),ID j i]
theorem vN {x y z : Nat->Int} (hx : Sh M x) (hy : Sh M y) (hz : Sh M z) : fp M low (fp M low x y) z=fp M low x (fp M low y z):=by rw [jY (BK hy) hz,pN,jY hz hy]
theorem Av {x : Nat->Int} (hM : 0<M) (hx : Sh M x) : fp M low (eV 0) x=x:=by funext k;simp only [fp];rw [jc hM λi _ hne=>by simp only [eV];rw [EG hne];omega];simp [eV,ee]
theorem pO (x y z : Nat->Int) : fp M low x (λi=>y i+z i)=λk=>fp M low x y k+fp M low x z k:=by funext k;simp only [fp];rw [<- sH];refine bC λi _=>?_;rw [xx,FO]
def Cg (P : Int) (u v : Nat->Int) : Prop:=∀i,P ∣ u i - v i
theorem Cg.refl (P : Int) (u : Nat->Int) : Cg P u u:=λi=>⟨0,by omega⟩
theorem Cg.symm {P : Int} {u v : Nat->Int} (h : Cg P u v) : Cg P v u:=λi=>by obtain ⟨c,hc⟩:=h i;exact ⟨-c,by rw [Ik];omega⟩
theorem Cg.trans {P : Int} {u v x : Nat->Int} (h : Cg P u v) (k : Cg P v x) : Cg P u x:=λi=>by obtain ⟨c,hc⟩:=h i;obtain ⟨d,hd⟩:=k i;exact ⟨c+d,by rw [FO];omega⟩
theorem Cg.of_eq {P : Int} {u v : Nat->Int} (h : u=v) : Cg P u v:=h ▸ Cg.refl P u
theorem Ab {P : Int} {u v : Nat->Int} (h : Cg P u v) : Cg P (pR M low u) (pR M low v):=λi=>by
 simp only [pR];split
 ·obtain ⟨c,hc⟩:=h (M - 1);have e : u (M - 1) * low i - v (M - 1) * low i=P * (c * low i):=by rw [<- Il,hc,FB]
  split
  ·exact ⟨-(c * low i),by rw [Ik,<- e];omega⟩
  ·obtain ⟨d,hd⟩:=h (i - 1);exact ⟨d - c * low i,by rw [IW,<- e,<- hd];omega⟩
 ·exact ⟨0,by omega⟩
theorem Ds {P : Int} {u v : Nat->Int} (h : Cg P u v) (k : Nat) : Cg P (ee M low k u) (ee M low k v):=by
 induction k with
 | zero=>exact h
 | succ k ih=>exact Ab ih
theorem Cg.add {P : Int} {u v x y : Nat->Int} (h : Cg P u v) (k : Cg P x y) : Cg P (λi=>u i+x i) (λi=>v i+y i):=λi=>by obtain ⟨c,hc⟩:=h i;obtain ⟨d,hd⟩:=k i;exact ⟨c+d,by simp only [FO];omega⟩
theorem uZ {P a b c d : Int} (h : P ∣ a - b) (k : P ∣ c - d) : P ∣ a * c - b * d:=by
 obtain ⟨x,hx⟩:=h;obtain ⟨y,hy⟩:=k;have ea : a=b+P * x:=by omega
 have ec : c=d+P * y:=by omega
 refine ⟨x * d+b * y+P * x * y,?_⟩;rw [ea,ec];simp only [Ij,FO];have e1 : b * (P * y)=P * (b * y):=by rw [<- FB,FG b P,FB]
 have e2 : P * x * (P * y)=P * (P * x * y):=by rw [<- FB,FG (P * x) P,FB]
 have e3 : P * (x * d)=P * x * d:=by rw [FB]
 rw [e1,e2,e3];omega
theorem rj {P : Int} {u v x y : Nat->Int} (h : Cg P u v) (k : Cg P x y) : Cg P (fp M low u x) (fp M low v y):=λi=>by
 simp only [fp];have e : sm M (λj=>u j * ee M low j x i) - sm M (λj=>v j * ee M low j y i)=sm M (λj=>u j * ee M low j x i - v j * ee M low j y i):=by
  have:=sH M (λj=>u j * ee M low j x i - v j * ee M low j y i) (λj=>v j * ee M low j y i);have e2 : sm M (λj=>u j * ee M low j x i - v j * ee M low j y i+v j * ee M low j y i)=sm M (λj=>u j * ee M low j x i):=bC λj _=>by omega
  omega
 rw [e];exact Dv λj _=>uZ (h j) (Ds k j i)
end
section
def dV (P : Int) (M : Nat) (x : Int) : Nat->Int:=nth (bg x P M)
theorem lF (P : Int) (M : Nat) (x : Int) : Sh M (dV P M x):=λi hi=>ia (by rw [bu];exact hi)
theorem lS {P : Int} (hP : 0<P) : ∀(M : Nat) (x : Int),0<=x->x<P ^ M->cO P (bg x P M)=x
 | 0,x,h0,h1=>by simp at h1;simp [bg,cO];omega
 | M+1,x,h0,h1=>by rw [bg,cO,lS hP M (x / P) (F4 h0 (by omega)) (F2 hP (by rwa [Fv] at h1))];exact Ie x P
theorem l9 {P : Int} (c r : Int) (M : Nat) (hc0 : 0<=c) (hc1 : c<P) : bg (c+P * r) P (M+1)=c :: bg r P M:=by rw [bg,Int.add_mul_emod_self_left,IE hc0 hc1,Int.add_mul_ediv_left _ _ (by omega),H5 hc0 hc1,Int.zero_add]
theorem j8 {P : Int} : ∀(l : LI),cU P l->bg (cO P l) P l.length=l
 | [],_=>rfl
 | c :: l,h=>by have h0:=h 0;simp only [nth,GU] at h0;rw [cO,FF,l9 c _ _ h0.1 h0.2,j8 l (λi=>by simpa [nth] using h (i+1))]
theorem mb (P x : Int) : P ∣ x % P - x:=⟨-(x / P),by have:=Ie x P;rw [Ik];omega⟩
theorem xX {P a b : Int} (hP : 0<P) (ha : 0<=a) (ha1 : a<P) (hb : 0<=b) (hb1 : b<P) (h : P ∣ a - b) : a=b:=by
 obtain ⟨c,hc⟩:=h;have hc0 : c=0:=by
  rcases Int.lt_trichotomy c 0 with h1 | h1 | h1
  ·have:=E8 (show c <= -1 by omega) (show 0<=P by omega);omega
  ·exact h1
  ·have:=E8 (show 1<=c by omega) (show 0<=P by omega);omega
 rw [hc0] at hc;omega
theorem Db {P : Int} (hP : 0<P) {M : Nat} {x y : Int} (hx0 : 0<=x) (hx1 : x<P ^ M) (hy0 : 0<=y) (hy1 : y<P ^ M) (h : Cg P (dV P M x) (dV P M y)) : x=y:=by
 have e : bg x P M=bg y P M:=by refine ij (by rw [bu,bu]) λi _=>?_;have h1:=cU.bg hP M x i;have h2:=cU.bg hP M y i;exact xX hP h1.1 h1.2 h2.1 h2.2 (h i)
 rw [<- lS hP M x hx0 hx1,<- lS hP M y hy0 hy1,e]
theorem dr (c : Int) (l : LI) : nth (c :: l) 0=c:=by simp [nth]
theorem cZ (c : Int) (l : LI) (i : Nat) : nth (c :: l) (i+1)=nth l i:=by simp [nth]
theorem fC {P : Int} (hP : 0<P) : ∀(M : Nat) (x y : Int),Cg P (dV P M (du P M x y)) (λi=>dV P M x i+dV P M y i)
 | 0,x,y=>λi=>by simp [dV,bg,nth]
 | M+1,x,y=>λi=>by
  simp only [dV,du];rw [l9 _ _ _ (Fl _ (by omega)) (Fb _ hP),bg,bg];match i with
  | 0 =>
   rw [dr,dr,dr]
   have h1:=mb P (x+y)
   have h2:=mb P x
   have h3:=mb P y
   have h4:=Int.dvd_sub (Int.dvd_sub h1 h2) h3
   rwa [show (x+y) % P - (x+y) - (x % P - x) - (y % P - y)=(x+y) % P - (x % P+y % P) by omega] at h4
  | i+1 =>
   rw [cZ,cZ,cZ]
   exact fC hP M (x / P) (y / P) i
theorem wW {P : Int} (hP : 0<P) : ∀(M : Nat) (x : Int),Cg P (dV P M (eQ P M x)) (λi=>- dV P M x i)
 | 0,x=>λi=>by simp [dV,bg,nth]
 | M+1,x=>λi=>by
  simp only [dV,eQ];rw [l9 _ _ _ (Fl _ (by omega)) (Fb _ hP),bg];match i with
  | 0 =>
   rw [dr,dr]
   have h1:=mb P (P - x % P)
   have h4:=Ii h1 (Int.dvd_refl P)
   rwa [show (P - x % P) % P - (P - x % P)+P=(P - x % P) % P - - (x % P) by omega] at h4
  | i+1 =>
   rw [cZ,cZ]
   exact wW hP M (x / P) i
theorem kX (P : Int) : ∀(M : Nat),dV P M 0=λ_=>0
 | 0=>by funext i;simp [dV,bg,nth]
 | M+1=>by
  funext i;simp only [dV,bg];match i with
  | 0=>rw [dr];simp
  | i+1=>rw [cZ];have:=congrFun (kX P M) i;simpa [dV] using this
theorem Du {P : Int} (hP : 2<=P) {M : Nat} (hM : 0<M) : dV P M 1=eV 0:=by
 obtain ⟨m,rfl⟩ : ∃m,M=m+1:=⟨M - 1,by omega⟩
 funext i;simp only [dV,bg];match i with
 | 0=>rw [dr];simp [eV];exact IE (by omega) (by omega)
 | i+1 =>
  rw [cZ,H5 (by omega) (by omega)]
  have:=congrFun (kX P m) i
  simpa [dV,eV] using this
theorem BV {out : LI} {M i : Nat} (hl : out.length=M) (hi : i<M) : nth (shl out) i=if i=0 then 0 else nth out (i - 1):=by
 match i with
 | 0=>simp [shl,nth]
 | i+1 =>
  rw [shl,cZ,EG (by omega)]
  simp only [nth,EJ,Gw]
  rw [EH (by omega)];rfl
theorem qG {P : Int} (hP : 0<P) (low a b : LI) {M : Nat} (ha : a.length=M) : ∀k,k<=M ->
  Cg P (nth (dE P low a b M k)) (λi=>sm k (λj=>nth b (M - k+j) * ee M (nth low) j (nth a) i))
 | 0,_=>λi=>by
  have e : nth (dE P low a b M 0) i=0:=by simp only [dE,nth,EJ,E9];split <;> rfl
  rw [e];simp [sm]
 | k+1,hk=>by
  have ih:=Ab (M:=M) (low:=nth low) (qG hP low a b ha k (by omega));have e1 : (λi=>sm (k+1) (λj=>nth b (M - (k+1)+j) * ee M (nth low) j (nth a) i)) =
    λi=>pR M (nth low) (λi=>sm k (λj=>nth b (M - k+j) * ee M (nth low) j (nth a) i)) i+nth b (M - 1 - k) * nth a i:=by
   funext i;rw [AT,show M - (k+1)+0=M - 1 - k by omega];have e2:=congrFun (ry (M:=M) (low:=nth low) 1 k (λj i=>nth b (M - k+j) * ee M (nth low) j (nth a) i)) i;have e3 : pR M (nth low) (λi=>sm k (λj=>nth b (M - k+j) * ee M (nth low) j (nth a) i)) i=sm k (λj=>nth b (M - (k+1)+(j+1)) * ee M (nth low) (j+1) (nth a) i):=by refine Eq.trans e2 (bC λj _=>?_);rw [iS,show M - (k+1)+(j+1)=M - k+j by omega];rfl
   rw [e3];show nth b (M - 1 - k) * nth a i+_=_;omega
  rw [e1];intro i;show P ∣ nth (dE P low a b M (k+1)) i - (pR M (nth low) (λi=>sm k (λj=>nth b (M - k+j) * ee M (nth low) j (nth a) i)) i+nth b (M - 1 - k) * nth a i);by_cases hi : i<M
  ·rw [dE,jT _ _ _ _ _ _ _ hi,xL,BV (fV ..) hi];have h1:=ih i;generalize hv : pR M (nth low) (λi=>sm k (λj=>nth b (M - k+j) * ee M (nth low) j (nth a) i)) i=z at *;simp only [pR,EH hi] at h1;generalize (if i=0 then (0 : Int) else nth (dE P low a b M k) (i - 1))=u at *;generalize nth (dE P low a b M k) (M - 1)=t at *;generalize nth b (M - 1 - k) * nth a i=c at *;have h2:=mb P (u+(P - t) * nth low i+c);have h3 : P ∣ P * nth low i:=Int.dvd_mul_right _ _;have h4:=Ii (Ii h2 h1) h3;rw [Il] at h4 ⊢;rwa [show (u+(P * nth low i - t * nth low i)+c) % P - (u+(P * nth low i - t * nth low i)+c)+(u - t * nth low i - z)+P * nth low i=(u+(P * nth low i - t * nth low i)+c) % P - (z+c) by omega] at h4
  ·rw [ia (by rw [fV];omega),ia (l:=a) (by omega)];have e2 : pR M (nth low) (λi=>sm k (λj=>nth b (M - k+j) * ee M (nth low) j (nth a) i)) i=0:=AN _ i (by omega);rw [e2];simp
theorem eS {P : Int} (hP : 0<P) (M : Nat) (mod : LI) (x y : Int) : Cg P (dV P M (cF P M mod x y)) (fp M (nth (kj M mod)) (dV P M x) (dV P M y)):=by
 have h:=qG hP (kj M mod) (bg x P M) (bg y P M) (bu P M x) M (EF _);have e : dV P M (cF P M mod x y)=nth (dE P (kj M mod) (bg x P M) (bg y P M) M M):=by unfold dV cF;have:=j8 (P:=P) (dE P (kj M mod) (bg x P M) (bg y P M) M M) (cU.dE hP _ _ _ _ _);rw [fV] at this;rw [this]
 rw [e,jY (lF P M x) (lF P M y)];refine h.trans (Cg.of_eq ?_);funext i;simp only [fp];refine bC λj _=>?_;rw [show M - M+j=j by omega];rfl
structure ju (P : Int) (M : Nat) : Prop where
 p : 2<=P
 m : 0<M
def ef (P : Int) (M : Nat) (x : Int) : Prop:=0<=x/\x<P ^ M
variable {P : Int} {M : Nat} {mod : LI}
theorem ef.ext (h : ju P M) {x y : Int} (hx : ef P M x) (hy : ef P M y) (e : Cg P (dV P M x) (dV P M y)) : x=y:=Db (by have:=h.p;omega) hx.1 hx.2 hy.1 hy.2 e
theorem eF (h : ju P M) (x y : Int) : ef P M (cF P M mod x y):=rR (by have:=h.p;omega) M mod x y
theorem fP (h : ju P M) (x y : Int) : ef P M (du P M x y):=se (by have:=h.p;omega) M x y
theorem su (h : ju P M) (x : Int) : ef P M (eQ P M x):=nG (by have:=h.p;omega) M x
theorem one_lt_pow (h : ju P M) : 1<P ^ M:=by
 have h1:=dB (P:=P) (by have:=h.p;omega) h.m;have h2:=h.p;have h3 : P ^ (0+1)=P:=by rw [Fv,Gf,GL]
 have h4 : P ^ (0+1)<=P ^ M:=h1;omega
theorem sy (h : ju P M) : ef P M 1:=⟨by omega,one_lt_pow h⟩
theorem sf (h : ju P M) : ef P M 0:=⟨by omega,by have:=one_lt_pow h;omega⟩
theorem ju.pos (h : ju P M) : 0<P:=by have:=h.p;omega
theorem gK (h : ju P M) (x y : Int) : cF P M mod x y=cF P M mod y x :=
 (eF h x y).ext h (eF h y x) (((eS h.pos M mod x y).trans (Cg.of_eq (jY (lF _ _ _) (lF _ _ _)))).trans (eS h.pos M mod y x).symm)
theorem oo (h : ju P M) (x y z : Int) : cF P M mod (cF P M mod x y) z=cF P M mod x (cF P M mod y z):=by refine (eF h _ z).ext h (eF h x _) ?_;refine (eS h.pos M mod _ z).trans (((rj (eS h.pos M mod x y) (Cg.refl _ _)).trans (Cg.of_eq (vN (lF _ _ _) (lF _ _ _) (lF _ _ _)))).trans ?_);exact ((eS h.pos M mod x _).trans (rj (Cg.refl _ _) (eS h.pos M mod y z))).symm
theorem fQ (h : ju P M) {x : Int} (hx : ef P M x) : cF P M mod 1 x=x:=by refine (eF h 1 x).ext h hx ((eS h.pos M mod 1 x).trans (Cg.of_eq ?_));rw [Du h.p h.m,Av h.m (lF _ _ _)]
theorem mh (h : ju P M) (x : Int) : cF P M mod x 0=0:=by refine (eF h x 0).ext h (sf h) ((eS h.pos M mod x 0).trans (Cg.of_eq ?_));rw [kX];funext i;simp only [fp];rw [bC (g:=λ_=>0) λj _=>by rw [sV];simp,ik]
theorem As (h : ju P M) (x y z : Int) : cF P M mod x (du P M y z)=du P M (cF P M mod x y) (cF P M mod x z):=by refine (eF h x _).ext h (fP h _ _) ((eS h.pos M mod x _).trans ?_);refine (rj (Cg.refl _ _) (fC h.pos M y z)).trans ((Cg.of_eq (pO _ _ _)).trans ?_);exact ((fC h.pos M _ _).trans (Cg.add (eS h.pos M mod x y) (eS h.pos M mod x z))).symm
theorem yX (h : ju P M) (x y : Int) : du P M x y=du P M y x:=by refine (fP h x y).ext h (fP h y x) ((fC h.pos M x y).trans ((Cg.of_eq ?_).trans (fC h.pos M y x).symm));funext i;show _=_;omega
theorem wb (h : ju P M) (x y z : Int) : du P M (du P M x y) z=du P M x (du P M y z):=by refine (fP h _ z).ext h (fP h x _) ?_;refine (fC h.pos M _ z).trans ((Cg.add (fC h.pos M x y) (Cg.refl _ _)).trans ((Cg.of_eq ?_).trans ((fC h.pos M x _).trans (Cg.add (Cg.refl _ _) (fC h.pos M y z))).symm));funext i;show _=_;omega
theorem CB (h : ju P M) {x : Int} (hx : ef P M x) : du P M x 0=x:=by refine (fP h x 0).ext h hx ((fC h.pos M x 0).trans (Cg.of_eq ?_));rw [kX];funext i;simp
theorem zw (h : ju P M) (x : Int) : du P M x (eQ P M x)=0:=by refine (fP h x _).ext h (sf h) ((fC h.pos M x _).trans ((Cg.add (Cg.refl _ _) (wW h.pos M x)).trans (Cg.of_eq ?_)));rw [kX];funext i;show _=_;omega
end
section
structure va (cl : LN->Nat->Prop) : Prop where
 mem : ∀l x,x ∈ l->cl l x
 mono : ∀l l',(∀x ∈ l,cl l' x)->∀y,cl l y->cl l' y
 exch : ∀l x y,cl (x :: l) y->¬ cl l y->cl (y :: l) x
inductive Rk (cl : LN->Nat->Prop) : LN->Nat->Prop
 | nil : Rk cl [] 0
 | dep {l n} (x : Nat) : cl l x->Rk cl l n->Rk cl (x :: l) n
 | ind {l n} (x : Nat) : ¬ cl l x->Rk cl l n->Rk cl (x :: l) (n+1)
variable {cl : LN->Nat->Prop}
theorem Rk.ex (cl : LN->Nat->Prop) : ∀l,∃n,Rk cl l n
 | []=>⟨0,.nil⟩
 | x :: l=>by
  obtain ⟨n,h⟩:=Rk.ex cl l;by_cases hx : cl l x
  ·exact ⟨n,.dep x hx h⟩
  ·exact ⟨n+1,.ind x hx h⟩
theorem Rk.uniq {l : LN} {n : Nat} (h : Rk cl l n) : ∀ {m},Rk cl l m->n=m:=by
 induction h with
 | nil=>intro m h;cases h;rfl
 | dep x hx _ ih =>
  intro m h
  cases h with
  | dep _ _ h=>exact ih h
  | ind _ hn _=>exact absurd hx hn
 | ind x hx _ ih =>
  intro m h
  cases h with
  | dep _ hn _=>exact absurd hn hx
  | ind _ _ h=>rw [ih h]
theorem va.sub (h : va cl) {l l' : LN} (hs : ∀x ∈ l,x ∈ l') {y : Nat} (hy : cl l y) : cl l' y:=h.mono l l' (λx hx=>h.mem l' x (hs x hx)) y hy
theorem va.drop (h : va cl) {l : LN} {x y : Nat} (hx : cl l x) (hy : cl (x :: l) y) : cl l y :=
 h.mono (x :: l) l (λz hz=>by
  rcases List.mem_cons.1 hz with rfl | hz
  ·exact hx
  ·exact h.mem l z hz) y hy
theorem Rk.swap (h : va cl) {l : LN} {x y n : Nat} (hr : Rk cl (x :: y :: l) n) : Rk cl (y :: x :: l) n:=by
 have up : ∀ {z u},cl l z->cl (u :: l) z:=λhz=>h.sub (λx hx=>by simp [hx]) hz;cases hr with
 | dep _ hx hr =>
  cases hr with
  | dep _ hy hr=>exact .dep y (up hy) (.dep x (h.drop hy hx) hr)
  | ind _ hy hr =>
   by_cases hxl : cl l x
   ·exact .ind y (λhc=>hy (h.drop hxl hc)) (.dep x hxl hr)
   ·exact .dep y (h.exch l y x hx hxl) (.ind x hxl hr)
 | ind _ hx hr =>
  cases hr with
  | dep _ hy hr=>exact .dep y (up hy) (.ind x (λhc=>hx (up hc)) hr)
  | ind _ hy hr =>
   have hxl : ¬ cl l x:=λhc=>hx (up hc)
   exact .ind y (λhc=>hx (h.exch l x y hc hy)) (.ind x hxl hr)
theorem va.perm (h : va cl) {l l' : LN} (hp : l.Perm l') {x : Nat} : cl l x->cl l' x:=h.sub λy hy=>hp.mem_iff.1 hy
theorem Rk.perm (h : va cl) {l l' : LN} (hp : l.Perm l') : ∀ {n},Rk cl l n->Rk cl l' n:=by
 induction hp with
 | nil=>intro n hr;exact hr
 | cons x hp ih =>
  intro n hr
  cases hr with
  | dep _ hx hr=>exact .dep x (h.perm hp hx) (ih hr)
  | ind _ hx hr=>exact .ind x (λhc=>hx (h.perm hp.symm hc)) (ih hr)
 | swap x y l=>intro n hr;exact hr.swap h
 | trans _ _ ih1 ih2=>intro n hr;exact ih2 (ih1 hr)
theorem Rk.vp (h : va cl) {l : LN} {n : Nat} (hr : Rk cl l n) : ∀l',(∀x ∈ l',cl l x)->Rk cl (l' ++ l) n
 | [],_=>hr
 | x :: l',hx=>.dep x (h.sub (λy hy=>List.mem_append.2 (.inr hy)) (hx x (by simp))) (Rk.vp h hr l' λy hy=>hx y (by simp [hy]))
theorem Rk.grow {l : LN} {m : Nat} (hr : Rk cl l m) : ∀(l' : LN) {n : Nat},Rk cl (l' ++ l) n->m<=n
 | [],n,hn=>by rw [hr.uniq hn];exact EF _
 | x :: l',n,hn=>by
  cases hn with
  | dep _ _ hn=>exact Rk.grow hr l' hn
  | ind _ _ hn=>exact IF (Rk.grow hr l' hn)
theorem Rk.le (h : va cl) {l l' : LN} {m n : Nat} (hm : Rk cl l m) (hn : Rk cl l' n) (hs : ∀x ∈ l,cl l' x) : m<=n :=
 hm.grow l' ((hn.vp h l hs).perm h List.perm_append_comm)
theorem Rk.same (h : va cl) {l l' : LN} {m n : Nat} (hm : Rk cl l m) (hn : Rk cl l' n) (hs : ∀x,x ∈ l ↔ x ∈ l') : m=n :=
 Nat.le_antisymm (hm.le h hn λx hx=>h.mem _ _ ((hs x).1 hx)) (hn.le h hm λx hx=>h.mem _ _ ((hs x).2 hx))
theorem Rk.len {l : LN} {n : Nat} (hr : Rk cl l n) : n<=l.length:=by
 induction hr with
 | nil=>exact EF _
 | dep x _ _ ih=>exact IF ih
 | ind x _ _ ih=>exact Nat.succ_le_succ ih
theorem Rk.DT (h : va cl) {l l' : LN} {m n : Nat} (hm : Rk cl l m) (hn : Rk cl l' n) {p : Nat} (hs : ∀x,x ∈ l' ↔ x ∈ l\/x=p) : m<=n/\n<=m+1:=by
 refine ⟨hm.le h hn λx hx=>h.mem _ _ ((hs x).2 (.inl hx)),?_⟩;have hs' : ∀x,x ∈ p :: l ↔ x ∈ l':=λx=>by rw [hs x,List.mem_cons];exact or_comm
 by_cases hp : cl l p
 ·rw [(Rk.dep p hp hm).same h hn hs'];omega
 ·rw [<- (Rk.ind p hp hm).same h hn hs'];exact EF _
theorem Rk.nJ (h : va cl) {S V : LN} {a v : Nat} (ha : Rk cl S a) (hv : Rk cl V v) (hVS : ∀x ∈ V,x ∈ S) : ∀(T : LN) {u b : Nat},Rk cl (T ++ S) u->Rk cl (T ++ V) b->u+v<=a+b
 | [],u,b,hu,hb=>by rw [ha.uniq hu,hv.uniq hb];exact EF _
 | x :: T,u,b,hu,hb=>by
  have up : cl (T ++ V) x->cl (T ++ S) x:=h.sub λy hy=>by
   rcases List.mem_append.1 hy with h1 | h1
   ·exact List.mem_append.2 (.inl h1)
   ·exact List.mem_append.2 (.inr (hVS y h1))
  cases hb with
  | dep _ hc hb =>
   cases hu with
   | dep _ _ hu=>exact Rk.nJ h ha hv hVS T hu hb
   | ind _ hn _=>exact absurd (up hc) hn
  | ind _ _ hb =>
   cases hu with
   | dep _ _ hu=>have:=Rk.nJ h ha hv hVS T hu hb;omega
   | ind _ _ hu=>have:=Rk.nJ h ha hv hVS T hu hb;omega
theorem Rk.D9 (h : va cl) {S T U V : LN} {a b u v : Nat} (ha : Rk cl S a) (hb : Rk cl T b) (hu : Rk cl U u) (hv : Rk cl V v) (hU : ∀x ∈ U,x ∈ S\/x ∈ T) (hV : ∀x ∈ V,x ∈ S/\x ∈ T) : u+v<=a+b:=by
 obtain ⟨u',hu'⟩:=Rk.ex cl (T ++ S);obtain ⟨b',hb'⟩:=Rk.ex cl (T ++ V);have h1 : u<=u':=hu.le h hu' λx hx=>h.mem _ _ (by rcases hU x hx with h2 | h2;exact List.mem_append.2 (.inr h2);exact List.mem_append.2 (.inl h2));have h2 : b'=b:=hb'.same h hb λx=>⟨λhx=>by rcases List.mem_append.1 hx with h3 | h3;exact h3;exact (hV x h3).2,λhx=>List.mem_append.2 (.inl hx)⟩
 have h3:=Rk.nJ h ha hv (λx hx=>(hV x hx).1) T hu' hb';omega
end
section
variable {P : Program} {ops : Array Oper} {Q : Exit->Act->World->Prop} {md : Region.Mode} {S : World->Prop} {n : Nat}
def fN (P : Program) (md : Region.Mode) (ops : Array Oper) (Q : Exit->Act->World->Prop) (S : World->Prop) (n : Nat) : Nat->Array Bool->Act->World->Prop
 | 0,listed,a,w=>Region.ready md ops listed=[]/\Q .normal a w
 | fuel+1,listed,a,w =>
  (Region.ready md ops listed=[]->Q .normal a w) /\
  ∀i ∈ Region.ready md ops listed,wpOp P ops Q i (λa' w'=>(i<n->S w')/\fN P md ops Q S n fuel (listed.setIfInBounds i true) a' w') a w
theorem pj : ∀(fuel : Nat) (listed : Array Bool) (a : Act) (w : World),fN P md ops Q S n fuel listed a w->wpAny P md ops Q fuel listed a w
 | 0,_,_,_,h=>h
 | fuel+1,_,_,_,h=>⟨h.1,λi hi=>wpOp_mono (λa' w' h'=>pj fuel _ a' w' h'.2) (h.2 i hi)⟩
theorem sj {i : Nat} {oi : Oper} {v : Value} (hi : ops[i]? = some oi) (hsel : ∀(j : Nat) (o : Oper) cs b,ops[j]? = some o->o.op ≠ .select cs b)
  (hQ : ∀c a w,Q (.panic c) (a.put oi.dst v) w->Q (.panic c) a w) (hs : Region.sinkB md ops n=true) (hc : Region.chainB md ops n=true) (hn : n<ops.size) (hin : i<n) :
  ∀(fuel : Nat) (listed : Array Bool) (a : Act) (w : World),HeadInv md ops n listed ->
   (∀j oj,ops[j]? = some oj->j ≠ i->listed.getD j true=false->(∀e ∈ oj.after,Region.binds md e=true->e.on ≠ i)->oi.apart ops oj=true) ->
   i ∈ Region.ready md ops listed->YieldsIf P ops S oi v a->S w ->
   fN P md ops Q S n fuel (listed.setIfInBounds i true) (a.put oi.dst v) w->fN P md ops Q S n (fuel+1) listed a w:=by
 intro fuel;induction fuel with
 | zero =>
  intro listed a w inv _ hr hy hS H
  refine ⟨λh=>(by rw [h] at hr;cases hr),λj hj=>?_⟩
  by_cases hji : j=i
  ·subst hji;exact hy.wpOp hi hS ⟨λ_=>hS,H⟩
  ·have:=ready_mono hj hji
   rw [H.1] at this
   cases this
 | succ fuel ih =>
  intro listed a w inv hfree hr hy hS H
  have hun:=(mem_ready.1 hr).1
  refine ⟨λh=>(by rw [h] at hr;cases hr),λj hj=>?_⟩
  by_cases hji : j=i
  ·subst hji;exact hy.wpOp hi hS ⟨λ_=>hS,H⟩
  ·have hjn : j<n:=by
    rcases Fm j n with h | h
    ·exact h
    ·exact absurd hj (tail_waits hs hc hn inv _ i rfl hin hun j h)
   have h1:=H.2 j (ready_mono hj hji)
   obtain ⟨hjun,oj,hoj,hall⟩:=mem_ready.1 hj
   have hnot : ∀e ∈ oj.after,Region.binds md e=true->e.on ≠ i:=λe he hb heq=>by have h1:=hall e he hb;rw [heq,getD_both hun] at h1;cases h1
   have h2:=wpOp_putIf hoj (hfree j oj hoj hji hjun hnot) (λcs b=>hsel i oi cs b hi) (λcs b=>hsel j oj cs b hoj) hQ hy h1
   have hfree' : ∀k ok,ops[k]? = some ok->k ≠ i->(listed.setIfInBounds j true).getD k true=false ->
     (∀e ∈ ok.after,Region.binds md e=true->e.on ≠ i)->oi.apart ops ok=true:=λk ok hk hki hku hno=>by
    refine hfree k ok hk hki ?_ hno;by_cases hjk : j=k
    ·subst hjk;exact hjun
    ·rw [getD_set_ne true hjk] at hku;exact hku
   refine wpOp_mono (λa' w' h3=>?_) h2
   have hSw:=h3.2.1 hjn
   refine ⟨λ_=>hSw,ih (listed.setIfInBounds j true) a' w' (inv.set hj hjn) hfree' (ready_mono hr (Ne.symm hji)) h3.1 hSw ?_⟩
   rw [Array.setIfInBounds_comm _ _ hji]
   exact h3.2.2
theorem aI {i : Nat} {oi : Oper} {v : Value} {fuel : Nat} {listed : Array Bool} {a : Act} {w : World} (hi : ops[i]? = some oi)
  (hs : (Region.noSelect ops && (Region.sinkB md ops n && (Region.chainB md ops n && (decide (n<ops.size) && decide (i<n)))))=true) (hf : Region.free md ops listed i=true) (hr : (Region.ready md ops listed).contains i=true)
  (hQ : ∀c a w,Q (.panic c) (a.put oi.dst v) w->Q (.panic c) a w) (hy : YieldsIf P ops S oi v a) (hI : HeadInv md ops n listed/\S w)
  (h : HeadInv md ops n (listed.setIfInBounds i true)/\S w->fN P md ops Q S n fuel (listed.setIfInBounds i true) (a.put oi.dst v) w) : fN P md ops Q S n (fuel+1) listed a w:=by
 simp only [EW,E3] at hs;have hr' : i ∈ Region.ready md ops listed:=by simpa using hr
 exact sj hi (Region.noSelect_spec hs.1) hQ hs.2.1 hs.2.2.1 hs.2.2.2.1 hs.2.2.2.2 fuel listed a w hI.1 (Region.free_spec hi hf) hr' hy hI.2 (h ⟨hI.1.set hr' hs.2.2.2.2,hI.2⟩)
theorem vc {i : Nat} {fuel : Nat} {listed : Array Bool} {a : Act} {w : World} (hr : Region.ready md ops listed=[i]) (hin : i<n) (hI : HeadInv md ops n listed)
  (h : wpOp P ops Q i (λa' w'=>S w'/\(HeadInv md ops n (listed.setIfInBounds i true)/\S w'->fN P md ops Q S n fuel (listed.setIfInBounds i true) a' w')) a w) : fN P md ops Q S n (fuel+1) listed a w :=
 ⟨λh0=>(by rw [hr] at h0;cases h0),λj hj=>by rw [hr,Fw] at hj;subst hj;exact wpOp_mono (λa' w' h'=>⟨λ_=>h'.1,h'.2 ⟨hI.set (by rw [hr];simp) hin,h'.1⟩⟩) h⟩
theorem ta {i : Nat} {fuel : Nat} {listed : Array Bool} {a : Act} {w : World} (hr : Region.ready md ops listed=[i]) (hin : n<=i) (hd : Region.ready md ops (listed.setIfInBounds i true)=[])
  (h : wpOp P ops Q i (λa' w'=>Q .normal a' w') a w) : fN P md ops Q S n (fuel+1) listed a w :=
 ⟨λh0=>(by rw [hr] at h0;cases h0),λj hj=>by
  rw [hr,Fw] at hj;subst hj;refine wpOp_mono (λa' w' h'=>⟨λh1=>by omega,?_⟩) h;cases fuel with
  | zero=>exact ⟨hd,h'⟩
  | succ f=>exact ⟨λ_=>h',by rw [hd];simp⟩⟩
theorem ka {i : Nat} {o : Oper} {fuel : Nat} {listed : Array Bool} {a : Act} {w : World} (hr : Region.ready md ops listed=[i]) (hin : i<n) (hI : HeadInv md ops n listed) (ho : ops[i]? = some o)
  (h : ∀K' : Act->World->Prop,Shut (∀a w,S w->(HeadInv md ops n (listed.setIfInBounds i true)/\S w->fN P md ops Q S n fuel (listed.setIfInBounds i true) a w)->K' a w)->if Region.wanted o (yielded ops a.tmps)=true then Oper.wp P o a w K' Q else K' (a.put o.dst undef) w) :
  fN P md ops Q S n (fuel+1) listed a w :=
 vc hr hin hI (wpOp_step ho λK' hK=>h K' λa w hS hW=>hK a w ⟨hS,hW⟩)
theorem oD {i : Nat} {o : Oper} {fuel : Nat} {listed : Array Bool} {a : Act} {w : World} (hr : Region.ready md ops listed=[i]) (hin : n<=i) (hd : Region.ready md ops (listed.setIfInBounds i true)=[]) (ho : ops[i]? = some o)
  (h : ∀K' : Act->World->Prop,Shut (∀a w,Q .normal a w->K' a w)->if Region.wanted o (yielded ops a.tmps)=true then Oper.wp P o a w K' Q else K' (a.put o.dst undef) w) :
  fN P md ops Q S n (fuel+1) listed a w :=
 ta hr hin hd (wpOp_step ho λK' hK=>h K' λa w hq=>hK a w hq)
theorem zQ : HeadInv md ops n (Array.replicate ops.size false) :=
 ⟨by simp,λj oj _ hl=>(by rw [getD_replicate_false] at hl;cases hl),λt _ ht=>by have:=getD_replicate_false ops.size t;exact getD_in (by simpa using ht) this⟩
theorem mD {id : Nat} {a : Act} {w : World} (S : World->Prop) (n : Nat) (hm : P.follows .mixedOrders=true) (hS : S w.drew)
  (h : HeadInv .any ops n (Array.replicate ops.size false)/\S w.drew->fN P .any ops Q S n ops.size (Array.replicate ops.size false) a w.drew) : (Code.region id ops true).wp P Q a w :=
 wp_region_any hm (pj _ _ _ _ (h ⟨zQ,hS⟩))
end
def I8:=@Below.next
def I9:=@Ints.own
def Jb:=@Below.app
def Jf:=@Ints.nil
def Jh:=@Below.iN
def Jl:=@Pl.own
def Jn:=@Cg.of_eq
def Jr:=@Ints.news
def Ju:=@Cg.refl
def Jy:=@cU.jF
def Jz:=@Cg.trans
end Go.Proofs.YtjfiflldinnhmaaGreat
