import Derived.Test.YtcfmiocdlcapoaaGreatMCS0
import Derived.WalkSpells
import Derived.WalkLawsBesides
import Derived.Laws.CopyOwn
import Derived.Maps.AppendAt
import Derived.Deep.RegionLaw
import Derived.StillTail
import Derived.OrdersHeld
import Derived.Deep.RegionHeld
namespace Go.Proofs.YtcfmiocdlcapoaaGreat
set_option linter.all false
set_option maxRecDepth 100000
set_option maxHeartbeats 400000
open Go.RowKit Go.Proofs.Tryz
def bq (x p : Int) : Nat->Lz
 | 0=>[]
 | m+1=>(x % p) :: bq (x / p) p m
def dr (p : Int) : Lz->Int
 | []=>0
 | c :: d=>c+p * dr p d
def ji (x p : Int) : Nat->Int
 | 0=>x
 | k+1=>ji x p k / p
theorem bN (p : Int) : ∀(m : Nat) (x : Int),(bq x p m).length=m
 | 0,_=>rfl
 | m+1,x=>by simp [bq,bN p m]
theorem oE (x p : Int) : ∀k,ji x p (k+1)=ji (x / p) p k
 | 0=>rfl
 | k+1=>by rw [ji,oE x p k];rfl
theorem oN (p : Int) : ∀(k : Nat) (x : Int),bq x p (k+1)=bq x p k ++ [ji x p k % p]
 | 0,x=>rfl
 | k+1,x=>by rw [bq,oN p k (x / p),oE];rfl
theorem vB (x p : Int) (hx : 0<=x) (hp : 1<=p) : ∀k,0<=ji x p k/\ji x p k<=x
 | 0=>⟨hx,LZ _⟩
 | k+1=>by have h:=vB x p hx hp k;exact ⟨J5 h.1 (by omega),Mf (J6 _ h.1) h.2⟩
def cU (l : Lz) (k m : Nat) : Lz:=l ++ List.replicate (m - k) 0
theorem eO (l : Lz) (k m : Nat) (x : Int) (hl : l.length=k) (hk : k<m) : (cU l k m).set k x=cU (l ++ [x]) (k+1) m:=by unfold cU;rw [Lr _ _ (by omega),hl,KK];rw [show m - k=(m - (k+1))+1 from by omega,LH,I3];simp
theorem fy (l : Lz) (m : Nat) : cU l m m=l:=by simp [cU]
def nth (l : Lz) (i : Nat) : Int:=l.getD i 0
def shl (out : Lz) : Lz:=0 :: out.dropLast
def Bl (P : Int) (low a : Lz) (top bi : Int) (sh : Lz) (j : Nat) : Int:=(nth sh j+(P - top) * nth low j+bi * nth a j) % P
def l8 (P : Int) (low a : Lz) (m : Nat) (bi : Int) (out : Lz) : Lz :=
 (List.range m).map λj=>Bl P low a (nth out (m - 1)) bi (shl out) j
def eC (P : Int) (low a b : Lz) (m : Nat) : Nat->Lz
 | 0=>List.replicate m 0
 | k+1=>l8 P low a m (nth b (m - 1 - k)) (eC P low a b m k)
def lW (M : Nat) (mod : Lz) : Lz:=if 1<M then mod else [0]
def dj (P : Int) (M : Nat) (mod : Lz) (x y : Int) : Int :=
 dr P (eC P (lW M mod) (bq x P M) (bq y P M) M M)
theorem ai {l : Lz} {i : Nat} (h : i<l.length) : nth l i=l[i]:=by simp [nth,h]
theorem aK {l : Lz} {i : Nat} (h : i<l.length) : nth l i ∈ l:=by rw [ai h];exact JA h
theorem js {l : Lz} {i : Nat} (h : l.length<=i) : nth l i=0:=by simp [nth,h]
theorem fQ {l l' : Lz} (hl : l.length=l'.length) (h : ∀i,i<l.length->nth l i=nth l' i) : l=l':=by apply KI hl;intro i h1 h2;have:=h i h1;rwa [ai h1,ai h2] at this
def dC (P : Int) (l : Lz) : Prop:=∀i,0<=nth l i/\nth l i<P
theorem dC.kS {P : Int} (hP : 0<P) {l : Lz} (h : ∀x ∈ l,0<=x/\x<P) : dC P l:=by
 intro i;rcases JV i l.length with hi | hi
 ·exact h _ (aK hi)
 ·rw [js hi];omega
theorem dC.bq {P : Int} (hP : 0<P) : ∀(m : Nat) (x : Int),dC P (bq x P m)
 | 0,x=>λi=>by simp [Go.Proofs.YtcfmiocdlcapoaaGreat.bq,nth];omega
 | m+1,x=>by
  intro i;match i with
  | 0=>simp only [Go.Proofs.YtcfmiocdlcapoaaGreat.bq,nth,LJ];exact ⟨JK _ (by omega),JB _ hP⟩
  | i+1=>simpa only [Go.Proofs.YtcfmiocdlcapoaaGreat.bq,nth,List.getD_cons_succ] using dC.bq hP m (x / P) i
theorem dC.replicate {P : Int} (hP : 0<P) (m : Nat) : dC P (List.replicate m 0):=by refine dC.kS hP λx hx=>?_;obtain ⟨_,rfl⟩:=List.mem_replicate.1 hx;omega
theorem iR (P : Int) (low a : Lz) (m : Nat) (bi : Int) (out : Lz) : (l8 P low a m bi out).length=m:=by simp [l8]
theorem lq (P : Int) (low a : Lz) (m : Nat) (bi : Int) (out : Lz) (j : Nat) (hj : j<m) :
  nth (l8 P low a m bi out) j=Bl P low a (nth out (m - 1)) bi (shl out) j:=by rw [ai (by rw [iR];exact hj)];simp [l8]
theorem dC.l8 {P : Int} (hP : 0<P) (low a : Lz) (m : Nat) (bi : Int) (out : Lz) : dC P (l8 P low a m bi out):=by
 intro j;rcases JV j m with hj | hj
 ·rw [lq _ _ _ _ _ _ _ hj];exact ⟨JK _ (by omega),JB _ hP⟩
 ·rw [js (by rw [iR];exact hj)];omega
theorem ij (P : Int) (low a b : Lz) (m : Nat) : ∀k,(eC P low a b m k).length=m
 | 0=>by simp [eC]
 | k+1=>iR ..
theorem dC.eC {P : Int} (hP : 0<P) (low a b : Lz) (m : Nat) : ∀k,dC P (eC P low a b m k)
 | 0=>dC.replicate hP m
 | k+1=>by simp only [Go.Proofs.YtcfmiocdlcapoaaGreat.eC];exact dC.l8 hP _ _ _ _ _
theorem yQ (out : Lz) (h : 0<out.length) : (shl out).length=out.length:=by simp [shl];omega
theorem dC.shl {P : Int} (hP : 0<P) {out : Lz} (h : dC P out) : dC P (shl out):=by
 intro i;match i with
 | 0=>simp [Go.Proofs.YtcfmiocdlcapoaaGreat.shl,nth];omega
 | i+1 =>
  have e : nth (Go.Proofs.YtcfmiocdlcapoaaGreat.shl out) (i+1)=if i<out.length - 1 then nth out i else 0:=by simp only [Go.Proofs.YtcfmiocdlcapoaaGreat.shl,nth,Jc,I9,Le];split <;> rfl
  rw [e];split
  ·exact h i
  ·omega
def fc (new il : Lz) (j : Nat) : Lz:=new.take j ++ il.drop j
theorem eQ (new il : Lz) : fc new il 0=il:=by simp [fc]
theorem fD (new il : Lz) (m : Nat) (h1 : new.length=m) (h2 : il.length=m) : fc new il m=new:=by simp [fc,I8 (Nat.le_of_eq h1),Lf (Nat.le_of_eq h2)]
theorem iK (new il : Lz) (j : Nat) (h : new.length=il.length) (hj : j<=il.length) : (fc new il j).length=il.length:=by simp [fc];omega
theorem ek (new il : Lz) (j i : Nat) (h : new.length=il.length) (hj : j<=il.length) : nth (fc new il j) i=if i<j then nth new i else nth il i:=by
 unfold fc nth;simp only [Jc];split
 ·rename_i hi;rw [JF (by simp;omega),J9,I6 hi]
 ·rename_i hi;rw [Kv (by simp;omega),K8];congr 2;simp;omega
theorem gP (l : Lz) (i j : Nat) (x : Int) (hi : i<l.length) : nth (l.set i x) j=if j=i then x else nth l j:=by
 unfold nth;simp only [Jc,Kp];by_cases h : i=j
 ·subst h;simp [hi]
 ·rw [I5 h,I5 (by omega)]
theorem ey (new il : Lz) (j : Nat) (h : new.length=il.length) (hj : j<il.length) : (fc new il j).set j (nth new j)=fc new il (j+1):=by
 have hl:=iK new il j h (by omega);have hl':=iK new il (j+1) h (by omega);refine fQ (by simp [hl,hl']) λi hi=>?_;rw [gP _ _ _ _ (by omega),ek _ _ _ _ h (by omega),ek _ _ _ _ h (by omega)];by_cases e : i=j
 ·subst e;simp
 ·rw [I5 e];by_cases e2 : i<j
  ·rw [I6 e2,I6 (by omega)]
  ·rw [I5 e2,I5 (by omega)]
theorem nB {P : Int} (hP : 0<P) : ∀(l : Lz),dC P l->0<=dr P l/\dr P l<P ^ l.length
 | [],_=>by simp [dr]
 | c :: l,h=>by
  have h0:=h 0;have ih:=nB hP l (λi=>by simpa [nth] using h (i+1));simp only [nth,LJ] at h0;simp only [dr,Kf,JP];have h1 : 0<=P * dr P l:=Kw (by omega) ih.1;have h2 : P * dr P l+P<=P ^ l.length * P:=by have:=Jz (show dr P l+1<=P ^ l.length by omega) (show 0<=P by omega);rw [Ki (P ^ l.length)];rw [Ko] at this;omega
  omega
theorem dE {P : Int} (hP : 1<=P) {a b : Nat} (h : a<=b) : P ^ a<=P ^ b:=by
 obtain ⟨n,rfl⟩ : ∃n : Nat,P=n:=⟨P.toNat,by omega⟩
 have:=Nat.pow_le_pow_right (n:=n) (by omega) h;exact_mod_cast this
theorem dC.drop {P : Int} {l : Lz} (h : dC P l) (k : Nat) : dC P (l.drop k):=by intro i;have:=h (k+i);simpa [nth] using this
theorem dC.A2 {P : Int} (hP : 0<P) {l : Lz} (h : dC P l) {m : Nat} (hl : l.length=m) (hpw : P ^ m<=256) (k : Nat) : 0<=dr P (l.drop k)/\dr P (l.drop k)<256:=by have hb:=nB hP (l.drop k) (h.drop k);refine ⟨hb.1,Int.lt_of_lt_of_le hb.2 (Mf ?_ hpw)⟩;rw [Kg,hl];exact dE (by omega) (by omega)
def aj : OA->Nat | some a=>a.block | none=>0
def aL : OA->Nat | some a=>a.off | none=>0
@[simp] theorem ablk_some (b o : Nat) (s : Option Nat) : aj (some ⟨b,o,s⟩)=b:=rfl
@[simp] theorem aoff_some (b o : Nat) (s : Option Nat) : aL (some ⟨b,o,s⟩)=o:=rfl
def Pl (a : OA) (n : Nat) : Prop:=0<n->a=some ⟨aj a,aL a,none⟩
def an (l : Ll) (i : Nat) : Lz:=l.getD i []
def qs (l : List Bool) (i : Nat) : Bool:=l.getD i false
theorem aE {l : Ll} {i : Nat} (h : i<l.length) : an l i=l[i]:=by simp [an,h]
theorem wF {l : Ll} {i : Nat} (h : i<l.length) : an l i ∈ l:=by rw [aE h];exact JA h
theorem uT {l : List Bool} {i : Nat} (h : i<l.length) : qs l i=l[i]:=by simp [qs,h]
structure Ints (w : World) (a : OA) (n : Nat) (l : Lz) : Prop where
 len : l.length=n
 pl : Pl a n
 max : n<=maxLen
 cell : ∀i,i<n->w.cell? ⟨aj a,aL a+i,none⟩=some (.int .i64 (nth l i))
structure AV (w : World) (a : OA) (n : Nat) (l : List Bool) : Prop where
 len : l.length=n
 pl : Pl a n
 max : n<=maxLen
 cell : ∀i,i<n->w.cell? ⟨aj a,aL a+i,none⟩=some (.bool (qs l i))
structure ch (w : World) (a : OA) (n : Nat) (l : Ll) : Prop where
 len : l.length=n
 pl : Pl a n
 max : n<=maxLen
 cell : ∀i,i<n->∃b m c,w.cell? ⟨aj a,aL a+i,none⟩=some (.slice b m c)/\Ints w b m (an l i)
def GX (w : World) (B : Nat) (a : OA) (n : Nat) : Prop:=0<n->B<=aj a/\∀i,i<n->w.frozen? ⟨aj a,aL a+i,none⟩=false
theorem Ints.lt {w : World} {a : OA} {n : Nat} {l : Lz} (h : Ints w a n l) (hn : 0<n) : aj a<w.heap.size :=
 Jf w _ (h.cell 0 hn)
theorem ch.lt {w : World} {a : OA} {n : Nat} {l : Ll} (h : ch w a n l) (hn : 0<n) : aj a<w.heap.size:=by obtain ⟨b,m,c,hc,_⟩:=h.cell 0 hn;exact Jf w _ hc
theorem Ints.of_block {w w' : World} {a : OA} {n : Nat} {l : Lz} (h : Ints w a n l) (hb : 0<n->w'.heap[aj a]? = w.heap[aj a]?) : Ints w' a n l :=
 ⟨h.len,h.pl,h.max,λi hi=>(JG (w:=w) (a:=⟨aj a,aL a+i,none⟩) (hb (by omega))).trans (h.cell i hi)⟩
theorem Ints.below {B : Nat} {w w' : World} {a : OA} {n : Nat} {l : Lz} (h : Ints w a n l) (hb : Below B w w') (hB : 0<n->aj a<B) : Ints w' a n l :=
 h.of_block λhn=>hb.block _ (hB hn)
theorem Ints.aa {w w' : World} {a : OA} {n : Nat} {l : Lz} (h : Ints w a n l) (hb : NS w w') : Ints w' a n l :=
 h.below hb λhn=>h.lt hn
theorem ch.aa {w w' : World} {a : OA} {n : Nat} {l : Ll} (h : ch w a n l) (hb : NS w w') : ch w' a n l:=by refine ⟨h.len,h.pl,h.max,λi hi=>?_⟩;obtain ⟨b,m,c,hc,hr⟩:=h.cell i hi;exact ⟨b,m,c,(hb.cell (Jf w _ hc)).trans hc,hr.aa hb⟩
theorem Ints.nil (w : World) (c : OA) : Ints w c 0 []:=⟨rfl,λh=>by omega,by unfold maxLen;omega,λi h=>by omega⟩
@[go_sem] theorem run_indexAt_pl {P : Program} (w : World) (t : TypeId) (a : OA) (len cap : Nat) (k : IntKind) (i : Int) (h : P.underlying t=some (.slice (P.elem t)))
  (hp : Pl a len) (h0 : 0<=i) (h1 : i<len) :
  (Instr.indexAt t (.slice a len cap) (.int k i)).run P w=((sizeOf (P.elem t)).run P w).andThen λs w=>.ok (.pointer (some ((⟨aj a,aL a,none⟩ : Addr).add (i.toNat * s)))) w:=by have e : a=some ⟨aj a,aL a,none⟩:=hp (by omega);generalize hb : aj a=b at *;generalize ho : aL a=o at *;subst e;rw [run_indexAt_slice (h:=h),I6 ⟨h0,h1⟩]
theorem xH (l : List Bool) (i j : Nat) (x : Bool) (hi : i<l.length) : qs (l.set i x) j=if j=i then x else qs l j:=by
 unfold qs;simp only [Jc,Kp];by_cases h : i=j
 ·subst h;simp [hi]
 ·rw [I5 h,I5 (by omega)]
theorem Pl.own {w : World} {base : Nat} {e : TypeId} {v : Value} {n : Nat} {xs : List Value} (h : w.ownsRow base e 1 v n xs) : ∃a c,v = .slice a n c/\Pl a n:=by
 rcases h.2 with ⟨rfl,rfl⟩ | ⟨g,cap,cur,rfl,_⟩
 ·exact ⟨none,0,rfl,λh=>by omega⟩
 ·exact ⟨_,cap,rfl,λ_=>rfl⟩
theorem bW {w : World} {base : Nat} {e : TypeId} {a : OA} {c n : Nat} {xs : List Value} (h : w.ownsRow base e 1 (.slice a n c) n xs) (i : Nat) (hi : i<n) :
  w.cell? ⟨aj a,aL a+i,none⟩=xs[i]?/\w.frozen? ⟨aj a,aL a+i,none⟩=false/\base<=aj a/\xs.length=n/\n<=maxLen:=by
 obtain ⟨hl,h2⟩:=h;rcases h2 with ⟨h2,rfl⟩ | ⟨g,cap,cur,hv,hg,hh,hn,hm,hs,ht⟩
 ·omega
 ·cases hv
  simp only [ablk_some,aoff_some,Kk];refine ⟨?_,by simp [World.frozen?,hh],hg,by omega,by omega⟩;rw [<- ht,J9,I6 (by omega)];simp [World.cell?,hh]
theorem Ints.own {w : World} {base : Nat} {e : TypeId} {a : OA} {c n : Nat} {l : Lz} (h : w.ownsRow base e 1 (.slice a n c) n (l.map (Value.int .i64))) :
  Ints w a n l/\GX w base a n:=by
 have hl : l.length=n:=by have:=h.1;simpa using this
 obtain ⟨a',c',hv,hp⟩:=Pl.own h;cases hv
 refine ⟨⟨hl,hp,?_,λi hi=>?_⟩,λhn=>⟨(bW h 0 hn).2.2.1,λi hi=>(bW h i hi).2.1⟩⟩
 ·rcases JS n with h0 | h0
  ·subst h0;unfold maxLen;omega
  ·exact (bW h 0 h0).2.2.2.2
 ·rw [(bW h i hi).1];simp [nth,show i<l.length by omega]
theorem AV.own {w : World} {base : Nat} {e : TypeId} {a : OA} {c n : Nat} {l : List Bool} (h : w.ownsRow base e 1 (.slice a n c) n (l.map Value.bool)) :
  AV w a n l/\GX w base a n:=by
 have hl : l.length=n:=by have:=h.1;simpa using this
 obtain ⟨a',c',hv,hp⟩:=Pl.own h;cases hv
 refine ⟨⟨hl,hp,?_,λi hi=>?_⟩,λhn=>⟨(bW h 0 hn).2.2.1,λi hi=>(bW h i hi).2.1⟩⟩
 ·rcases JS n with h0 | h0
  ·subst h0;unfold maxLen;omega
  ·exact (bW h 0 h0).2.2.2.2
 ·rw [(bW h i hi).1];simp [qs,show i<l.length by omega]
theorem bT {w : World} {B : Nat} {e : TypeId} {a : OA} {c n : Nat} {xs : List Value} (h : w.ownsRow B e 1 (.slice a n c) n xs) (i : Nat) (hi : i<n) (u : Value) :
  (w.setCell ⟨aj a,aL a+i,none⟩ u).ownsRow B e 1 (.slice a n c) n (xs.set i u):=by
 have h':=h;rcases h.2 with ⟨hv,h0⟩ | ⟨g,_,cur,hv,hg,hh,hn,hm,hs,ht⟩
 ·omega
 ·cases hv
  simpa using (h'.stored i u).1
theorem iV {w w' : World} {B : Nat} {e : TypeId} {a : OA} {c n : Nat} {xs : List Value} (h : w.ownsRow B e 1 (.slice a n c) n xs)
  (hb : w'.heap[aj a]? = w.heap[aj a]?) : w'.ownsRow B e 1 (.slice a n c) n xs:=by
 refine ⟨h.1,?_⟩;rcases h.2 with h2 | ⟨g,cap,cur,hv,hg,hh,r⟩
 ·exact .inl h2
 ·cases hv
  exact .inr ⟨g,c,cur,rfl,hg,by rw [ablk_some] at hb;rw [hb];exact hh,r⟩
theorem mG {w : World} {B : Nat} {e : TypeId} {a : OA} {c n : Nat} {xs : List Value} (h : w.ownsRow B e 1 (.slice a n c) n xs) :
  (a=none/\n=0/\c=0)\/(B<=aj a/\aj a<w.heap.size):=by
 rcases h.2 with ⟨hv,hn⟩ | ⟨g,cap,cur,hv,hg,hh,r⟩
 ·cases hv;exact .inl ⟨rfl,hn,rfl⟩
 ·cases hv;exact .inr ⟨hg,(Array.getElem?_eq_some_iff.1 hh).1⟩
theorem bX {w : World} {B : Nat} {e : TypeId} : w.ownsRow B e 1 (.slice none 0 0) 0 []:=MD _ _ _ _
theorem dS {w : World} {B : Nat} {e : TypeId} {a : OA} {c n : Nat} {xs : List Value} (h : w.ownsRow B e 1 (.slice a n c) n xs) {p : Addr} (u : Value) (hp : a=none\/aj a ≠ p.block) :
  (w.setCell p u).ownsRow B e 1 (.slice a n c) n xs:=by
 rcases hp with rfl | hp
 ·have h2:=mG h;refine ⟨h.1,.inl ?_⟩;rcases h.2 with h2 | ⟨g,cap,cur,hv,_⟩
  ·exact h2
  ·cases hv
 ·exact iV h (Jr _ _ _ _ hp)
theorem aX {w w' : World} {B : Nat} {e : TypeId} {a : OA} {c n : Nat} {xs : List Value} (h : w.ownsRow B e 1 (.slice a n c) n xs) (hb : NS w w') :
  w'.ownsRow B e 1 (.slice a n c) n xs:=by
 refine ⟨h.1,?_⟩;rcases h.2 with h2 | ⟨g,cap,cur,hv,hg,hh,r⟩
 ·exact .inl h2
 ·exact .inr ⟨g,cap,cur,hv,hg,by rw [hb.block g (Array.getElem?_eq_some_iff.1 hh).1];exact hh,r⟩
theorem aU {w : World} {B B' : Nat} {e : TypeId} {v : Value} {n : Nat} {xs : List Value} (h : w.ownsRow B e 1 v n xs) (hB : B'<=B) : w.ownsRow B' e 1 v n xs:=by
 refine ⟨h.1,?_⟩;rcases h.2 with h2 | ⟨g,cap,cur,hv,hg,r⟩
 ·exact .inl h2
 ·exact .inr ⟨g,cap,cur,hv,Ji hB hg,r⟩
theorem iP {w : World} {B : Nat} {e : TypeId} {v : Value} {n : Nat} {xs : List Value} (h : w.ownsRow B e 1 v n xs) : xs.length=n:=by simpa using h.1
theorem Ints.grown {w w' : World} {a : OA} {n : Nat} {l : Lz} {row : Option Nat} (h : Ints w a n l) (hg : w.grownBy w' row) (hne : 0<n->row ≠ some (aj a)) : Ints w' a n l :=
 h.of_block λhn=>hg.block _ (h.lt hn) (λe=>hne hn e.symm)
theorem cC {P : Program} {w : World} {ops : Array Oper} {rest : List Oper} {o : Oper} {ac : Act} {Q : Exit->Act->World->Prop}
  (hg : o.guard=none) (l c : Operand) (t e : TypeId) (hop : o.op=Op.makeSlice t l c) (z : Value) (bytes : Nat)
  (h1 : P.underlying t=some (.slice e)) (h2 : (P.info? e).map (λi=>(i.zero,i.size,i.bytes))=some (some z,1,bytes)) (hz : z.cells = #[z])
  (n : Nat) (hl : ac.eval l = .int .i64 n) (hc : ac.eval c = .int .i64 n) (b2 : bytes * n<=281474976710656) (b3 : n<=maxLen)
  (hK : ∀a w',w'.ownsRow w.heap.size e 1 (.slice a n n) n (List.replicate n z)->NS w w'->w.heap.size<=aj a->aj a<w'.heap.size->wpList P ops Q rest (ac.put o.dst (.slice a n n)) w') :
  wpList P ops Q (o :: rest) ac w:=by
 obtain ⟨i,hi,hz0,hz1,hz2⟩:=info_parts h2;refine wpList_make_full w hg l c t hop w.heap.size e i z 1 h1 hi hz0 hz1 .i64 .i64 n n n hl hc rfl rfl (by rw [hz2];exact b2) b3 (IZ _) λw' hown hgr=>?_;refine hK _ w' ?_ ((I1 _ _).grown hgr (IZ _) (λk hk=>by cases hk)) (by simp) ?_
 ·simpa [hz,toList_madeCells_one] using hown
 ·rcases hown.2 with ⟨hv,_⟩ | ⟨g,cap,cur,hv,_,hh,_⟩
  ·cases hv
  ·cases hv;exact (Array.getElem?_eq_some_iff.1 hh).1
theorem Below.app {B B0 : Nat} {w0 w w' : World} {e : TypeId} {a : OA} {n c : Nat} {xs : List Value} (h : Below B0 w0 w) (hown : w.ownsRow B e 1 (.slice a n c) n xs)
  (hg : w.grownBy w' (Value.slice a n c).ownBlock) (h0 : B0<=B) (h1 : B0<=w.heap.size) : Below B0 w0 w' :=
 h.grown hg h1 λk hk=>Ji h0 (hown.lt k hk).1
theorem aB {w w' : World} (hb : NS w w') {a : Addr} {v : Value} (h : w.cell? a=some v) : w'.cell? a=some v :=
 (hb.cell (Jf w a h)).trans h
theorem Below.next {w0 w w' : World} (h : NS w0 w) (hb : NS w w') : NS w0 w' :=
 h.trans (hb.mono h.size)
theorem FD {w : World} {B : Nat} {e : TypeId} {a : OA} {n : Nat} {xs : List Value} (h : w.ownsRow B e 1 (.slice a n n) n xs) (hn : 0<n) :
  ∃g,a=some ⟨g,0,none⟩/\B<=g/\w.heap[g]? = some (.cells xs.toArray e (0,0)):=by
 rcases h.2 with ⟨hv,h0⟩ | ⟨g,cap,cur,hv,hg,hh,hle,hm,hs,ht⟩
 ·omega
 ·cases hv
  refine ⟨g,rfl,hg,?_⟩;rw [hh,<- ht,I8 (by rw [Array.length_toList,hs];exact IZ _)]
theorem y9 {w : World} {B : Nat} {e : TypeId} {g n : Nat} {xs : List Value} (hB : B<=g) (h : w.heap[g]? = some (.cells xs.toArray e (0,0))) (hl : xs.length=n) (hm : n<=maxLen) :
  w.ownsRow B e 1 (.slice (some ⟨g,0,none⟩) n n) n xs :=
 ⟨by simpa using hl,.inr ⟨g,n,xs.toArray,rfl,hB,h,IZ _,hm,by simpa using hl,by simpa using I8 (by omega)⟩⟩
theorem nc {w : World} {g : Nat} {e : TypeId} {l : Lz} (h : w.heap[g]? = some (.cells (l.map (Value.int .i64)).toArray e (0,0))) (j : Nat) (hj : j<l.length) :
  w.cell? ⟨g,j,none⟩=some (.int .i64 (nth l j))/\w.frozen? ⟨g,j,none⟩=false:=by refine ⟨?_,by simp [World.frozen?,h]⟩;simp [World.cell?,h,nth,hj]
theorem mi {w : World} {g : Nat} {e : TypeId} {l : Lz} (h : w.heap[g]? = some (.cells (l.map (Value.int .i64)).toArray e (0,0))) (j : Nat) (x : Int) :
  (w.setCell ⟨g,j,none⟩ (.int .i64 x)).heap[g]? = some (.cells ((l.set j x).map (Value.int .i64)).toArray e (0,0)):=by have:=heap_setCell_same w g j _ e (.int .i64 x) h;simpa [Jq] using this
theorem DG (g j : Nat) : (⟨g,0,none⟩ : Addr).add j=⟨g,j,none⟩:=by unfold Addr.add;split <;> simp_all
theorem tY {w : World} {g : Nat} {e : TypeId} {l : Lz} (h : w.heap[g]? = some (.cells (l.map (Value.int .i64)).toArray e (0,0))) :
  ∀j v,(l.dropLast.map (Value.int .i64))[j]? = some v->w.cell? ((⟨g,0,none⟩ : Addr).add j)=some v:=by intro j v hj;have hlt:=(List.getElem?_eq_some_iff.1 hj).1;simp only [Jl,List.length_dropLast] at hlt;rw [DG,(nc h j (by omega)).1];rw [Lg,Le,I6 hlt,JI (by omega)] at hj;rw [ai (by omega)];simpa using hj
theorem yY (l : Lz) (h : 0<l.length) : splice (l.map (Value.int .i64)) 1 (l.dropLast.map (Value.int .i64))=(nth l 0 :: l.dropLast).map (Value.int .i64):=by
 unfold splice;match l,h with
 | x :: l,_ =>
  have e : (List.map (Value.int .i64) (x :: l)).drop (1+(List.map (Value.int .i64) (x :: l).dropLast).length)=[]:=by apply Lf;simp;omega
  rw [e]
  simp [nth]
theorem ba : (prog.info? 3).map (λi=>(i.zero,i.size,i.bytes))=some (some (.int .i64 0),1,8):=by kernel_rfl
theorem mN (x p : Int) (m : Nat) (w : World) (hx : 0<=x) (hx2 : x<=9223372036854775807) (hp : 1<=p) (hm : m<=256) :
  Calls prog 253 #[.int .i64 x,.int .i64 p,.int .i64 m] w λe w' =>
   ∃a c,e = .returned (.slice a m c)/\Ints w' a m (bq x p m)/\GX w' w.heap.size a m/\NS w w':=by
 go_enter func253,ntmps253;go_wp2_with (at_make;refine cC rfl _ _ 22 3 rfl (.int .i64 0) 8 underlying22 ba rfl m rfl rfl (by omega) (by unfold maxLen;omega) ?_;intro a w1 hown hbel hge hlt);go_loopw [0,13] (λxv iv wr=>∃k : Nat,k<=m/\iv = .int .i64 k/\xv = .int .i64 (ji x p k) /\
   wr.ownsRow w.heap.size 3 1 (.slice a m m) m ((cU (bq x p k) k m).map (Value.int .i64))/\NS w wr)
  (λ_ i _=>m - (intOf i).toNat)
 case atStart=>exact ⟨0,I7 _,rfl,rfl,by simpa [cU,bq] using hown,hbel⟩
 case round =>
  obtain ⟨k,hk,rfl,rfl,hown,hbel⟩:=hrel
  obtain ⟨hints,hmine⟩:=Ints.own hown
  have hq:=vB x p hx hp k
  have hpl:=hints.pl
  by_cases hlt : k<m
  ·have hc:=hints.cell k hlt
   have hf:=(hmine (by omega)).2 k hlt
   have hB:=(hmine (by omega)).1
   go_wp2
   go_roundw
   case rel =>
    refine ⟨k+1,by omega,by go_num,rfl,?_,hbel.setCell hB _⟩
    have h:=bT hown k hlt (.int .i64 (ji x p k % p))
    rw [<- Jq,eO _ _ _ _ (bN p k x) hlt,<- oN] at h
    exact h
   case measure=>simp [intOf] <;> omega
  ·obtain rfl : k=m:=by omega
   go_wp2
   go_ret
   rw [fy] at hints
   exact ⟨_,_,rfl,hints,hmine,hbel⟩
def cJ (a : OA) (b : Nat) : Prop:=a=none\/aj a ≠ b
theorem cJ.own {a : OA} {b : Nat} (h : cJ a b) (n c : Nat) : (Value.slice a n c).ownBlock ≠ some b:=by
 rcases h with rfl | h
 ·simp [Value.ownBlock]
 ·cases a with
  | none=>simp [Value.ownBlock]
  | some x=>simpa [Value.ownBlock,aj] using h
theorem cJ.jy {a : OA} {b n c : Nat} (h : (Value.slice a n c).ownBlock ≠ some b) : cJ a b:=by
 cases a with
 | none=>exact .inl rfl
 | some x=>exact .inr (by simpa [Value.ownBlock,aj] using h)
theorem lA {w : World} {B : Nat} {e : TypeId} {a : OA} {c n : Nat} {xs : List Value} (h : w.ownsRow B e 1 (.slice a n c) n xs) {b : Nat} (hb : b<B) : cJ a b:=by
 rcases mG h with ⟨rfl,_⟩ | ⟨h1,_⟩
 ·exact .inl rfl
 ·exact .inr (by omega)
theorem fB {w : World} {B : Nat} {e : TypeId} {a : OA} {c n : Nat} {xs : List Value} (h : w.ownsRow B e 1 (.slice a n c) n xs) (hn : 0<n) : B<=aj a/\aj a<w.heap.size:=by
 rcases mG h with ⟨_,h0,_⟩ | h
 ·omega
 ·exact h
theorem bg {P : Program} {w : World} {ops : Array Oper} {rest : List Oper} {o : Oper} {ac : Act} {Q : Exit->Act->World->Prop}
  (hg : o.guard=none) (s x : Operand) (t e : TypeId) (hop : o.op = .call { callee:=.builtin .append,args:=#[s,x],argTypes:=#[t,t] }) (z : Value) (bytes : Nat)
  (h1 : P.underlying t=some (.slice e)) (h2 : (P.info? e).map (λi=>(i.zero,i.size,i.bytes))=some (some z,1,bytes)) (hz : z.cells = #[z])
  (B : Nat) (a : OA) (n c : Nat) (xs : List Value) (hs : ac.eval s = .slice a n c) (hown : w.ownsRow B e 1 (.slice a n c) n xs)
  (ad : Addr) (cc : Nat) (u : Value) (hx : ac.eval x = .slice (some ad) 1 cc) (hu : w.cell? ad=some u) (h1c : u.oneCell'=true)
  (b2 : (n+1) * bytes<=140737488355328) (b3 : n+1<=maxLen) (hB : B<=w.heap.size)
  (hK : ∀a' c' w',w'.ownsRow B e 1 (.slice a' (n+1) c') (n+1) (xs ++ [u])->w.grownBy w' (Value.slice a n c).ownBlock->(∀b,b<w.heap.size->cJ a b->cJ a' b)->wpList P ops Q rest (ac.put o.dst (.slice a' (n+1) c')) w') :
  wpList P ops Q (o :: rest) ac w:=by
 obtain ⟨i,hi,hz0,hz1,hz2⟩:=info_parts h2;refine wpList_append_own_at w hg s x t hop B e i z 1 bytes h1 hi hz0 hz1 hz2 (by rw [hz];rfl) (by decide) _ n xs hs hown ad 1 cc [u] hx rfl ?_ ?_ b3 b2 hB λv' w' hown' hgr _ hat=>?_
 ·intro j v hj;match j,hj with
  | 0,hj=>simp at hj;subst hj;simpa [Addr.add] using hu
 ·intro v hv;simp at hv;subst hv;exact h1c
 ·obtain ⟨a',c',rfl,_⟩:=Pl.own hown';refine hK a' c' w' hown' hgr λb hb hapt=>?_;have h:=hapt.own n c;rcases hat with h3 | h3
  ·exact cJ.jy (n:=n+1) (c:=c') (by rw [h3];exact h)
  ·exact cJ.jy (n:=n+1) (c:=c') (by rw [h3];intro h4;cases h4;omega)
theorem Ints.nG {w w' : World} {a ao : OA} {n m c : Nat} {l : Lz} (h : Ints w a n l) (hg : w.grownBy w' (Value.slice ao m c).ownBlock) (hne : 0<n->cJ ao (aj a)) : Ints w' a n l :=
 h.grown hg λhn=>(hne hn).own m c
theorem dU {w w' : World} {B : Nat} {e : TypeId} {a ao : OA} {n c m c' : Nat} {xs : List Value} (h : w.ownsRow B e 1 (.slice a n c) n xs) (hg : w.grownBy w' (Value.slice ao m c').ownBlock) (hne : cJ ao (aj a)) :
  w'.ownsRow B e 1 (.slice a n c) n xs:=by
 rcases mG h with ⟨rfl,rfl,rfl⟩ | ⟨_,hlt⟩
 ·have hx:=iP h;obtain rfl : xs=[]:=Jp hx;exact bX
 ·exact iV h (hg.block _ hlt (λe=>hne.own m c' e.symm))
theorem bC {w w' : World} {ao : OA} {m c : Nat} {ad : Addr} {v : Value} (hg : w.grownBy w' (Value.slice ao m c).ownBlock) (h : w.cell? ad=some v) (hne : cJ ao ad.block) : w'.cell? ad=some v :=
 hg.cell h (λe=>hne.own m c e.symm)
theorem yo (w : World) (l : Lz) (e : TypeId) {B : Nat} (hB : B<=w.heap.size) (hl : l.length<=maxLen) :
  (w.alloc (.cells (l.map (Value.int .i64)).toArray e)).ownsRow B e 1 (.slice (some ⟨w.heap.size,0,none⟩) l.length l.length) l.length (l.map (Value.int .i64)):=by simpa using ME w (l.map (Value.int .i64)).toArray l.length hB hl (by simp)
theorem uV {P : Int} (hP : 0<P) (M : Nat) (mod : Lz) (x y : Int) : 0<=dj P M mod x y/\dj P M mod x y<P ^ M:=by have:=nB hP (eC P (lW M mod) (bq x P M) (bq y P M) M M) (dC.eC hP _ _ _ _ _);rwa [ij] at this
def iJ (mul : Int->Int) : Nat->Lz->Int->Lz
 | 0,l,_=>l
 | n+1,l,y=>if y=0\/y ∈ l then l else iJ mul n (l ++ [y]) (mul y)
theorem i6 (mul : Int->Int) (n : Nat) (l : Lz) (y : Int) (h : y=0\/y ∈ l) : iJ mul n l y=l:=by
 cases n
 ·rfl
 ·rw [iJ,I6 h]
theorem rI (mul : Int->Int) (n : Nat) (l : Lz) (y : Int) (h : ¬ (y=0\/y ∈ l)) : iJ mul (n+1) l y=iJ mul n (l ++ [y]) (mul y):=by rw [iJ,I5 h]
def eR (P : Int) (M : Nat) (mod : Lz) (q : Nat) (x : Int) : Lz:=iJ (λy=>dj P M mod y x) q [1] x
def fM (P : Int) (M : Nat) (mod : Lz) (q : Nat) (x : Int) : Bool :=
 (eR P M mod q x).length == q - 1 && dj P M mod (nth (eR P M mod q x) (q - 2)) x == 1
def kp (P : Int) (M : Nat) (mod : Lz) (q : Nat) : Nat->Nat->Lz
 | 0,_=>[]
 | n+1,x=>if fM P M mod q x then eR P M mod q x else kp P M mod q n (x+1)
def fX (P : Int) (M : Nat) (mod : Lz) (q : Nat) : Lz:=kp P M mod q (q - 1) 1
def um : List Bool->Nat
 | []=>0
 | b :: l=>(if b then 0 else 1)+um l
theorem qm : ∀(l : List Bool) (i : Nat),l[i]? = some false->um (l.set i true)+1=um l
 | [],i,h=>by simp at h
 | b :: l,0,h=>by simp at h;subst h;simp [um];omega
 | b :: l,i+1,h=>by simp at h;have:=qm l i h;simp [um];omega
theorem qj (n : Nat) : um (List.replicate n false)=n:=by
 induction n with
 | zero=>rfl
 | succ n ih=>simp [LH,um,ih];omega
theorem xI (mul : Int->Int) (Q : Int) (hm : ∀y,0<=mul y/\mul y<Q) : ∀(n : Nat) (l : Lz) (y : Int),0<=y/\y<Q->(∀e ∈ l,0<=e/\e<Q)->∀e ∈ iJ mul n l y,0<=e/\e<Q
 | 0,l,_,_,hl=>hl
 | n+1,l,y,hy,hl=>by
  unfold iJ;split
  ·exact hl
  ·refine xI mul Q hm n _ _ (hm y) λe he=>?_;rcases List.mem_append.1 he with h | h
   ·exact hl e h
   ·rw [List.mem_singleton.1 h];exact hy
theorem FH {P : Int} (hP : 0<P) (M : Nat) (mod : Lz) (q : Nat) (x : Int) (hq : (q : Int)=P ^ M) (hq2 : 2<=q) (hx : 0<=x) (hx2 : x<q) : ∀e ∈ eR P M mod q x,0<=e/\e<q:=by refine xI _ _ (λy=>by rw [hq];exact uV hP M mod y x) _ _ _ ⟨hx,hx2⟩ λe he=>?_;rw [List.mem_singleton.1 he];omega
theorem oS {P : Int} (hP : 0<P) (M : Nat) (mod : Lz) (q : Nat) (x : Int) (hq : (q : Int)=P ^ M) (hq2 : 2<=q) (hx : 0<=x) (hx2 : x<q) (i : Nat) : 0<=nth (eR P M mod q x) i/\nth (eR P M mod q x) i<q:=by
 rcases JV i (eR P M mod q x).length with h | h
 ·exact FH hP M mod q x hq hq2 hx hx2 _ (aK h)
 ·rw [js h];omega
def eh (P : Int) : Nat->Int->Int->Int
 | 0,_,_=>0
 | m+1,x,y=>(x+y) % P+P * eh P m (x / P) (y / P)
def fK (P : Int) : Nat->Int->Int
 | 0,_=>0
 | m+1,x=>(P - x % P) % P+P * fK P m (x / P)
theorem tV (P : Int) : ∀m,eh P m 0 0=0
 | 0=>rfl
 | m+1=>by simp [eh,tV P m]
theorem tO (P : Int) : ∀m,fK P m 0=0
 | 0=>rfl
 | m+1=>by simp [fK,tO P m]
theorem vQ {P : Int} (hP : 0<P) : ∀(m : Nat) (x y : Int),0<=eh P m x y/\eh P m x y<P ^ m
 | 0,x,y=>by simp [eh]
 | m+1,x,y=>by have ih:=vQ hP m (x / P) (y / P);have h1:=JK (x+y) (show P ≠ 0 by omega);have h2:=JB (x+y) hP;have h3 : 0<=P * eh P m (x / P) (y / P):=Kw (by omega) ih.1;have h4:=Jz (show eh P m (x / P) (y / P)+1<=P ^ m by omega) (show 0<=P by omega);rw [Ko] at h4;simp only [eh,JP];rw [Ki (P ^ m)];omega
theorem pT {P : Int} (hP : 0<P) : ∀(m : Nat) (x : Int),0<=fK P m x/\fK P m x<P ^ m
 | 0,x=>by simp [fK]
 | m+1,x=>by have ih:=pT hP m (x / P);have h1:=JK (P - x % P) (show P ≠ 0 by omega);have h2:=JB (P - x % P) hP;have h3 : 0<=P * fK P m (x / P):=Kw (by omega) ih.1;have h4:=Jz (show fK P m (x / P)+1<=P ^ m by omega) (show 0<=P by omega);rw [Ko] at h4;simp only [fK,JP];rw [Ki (P ^ m)];omega
theorem nI (P : Int) (hP : 0<P) : ∀(m : Nat) (x : Int),0<=x->x<P ^ m->ji x P m=0
 | 0,x,h0,h1=>by simp at h1;simp [ji];omega
 | m+1,x,h0,h1=>by rw [oE];refine nI P hP m (x / P) (J5 h0 (by omega)) ?_;rw [JP] at h1;exact Ky hP h1
theorem Ek (x y : Nat) : (x ^^^ y) % 2=(x+y) % 2:=by have h:=Nat.testBit_xor x y 0;simp only [Nat.testBit_zero] at h;have hx:=KT x;have hy:=KT y;have hz:=KT (x ^^^ y);rcases hx with hx | hx <;> rcases hy with hy | hy <;> rcases hz with hz | hz <;> simp [hx,hy,hz] at h <;> omega
theorem xF : ∀(m : Nat) (x y : Nat),x<2 ^ m->y<2 ^ m->((x ^^^ y : Nat) : Int)=eh 2 m x y
 | 0,x,y,hx,hy=>by
  have h1 : x=0:=by simp at hx;omega
  have h2 : y=0:=by simp at hy;omega
  subst h1;subst h2;rfl
 | m+1,x,y,hx,hy=>by
  have ih:=xF m (x / 2) (y / 2) (by rw [Mg] at hx;omega) (by rw [Mg] at hy;omega);simp only [eh];have e1 : ((x : Int) / 2)=((x / 2 : Nat) : Int):=by omega
  have e2 : ((y : Int) / 2)=((y / 2 : Nat) : Int):=by omega
  rw [e1,e2,<- ih,<- Nat.xor_div_two];have h3 : (x ^^^ y) % 2=(x+y) % 2:=Ek x y;omega
theorem pJ {P : Program} (w : World) (t ty e : TypeId) (i : TypeInfo) (ht : P.underlying t=some (.slice e)) (hi : P.info? e=some i) (a ao : OA) (n c cs : Nat) (hn : n<=c) :
  (Builtin.append_ #[t,t] ty #[.slice a n c,.slice ao 0 cs]).run P w = .ok (.slice a n c) w:=by cases a <;> cases ao <;> simp [Builtin.append_,run_underlying ht,sizeOf,typeInfo,hi,Builtin.lenOf,Builtin.firstCells,hn,storeCells,loadCells,loadCellsFrom]
theorem nR {w : World} {B : Nat} {e : TypeId} {a : OA} {c n : Nat} {xs : List Value} (h : w.ownsRow B e 1 (.slice a n c) n xs) : n<=c:=by
 rcases h.2 with ⟨hv,h0⟩ | ⟨g,cap,cur,hv,hg,hh,hle,_⟩
 ·omega
 ·cases hv;exact hle
theorem qG {P : Program} {w : World} (t ty e : TypeId) (z : Value) (bytes : Nat)
  (h1 : P.underlying t=some (.slice e)) (h2 : (P.info? e).map (λi=>(i.zero,i.size,i.bytes))=some (some z,1,bytes)) (hz : z.cells = #[z])
  (B : Nat) (a : OA) (n c : Nat) (xs : List Value) (hown : w.ownsRow B e 1 (.slice a n c) n xs)
  (ao : OA) (m cc : Nat) (news : List Value) (hp : Pl ao m) (hl : news.length=m) (hc : ∀j,j<m->w.cell? ⟨aj ao,aL ao+j,none⟩=news[j]?) (h1c : ∀u ∈ news,u.oneCell'=true)
  (b2 : (n+m) * bytes<=140737488355328) (b3 : n+m<=maxLen) (hB : B<=w.heap.size) :
  ∃a' c' w',(Builtin.append_ #[t,t] ty #[.slice a n c,.slice ao m cc]).run P w = .ok (.slice a' (n+m) c') w'/\w'.ownsRow B e 1 (.slice a' (n+m) c') (n+m) (xs ++ news) /\
   w.grownBy w' (Value.slice a n c).ownBlock/\(∀b,b<w.heap.size->cJ a b->cJ a' b):=by
 obtain ⟨i,hi,hz0,hz1,hz2⟩:=info_parts h2;by_cases hm : m=0
 ·subst hm;obtain rfl : news=[]:=Jp hl;exact ⟨a,c,w,pJ w t ty e i h1 hi a ao n c cc (nR hown),by simpa using hown,World.grownBy.refl _ _,λb _ h=>h⟩
 ·have hao:=hp (by omega);obtain ⟨v',w',hr,h3,h4,_,h6⟩:=run_append_own_at (P:=P) w B t ty e i z 1 bytes h1 hi hz0 hz1 hz2 (by rw [hz];rfl) (by decide) _ n xs hown ⟨aj ao,aL ao,none⟩ m cc news (by omega)
   (λj u hu=>by have hj:=(List.getElem?_eq_some_iff.1 hu).1;rw [MF,hc j (by omega)];exact hu) h1c b3 b2 hB
  obtain ⟨a',c',rfl,_⟩:=Pl.own h3;refine ⟨a',c',w',by rw [hao];exact hr,h3,h4,λb hb hapt=>?_⟩;have h:=hapt.own n c;rcases h6 with h6 | h6
  ·exact cJ.jy (n:=n+m) (c:=c') (by rw [h6];exact h)
  ·exact cJ.jy (n:=n+m) (c:=c') (by rw [h6];intro h7;cases h7;omega)
theorem ee {P : Program} {w : World} {ops : Array Oper} {rest : List Oper} {o : Oper} {ac : Act} {Q : Exit->Act->World->Prop}
  (hg : o.guard=none) (s x : Operand) (t e : TypeId) (hop : o.op = .call { callee:=.builtin .append,args:=#[s,x],argTypes:=#[t,t] }) (z : Value) (bytes : Nat)
  (h1 : P.underlying t=some (.slice e)) (h2 : (P.info? e).map (λi=>(i.zero,i.size,i.bytes))=some (some z,1,bytes)) (hz : z.cells = #[z])
  (B : Nat) (a : OA) (n c : Nat) (xs : List Value) (hs : ac.eval s = .slice a n c) (hown : w.ownsRow B e 1 (.slice a n c) n xs)
  (ao : OA) (m cc : Nat) (news : List Value) (hx : ac.eval x = .slice ao m cc) (hp : Pl ao m) (hl : news.length=m) (hc : ∀j,j<m->w.cell? ⟨aj ao,aL ao+j,none⟩=news[j]?) (h1c : ∀u ∈ news,u.oneCell'=true)
  (b2 : (n+m) * bytes<=140737488355328) (b3 : n+m<=maxLen) (hB : B<=w.heap.size)
  (hK : ∀a' c' w',w'.ownsRow B e 1 (.slice a' (n+m) c') (n+m) (xs ++ news)->w.grownBy w' (Value.slice a n c).ownBlock->(∀b,b<w.heap.size->cJ a b->cJ a' b)->wpList P ops Q rest (ac.put o.dst (.slice a' (n+m) c')) w') :
  wpList P ops Q (o :: rest) ac w:=by refine wpList_plain hg λK hK'=>?_;obtain ⟨a',c',w',hr,h3,h4,h5⟩:=qG (P:=P) t o.type e z bytes h1 h2 hz B a n c xs hown ao m cc news hp hl hc h1c b2 b3 hB;unfold Oper.wp execOp;simp only [hop,resolve,invoke,builtin,MG,MH,L0,Mb,Ke,MI,hs,hx,hr];exact hK' _ _ (hK a' c' w' h3 h4 h5)
theorem bH {P : Program} {w : World} {ops : Array Oper} {o : Oper} {ac : Act} {K : Act->World->Prop} {Q : Exit->Act->World->Prop} {E : Prop}
  (hg : o.guard=none) (s x : Operand) (t e : TypeId) (hop : o.op = .call { callee:=.builtin .append,args:=#[s,x],argTypes:=#[t,t] }) (z : Value) (bytes : Nat)
  (h1 : P.underlying t=some (.slice e)) (h2 : (P.info? e).map (λi=>(i.zero,i.size,i.bytes))=some (some z,1,bytes)) (hz : z.cells = #[z])
  (B : Nat) (a : OA) (n c : Nat) (xs : List Value) (hs : ac.eval s = .slice a n c) (hown : w.ownsRow B e 1 (.slice a n c) n xs)
  (ao : OA) (m cc : Nat) (news : List Value) (hx : ac.eval x = .slice ao m cc) (hp : Pl ao m) (hl : news.length=m) (hc : ∀j,j<m->w.cell? ⟨aj ao,aL ao+j,none⟩=news[j]?) (h1c : ∀u ∈ news,u.oneCell'=true)
  (b2 : (n+m) * bytes<=140737488355328) (b3 : n+m<=maxLen) (hB : B<=w.heap.size)
  (hK : ∀a' c' w',w'.ownsRow B e 1 (.slice a' (n+m) c') (n+m) (xs ++ news)->w.grownBy w' (Value.slice a n c).ownBlock->(∀b,b<w.heap.size->cJ a b->cJ a' b)->K (ac.put o.dst (.slice a' (n+m) c')) w') :
  if Region.wanted o (yielded ops ac.tmps)=true then Oper.wp P o ac w K Q else E:=by
 have hw : Region.wanted o (yielded ops ac.tmps)=true:=by simp [Region.wanted,hg]
 rw [I6 hw];obtain ⟨a',c',w',hr,h3,h4,h5⟩:=qG (P:=P) t o.type e z bytes h1 h2 hz B a n c xs hown ao m cc news hp hl hc h1c b2 b3 hB;unfold Oper.wp execOp;simp only [hop,resolve,invoke,builtin,MG,MH,L0,Mb,Ke,MI,hs,hx,hr];exact hK a' c' w' h3 h4 h5
theorem run_mk {P : Program} (t e : TypeId) (z : Value) (bytes : Nat) (h1 : P.underlying t=some (.slice e)) (h2 : (P.info? e).map (λi=>(i.zero,i.size,i.bytes))=some (some z,1,bytes)) (hz : z.cells = #[z])
  (n : Nat) (b2 : bytes * n<=281474976710656) (b3 : n<=9223372036854775807) (w : World) :
  (Instr.makeSlice t (.int .i64 n) (.int .i64 n)).run P w = .ok (.slice (some ⟨w.heap.size,0,none⟩) n n) (w.alloc (.cells (List.replicate n z).toArray e)):=by obtain ⟨i,hi,hz0,hz1,hz2⟩:=info_parts h2;have h:=run_make (P:=P) w t e i z h1 hi hz0 .i64 .i64 n n (by omega) (LZ _) (by rw [hz2];omega) (by omega);rw [hz1,Nat.mul_one,hz,Jd] at h;rw [h];congr 3;rw [<- toList_madeCells_one]
theorem Es (w : World) (e : TypeId) (z : Value) (n : Nat) {B : Nat} (hB : B<=w.heap.size) (hn : n<=maxLen) :
  (w.alloc (.cells (List.replicate n z).toArray e)).ownsRow B e 1 (.slice (some ⟨w.heap.size,0,none⟩) n n) n (List.replicate n z):=by simpa using ME w (List.replicate n z).toArray n hB hn (by simp)
theorem Ints.news {w : World} {a : OA} {n : Nat} {l : Lz} (h : Ints w a n l) : ∀j,j<n->w.cell? ⟨aj a,aL a+j,none⟩=(l.map (Value.int .i64))[j]?:=by intro j hj;rw [h.cell j hj,Lg,JI (by rw [h.len];exact hj),ai (by rw [h.len];exact hj)];rfl
theorem Below.bJ {w0 w : World} (h : NS w0 w) (o : Obj) : NS w0 (w.alloc o):=h.alloc h.size o
theorem ff (w : World) (e : TypeId) : (w.alloc (.cells #[] e)).ownsRow w.heap.size e 1 (.slice (some ⟨w.heap.size,0,none⟩) 0 0) 0 [] :=
 World.ownsRow_made w #[] 0 (IZ _) (I7 _) rfl
theorem aG (w : World) (cs : Array Value) (e : TypeId) {g : Nat} (hg : g=w.heap.size) (i : Nat) : (w.alloc (.cells cs e)).cell? ⟨g,i,none⟩=cs[i]?:=by subst hg;exact Ml ..
theorem jO (w : World) (e : TypeId) (z : Value) (n : Nat) {B g : Nat} (hg : g=w.heap.size) (hB : B<=w.heap.size) (hn : n<=maxLen) :
  (w.alloc (.cells (Array.replicate n z) e)).ownsRow B e 1 (.slice (some ⟨g,0,none⟩) n n) n (List.replicate n z):=by subst hg;simpa using Es w e z n hB hn
theorem nE {w w' : World} {row : Option Nat} (h : w.drew.grownBy w' row) : w.grownBy w' row:=⟨h.os,h.tape,h.output,h.size,h.block⟩
section
def sm : Nat->(Nat->Int)->Int
 | 0,_=>0
 | n+1,f=>sm n f+f n
theorem bZ {n : Nat} {f g : Nat->Int} (h : ∀i,i<n->f i=g i) : sm n f=sm n g:=by
 induction n with
 | zero=>rfl
 | succ n ih=>rw [sm,sm,ih λi hi=>h i (by omega),h n (by omega)]
theorem vE (n : Nat) (f g : Nat->Int) : sm n (λi=>f i+g i)=sm n f+sm n g:=by
 induction n with
 | zero=>rfl
 | succ n ih=>simp only [sm,ih];omega
theorem jl (n : Nat) : sm n (λ_=>0)=0:=by
 induction n with
 | zero=>rfl
 | succ n ih=>simp only [sm,ih];rfl
theorem C7 (n : Nat) (c : Int) (f : Nat->Int) : sm n (λi=>c * f i)=c * sm n f:=by
 induction n with
 | zero=>simp [sm]
 | succ n ih=>simp only [sm,ih,Ko]
theorem AJ (n m : Nat) (f : Nat->Nat->Int) : sm n (λi=>sm m (λj=>f i j))=sm m (λj=>sm n (λi=>f i j)):=by
 induction n with
 | zero=>simp only [sm];rw [jl]
 | succ n ih=>simp only [sm,ih,vE]
theorem Gn {n : Nat} {f : Nat->Int} {P : Int} (h : ∀i,i<n->P ∣ f i) : P ∣ sm n f:=by
 induction n with
 | zero=>exact ⟨0,by simp [sm]⟩
 | succ n ih=>exact Mp (ih λi hi=>h i (by omega)) (h n (by omega))
theorem jJ {n : Nat} {f : Nat->Int} {k : Nat} (hk : k<n) (h : ∀i,i<n->i ≠ k->f i=0) : sm n f=f k:=by
 induction n with
 | zero=>omega
 | succ n ih =>
  rw [sm]
  by_cases e : k=n
  ·subst e
   rw [bZ (g:=λ_=>0) λi hi=>h i (by omega) (by omega),jl];omega
  ·rw [ih (by omega) λi hi=>h i (by omega),h n (by omega) (by omega)];omega
theorem Dx (n : Nat) (f : Nat->Int) : sm (n+1) f=f 0+sm n (λi=>f (i+1)):=by
 induction n with
 | zero=>simp [sm]
 | succ n ih=>rw [sm,ih];simp only [sm];omega
def sC (M : Nat) (low : Nat->Int) (v : Nat->Int) : Nat->Int :=
 λi=>if i<M then (if i=0 then 0 else v (i - 1)) - v (M - 1) * low i else 0
def fh (M : Nat) (low : Nat->Int) : Nat->(Nat->Int)->Nat->Int
 | 0,v=>v
 | k+1,v=>sC M low (fh M low k v)
variable {M : Nat} {low : Nat->Int}
theorem Fq (u v : Nat->Int) : sC M low (λi=>u i+v i)=λi=>sC M low u i+sC M low v i:=by
 funext i;simp only [sC];split
 ·split
  ·rw [Mq];omega
  ·rw [Mq];omega
 ·rfl
theorem C8 (c : Int) (v : Nat->Int) : sC M low (λi=>c * v i)=λi=>c * sC M low v i:=by
 funext i;simp only [sC];split
 ·split
  ·rw [M3,MJ,J1]
  ·rw [M3,J1]
 ·rw [MJ]
theorem Bj (k : Nat) (u v : Nat->Int) : fh M low k (λi=>u i+v i)=λi=>fh M low k u i+fh M low k v i:=by
 induction k with
 | zero=>rfl
 | succ k ih=>rw [fh,ih,Fq];rfl
theorem jL (k : Nat) (c : Int) (v : Nat->Int) : fh M low k (λi=>c * v i)=λi=>c * fh M low k v i:=by
 induction k with
 | zero=>rfl
 | succ k ih=>rw [fh,ih,C8];rfl
theorem yw (k : Nat) : fh M low k (λ_=>0)=λ_=>0:=by have:=jL (M:=M) (low:=low) k 0 (λ_=>0);simpa using this
theorem uu (k n : Nat) (f : Nat->Nat->Int) : fh M low k (λi=>sm n (λj=>f j i))=λi=>sm n (λj=>fh M low k (f j) i):=by
 induction n with
 | zero=>simp only [sm];exact yw k
 | succ n ih=>simp only [sm];rw [Bj,ih]
theorem nH (k l : Nat) (v : Nat->Int) : fh M low (k+l) v=fh M low k (fh M low l v):=by
 induction k with
 | zero=>rw [Kk];rfl
 | succ k ih=>rw [show k+1+l=(k+l)+1 by omega,fh,fh,ih]
def eV (j : Nat) : Nat->Int:=λi=>if i=j then 1 else 0
def Sh (M : Nat) (v : Nat->Int) : Prop:=∀i,M<=i->v i=0
theorem DN (v : Nat->Int) : Sh M (sC M low v):=λi hi=>by simp only [sC];rw [I5 (by omega)]
theorem GB {v : Nat->Int} (h : Sh M v) (k : Nat) : Sh M (fh M low k v):=by
 cases k with
 | zero=>exact h
 | succ k=>exact DN _
theorem Ay (j : Nat) (hj : j<M) : fh M low j (eV 0)=eV j:=by
 induction j with
 | zero=>rfl
 | succ j ih =>
  rw [fh,ih (by omega)]
  funext i
  simp only [sC,eV]
  by_cases h : i<M
  ·rw [I6 h,I5 (show ¬ M - 1=j by omega)]
   by_cases h0 : i=0
   ·rw [I6 h0,I5 (by omega)];omega
   ·rw [I5 h0]
    by_cases h1 : i=j+1
    ·rw [I6 h1,I6 (by omega)];omega
    ·rw [I5 h1,I5 (by omega)];omega
  ·rw [I5 h,I5 (by omega)]
theorem Sh.expand {v : Nat->Int} (h : Sh M v) : v=λk=>sm M (λj=>v j * fh M low j (eV 0) k):=by
 funext k;rw [bZ (g:=λj=>v j * eV j k) λj hj=>by rw [Ay j hj]];by_cases hk : k<M
 ·rw [jJ hk λi hi hne=>by simp only [eV];rw [I5 (by omega)];omega];simp [eV]
 ·rw [h k (by omega),bZ (g:=λ_=>0) λj hj=>by simp only [eV];rw [I5 (by omega)];omega,jl]
def gd (M : Nat) (low : Nat->Int) (x y : Nat->Int) : Nat->Int:=λk=>sm M (λi=>x i * fh M low i y k)
theorem Fs {x y : Nat->Int} (hy : Sh M y) : Sh M (gd M low x y):=λk hk=>by simp only [gd];rw [bZ (g:=λ_=>0) λi _=>by rw [GB hy i k hk];omega,jl]
theorem kM {x y : Nat->Int} (hy : Sh M y) : gd M low x y=λk=>sm M (λi=>sm M (λj=>x i * y j * fh M low (i+j) (eV 0) k)):=by funext k;simp only [gd];refine bZ λi _=>?_;have e : fh M low i y=fh M low i (λk=>sm M (λj=>y j * fh M low j (eV 0) k)):=congrArg _ hy.expand;rw [e,uu];simp only;rw [<- C7];refine bZ λj _=>?_;rw [jL,nH,J1]
theorem lC {x y : Nat->Int} (hx : Sh M x) (hy : Sh M y) : gd M low x y=gd M low y x:=by rw [kM hx,kM hy];funext k;rw [AJ];refine bZ λi _=>bZ λj _=>?_;rw [Ki (x j),Nat.add_comm j i]
theorem tW (x y z : Nat->Int) : gd M low x (gd M low y z)=λk=>sm M (λi=>sm M (λj=>x i * y j * fh M low (i+j) z k)):=by funext k;refine bZ λi _=>?_;rw [show gd M low y z=(λk=>sm M (λj=>y j * fh M low j z k)) from rfl,uu];simp only;rw [<- C7];refine bZ λj _=>?_;rw [jL,nH,J1]
theorem sK (x y z : Nat->Int) : gd M low x (gd M low y z)=gd M low y (gd M low x z):=by rw [tW,tW];funext k;rw [AJ];refine bZ λi _=>bZ λj _=>?_;rw [Ki (x j),Nat.add_comm j i]
theorem Ag {x y z : Nat->Int} (hx : Sh M x) (hy : Sh M y) (hz : Sh M z) : gd M low (gd M low x y) z=gd M low x (gd M low y z):=by rw [lC (Fs hy) hz,sK,lC hz hy]
theorem Ee {x : Nat->Int} (hM : 0<M) (hx : Sh M x) : gd M low (eV 0) x=x:=by funext k;simp only [gd];rw [jJ hM λi _ hne=>by simp only [eV];rw [I5 hne];omega];simp [eV,fh]
theorem sJ (x y z : Nat->Int) : gd M low x (λi=>y i+z i)=λk=>gd M low x y k+gd M low x z k:=by funext k;simp only [gd];rw [<- vE];refine bZ λi _=>?_;rw [Bj,Ko]
def Cg (P : Int) (u v : Nat->Int) : Prop:=∀i,P ∣ u i - v i
theorem Cg.refl (P : Int) (u : Nat->Int) : Cg P u u:=λi=>⟨0,by omega⟩
theorem Cg.symm {P : Int} {u v : Nat->Int} (h : Cg P u v) : Cg P v u:=λi=>by obtain ⟨c,hc⟩:=h i;exact ⟨-c,by rw [Mr];omega⟩
theorem Cg.trans {P : Int} {u v x : Nat->Int} (h : Cg P u v) (k : Cg P v x) : Cg P u x:=λi=>by obtain ⟨c,hc⟩:=h i;obtain ⟨d,hd⟩:=k i;exact ⟨c+d,by rw [Ko];omega⟩
theorem Cg.of_eq {P : Int} {u v : Nat->Int} (h : u=v) : Cg P u v:=h ▸ Cg.refl P u
theorem EO {P : Int} {u v : Nat->Int} (h : Cg P u v) : Cg P (sC M low u) (sC M low v):=λi=>by
 simp only [sC];split
 ·obtain ⟨c,hc⟩:=h (M - 1);have e : u (M - 1) * low i - v (M - 1) * low i=P * (c * low i):=by rw [<- Ms,hc,J1]
  split
  ·exact ⟨-(c * low i),by rw [Mr,<- e];omega⟩
  ·obtain ⟨d,hd⟩:=h (i - 1);exact ⟨d - c * low i,by rw [M3,<- e,<- hd];omega⟩
 ·exact ⟨0,by omega⟩
theorem Gg {P : Int} {u v : Nat->Int} (h : Cg P u v) (k : Nat) : Cg P (fh M low k u) (fh M low k v):=by
 induction k with
 | zero=>exact h
 | succ k ih=>exact EO ih
theorem Cg.add {P : Int} {u v x y : Nat->Int} (h : Cg P u v) (k : Cg P x y) : Cg P (λi=>u i+x i) (λi=>v i+y i):=λi=>by obtain ⟨c,hc⟩:=h i;obtain ⟨d,hd⟩:=k i;exact ⟨c+d,by simp only [Ko];omega⟩
theorem wa {P a b c d : Int} (h : P ∣ a - b) (k : P ∣ c - d) : P ∣ a * c - b * d:=by
 obtain ⟨x,hx⟩:=h;obtain ⟨y,hy⟩:=k;have ea : a=b+P * x:=by omega
 have ec : c=d+P * y:=by omega
 refine ⟨x * d+b * y+P * x * y,?_⟩;rw [ea,ec];simp only [Mq,Ko];have e1 : b * (P * y)=P * (b * y):=by rw [<- J1,Ki b P,J1]
 have e2 : P * x * (P * y)=P * (P * x * y):=by rw [<- J1,Ki (P * x) P,J1]
 have e3 : P * (x * d)=P * x * d:=by rw [J1]
 rw [e1,e2,e3];omega
theorem vq {P : Int} {u v x y : Nat->Int} (h : Cg P u v) (k : Cg P x y) : Cg P (gd M low u x) (gd M low v y):=λi=>by
 simp only [gd];have e : sm M (λj=>u j * fh M low j x i) - sm M (λj=>v j * fh M low j y i)=sm M (λj=>u j * fh M low j x i - v j * fh M low j y i):=by
  have:=vE M (λj=>u j * fh M low j x i - v j * fh M low j y i) (λj=>v j * fh M low j y i);have e2 : sm M (λj=>u j * fh M low j x i - v j * fh M low j y i+v j * fh M low j y i)=sm M (λj=>u j * fh M low j x i):=bZ λj _=>by omega
  omega
 rw [e];exact Gn λj _=>wa (h j) (Gg k j i)
end
section
def dV (P : Int) (M : Nat) (x : Int) : Nat->Int:=nth (bq x P M)
theorem nS (P : Int) (M : Nat) (x : Int) : Sh M (dV P M x):=λi hi=>js (by rw [bN];exact hi)
theorem nZ {P : Int} (hP : 0<P) : ∀(M : Nat) (x : Int),0<=x->x<P ^ M->dr P (bq x P M)=x
 | 0,x,h0,h1=>by simp at h1;simp [bq,dr];omega
 | M+1,x,h0,h1=>by rw [bq,dr,nZ hP M (x / P) (J5 h0 (by omega)) (Ky hP (by rwa [JP] at h1))];exact Mm x P
theorem oM {P : Int} (c r : Int) (M : Nat) (hc0 : 0<=c) (hc1 : c<P) : bq (c+P * r) P (M+1)=c :: bq r P M:=by rw [bq,Int.add_mul_emod_self_left,MK hc0 hc1,Int.add_mul_ediv_left _ _ (by omega),Mh hc0 hc1,Int.zero_add]
theorem lK {P : Int} : ∀(l : Lz),dC P l->bq (dr P l) P l.length=l
 | [],_=>rfl
 | c :: l,h=>by have h0:=h 0;simp only [nth,LJ] at h0;rw [dr,Kf,oM c _ _ h0.1 h0.2,lK l (λi=>by simpa [nth] using h (i+1))]
theorem oo (P x : Int) : P ∣ x % P - x:=⟨-(x / P),by have:=Mm x P;rw [Mr];omega⟩
theorem Bp {P a b : Int} (hP : 0<P) (ha : 0<=a) (ha1 : a<P) (hb : 0<=b) (hb1 : b<P) (h : P ∣ a - b) : a=b:=by
 obtain ⟨c,hc⟩:=h;have hc0 : c=0:=by
  rcases Int.lt_trichotomy c 0 with h1 | h1 | h1
  ·have:=Jz (show c <= -1 by omega) (show 0<=P by omega);omega
  ·exact h1
  ·have:=Jz (show 1<=c by omega) (show 0<=P by omega);omega
 rw [hc0] at hc;omega
theorem GF {P : Int} (hP : 0<P) {M : Nat} {x y : Int} (hx0 : 0<=x) (hx1 : x<P ^ M) (hy0 : 0<=y) (hy1 : y<P ^ M) (h : Cg P (dV P M x) (dV P M y)) : x=y:=by
 have e : bq x P M=bq y P M:=by refine fQ (by rw [bN,bN]) λi _=>?_;have h1:=dC.bq hP M x i;have h2:=dC.bq hP M y i;exact Bp hP h1.1 h1.2 h2.1 h2.2 (h i)
 rw [<- nZ hP M x hx0 hx1,<- nZ hP M y hy0 hy1,e]
theorem b8 (c : Int) (l : Lz) : nth (c :: l) 0=c:=by simp [nth]
theorem bR (c : Int) (l : Lz) (i : Nat) : nth (c :: l) (i+1)=nth l i:=by simp [nth]
theorem gw {P : Int} (hP : 0<P) : ∀(M : Nat) (x y : Int),Cg P (dV P M (eh P M x y)) (λi=>dV P M x i+dV P M y i)
 | 0,x,y=>λi=>by simp [dV,bq,nth]
 | M+1,x,y=>λi=>by
  simp only [dV,eh];rw [oM _ _ _ (JK _ (by omega)) (JB _ hP),bq,bq];match i with
  | 0 =>
   rw [b8,b8,b8]
   have h1:=oo P (x+y)
   have h2:=oo P x
   have h3:=oo P y
   have h4:=Int.dvd_sub (Int.dvd_sub h1 h2) h3
   rwa [show (x+y) % P - (x+y) - (x % P - x) - (y % P - y)=(x+y) % P - (x % P+y % P) by omega] at h4
  | i+1 =>
   rw [bR,bR,bR]
   exact gw hP M (x / P) (y / P) i
theorem AG {P : Int} (hP : 0<P) : ∀(M : Nat) (x : Int),Cg P (dV P M (fK P M x)) (λi=>- dV P M x i)
 | 0,x=>λi=>by simp [dV,bq,nth]
 | M+1,x=>λi=>by
  simp only [dV,fK];rw [oM _ _ _ (JK _ (by omega)) (JB _ hP),bq];match i with
  | 0 =>
   rw [b8,b8]
   have h1:=oo P (P - x % P)
   have h4:=Mp h1 (Int.dvd_refl P)
   rwa [show (P - x % P) % P - (P - x % P)+P=(P - x % P) % P - - (x % P) by omega] at h4
  | i+1 =>
   rw [bR,bR]
   exact AG hP M (x / P) i
theorem nw (P : Int) : ∀(M : Nat),dV P M 0=λ_=>0
 | 0=>by funext i;simp [dV,bq,nth]
 | M+1=>by
  funext i;simp only [dV,bq];match i with
  | 0=>rw [b8];simp
  | i+1=>rw [bR];have:=congrFun (nw P M) i;simpa [dV] using this
theorem GL {P : Int} (hP : 2<=P) {M : Nat} (hM : 0<M) : dV P M 1=eV 0:=by
 obtain ⟨m,rfl⟩ : ∃m,M=m+1:=⟨M - 1,by omega⟩
 funext i;simp only [dV,bq];match i with
 | 0=>rw [b8];simp [eV];exact MK (by omega) (by omega)
 | i+1 =>
  rw [bR,Mh (by omega) (by omega)]
  have:=congrFun (nw P m) i
  simpa [dV,eV] using this
theorem E5 {out : Lz} {M i : Nat} (hl : out.length=M) (hi : i<M) : nth (shl out) i=if i=0 then 0 else nth out (i - 1):=by
 match i with
 | 0=>simp [shl,nth]
 | i+1 =>
  rw [shl,bR,I5 (by omega)]
  simp only [nth,Jc,Le]
  rw [I6 (by omega)];rfl
theorem tu {P : Int} (hP : 0<P) (low a b : Lz) {M : Nat} (ha : a.length=M) : ∀k,k<=M ->
  Cg P (nth (eC P low a b M k)) (λi=>sm k (λj=>nth b (M - k+j) * fh M (nth low) j (nth a) i))
 | 0,_=>λi=>by
  have e : nth (eC P low a b M 0) i=0:=by simp only [eC,nth,Jc,JX];split <;> rfl
  rw [e];simp [sm]
 | k+1,hk=>by
  have ih:=EO (M:=M) (low:=nth low) (tu hP low a b ha k (by omega));have e1 : (λi=>sm (k+1) (λj=>nth b (M - (k+1)+j) * fh M (nth low) j (nth a) i)) =
    λi=>sC M (nth low) (λi=>sm k (λj=>nth b (M - k+j) * fh M (nth low) j (nth a) i)) i+nth b (M - 1 - k) * nth a i:=by
   funext i;rw [Dx,show M - (k+1)+0=M - 1 - k by omega];have e2:=congrFun (uu (M:=M) (low:=nth low) 1 k (λj i=>nth b (M - k+j) * fh M (nth low) j (nth a) i)) i;have e3 : sC M (nth low) (λi=>sm k (λj=>nth b (M - k+j) * fh M (nth low) j (nth a) i)) i=sm k (λj=>nth b (M - (k+1)+(j+1)) * fh M (nth low) (j+1) (nth a) i):=by refine Eq.trans e2 (bZ λj _=>?_);rw [jL,show M - (k+1)+(j+1)=M - k+j by omega];rfl
   rw [e3];show nth b (M - 1 - k) * nth a i+_=_;omega
  rw [e1];intro i;show P ∣ nth (eC P low a b M (k+1)) i - (sC M (nth low) (λi=>sm k (λj=>nth b (M - k+j) * fh M (nth low) j (nth a) i)) i+nth b (M - 1 - k) * nth a i);by_cases hi : i<M
  ·rw [eC,lq _ _ _ _ _ _ _ hi,Bl,E5 (ij ..) hi];have h1:=ih i;generalize hv : sC M (nth low) (λi=>sm k (λj=>nth b (M - k+j) * fh M (nth low) j (nth a) i)) i=z at *;simp only [sC,I6 hi] at h1;generalize (if i=0 then (0 : Int) else nth (eC P low a b M k) (i - 1))=u at *;generalize nth (eC P low a b M k) (M - 1)=t at *;generalize nth b (M - 1 - k) * nth a i=c at *;have h2:=oo P (u+(P - t) * nth low i+c);have h3 : P ∣ P * nth low i:=Int.dvd_mul_right _ _;have h4:=Mp (Mp h2 h1) h3;rw [Ms] at h4 ⊢;rwa [show (u+(P * nth low i - t * nth low i)+c) % P - (u+(P * nth low i - t * nth low i)+c)+(u - t * nth low i - z)+P * nth low i=(u+(P * nth low i - t * nth low i)+c) % P - (z+c) by omega] at h4
  ·rw [js (by rw [ij];omega),js (l:=a) (by omega)];have e2 : sC M (nth low) (λi=>sm k (λj=>nth b (M - k+j) * fh M (nth low) j (nth a) i)) i=0:=DN _ i (by omega);rw [e2];simp
theorem fR {P : Int} (hP : 0<P) (M : Nat) (mod : Lz) (x y : Int) : Cg P (dV P M (dj P M mod x y)) (gd M (nth (lW M mod)) (dV P M x) (dV P M y)):=by
 have h:=tu hP (lW M mod) (bq x P M) (bq y P M) (bN P M x) M (IZ _);have e : dV P M (dj P M mod x y)=nth (eC P (lW M mod) (bq x P M) (bq y P M) M M):=by unfold dV dj;have:=lK (P:=P) (eC P (lW M mod) (bq x P M) (bq y P M) M M) (dC.eC hP _ _ _ _ _);rw [ij] at this;rw [this]
 rw [e,lC (nS P M x) (nS P M y)];refine h.trans (Cg.of_eq ?_);funext i;simp only [gd];refine bZ λj _=>?_;rw [show M - M+j=j by omega];rfl
structure ku (P : Int) (M : Nat) : Prop where
 p : 2<=P
 m : 0<M
def e9 (P : Int) (M : Nat) (x : Int) : Prop:=0<=x/\x<P ^ M
variable {P : Int} {M : Nat} {mod : Lz}
theorem e9.ext (h : ku P M) {x y : Int} (hx : e9 P M x) (hy : e9 P M y) (e : Cg P (dV P M x) (dV P M y)) : x=y:=GF (by have:=h.p;omega) hx.1 hx.2 hy.1 hy.2 e
theorem fE (h : ku P M) (x y : Int) : e9 P M (dj P M mod x y):=uV (by have:=h.p;omega) M mod x y
theorem gO (h : ku P M) (x y : Int) : e9 P M (eh P M x y):=vQ (by have:=h.p;omega) M x y
theorem uC (h : ku P M) (x : Int) : e9 P M (fK P M x):=pT (by have:=h.p;omega) M x
theorem one_lt_pow (h : ku P M) : 1<P ^ M:=by
 have h1:=dE (P:=P) (by have:=h.p;omega) h.m;have h2:=h.p;have h3 : P ^ (0+1)=P:=by rw [JP,KE,Ld]
 have h4 : P ^ (0+1)<=P ^ M:=h1;omega
theorem uw (h : ku P M) : e9 P M 1:=⟨by omega,one_lt_pow h⟩
theorem ui (h : ku P M) : e9 P M 0:=⟨by omega,by have:=one_lt_pow h;omega⟩
theorem ku.pos (h : ku P M) : 0<P:=by have:=h.p;omega
theorem iW (h : ku P M) (x y : Int) : dj P M mod x y=dj P M mod y x :=
 (fE h x y).ext h (fE h y x) (((fR h.pos M mod x y).trans (Cg.of_eq (lC (nS _ _ _) (nS _ _ _)))).trans (fR h.pos M mod y x).symm)
theorem qt (h : ku P M) (x y z : Int) : dj P M mod (dj P M mod x y) z=dj P M mod x (dj P M mod y z):=by refine (fE h _ z).ext h (fE h x _) ?_;refine (fR h.pos M mod _ z).trans (((vq (fR h.pos M mod x y) (Cg.refl _ _)).trans (Cg.of_eq (Ag (nS _ _ _) (nS _ _ _) (nS _ _ _)))).trans ?_);exact ((fR h.pos M mod x _).trans (vq (Cg.refl _ _) (fR h.pos M mod y z))).symm
theorem gV (h : ku P M) {x : Int} (hx : e9 P M x) : dj P M mod 1 x=x:=by refine (fE h 1 x).ext h hx ((fR h.pos M mod 1 x).trans (Cg.of_eq ?_));rw [GL h.p h.m,Ee h.m (nS _ _ _)]
theorem oc (h : ku P M) (x : Int) : dj P M mod x 0=0:=by refine (fE h x 0).ext h (ui h) ((fR h.pos M mod x 0).trans (Cg.of_eq ?_));rw [nw];funext i;simp only [gd];rw [bZ (g:=λ_=>0) λj _=>by rw [yw];simp,jl]
theorem Dd (h : ku P M) (x y z : Int) : dj P M mod x (eh P M y z)=eh P M (dj P M mod x y) (dj P M mod x z):=by refine (fE h x _).ext h (gO h _ _) ((fR h.pos M mod x _).trans ?_);refine (vq (Cg.refl _ _) (gw h.pos M y z)).trans ((Cg.of_eq (sJ _ _ _)).trans ?_);exact ((gw h.pos M _ _).trans (Cg.add (fR h.pos M mod x y) (fR h.pos M mod x z))).symm
theorem Cn (h : ku P M) (x y : Int) : eh P M x y=eh P M y x:=by refine (gO h x y).ext h (gO h y x) ((gw h.pos M x y).trans ((Cg.of_eq ?_).trans (gw h.pos M y x).symm));funext i;show _=_;omega
theorem zR (h : ku P M) (x y z : Int) : eh P M (eh P M x y) z=eh P M x (eh P M y z):=by refine (gO h _ z).ext h (gO h x _) ?_;refine (gw h.pos M _ z).trans ((Cg.add (gw h.pos M x y) (Cg.refl _ _)).trans ((Cg.of_eq ?_).trans ((gw h.pos M x _).trans (Cg.add (Cg.refl _ _) (gw h.pos M y z))).symm));funext i;show _=_;omega
theorem Ft (h : ku P M) {x : Int} (hx : e9 P M x) : eh P M x 0=x:=by refine (gO h x 0).ext h hx ((gw h.pos M x 0).trans (Cg.of_eq ?_));rw [nw];funext i;simp
theorem Bt (h : ku P M) (x : Int) : eh P M x (fK P M x)=0:=by refine (gO h x _).ext h (ui h) ((gw h.pos M x _).trans ((Cg.add (Cg.refl _ _) (AG h.pos M x)).trans (Cg.of_eq ?_)));rw [nw];funext i;show _=_;omega
end
section
variable {P : Program} {ops : Array Oper} {Q : Exit->Act->World->Prop} {md : Region.Mode} {S : World->Prop} {n : Nat}
def gM (P : Program) (md : Region.Mode) (ops : Array Oper) (Q : Exit->Act->World->Prop) (S : World->Prop) (n : Nat) : Nat->Array Bool->Act->World->Prop
 | 0,listed,a,w=>Region.ready md ops listed=[]/\Q .normal a w
 | fuel+1,listed,a,w =>
  (Region.ready md ops listed=[]->Q .normal a w) /\
  ∀i ∈ Region.ready md ops listed,wpOp P ops Q i (λa' w'=>(i<n->S w')/\gM P md ops Q S n fuel (listed.setIfInBounds i true) a' w') a w
theorem qD : ∀(fuel : Nat) (listed : Array Bool) (a : Act) (w : World),gM P md ops Q S n fuel listed a w->wpAny P md ops Q fuel listed a w
 | 0,_,_,_,h=>h
 | fuel+1,_,_,_,h=>⟨h.1,λi hi=>wpOp_mono (λa' w' h'=>qD fuel _ a' w' h'.2) (h.2 i hi)⟩
theorem vg {i : Nat} {oi : Oper} {v : Value} (hi : ops[i]? = some oi) (hsel : ∀(j : Nat) (o : Oper) cs b,ops[j]? = some o->o.op ≠ .select cs b)
  (hQ : ∀c a w,Q (.panic c) (a.put oi.dst v) w->Q (.panic c) a w) (hs : Region.sinkB md ops n=true) (hc : Region.chainB md ops n=true) (hn : n<ops.size) (hin : i<n) :
  ∀(fuel : Nat) (listed : Array Bool) (a : Act) (w : World),HeadInv md ops n listed ->
   (∀j oj,ops[j]? = some oj->j ≠ i->listed.getD j true=false->(∀e ∈ oj.after,Region.binds md e=true->e.on ≠ i)->oi.apart ops oj=true) ->
   i ∈ Region.ready md ops listed->YieldsIf P ops S oi v a->S w ->
   gM P md ops Q S n fuel (listed.setIfInBounds i true) (a.put oi.dst v) w->gM P md ops Q S n (fuel+1) listed a w:=by
 intro fuel;induction fuel with
 | zero =>
  intro listed a w inv _ hr hy hS H
  refine ⟨λh=>(by rw [h] at hr;cases hr),λj hj=>?_⟩
  by_cases hji : j=i
  ·subst hji;exact hy.wpOp hi hS ⟨λ_=>hS,H⟩
  ·have:=ready_mono hj hji
   rw [H.1] at this
   cases this
 | succ fuel ih =>
  intro listed a w inv hfree hr hy hS H
  have hun:=(mem_ready.1 hr).1
  refine ⟨λh=>(by rw [h] at hr;cases hr),λj hj=>?_⟩
  by_cases hji : j=i
  ·subst hji;exact hy.wpOp hi hS ⟨λ_=>hS,H⟩
  ·have hjn : j<n:=by
    rcases JV j n with h | h
    ·exact h
    ·exact absurd hj (tail_waits hs hc hn inv _ i rfl hin hun j h)
   have h1:=H.2 j (ready_mono hj hji)
   obtain ⟨hjun,oj,hoj,hall⟩:=mem_ready.1 hj
   have hnot : ∀e ∈ oj.after,Region.binds md e=true->e.on ≠ i:=λe he hb heq=>by have h1:=hall e he hb;rw [heq,getD_both hun] at h1;cases h1
   have h2:=wpOp_putIf hoj (hfree j oj hoj hji hjun hnot) (λcs b=>hsel i oi cs b hi) (λcs b=>hsel j oj cs b hoj) hQ hy h1
   have hfree' : ∀k ok,ops[k]? = some ok->k ≠ i->(listed.setIfInBounds j true).getD k true=false ->
     (∀e ∈ ok.after,Region.binds md e=true->e.on ≠ i)->oi.apart ops ok=true:=λk ok hk hki hku hno=>by
    refine hfree k ok hk hki ?_ hno;by_cases hjk : j=k
    ·subst hjk;exact hjun
    ·rw [getD_set_ne true hjk] at hku;exact hku
   refine wpOp_mono (λa' w' h3=>?_) h2
   have hSw:=h3.2.1 hjn
   refine ⟨λ_=>hSw,ih (listed.setIfInBounds j true) a' w' (inv.set hj hjn) hfree' (ready_mono hr (Ne.symm hji)) h3.1 hSw ?_⟩
   rw [Array.setIfInBounds_comm _ _ hji]
   exact h3.2.2
theorem aW {i : Nat} {oi : Oper} {v : Value} {fuel : Nat} {listed : Array Bool} {a : Act} {w : World} (hi : ops[i]? = some oi)
  (hs : (Region.noSelect ops && (Region.sinkB md ops n && (Region.chainB md ops n && (decide (n<ops.size) && decide (i<n)))))=true) (hf : Region.free md ops listed i=true) (hr : (Region.ready md ops listed).contains i=true)
  (hQ : ∀c a w,Q (.panic c) (a.put oi.dst v) w->Q (.panic c) a w) (hy : YieldsIf P ops S oi v a) (hI : HeadInv md ops n listed/\S w)
  (h : HeadInv md ops n (listed.setIfInBounds i true)/\S w->gM P md ops Q S n fuel (listed.setIfInBounds i true) (a.put oi.dst v) w) : gM P md ops Q S n (fuel+1) listed a w:=by
 simp only [Jo,JH] at hs;have hr' : i ∈ Region.ready md ops listed:=by simpa using hr
 exact vg hi (Region.noSelect_spec hs.1) hQ hs.2.1 hs.2.2.1 hs.2.2.2.1 hs.2.2.2.2 fuel listed a w hI.1 (Region.free_spec hi hf) hr' hy hI.2 (h ⟨hI.1.set hr' hs.2.2.2.2,hI.2⟩)
theorem yN {i : Nat} {fuel : Nat} {listed : Array Bool} {a : Act} {w : World} (hr : Region.ready md ops listed=[i]) (hin : i<n) (hI : HeadInv md ops n listed)
  (h : wpOp P ops Q i (λa' w'=>S w'/\(HeadInv md ops n (listed.setIfInBounds i true)/\S w'->gM P md ops Q S n fuel (listed.setIfInBounds i true) a' w')) a w) : gM P md ops Q S n (fuel+1) listed a w :=
 ⟨λh0=>(by rw [hr] at h0;cases h0),λj hj=>by rw [hr,JN] at hj;subst hj;exact wpOp_mono (λa' w' h'=>⟨λ_=>h'.1,h'.2 ⟨hI.set (by rw [hr];simp) hin,h'.1⟩⟩) h⟩
theorem wV {i : Nat} {fuel : Nat} {listed : Array Bool} {a : Act} {w : World} (hr : Region.ready md ops listed=[i]) (hin : n<=i) (hd : Region.ready md ops (listed.setIfInBounds i true)=[])
  (h : wpOp P ops Q i (λa' w'=>Q .normal a' w') a w) : gM P md ops Q S n (fuel+1) listed a w :=
 ⟨λh0=>(by rw [hr] at h0;cases h0),λj hj=>by
  rw [hr,JN] at hj;subst hj;refine wpOp_mono (λa' w' h'=>⟨λh1=>by omega,?_⟩) h;cases fuel with
  | zero=>exact ⟨hd,h'⟩
  | succ f=>exact ⟨λ_=>h',by rw [hd];simp⟩⟩
theorem lH {i : Nat} {o : Oper} {fuel : Nat} {listed : Array Bool} {a : Act} {w : World} (hr : Region.ready md ops listed=[i]) (hin : i<n) (hI : HeadInv md ops n listed) (ho : ops[i]? = some o)
  (h : ∀K' : Act->World->Prop,Shut (∀a w,S w->(HeadInv md ops n (listed.setIfInBounds i true)/\S w->gM P md ops Q S n fuel (listed.setIfInBounds i true) a w)->K' a w)->if Region.wanted o (yielded ops a.tmps)=true then Oper.wp P o a w K' Q else K' (a.put o.dst undef) w) :
  gM P md ops Q S n (fuel+1) listed a w :=
 yN hr hin hI (wpOp_step ho λK' hK=>h K' λa w hS hW=>hK a w ⟨hS,hW⟩)
theorem rS {i : Nat} {o : Oper} {fuel : Nat} {listed : Array Bool} {a : Act} {w : World} (hr : Region.ready md ops listed=[i]) (hin : n<=i) (hd : Region.ready md ops (listed.setIfInBounds i true)=[]) (ho : ops[i]? = some o)
  (h : ∀K' : Act->World->Prop,Shut (∀a w,Q .normal a w->K' a w)->if Region.wanted o (yielded ops a.tmps)=true then Oper.wp P o a w K' Q else K' (a.put o.dst undef) w) :
  gM P md ops Q S n (fuel+1) listed a w :=
 wV hr hin hd (wpOp_step ho λK' hK=>h K' λa w hq=>hK a w hq)
theorem DV : HeadInv md ops n (Array.replicate ops.size false) :=
 ⟨by simp,λj oj _ hl=>(by rw [getD_replicate_false] at hl;cases hl),λt _ ht=>by have:=getD_replicate_false ops.size t;exact getD_in (by simpa using ht) this⟩
theorem o4 {id : Nat} {a : Act} {w : World} (S : World->Prop) (n : Nat) (hm : P.follows .mixedOrders=true) (hS : S w.drew)
  (h : HeadInv .any ops n (Array.replicate ops.size false)/\S w.drew->gM P .any ops Q S n ops.size (Array.replicate ops.size false) a w.drew) : (Code.region id ops true).wp P Q a w :=
 wp_region_any hm (qD _ _ _ _ (h ⟨DV,hS⟩))
end
section
structure BM (cl : LN->Nat->Prop) : Prop where
 mem : ∀l x,x ∈ l->cl l x
 mono : ∀l l',(∀x ∈ l,cl l' x)->∀y,cl l y->cl l' y
 exch : ∀l x y,cl (x :: l) y->¬ cl l y->cl (y :: l) x
inductive Rk (cl : LN->Nat->Prop) : LN->Nat->Prop
 | nil : Rk cl [] 0
 | dep {l n} (x : Nat) : cl l x->Rk cl l n->Rk cl (x :: l) n
 | ind {l n} (x : Nat) : ¬ cl l x->Rk cl l n->Rk cl (x :: l) (n+1)
variable {cl : LN->Nat->Prop}
theorem Rk.ex (cl : LN->Nat->Prop) : ∀l,∃n,Rk cl l n
 | []=>⟨0,.nil⟩
 | x :: l=>by
  obtain ⟨n,h⟩:=Rk.ex cl l;by_cases hx : cl l x
  ·exact ⟨n,.dep x hx h⟩
  ·exact ⟨n+1,.ind x hx h⟩
theorem Rk.uniq {l : LN} {n : Nat} (h : Rk cl l n) : ∀ {m},Rk cl l m->n=m:=by
 induction h with
 | nil=>intro m h;cases h;rfl
 | dep x hx _ ih =>
  intro m h
  cases h with
  | dep _ _ h=>exact ih h
  | ind _ hn _=>exact absurd hx hn
 | ind x hx _ ih =>
  intro m h
  cases h with
  | dep _ hn _=>exact absurd hn hx
  | ind _ _ h=>rw [ih h]
theorem BM.sub (h : BM cl) {l l' : LN} (hs : ∀x ∈ l,x ∈ l') {y : Nat} (hy : cl l y) : cl l' y:=h.mono l l' (λx hx=>h.mem l' x (hs x hx)) y hy
theorem BM.drop (h : BM cl) {l : LN} {x y : Nat} (hx : cl l x) (hy : cl (x :: l) y) : cl l y :=
 h.mono (x :: l) l (λz hz=>by
  rcases List.mem_cons.1 hz with rfl | hz
  ·exact hx
  ·exact h.mem l z hz) y hy
theorem Rk.swap (h : BM cl) {l : LN} {x y n : Nat} (hr : Rk cl (x :: y :: l) n) : Rk cl (y :: x :: l) n:=by
 have up : ∀ {z u},cl l z->cl (u :: l) z:=λhz=>h.sub (λx hx=>by simp [hx]) hz;cases hr with
 | dep _ hx hr =>
  cases hr with
  | dep _ hy hr=>exact .dep y (up hy) (.dep x (h.drop hy hx) hr)
  | ind _ hy hr =>
   by_cases hxl : cl l x
   ·exact .ind y (λhc=>hy (h.drop hxl hc)) (.dep x hxl hr)
   ·exact .dep y (h.exch l y x hx hxl) (.ind x hxl hr)
 | ind _ hx hr =>
  cases hr with
  | dep _ hy hr=>exact .dep y (up hy) (.ind x (λhc=>hx (up hc)) hr)
  | ind _ hy hr =>
   have hxl : ¬ cl l x:=λhc=>hx (up hc)
   exact .ind y (λhc=>hx (h.exch l x y hc hy)) (.ind x hxl hr)
theorem BM.perm (h : BM cl) {l l' : LN} (hp : l.Perm l') {x : Nat} : cl l x->cl l' x:=h.sub λy hy=>hp.mem_iff.1 hy
theorem Rk.perm (h : BM cl) {l l' : LN} (hp : l.Perm l') : ∀ {n},Rk cl l n->Rk cl l' n:=by
 induction hp with
 | nil=>intro n hr;exact hr
 | cons x hp ih =>
  intro n hr
  cases hr with
  | dep _ hx hr=>exact .dep x (h.perm hp hx) (ih hr)
  | ind _ hx hr=>exact .ind x (λhc=>hx (h.perm hp.symm hc)) (ih hr)
 | swap x y l=>intro n hr;exact hr.swap h
 | trans _ _ ih1 ih2=>intro n hr;exact ih2 (ih1 hr)
theorem Rk.yM (h : BM cl) {l : LN} {n : Nat} (hr : Rk cl l n) : ∀l',(∀x ∈ l',cl l x)->Rk cl (l' ++ l) n
 | [],_=>hr
 | x :: l',hx=>.dep x (h.sub (λy hy=>List.mem_append.2 (.inr hy)) (hx x (by simp))) (Rk.yM h hr l' λy hy=>hx y (by simp [hy]))
theorem Rk.grow {l : LN} {m : Nat} (hr : Rk cl l m) : ∀(l' : LN) {n : Nat},Rk cl (l' ++ l) n->m<=n
 | [],n,hn=>by rw [hr.uniq hn];exact IZ _
 | x :: l',n,hn=>by
  cases hn with
  | dep _ _ hn=>exact Rk.grow hr l' hn
  | ind _ _ hn=>exact Nat.le_succ_of_le (Rk.grow hr l' hn)
theorem Rk.le (h : BM cl) {l l' : LN} {m n : Nat} (hm : Rk cl l m) (hn : Rk cl l' n) (hs : ∀x ∈ l,cl l' x) : m<=n :=
 hm.grow l' ((hn.yM h l hs).perm h List.perm_append_comm)
theorem Rk.same (h : BM cl) {l l' : LN} {m n : Nat} (hm : Rk cl l m) (hn : Rk cl l' n) (hs : ∀x,x ∈ l ↔ x ∈ l') : m=n :=
 Nat.le_antisymm (hm.le h hn λx hx=>h.mem _ _ ((hs x).1 hx)) (hn.le h hm λx hx=>h.mem _ _ ((hs x).2 hx))
end
def dp : Nat->Nat->Nat
 | _,0=>1
 | 0,_+1=>0
 | n+1,k+1=>dp n k+dp n (k+1)
theorem uR (k : Nat) : ∀n,((List.range n).map λi=>dp i k).sum=dp n (k+1)
 | 0=>by simp [dp]
 | n+1=>by rw [Kz,JR,M6,uR k n];simp [dp];omega
theorem rM : ∀n k,n<k->dp n k=0
 | 0,k+1,_=>by rw [dp]
 | n+1,k+1,h=>by rw [dp,rM n k (by omega),rM n (k+1) (by omega)]
theorem qg : ∀n,dp n n=1
 | 0=>by rw [dp]
 | n+1=>by rw [dp,qg n,rM n (n+1) (by omega)]
theorem iO (n : Nat) : dp n 0=1:=by cases n <;> rw [dp]
theorem C5 (n k : Nat) : dp (n+1) (k+1)=dp n k+dp n (k+1):=by rw [dp]
theorem mQ : ∀n k,(k+1) * dp (n+1) (k+1)=(n+1) * dp n k
 | 0,0=>by simp [dp]
 | 0,k+1=>by simp [dp]
 | n+1,0=>by have h:=mQ n 0;rw [iO] at h;rw [C5 (n+1) 0,iO];omega
 | n+1,k+1=>by
  have h1:=mQ n k;have h2:=mQ n (k+1);rw [dp,M4,h2];have h3 : dp (n+1) (k+1)=dp n k+dp n (k+1):=by rw [dp]
  have e : (k+1+1) * dp (n+1) (k+1)=(k+1) * dp (n+1) (k+1)+dp (n+1) (k+1):=by rw [L3,Nat.one_mul]
  rw [e,h1];have e2 : (n+1+1) * dp (n+1) (k+1)=(n+1) * dp (n+1) (k+1)+dp (n+1) (k+1):=by rw [L3,Nat.one_mul]
  rw [e2];have e3 : (n+1) * dp (n+1) (k+1)=(n+1) * dp n k+(n+1) * dp n (k+1):=by rw [h3,M4]
  rw [e3];omega
theorem j8 : ∀n k,k<=n->1<=dp n k
 | n,0,_=>by rw [iO];exact IZ _
 | n+1,k+1,h=>by rw [dp];have:=j8 n k (by omega);omega
theorem Dz {n k : Nat} : dp n k<=dp (n+1) (k+1):=by rw [dp];omega
theorem nF : ∀n k,k<=n->dp n k=dp n (n - k)
 | 0,0,_=>rfl
 | n+1,0,_=>by rw [iO,ML,qg]
 | n+1,k+1,h=>by
  rw [show n+1 - (k+1)=n - k by omega];by_cases e : k=n
  ·subst e;rw [qg,KK,iO]
  ·obtain ⟨d,hd⟩ : ∃d,n - k=d+1:=⟨n - k - 1,by omega⟩
   rw [hd,dp,dp,nF n k (by omega),nF n (k+1) (by omega),hd,show n - (k+1)=d by omega];omega
def pz (n k : Nat) : Int:=if dp n k<=65536 then dp n k else 0
def ph (n k : Nat) : Int:=if dp n k<=65536 then 0 else 8
theorem DC (n k i : Nat) : dp (n - k+i) i * (n - k+(i+1)) / (i+1)=dp (n - k+(i+1)) (i+1):=by have h:=mQ (n - k+i) i;rw [<- KF,LM,<- h,Kh _ (by omega)]
theorem oL {n k : Nat} (hk : k<=n) : ∀d i,i+d=k->dp (n - k+i) i<=dp n k
 | 0,i,h=>by
  obtain rfl : i=k:=by omega
  rw [show n - i+i=n by omega];exact IZ _
 | d+1,i,h=>by refine Ji ?_ (oL hk d (i+1) (by omega));rw [<- KF];exact Dz
theorem Fu {c N i c' : Nat} (hi : 1<=i) (h : c * N=i * c') (hc : 1<=c) : 1<=i / Nat.gcd c i/\c / Nat.gcd c i * (N / (i / Nat.gcd c i))=c':=by
 obtain ⟨g,hg⟩ : ∃g,Nat.gcd c i=g:=⟨_,rfl⟩
 have hgp : 0<g:=by rw [<- hg];exact L6 _ (by omega)
 obtain ⟨a,ha⟩ : g ∣ c:=by rw [<- hg];exact Nat.gcd_dvd_left c i
 obtain ⟨b,hb⟩ : g ∣ i:=by rw [<- hg];exact MM c i
 have hcop : Nat.Coprime b a:=by have h1:=Nat.coprime_div_gcd_div_gcd (m:=c) (n:=i) (by rw [hg];exact hgp);rw [hg,ha,hb,Kh _ hgp,Kh _ hgp] at h1;exact Nat.Coprime.symm h1
 rw [hg,ha,hb,Kh _ hgp,Kh _ hgp];have hbp : 1<=b:=by
  rcases JS b with e | e
  ·rw [e] at hb;omega
  ·exact e
 have h2 : a * N=b * c':=by
  have h3 : g * (a * N)=g * (b * c'):=by rw [<- L7,<- L7,<- ha,<- hb];exact h
  exact LW hgp h3
 have h4 : b ∣ N:=hcop.dvd_of_dvd_mul_left (by rw [h2];exact Nat.dvd_mul_right b c');obtain ⟨t,ht⟩:=h4;refine ⟨hbp,?_⟩;rw [ht,Kh _ hbp];rw [ht,<- L7,LM a b,L7] at h2;exact LW hbp h2
def bF (l : Lz) : Nat->Int
 | 0=>1
 | k+1=>bF l k * nth l k
def pr (most : Int) (l : Lz) : Int:=if bF l l.length<=most then bF l l.length else 0
def nV (most : Int) (l : Lz) : Int:=if bF l l.length<=most then 0 else 8
theorem qq {l : Lz} (h : ∀x ∈ l,1<=x) : ∀k,k<=l.length->1<=bF l k
 | 0,_=>by simp [bF]
 | k+1,hk=>by have ih:=qq h k (by omega);have hx:=h _ (aK (show k<l.length by omega));rw [bF];have:=Ka ih hx (by omega) (by omega);omega
theorem la {l : Lz} (h : ∀x ∈ l,1<=x) (i : Nat) : ∀d,i+d<=l.length->bF l i<=bF l (i+d)
 | 0,_=>LZ _
 | d+1,hd=>by have ih:=la h i d (by omega);have hp:=qq h (i+d) (by omega);have hx:=h _ (aK (show i+d<l.length by omega));rw [<- KF,bF];have:=Ka (LZ (bF l (i+d))) hx (by omega) (by omega);omega
theorem div_lt_iff {most x o : Int} (hx : 1<=x) (ho : 0<=o) (hm : 0<=most) : most.tdiv x<o ↔ most<o * x:=by rw [JT hm];exact Int.ediv_lt_iff_lt_mul (by omega)
def Nh:=@Below.next
def Ni:=@Ints.own
def Nk:=@Below.app
def Nl:=@Below.bJ
def Np:=@Ints.news
def Nr:=@Ints.nil
def Nx:=@Pl.own
def NC:=@Cg.of_eq
def NI:=@Cg.refl
def NM:=@dC.kS
def NQ:=@cJ.jy
def NR:=@Cg.trans
end Go.Proofs.YtcfmiocdlcapoaaGreat
