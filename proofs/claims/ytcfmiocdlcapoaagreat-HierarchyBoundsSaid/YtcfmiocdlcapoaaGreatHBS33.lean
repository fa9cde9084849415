import Derived.Test.YtcfmiocdlcapoaaGreatHBS32
import Derived.Test.YtcfmiocdlcapoaaGreatHBS31
namespace Go.Proofs.YtcfmiocdlcapoaaGreat
set_option linter.all false
set_option maxRecDepth 100000
set_option maxHeartbeats 8000000
open Go.RowKit Go.Proofs.Tryz
theorem bf.other {w : World} {b : Nat} {cs : List Value} (h : bf w b cs) {g i : Nat} (v : Value) (hb : b ≠ g) : bf (w.setCell ⟨g,i,none⟩ v) b cs:=by
 refine ⟨by rw [World.size_setCell];exact h.1,λj x hx=>?_,λj=>?_⟩
 ·rw [MA _ _ _ _ (by simp <;> omega)];exact h.2.1 j x hx
 ·rw [MW];exact h.2.2 j
def KO (T : ZZ) (er : Int) (V : World) (e : Ending) (w' : World) : Prop:=∃av nv cv R,e = .returned (.tuple #[.agg #[.slice av nv cv],.int .i64 er])/\aY w' V.heap.size av nv cv R T/\Rs V w'
theorem pj.LH {V : Int × ZZ} {w w' : World} {e : Ending} (h : pj V w e w') : KO (if V.1=0 then V.2 else []) V.1 w e w':=by
 obtain ⟨hb,⟨h1,rfl⟩ | ⟨h1,ar,cr,R,rfl,hO⟩⟩:=h
 ·rw [Mh h1];exact ⟨none,0,0,[],rfl,aY.JB _ _,hb⟩
 ·rw [Mg h1];exact ⟨ar,_,cr,R,by rw [h1],hO,hb⟩
theorem IQ : (prog.info? 47).map (λi=>(i.zero,i.size,i.bytes))=some (some (.agg #[.slice none 0 0]),1,24):=by kernel_rfl
theorem xw {P : Program} {w : World} {ops : Array Oper} {rest : List Oper} {o : Oper} {ac : Act} {Q : Exit->Act->World->Prop}
  (hg : o.guard=none) (s x : Operand) (t e : TypeId) (hop : o.op = .call { callee:=.builtin .append,args:=#[s,x],argTypes:=#[t,t] }) (z : Value) (bytes : Nat)
  (h1 : P.underlying t=some (.slice e)) (h2 : (P.info? e).map (λi=>(i.zero,i.size,i.bytes))=some (some z,1,bytes)) (hz : z.cells.size=1)
  (B : Nat) (a : OA) (n c : Nat) (xs : List Value) (hs : ac.eval s = .slice a n c) (hown : w.ownsRow B e 1 (.slice a n c) n xs)
  (ad : Addr) (cc : Nat) (u : Value) (hx : ac.eval x = .slice (some ad) 1 cc) (hu : w.cell? ad=some u) (h1c : u.oneCell'=true)
  (b2 : (n+1) * bytes<=140737488355328) (b3 : n+1<=maxLen) (hB : B<=w.heap.size)
  (hK : ∀a' c' w',w'.ownsRow B e 1 (.slice a' (n+1) c') (n+1) (xs ++ [u])->w.grownBy w' (Value.slice a n c).ownBlock->(∀b,b<w.heap.size->cF a b->cF a' b)->wpList P ops Q rest (ac.put o.dst (.slice a' (n+1) c')) w') :
  wpList P ops Q (o :: rest) ac w:=by
 obtain ⟨i,hi,hz0,hz1,hz2⟩:=info_parts h2;refine wpList_append_own_at w hg s x t hop B e i z 1 bytes h1 hi hz0 hz1 hz2 hz (by decide) _ n xs hs hown ad 1 cc [u] hx rfl ?_ ?_ b3 b2 hB λv' w' hown' hgr _ hat=>?_
 ·intro j v hj;match j,hj with
  | 0,hj=>simp at hj;subst hj;simpa [Addr.add] using hu
 ·intro v hv;simp at hv;subst hv;exact h1c
 ·obtain ⟨a',c',rfl,_⟩:=Q0 hown';refine hK a' c' w' hown' hgr λb hb hapt=>?_;have h:=hapt.own n c;rcases hat with h3 | h3
  ·exact Rl (n:=n+1) (c:=c') (by rw [h3];exact h)
  ·exact Rl (n:=n+1) (c:=c') (by rw [h3];intro h4;cases h4;omega)
structure TX where
 a : OA
 c : Nat
 T : ZZ
def JW (x : RX) : Value:=.slice x.a x.l.length x.c
def AM (y : TX) : Value:=.slice y.a y.T.length y.c
def CA (B Bo : Nat) (as' at' : OA) : Nat->Prop:=λb=>b<B\/b=Bo\/(as' ≠ none/\b=an as')\/(at' ≠ none/\b=an at')
structure jA (B : Nat) (V : World) (Bo : Nat) (as' : OA) (cs : Nat) (at' : OA) (ct : Nat) (ss : List RX) (tt : List TX) : Prop where
 bo : B<=Bo
 box : bf V Bo [.slice as' ss.length cs,.slice at' tt.length ct]
 so : V.ownsRow B 22 1 (.slice as' ss.length cs) ss.length (ss.map JW)
 tow : V.ownsRow B 47 1 (.slice at' tt.length ct) tt.length (tt.map AM)
 as1 : cF as' Bo
 at1 : cF at' Bo
 st : as'=none\/at'=none\/an as' ≠ an at'
 sx : ∀x ∈ ss,Ints V x.a x.l.length x.l/\(0<x.l.length->¬ CA B Bo as' at' (an x.a))
 tx : ∀y ∈ tt,gG (CA B Bo as' at') V y.a y.T.length y.T/\y.T.length<=y.c
theorem jA.ah {B : Nat} {V V' : World} {Bo : Nat} {as' : OA} {cs : Nat} {at' : OA} {ct : Nat} {ss : List RX} {tt : List TX} (h : jA B V Bo as' cs at' ct ss tt) (hb : Rs V V') : jA B V' Bo as' cs at' ct ss tt :=
 ⟨h.bo,h.box.ah hb,ba h.so hb,ba h.tow hb,h.as1,h.at1,h.st,λx hx=>⟨(h.sx x hx).1.ah hb,(h.sx x hx).2⟩,λy hy=>⟨(h.tx y hy).1.ah hb,(h.tx y hy).2⟩⟩
theorem jA.start {V : World} {Bo B : Nat} (hB : B<=Bo) (h : bf V Bo [.slice none 0 0,.slice none 0 0]) : jA B V Bo none 0 none 0 [] [] :=
 ⟨hB,h,bP,bP,.inl rfl,.inl rfl,.inl rfl,λx hx=>by simp at hx,λy hy=>by simp at hy⟩
theorem jA.lt {B : Nat} {V : World} {Bo : Nat} {as' : OA} {cs : Nat} {at' : OA} {ct : Nat} {ss : List RX} {tt : List TX} (h : jA B V Bo as' cs at' ct ss tt) : ∀b,CA B Bo as' at' b->b<V.heap.size:=λb hb=>by
 have h0:=h.bo;have h9:=h.box.1;rcases hb with h1 | rfl | ⟨h1,rfl⟩ | ⟨h1,rfl⟩
 ·omega
 ·exact h.box.1
 ·exact (aZ h.so h1).2
 ·exact (aZ h.tow h1).2
theorem mA {w w' : World} {B : Nat} {e : TypeId} {a : OA} {n c : Nat} {xs : List Value} (h : w.ownsRow B e 1 (.slice a n c) n xs) (hb : a ≠ none->w'.heap[an a]? = w.heap[an a]?) : w'.ownsRow B e 1 (.slice a n c) n xs:=by
 refine ⟨h.1,?_⟩;rcases h.2 with h2 | ⟨g,cap,cur,hv,hg,hh,r⟩
 ·exact .inl h2
 ·cases hv
  exact .inr ⟨g,_,cur,rfl,hg,by rw [show w'.heap[g]? = w.heap[g]? from hb (by simp)];exact hh,r⟩
theorem aw.Eb {w w' : World} {A A' : Nat->Prop} (h : aw w w' A A) (hs : ∀b,A' b->A b\/w.heap.size<=b) : aw w w' A A':=⟨h.os,h.tape,h.output,h.size,h.block,hs⟩
theorem gG.lV {A A' : Nat->Prop} {w w' : World} {a : OA} {n : Nat} {L : ZZ} (h : gG A w a n L) (hM : aw w w' A A') : gG A' w' a n L :=
 ⟨h.len,h.pl,h.max,λhn=>hM.not (h.rC.lt hn) (h.no hn),λi hi=>by obtain ⟨b,m,c,h1,h2,h3⟩:=h.cell i hi;exact ⟨b,m,c,hM.cell h1 (h.no (by omega)),h2.cQ hM h3,λhm=>hM.not (h2.lt hm) (h3 hm)⟩⟩
section
variable {B : Nat} {V w5 : World} {Bo : Nat} {as' : OA} {cs : Nat} {at' : OA} {ct : Nat} {ss : List RX} {tt : List TX} {o : Obj}
theorem jA.Le (h : jA B V Bo as' cs at' ct ss tt) {x : RX} (hx : Ints V x.a x.l.length x.l) (hxA : 0<x.l.length->¬ CA B Bo as' at' (an x.a)) {a5 : OA} {c5 : Nat}
  (hown : w5.ownsRow B 22 1 (.slice a5 (ss.length+1) c5) (ss.length+1) (ss.map JW ++ [JW x])) (hg : (V.alloc o).grownBy w5 (Value.slice as' ss.length cs).ownBlock) (hap : ∀b,b<(V.alloc o).heap.size->cF as' b->cF a5 b) :
  jA B (w5.setCell ⟨Bo,0,none⟩ (.slice a5 (ss.length+1) c5)) Bo a5 c5 at' ct (ss ++ [x]) tt/\aw V (w5.setCell ⟨Bo,0,none⟩ (.slice a5 (ss.length+1) c5)) (CA B Bo as' at') (CA B Bo a5 at')/\∀w0,Below B w0 V->Below B w0 (w5.setCell ⟨Bo,0,none⟩ (.slice a5 (ss.length+1) c5)):=by
 have hne : a5 ≠ none:=λe=>by
  obtain ⟨y,z,hv,hp⟩:=Q0 hown;cases hv
  have:=hp (by omega);rw [e] at this;cases this
 have hsz : (V.alloc o).heap.size=V.heap.size+1:=by simp
 have hM0 : aw V (w5.setCell ⟨Bo,0,none⟩ (.slice a5 (ss.length+1) c5)) (CA B Bo as' at') (CA B Bo as' at') :=
  ((QU (aB V o) _).trans (QZ hg λh1=>.inr (.inr (.inl ⟨h1,rfl⟩)))).trans (aw.tm (I:=CA B Bo as' at') (p:=⟨Bo,0,none⟩) _ (.inr (.inl rfl)) _)
 have hsub : ∀b,CA B Bo a5 at' b->CA B Bo as' at' b\/V.heap.size<=b:=λb hb=>by
  rcases hb with hb | hb | ⟨_,hb⟩ | hb
  ·exact .inl (.inl hb)
  ·exact .inl (.inr (.inl hb))
  ·rcases MU b V.heap.size with h1 | h1
   ·by_cases h2 : cF as' b
    ·rcases hap b (by omega) h2 with h3 | h3
     ·exact absurd h3 hne
     ·exact absurd hb.symm h3
    ·exact .inl (.inr (.inr (.inl ⟨λe=>h2 (.inl e),Mv λe=>h2 (.inr λe2=>e e2.symm)⟩)))
   ·exact .inr h1
  ·exact .inl (.inr (.inr (.inr hb)))
 have hM:=hM0.Eb hsub;have hblk : ∀b,b<V.heap.size->b ≠ Bo->cF as' b->(w5.setCell ⟨Bo,0,none⟩ (.slice a5 (ss.length+1) c5)).heap[b]? = V.heap[b]?:=λb h1 h2 h3 =>
  (MB _ _ _ _ h2).trans ((hg.block b (by omega) λe=>h3.own _ _ e.symm).trans (O4 _ _ _ h1))
 have hBo:=h.box.1;have hb5 : bf w5 Bo [.slice as' ss.length cs,.slice at' tt.length ct]:=by have hx:=h.box.alloc o;have hb9 : w5.heap[Bo]? = (V.alloc o).heap[Bo]?:=hg.block Bo (by omega) λe=>h.as1.own _ _ e.symm;exact ⟨ME hx.1 hg.size,λj v hv=>(MI (w:=V.alloc o) (a:=⟨Bo,j,none⟩) hb9).trans (hx.2.1 j v hv),λj=>(MD (w:=V.alloc o) (a:=⟨Bo,j,none⟩) hb9).trans (hx.2.2 j)⟩
 have hapB : cF a5 Bo:=hap Bo (by omega) h.as1;refine ⟨⟨h.bo,?_,?_,?_,hapB,h.at1,?_,λy hy=>?_,λy hy=>?_⟩,hM,λw0 hw=>(QT (hw.alloc (by have:=h.bo;omega) o) (h.so.alloc o) hg (Mf _) (by have:=h.bo;omega)).setCell (p:=⟨Bo,0,none⟩) h.bo _⟩
 ·rw [Mp];exact hb5.KD _
 ·rw [Mp,M3];exact du hown _ (hapB.elim (λe=>.inl e) λe=>.inr e)
 ·refine mA h.tow λh1=>hblk _ (aZ h.tow h1).2 (h.at1.elim (λe=>absurd e h1) λe=>e) ?_;rcases h.st with h2 | h2 | h2
  ·exact .inl h2
  ·exact absurd h2 h1
  ·exact .inr h2
 ·by_cases h1 : at'=none
  ·exact .inr (.inl h1)
  ·refine .inr (.inr λe=>?_);have h2 : cF as' (an at'):=by
    rcases h.st with h2 | h2 | h2
    ·exact .inl h2
    ·exact absurd h2 h1
    ·exact .inr h2
   rcases hap _ (by have:=(aZ h.tow h1).2;omega) h2 with h3 | h3
   ·exact hne h3
   ·exact h3 e
 ·have key : Ints V y.a y.l.length y.l/\(0<y.l.length->¬ CA B Bo as' at' (an y.a)):=by
   rcases List.mem_append.1 hy with hy | hy
   ·exact h.sx y hy
   ·rw [List.mem_singleton.1 hy];exact ⟨hx,hxA⟩
  exact ⟨key.1.cQ hM key.2,λh0=>hM.not (key.1.lt h0) (key.2 h0)⟩
 ·exact ⟨(h.tx y hy).1.lV hM,(h.tx y hy).2⟩
theorem jA.Lh (h : jA B V Bo as' cs at' ct ss tt) {x : TX} (hx : gG (CA B Bo as' at') V x.a x.T.length x.T) (hxc : x.T.length<=x.c) {a5 : OA} {c5 : Nat}
  (hown : w5.ownsRow B 47 1 (.slice a5 (tt.length+1) c5) (tt.length+1) (tt.map AM ++ [AM x])) (hg : (V.alloc o).grownBy w5 (Value.slice at' tt.length ct).ownBlock) (hap : ∀b,b<(V.alloc o).heap.size->cF at' b->cF a5 b) :
  jA B (w5.setCell ⟨Bo,1,none⟩ (.slice a5 (tt.length+1) c5)) Bo as' cs a5 c5 ss (tt ++ [x])/\aw V (w5.setCell ⟨Bo,1,none⟩ (.slice a5 (tt.length+1) c5)) (CA B Bo as' at') (CA B Bo as' a5)/\∀w0,Below B w0 V->Below B w0 (w5.setCell ⟨Bo,1,none⟩ (.slice a5 (tt.length+1) c5)):=by
 have hne : a5 ≠ none:=λe=>by
  obtain ⟨y,z,hv,hp⟩:=Q0 hown;cases hv
  have:=hp (by omega);rw [e] at this;cases this
 have hsz : (V.alloc o).heap.size=V.heap.size+1:=by simp
 have hM0 : aw V (w5.setCell ⟨Bo,1,none⟩ (.slice a5 (tt.length+1) c5)) (CA B Bo as' at') (CA B Bo as' at') :=
  ((QU (aB V o) _).trans (QZ hg λh1=>.inr (.inr (.inr ⟨h1,rfl⟩)))).trans (aw.tm (I:=CA B Bo as' at') (p:=⟨Bo,1,none⟩) _ (.inr (.inl rfl)) _)
 have hsub : ∀b,CA B Bo as' a5 b->CA B Bo as' at' b\/V.heap.size<=b:=λb hb=>by
  rcases hb with hb | hb | hb | ⟨_,hb⟩
  ·exact .inl (.inl hb)
  ·exact .inl (.inr (.inl hb))
  ·exact .inl (.inr (.inr (.inl hb)))
  ·rcases MU b V.heap.size with h1 | h1
   ·by_cases h2 : cF at' b
    ·rcases hap b (by omega) h2 with h3 | h3
     ·exact absurd h3 hne
     ·exact absurd hb.symm h3
    ·exact .inl (.inr (.inr (.inr ⟨λe=>h2 (.inl e),Mv λe=>h2 (.inr λe2=>e e2.symm)⟩)))
   ·exact .inr h1
 have hM:=hM0.Eb hsub;have hblk : ∀b,b<V.heap.size->b ≠ Bo->cF at' b->(w5.setCell ⟨Bo,1,none⟩ (.slice a5 (tt.length+1) c5)).heap[b]? = V.heap[b]?:=λb h1 h2 h3 =>
  (MB _ _ _ _ h2).trans ((hg.block b (by omega) λe=>h3.own _ _ e.symm).trans (O4 _ _ _ h1))
 have hBo:=h.box.1;have hb5 : bf w5 Bo [.slice as' ss.length cs,.slice at' tt.length ct]:=by have hx:=h.box.alloc o;have hb9 : w5.heap[Bo]? = (V.alloc o).heap[Bo]?:=hg.block Bo (by omega) λe=>h.at1.own _ _ e.symm;exact ⟨ME hx.1 hg.size,λj v hv=>(MI (w:=V.alloc o) (a:=⟨Bo,j,none⟩) hb9).trans (hx.2.1 j v hv),λj=>(MD (w:=V.alloc o) (a:=⟨Bo,j,none⟩) hb9).trans (hx.2.2 j)⟩
 have hapB : cF a5 Bo:=hap Bo (by omega) h.at1;refine ⟨⟨h.bo,?_,?_,?_,h.as1,hapB,?_,λy hy=>?_,λy hy=>?_⟩,hM,λw0 hw=>(QT (hw.alloc (by have:=h.bo;omega) o) (h.tow.alloc o) hg (Mf _) (by have:=h.bo;omega)).setCell (p:=⟨Bo,1,none⟩) h.bo _⟩
 ·rw [Mp];exact hb5.Lx _
 ·refine mA h.so λh1=>hblk _ (aZ h.so h1).2 (h.as1.elim (λe=>absurd e h1) λe=>e) ?_;rcases h.st with h2 | h2 | h2
  ·exact absurd h2 h1
  ·exact .inl h2
  ·exact .inr λe=>h2 e.symm
 ·rw [Mp,M3];exact du hown _ (hapB.elim (λe=>.inl e) λe=>.inr e)
 ·by_cases h1 : as'=none
  ·exact .inl h1
  ·refine .inr (.inr λe=>?_);have h2 : cF at' (an as'):=by
    rcases h.st with h2 | h2 | h2
    ·exact absurd h2 h1
    ·exact .inl h2
    ·exact .inr λe=>h2 e.symm
   rcases hap _ (by have:=(aZ h.so h1).2;omega) h2 with h3 | h3
   ·exact hne h3
   ·exact h3 e.symm
 ·exact ⟨(h.sx y hy).1.cQ hM (h.sx y hy).2,λh0=>hM.not ((h.sx y hy).1.lt h0) ((h.sx y hy).2 h0)⟩
 ·rcases List.mem_append.1 hy with hy | hy
  ·exact ⟨(h.tx y hy).1.lV hM,(h.tx y hy).2⟩
  ·rw [List.mem_singleton.1 hy];exact ⟨hx.lV hM,hxc⟩
end
theorem jA.set {B : Nat} {V : World} {Bo : Nat} {as' : OA} {cs : Nat} {at' : OA} {ct : Nat} {ss : List RX} {tt : List TX} (h : jA B V Bo as' cs at' ct ss tt) {p : Addr} (hp : p.block<B) (v : Value) : jA B (V.setCell p v) Bo as' cs at' ct ss tt:=by have hM : aw V (V.setCell p v) (CA B Bo as' at') (CA B Bo as' at'):=aw.tm (I:=CA B Bo as' at') (p:=p) _ (.inl hp) _;have hb:=h.bo;have hblk : ∀b,B<=b->(V.setCell p v).heap[b]? = V.heap[b]?:=λb h1=>MB _ _ _ _ (by omega);refine ⟨h.bo,?_,mA h.so λh1=>hblk _ (aZ h.so h1).1,mA h.tow λh1=>hblk _ (aZ h.tow h1).1,h.as1,h.at1,h.st,λx hx=>⟨(h.sx x hx).1.cQ hM (h.sx x hx).2,(h.sx x hx).2⟩,λy hy=>⟨(h.tx y hy).1.lV hM,(h.tx y hy).2⟩⟩;have hb9:=hblk Bo h.bo;exact ⟨by have:=h.box.1;simpa using this,λj v hv=>(MI (w:=V) (a:=⟨Bo,j,none⟩) hb9).trans (h.box.2.1 j v hv),λj=>(MD (w:=V) (a:=⟨Bo,j,none⟩) hb9).trans (h.box.2.2 j)⟩
def wK (T : List ZZ) (i : Nat) : ZZ:=T.getD i []
theorem xk {l : List ZZ} {i : Nat} (h : i<l.length) : wK l i=l[i]:=by simp [wK,h]
structure je (w : World) (a : OA) (n : Nat) (TT : List ZZ) : Prop where
 len : TT.length=n
 pl : Pl a n
 max : n<=maxLen
 cell : ∀i,i<n->∃b m c,w.cell? ⟨an a,aP a+i,none⟩=some (.slice b m c)/\cU w b m (wK TT i)/\m<=c
theorem je.lt {w : World} {a : OA} {n : Nat} {TT : List ZZ} (h : je w a n TT) (hn : 0<n) : an a<w.heap.size:=by obtain ⟨b,m,c,h1,_⟩:=h.cell 0 hn;exact Mn _ _ h1
theorem je.ah {w w' : World} {a : OA} {n : Nat} {TT : List ZZ} (h : je w a n TT) (hb : Rs w w') : je w' a n TT :=
 ⟨h.len,h.pl,h.max,λi hi=>by obtain ⟨b,m,c,h1,h2,h3⟩:=h.cell i hi;exact ⟨b,m,c,aA hb h1,h2.ah hb,h3⟩⟩
theorem jA.rC {B : Nat} {V : World} {Bo : Nat} {as' : OA} {cs : Nat} {at' : OA} {ct : Nat} {ss : List RX} {tt : List TX} (h : jA B V Bo as' cs at' ct ss tt) : cU V as' ss.length (ss.map RX.l)/\je V at' tt.length (tt.map TX.T):=by
 constructor
 ·refine ⟨by simp,?_,?_,λi hi=>?_⟩
  ·obtain ⟨a',c',hv,hp⟩:=Q0 h.so;cases hv;exact hp
  ·rcases Na ss.length with h0 | h0
   ·rw [h0];exact Mj _
   ·exact (bC h.so 0 h0).2.2.2.2
  ·have h1:=(bC h.so i hi).1;have e1 : (ss.map JW)[i]? = some (JW ss[i]):=by rw [NV,MP hi];rfl
   refine ⟨ss[i].a,ss[i].l.length,ss[i].c,by rw [h1,e1];rfl,?_⟩;rw [aF (by rw [Mx];exact hi),NH];exact (h.sx _ (MM hi)).1
 ·refine ⟨by simp,?_,?_,λi hi=>?_⟩
  ·obtain ⟨a',c',hv,hp⟩:=Q0 h.tow;cases hv;exact hp
  ·rcases Na tt.length with h0 | h0
   ·rw [h0];exact Mj _
   ·exact (bC h.tow 0 h0).2.2.2.2
  ·have h1:=(bC h.tow i hi).1;have e1 : (tt.map AM)[i]? = some (AM tt[i]):=by rw [NV,MP hi];rfl
   refine ⟨tt[i].a,tt[i].T.length,tt[i].c,by rw [h1,e1];rfl,?_⟩;rw [xk (by rw [Mx];exact hi),NH];exact ⟨(h.tx _ (MM hi)).1.rC,(h.tx _ (MM hi)).2⟩
theorem bX.Lc {A : Nat->Prop} {B : Nat} {w : World} {a : OA} {n : Nat} {L : ZZ} (h : bX B w a n L) (hA : ∀b,A b->b<B) : gG A w a n L :=
 ⟨h.len,h.pl,h.max,λhn hc=>Oj _ (ME (hA _ hc) (h.lo hn)),λi hi=>by obtain ⟨b,m,c,h1,h2⟩:=h.cell i hi;exact ⟨b,m,c,h1,h2.ints,λhm hc=>Oj _ (ME (hA _ hc) (h2.lo hm))⟩⟩
def uz (P M : Int) (mod : Lz) (N : Int) (L : ZZ) (k : Nat) : Int × ZZ:=kI P M mod N L ((L.length : Int) - ((k : Int)+1)+1) (((dM (aa P M.toNat mod).ops L N.toNat ((k : Int)+1)).length : Int) - 1)
def jc (P M : Int) (mod : Lz) (N : Int) (L : ZZ) : Nat->Int
 | 0=>0
 | k+1=>if jc P M mod N L k=0 then (uz P M mod N L k).1 else jc P M mod N L k
theorem tP {P M : Int} {mod : Lz} {N : Int} {L : ZZ} {k : Nat} {e : Int} (h : jc P M mod N L k=e) (he : e ≠ 0) : ∀d,jc P M mod N L (k+d)=e
 | 0=>h
 | d+1=>by have ih:=tP h he d;show (if jc P M mod N L (k+d)=0 then _ else jc P M mod N L (k+d))=e;rw [ih,Mh he]
def nj (P M : Int) (mod : Lz) (N : Int) (L : ZZ) : Int:=if gh P M mod N L=0 then jc P M mod N L L.length else gh P M mod N L
def qt (P M : Int) (mod : Lz) (N : Int) (L : ZZ) (k : Nat) : ZZ:=(List.range k).map λ(r : Nat)=>dM (aa P M.toNat mod).ops L N.toNat ((r : Int)+1)
def qC (P M : Int) (mod : Lz) (N : Int) (L : ZZ) (k : Nat) : List ZZ:=(List.range k).map λ(r : Nat)=>(uz P M mod N L r).2
def q9 (P M : Int) (mod : Lz) (N : Int) (n : Nat) (L : ZZ) (w : World) (e : Ending) (w' : World) : Prop :=
 Rs w w'/\((nj P M mod N L ≠ 0/\e = .returned (.tuple #[.agg #[.slice none 0 0,.slice none 0 0],.int .i64 (nj P M mod N L)])) \/
  (nj P M mod N L=0/\∃as' cs at' ct,e = .returned (.tuple #[.agg #[.slice as' n cs,.slice at' n ct],.int .i64 0])/\cU w' as' n (qt P M mod N L n)/\je w' at' n (qC P M mod N L n)))
theorem Er {O : aJ} {L : ZZ} {m : Nat} {r : Int} (hm : m<=16) : (dM O L m r).length<=65536:=by
 unfold dM;cases h : (pM m).find? (pD O L m r) with
 | none=>exact Mj _
 | some t =>
  have h1:=List.mem_of_find?_eq_some h
  have h2:=kb (jC.1 h1) (Mj m)
  show t.length<=65536
  omega
theorem n7 {w w' : World} {ao : OA} {m c : Nat} {ad : Addr} (hg : w.grownBy w' (Value.slice ao m c).ownBlock) (hlt : ad.block<w.heap.size) (h : w.frozen? ad=false) (hne : cF ao ad.block) : w'.frozen? ad=false :=
 (MD (w:=w) (a:=ad) (hg.block _ hlt λe=>hne.own m c e.symm)).trans h
theorem wL (P M : Int) (am : OA) (mn cm : Nat) (mod : Lz) (N : Int) (a : OA) (n c : Nat) (L : ZZ) (w : World) (hmod : Ints w am mn mod) (hi : cU w a n L) :
  Calls prog 95 #[.agg #[.int .i64 P,.int .i64 M,.slice am mn cm,.int .i64 N,.slice a n c]] w (q9 P M mod N n L w):=by
 have Hil:=Z5 hi.len;go_enter func95,ntmps95;go_wp2_with fail;obtain ⟨U,hU⟩ : ∃U : World,U=(w.alloc (.cells #[.int .i64 P,.int .i64 M,.slice am mn cm,.int .i64 N,.slice a n c] 27)).alloc (.cells #[.slice none 0 0,.slice none 0 0] 123):=⟨_,rfl⟩
 rw [<- hU];have hbU : Rs w U:=by rw [hU];exact iD _ _ _
 have hsU : U.heap.size=w.heap.size+2:=by rw [hU];simp
 have x0 : bf U w.heap.size [.int .i64 P,.int .i64 M,.slice am mn cm,.int .i64 N,.slice a n c]:=by rw [hU];exact (QS _ _ _ rfl).alloc _
 have z0 : bf U (w.heap.size+1) [.slice none 0 0,.slice none 0 0]:=by rw [hU];exact QS _ _ _ (by simp)
 have HS : Hid (∀V,Rs U V->V.cell? ⟨w.heap.size,0,none⟩=some (.int .i64 P)/\V.cell? ⟨w.heap.size,1,none⟩=some (.int .i64 M)/\V.cell? ⟨w.heap.size,2,none⟩=some (.slice am mn cm)/\V.cell? ⟨w.heap.size,3,none⟩=some (.int .i64 N)/\V.cell? ⟨w.heap.size,4,none⟩=some (.slice a n c) /\
   V.cell? ⟨w.heap.size+1,0,none⟩=some (.slice none 0 0)/\V.cell? ⟨w.heap.size+1,1,none⟩=some (.slice none 0 0)/\V.frozen? ⟨w.heap.size+1,0,none⟩=false/\V.frozen? ⟨w.heap.size+1,1,none⟩=false):=λV hV=>by have x1:=x0.ah hV;have z1:=z0.ah hV;exact ⟨x1.cell 0 rfl,x1.cell 1 rfl,x1.cell 2 rfl,x1.cell 3 rfl,x1.cell 4 rfl,z1.cell 0 rfl,z1.cell 1 rfl,z1.frozen 0,z1.frozen 1⟩
 have HErr : Hid (∀V er,nj P M mod N L=er->er ≠ 0->Rs U V->q9 P M mod N n L w (.returned (.tuple #[.agg #[.slice none 0 0,.slice none 0 0],.int .i64 er])) ((V.setCell ⟨w.heap.size+1,0,none⟩ (.slice none 0 0)).setCell ⟨w.heap.size+1,1,none⟩ (.slice none 0 0))):=λV er h1 h2 hV =>
  ⟨((QQ hbU hV).setCell (p:=⟨w.heap.size+1,0,none⟩) (by simp) _).setCell (p:=⟨w.heap.size+1,1,none⟩) (by simp) _,.inl ⟨by rw [h1];exact h2,by rw [h1]⟩⟩
 have HbU:=Z5 hbU;have HsU:=Z5 hsU;clear hU x0 z0 hsU;refine (sU P M am mn cm mod N a n c L U (hmod.ah hbU) (hi.ah hbU)).mono ?_;rintro e w1 ⟨hb1,⟨hE,rfl⟩ | ⟨hE,a1,c1,rfl,hown⟩⟩
 ·have HE : Hid (nj P M mod N L=gh P M mod N L):=Mh hE;obtain ⟨_,_,_,_,_,z3,z4,f3,f4⟩:=HS.out w1 hb1;have HR:=Z5 (HErr.out w1 _ HE.out hE hb1);have hE' : (gh P M mod N L != 0)=true:=by simpa using hE
  clear hE;generalize gh P M mod N L=er at *;go_wp2_with fail;exact bodyPost_ret (v:=.tuple #[.agg #[.slice none 0 0,.slice none 0 0],.int .i64 er]) (by simp [results,results95,go_sem,z3,z4]) rfl HR.out
 obtain ⟨hC,hN1,hN16⟩:=kL hE;obtain ⟨m,rfl⟩ : ∃m : Nat,N=m:=⟨N.toNat,by omega⟩
 have hm16 : m<=16:=by omega
 rw [Mm] at hown;have Hdi:=Z5 (QR hown).1;clear hown;have Hm16:=Z5 hm16;have hn256 : n<=256:=by rw [<- hi.len];exact (eJ hC).choose_spec.2.2.2.1
 obtain ⟨N',em,hm1,hm64,F,hR⟩:=aS hC;obtain rfl : m=N':=by omega
 have hb01:=hb1;have Hb1:=Z5 hb1;have hbw1:=QQ hbU hb1;have HBld : Hid (∀V mm WW,Rs w V->Calls prog 121 #[.agg #[.int .i64 P,.int .i64 M,.slice am mn cm,.int .i64 m,.slice a n c],.int .i64 mm,.int .i64 WW] V (KO (if (kI P M mod m L mm WW).1=0 then (kI P M mod m L mm WW).2 else []) (kI P M mod m L mm WW).1 V)):=λV mm WW hV =>
  (qQ P M am mn cm mod m a n c L mm WW V (hmod.ah hV) (hi.ah hV)).mono λe w' h=>h.LH
 have HFir : Hid (∀V r,Rs w1 V->Calls prog 164 #[.slice a1 (2 ^ m) c1,.int .i64 r] V λe w'=>∃a3 c3,e = .returned (.slice a3 (dM (aa P M.toNat mod).ops L m r).length c3)/\cA V.heap.size w' a3 (dM (aa P M.toNat mod).ops L m r).length (dM (aa P M.toNat mod).ops L m r)/\(dM (aa P M.toNat mod).ops L m r).length<=65536/\Rs V w'):=λV r hV=>by have h:=qp a1 c1 m (fy (aa P M.toNat mod).ops m L) r V hm16 (Hdi.out.ah hV);have hf : (cY (fy (aa P M.toNat mod).ops m L) m r (2 ^ m)).2=dM (aa P M.toNat mod).ops L m r:=IM F hR hm64 r;rw [hf] at h;refine h.mono ?_;rintro e w' ⟨a3,c3,rfl,ho,hb⟩;exact ⟨a3,c3,rfl,cA.own ho,Er hm16,hb⟩
 have HT0 : Hid (jc P M mod m L 0=0):=rfl;have HTs : Hid (∀k,k<n->jc P M mod m L k=0->jc P M mod m L (k+1)=(kI P M mod m L ((n : Int) - ((k : Int)+1)+1) (((dM (aa P M.toNat mod).ops L m ((k : Int)+1)).length : Int) - 1)).1):=λk hk h=>by rw [jc,Mg h,uz,Hil.out,Mm]
 have HTn : Hid (∀k er,k<=n->jc P M mod m L k=er->er ≠ 0->nj P M mod m L=er):=λk er hk h1 h2=>by show nj _ _ _ _ _=er;unfold nj;rw [Mg hE,Hil.out];have h3:=tP h1 h2 (n - k);rw [show k+(n - k)=n by omega] at h3;exact h3
 have HTe : Hid (jc P M mod m L n=0->nj P M mod m L=0):=λh=>by show nj _ _ _ _ _=0;unfold nj;rw [Mg hE,Hil.out];exact h
 have HSS : Hid (∀k,qt P M mod m L (k+1)=qt P M mod m L k ++ [dM (aa P M.toNat mod).ops L m ((k : Int)+1)]):=λk=>by unfold qt;rw [Nx,Mm];simp
 have HTT : Hid (∀k,qC P M mod m L (k+1)=qC P M mod m L k ++ [(kI P M mod m L ((n : Int) - ((k : Int)+1)+1) (((dM (aa P M.toNat mod).ops L m ((k : Int)+1)).length : Int) - 1)).2]):=λk=>by unfold qC;rw [Nx];simp only [M3,Nc,Pj,uz,Hil.out,Mm]
 have HPost : Hid (∀as' cs at' ct V,nj P M mod m L=0->cU V as' n (qt P M mod m L n)->je V at' n (qC P M mod m L n)->Rs w V->q9 P M mod m n L w (.returned (.tuple #[.agg #[.slice as' n cs,.slice at' n ct],.int .i64 0])) V):=λas' cs at' ct V h0 h1 h2 h3=>⟨h3,.inr ⟨h0,as',cs,at',ct,rfl,h1,h2⟩⟩
 obtain ⟨bl,hbl⟩ : ∃bl,kI P M mod m L=bl:=⟨_,rfl⟩
 obtain ⟨fr,hfr⟩ : ∃fr,dM (aa P M.toNat mod).ops L m=fr:=⟨_,rfl⟩
 obtain ⟨CT,hCT⟩ : ∃CT,jc P M mod m L=CT:=⟨_,rfl⟩
 obtain ⟨SS,hSS⟩ : ∃SS,qt P M mod m L=SS:=⟨_,rfl⟩
 obtain ⟨TT,hTT⟩ : ∃TT,qC P M mod m L=TT:=⟨_,rfl⟩
 obtain ⟨ce,hce⟩ : ∃ce,nj P M mod m L=ce:=⟨_,rfl⟩
 rw [hbl] at HBld HTs HTT;rw [hfr] at HTs HSS HTT HFir;rw [hCT] at HT0 HTs HTn HTe;rw [hSS] at HSS HPost;rw [hTT] at HTT HPost;rw [hce] at HTn HTe HPost HErr;have HSS0 : Hid (SS 0=[]):=by show _=_;rw [<- hSS];rfl
 have HTT0 : Hid (TT 0=[]):=by show _=_;rw [<- hTT];rfl
 clear hbl hfr hCT hSS hTT hce F hR em hC hE;unfold KO at HBld;go_upto_region 5 with fail;obtain ⟨X,hX⟩ : ∃X,w1.alloc (.cells #[.slice none 0 0,.slice none 0 0] 123)=X:=⟨_,rfl⟩
 rw [hX];have hbX : Rs w1 X:=by rw [<- hX];exact aB _ _
 have hC0 : jA w1.heap.size X w1.heap.size none 0 none 0 [] []:=jA.start (Mf _) (by rw [<- hX];exact QS _ _ _ rfl);clear hX;have HSw : Hid (∀V,Rs w1 V->V.cell? ⟨w.heap.size,0,none⟩=some (.int .i64 P)/\V.cell? ⟨w.heap.size,1,none⟩=some (.int .i64 M)/\V.cell? ⟨w.heap.size,2,none⟩=some (.slice am mn cm)/\V.cell? ⟨w.heap.size,3,none⟩=some (.int .i64 m)/\V.cell? ⟨w.heap.size,4,none⟩=some (.slice a n c) /\
   V.cell? ⟨w.heap.size+1,0,none⟩=some (.slice none 0 0)/\V.cell? ⟨w.heap.size+1,1,none⟩=some (.slice none 0 0)/\V.frozen? ⟨w.heap.size+1,0,none⟩=false/\V.frozen? ⟨w.heap.size+1,1,none⟩=false):=λV hV=>HS.out V (QQ hb1 hV)
 have Hbw1:=Z5 hbw1;have hsw1 : w.heap.size+2<=w1.heap.size:=by have h1:=hb1.size;have h2:=HsU.out;omega
 have HEr1 : Hid (∀V er,ce=er->er ≠ 0->Rs w1 V->q9 P M mod m n L w (.returned (.tuple #[.agg #[.slice none 0 0,.slice none 0 0],.int .i64 er])) ((V.setCell ⟨w.heap.size+1,0,none⟩ (.slice none 0 0)).setCell ⟨w.heap.size+1,1,none⟩ (.slice none 0 0))):=λV er h1 h2 hV=>HErr.out V er h1 h2 (QQ hb1 hV);clear HS HErr hb1 hb01 hbU hbw1;go_wp2_with fail;go_loopw [7] (λiv wr=>∃(k : Nat) (as' : OA) (cs : Nat) (at' : OA) (ct : Nat) (ss : List RX) (tt : List TX),k<=n/\iv = .int .i64 ((k : Int)+1)/\jA w1.heap.size wr w1.heap.size as' cs at' ct ss tt/\Hid (ss.length=k)/\Hid (tt.length=k)/\Hid (ss.map RX.l=SS k)/\Hid (tt.map TX.T=TT k)/\Hid (CT k=0)/\Rs w1 wr) (λiv _=>n+1 - (intOf iv).toNat);case atStart=>exact ⟨0,none,0,none,0,[],[],Mj _,rfl,hC0,rfl,rfl,HSS0.out.symm,HTT0.out.symm,HT0.out,hbX⟩
 case round =>
  clear hC0 hbX
  obtain ⟨k,as',cs,at',ct,ss,tt,hk,rfl,hI,Hsl,Htl,Hss,Htt,Hct,hbr⟩:=hrel
  obtain ⟨c0,c1,c2,c3,c4,z3,z4,f3,f4⟩:=HSw.out wr hbr
  by_cases hlt : k<n
  ·obtain ⟨r,hr⟩ : ∃r : Int,(k : Int)+1=r:=⟨_,rfl⟩
   have hr1 : 1<=r:=by omega
   have hrn : r<=n:=by omega
   have d1 : decide (r<=(n : Int))=true:=by simp;omega
   have HFr:=Z5 (HFir.out wr r hbr)
   have HTsk:=Z5 (HTs.out k hlt Hct.out)
   have HSSk:=Z5 (HSS.out k)
   have HTTk:=Z5 (HTT.out k)
   rw [hr] at HTsk HSSk HTTk ⊢
   have Hr:=Z5 hr
   obtain ⟨S,hS⟩ : ∃S,fr r=S:=⟨_,rfl⟩
   rw [hS] at HFr HTsk HSSk HTTk
   obtain ⟨v,hv⟩ : ∃v,S.length=v:=⟨_,rfl⟩
   rw [hv] at HFr HTsk HTTk
   have Hv:=Z5 hv
   have HI:=Z5 hI
   have Hbr:=Z5 hbr
   clear hS hv hr hI hbr
   go_wp2_with fail
   refine HFr.out.mono ?_
   rintro e w3 ⟨a3,c3',rfl,hN3,hv16,hb3⟩
   clear c0 c1 c2 c3 c4 z3 z4 f3 f4 HFr
   have hbr3:=QQ Hbr.out hb3
   obtain ⟨c0,c1,c2,c3,c4,z3,z4,f3,f4⟩:=HSw.out w3 hbr3
   have k1 : (0 : Int)<=(v : Int):=by omega
   have HB3:=Z5 (HBld.out w3 ((n : Int) - r+1) ((v : Int) - 1) (QQ Hbw1.out hbr3))
   obtain ⟨bv,hbv⟩ : ∃bv,bl ((n : Int) - r+1) ((v : Int) - 1)=bv:=⟨_,rfl⟩
   rw [hbv] at HB3 HTsk HTTk
   obtain ⟨er,T⟩:=bv
   have HN3:=Z5 hN3
   have Hb3:=Z5 hb3
   have Hbr3:=Z5 hbr3
   clear hbv hN3 hb3 hbr3
   go_wp2_with fail
   refine HB3.out.mono ?_
   rintro e w4 ⟨ar,nr,cr,R4,rfl,hO4,hb4⟩
   clear c0 c1 c2 c3 c4 z3 z4 f3 f4 HB3
   have hbr4:=QQ Hbr3.out hb4
   by_cases her : er=0
   rotate_left
   ·have hbr5:=QQ hbr4 (aB w4 (.cells #[.slice ar nr cr] 47))
    obtain ⟨_,_,_,_,_,z3,z4,f3,f4⟩:=HSw.out _ hbr5
    have HR:=Z5 (HEr1.out _ er (HTn.out (k+1) er (by omega) HTsk.out her) her hbr5)
    have he' : (er != 0)=true:=by simpa using her
    clear hO4
    go_upto_region 10 with fail
    obtain ⟨V,hV⟩ : ∃V,w4.alloc (.cells #[.slice ar nr cr] 47)=V:=⟨_,rfl⟩
    rw [hV] at z3 z4 f3 f4 HR ⊢
    clear hV hbr5 her
    go_wp2_with fail
    exact bodyPost_ret (v:=.tuple #[.agg #[.slice none 0 0,.slice none 0 0],.int .i64 er]) (by simp [results,results95,go_sem,z3,z4]) rfl HR.out
   ·subst her
    have hTe : (if (0 : Int)=0 then T else [])=T:=Mg rfl
    have hO4' : aY w4 w3.heap.size ar nr cr R4 T:=by simpa using hO4
    have hcap:=rz hO4'.own
    obtain rfl : T.length=nr:=hO4'.ll
    have Hct1 : Hid (CT (k+1)=0):=HTsk.out
    have hTTk : TT (k+1)=TT k ++ [T]:=HTTk.out
    have HTTe:=Z5 hTTk
    have hb5 : Rs w4 (w4.alloc (.cells #[.slice ar T.length cr] 47)):=aB _ _
    have hI5:=((HI.out.ah Hb3.out).ah hb4).ah hb5
    have hlt3 : ∀b,CA w1.heap.size w1.heap.size as' at' b->b<wr.heap.size:=λb hb=>HI.out.lt b hb
    have hsz3:=Hb3.out.size
    have hMT:=(hO4'.I8.Lc (A:=CA w1.heap.size w1.heap.size as' at') (λb hb=>by have:=hlt3 b hb;omega)).ah hb5
    have hbw5:=QQ hb4 hb5
    have hSx:=HN3.out.ints.ah hbw5
    have hSn : 0<v->¬ CA w1.heap.size w1.heap.size as' at' (an a3):=λh0 hc=>by have h1:=hlt3 _ hc;have h2:=HN3.out.lo h0;omega
    have hbr5:=QQ hbr4 hb5
    have hy5 : bf (w4.alloc (.cells #[.slice ar T.length cr] 47)) w4.heap.size [.slice ar T.length cr]:=QS _ _ _ rfl
    have hg3 : ∀b,CA w1.heap.size w1.heap.size as' at' b->b ≠ w4.heap.size:=λb hb e=>by have h1:=hlt3 b hb;have h2:=hb4.size;omega
    obtain ⟨q,hq⟩ : ∃q,w4.heap.size=q:=⟨_,rfl⟩
    go_upto_region 10 with fail
    obtain ⟨V,hV⟩ : ∃V,w4.alloc (.cells #[.slice ar T.length cr] 47)=V:=⟨_,rfl⟩
    rw [hV] at hI5 hMT hSx hbr5 hy5 ⊢
    rw [hq] at hy5 hg3
    try rw [hq]
    clear hV hb5 hbw5 hb4 hbr4 hO4 hO4' hq hTTk hTe hsz3
    have b0:=hI5.box.cell 0 rfl
    have g0:=hI5.box.frozen 0
    have hslk : ss.length=k:=Hsl.out
    have htlk : tt.length=k:=Htl.out
    have hso:=(hI5.ah (aB V (.cells #[.slice a3 v c3'] 22))).so
    have hcn:=bm V (.slice a3 v c3') 22
    have b0':=aM b0 (.cells #[.slice a3 v c3'] 22)
    have hIc:=hI5
    rw [hslk] at b0 b0' hso
    have hs8 : w1.heap.size<=(V.alloc (.cells #[.slice a3 v c3'] 22)).heap.size:=by have:=hbr5.size;simp;omega
    have hlt5 : w1.heap.size<V.heap.size:=hI5.box.1
    have HI5:=Z5 (My hI5 (My hMT (My hSx (My hSn (My hbr5 (My hy5 (My hg3 hcap)))))))
    have Hlt5:=Z5 hlt5
    have Hasb:=Z5 hI5.as1
    clear hI5 hMT hSx hSn hbr5 hy5 hg3 hIc hlt3 hcap hlt5
    go_upto_region 13 with (at_builtin;refine bj rfl _ _ 25 22 rfl (.slice none 0 0) 24 underlying25 fg rfl w1.heap.size as' k cs _ rfl hso ⟨V.heap.size,0,none⟩ 1 (.slice a3 v c3') rfl hcn rfl (by omega) (by unfold maxLen;omega) hs8 ?_;intro a5 c5 w5 hown5 hgr5 hap5;have b5:=bA (ad:=⟨w1.heap.size,0,none⟩) hgr5 b0' Hasb.out;have g5 : w5.frozen? ⟨w1.heap.size,0,none⟩=false:=n7 hgr5 (by simp;have:=Hlt5.out;omega) (cR Hlt5.out g0 _) Hasb.out)
    obtain ⟨hI5,hMT,hSx,hSn,hbr5,hy5,hg3,hcap⟩:=HI5.out
    have erx : JW ⟨a3,c3',S⟩ = .slice a3 v c3':=by show Value.slice _ _ _=_;rw [Hv.out]
    have hown5' : w5.ownsRow w1.heap.size 22 1 (.slice a5 (ss.length+1) c5) (ss.length+1) (ss.map JW ++ [JW ⟨a3,c3',S⟩]):=by rw [hslk,erx];exact hown5
    obtain ⟨hI6,hM6,hbp⟩:=jA.Le hI5 (x:=⟨a3,c3',S⟩) (by show Ints V a3 S.length S;rw [Hv.out];exact hSx) (by show 0<S.length->_;rw [Hv.out];exact hSn) hown5' (by rw [hslk];exact hgr5) hap5
    have hbr6:=hbp _ hbr5
    rw [hslk] at hI6 hM6 hbr6
    have hMT6:=hMT.lV hM6
    have hy6:=hM6.cell (hy5.cell 0 rfl) (λh=>hg3 _ h rfl)
    obtain ⟨V6,hV6⟩ : ∃V6,w5.setCell ⟨w1.heap.size,0,none⟩ (.slice a5 (k+1) c5)=V6:=⟨_,rfl⟩
    rw [hV6] at hI6 hbr6 hMT6 hy6 ⊢
    clear hV6 hown5 hown5' hgr5 hap5 hI5 hMT hSx hSn hbr5 hy5 hg3 hM6 hbp b0 b0' g0 hso hcn hs8 b5 g5 HI5 erx
    have b1:=hI6.box.cell 1 rfl
    have g1:=hI6.box.frozen 1
    have hto:=(hI6.ah (aB V6 (.cells #[.slice ar T.length cr] 47))).tow
    have hcn2:=bm V6 (.slice ar T.length cr) 47
    have b1':=aM b1 (.cells #[.slice ar T.length cr] 47)
    rw [htlk] at b1 b1' hto
    have hs9 : w1.heap.size<=(V6.alloc (.cells #[.slice ar T.length cr] 47)).heap.size:=by have:=hbr6.size;simp;omega
    have hlt6 : w1.heap.size<V6.heap.size:=hI6.box.1
    have HI6:=Z5 (My hI6 (My hMT6 (My hbr6 hcap)))
    have Hlt6:=Z5 hlt6
    have Hatb:=Z5 hI6.at1
    clear hI6 hMT6 hbr6 hcap hlt6
    go_wp2_with (at_builtin;refine xw rfl _ _ 121 47 rfl (.agg #[.slice none 0 0]) 24 underlying121 IQ rfl w1.heap.size at' k ct _ rfl hto ⟨V6.heap.size,0,none⟩ 1 (.slice ar T.length cr) rfl hcn2 rfl (by omega) (by unfold maxLen;omega) hs9 ?_;intro a6 c6 w6 hown6 hgr6 hap6;have b6:=bA (ad:=⟨w1.heap.size,1,none⟩) hgr6 b1' Hatb.out;have g6 : w6.frozen? ⟨w1.heap.size,1,none⟩=false:=n7 hgr6 (by simp;have:=Hlt6.out;omega) (cR Hlt6.out g1 _) Hatb.out)
    go_roundw
    case rel =>
     obtain ⟨hI6,hMT6,hbr6,hcap⟩:=HI6.out
     have hown6' : w6.ownsRow w1.heap.size 47 1 (.slice a6 (tt.length+1) c6) (tt.length+1) (tt.map AM ++ [AM ⟨ar,cr,T⟩]):=by rw [htlk];exact hown6
     obtain ⟨hI7,_,hbp⟩:=jA.Lh hI6 (x:=⟨ar,cr,T⟩) hMT6 hcap hown6' (by rw [htlk];exact hgr6) hap6
     have hbr7:=hbp _ hbr6
     rw [htlk] at hI7 hbr7
     refine ⟨k+1,a5,c5,a6,c6,ss ++ [⟨a3,c3',S⟩],tt ++ [⟨ar,cr,T⟩],by omega,?_,hI7,by show _=_;rw [Mp,hslk];rfl,by show _=_;rw [Mp,htlk];rfl,by show _=_;rw [M3,Hss.out,HSSk.out];rfl,by show _=_;rw [M3,Htt.out,HTTe.out];rfl,Hct1.out,hbr7⟩
     have:=Hr.out
     congr 1
     omega
    case measure =>
     have:=Hr.out
     simp [intOf] <;> omega
  ·obtain rfl : k=n:=by omega
   have d1 : decide ((k : Int)+1<=(k : Int))=false:=by simp;omega
   have b0:=hI.box.cell 0 rfl
   have b1:=hI.box.cell 1 rfl
   rw [Hsl.out] at b0
   rw [Htl.out] at b1
   have hI2:=(hI.set (p:=⟨w.heap.size+1,0,none⟩) (by show w.heap.size+1<w1.heap.size;omega) (.slice as' k cs)).set (p:=⟨w.heap.size+1,1,none⟩) (by show w.heap.size+1<w1.heap.size;omega) (.slice at' k ct)
   obtain ⟨q1,q2⟩:=hI2.rC
   rw [Hsl.out,Hss.out] at q1
   rw [Htl.out,Htt.out] at q2
   have HF:=Z5 (HPost.out as' cs at' ct _ (HTe.out Hct.out) q1 q2 (((QQ Hbw1.out hbr).setCell (p:=⟨w.heap.size+1,0,none⟩) (by simp) _).setCell (p:=⟨w.heap.size+1,1,none⟩) (by simp) _))
   clear hI hI2 q1 q2
   go_wp2_with fail
   exact bodyPost_ret (v:=.tuple #[.agg #[.slice as' k cs,.slice at' k ct],.int .i64 0]) (by simp [results,results95,go_sem,z3,z4]) rfl HF.out
section
def Ll (b : Nat) (P M : Int) (am : OA) (mn cm : Nat) (N : Int) (a : OA) (n c : Nat) (ag : OA) (ng cg : Nat) (ab : OA) (nb cb k : Nat) : List Value :=
 [.pointer (some ⟨b,0,none⟩),.int .i64 P,.int .i64 M,.slice am mn cm,.int .i64 N,.slice a n c,.slice ag ng cg,.slice ab nb cb,.int .i64 k]
def LA (g : Nat) (ag ak : OA) : Nat->Prop:=λb=>b<=g\/(ag ≠ none/\b=an ag)\/(ak ≠ none/\b=an ak)
structure LI (V : World) (g : Nat) (pre : List Value) (ag : OA) (cg : Nat) (ak : OA) (ck : Nat) (gs : List TX) (Q : Lz) : Prop where
 pl : pre.length=6
 box : bf V g (pre ++ [.slice ag gs.length cg,.slice none 0 0,.int .i64 0])
 so : V.ownsRow (g+1) 25 1 (.slice ag gs.length cg) gs.length (gs.map AM)
 rk : V.ownsRow (g+1) 3 1 (.slice ak Q.length ck) Q.length (Q.map (Value.int .i64))
 st : ag=none\/ak=none\/an ag ≠ an ak
 gx : ∀y ∈ gs,gG (LA g ag ak) V y.a y.T.length y.T
namespace LI
variable {V V' w5 : World} {g : Nat} {pre : List Value} {ag : OA} {cg : Nat} {ak : OA} {ck : Nat} {gs : List TX} {Q : Lz} {o : Obj}
theorem ah (h : LI V g pre ag cg ak ck gs Q) (hb : Rs V V') : LI V' g pre ag cg ak ck gs Q :=
 ⟨h.pl,h.box.ah hb,ba h.so hb,ba h.rk hb,h.st,λy hy=>(h.gx y hy).ah hb⟩
theorem start (hp : pre.length=6) (h : bf V g (pre ++ [.slice none 0 0,.slice none 0 0,.int .i64 0])) : LI V g pre none 0 none 0 [] [] :=
 ⟨hp,h,by simpa using bP,by simpa using bP,.inl rfl,λy hy=>by simp at hy⟩
theorem lt (h : LI V g pre ag cg ak ck gs Q) : ∀b,LA g ag ak b->b<V.heap.size:=λb hb=>by
 rcases hb with h1 | ⟨h1,rfl⟩ | ⟨h1,rfl⟩
 ·exact Nat.lt_of_le_of_lt h1 h.box.1
 ·exact (aZ h.so h1).2
 ·exact (aZ h.rk h1).2
theorem LC (h : LI V g pre ag cg ak ck gs Q) : cF ag g:=by
 by_cases h1 : ag=none
 ·exact .inl h1
 ·exact .inr λe=>by have:=(aZ h.so h1).1;omega
theorem L4 (h : LI V g pre ag cg ak ck gs Q) : cF ak g:=by
 by_cases h1 : ak=none
 ·exact .inl h1
 ·exact .inr λe=>by have:=(aZ h.rk h1).1;omega
theorem c6 (h : LI V g pre ag cg ak ck gs Q) : V.cell? ⟨g,6,none⟩=some (.slice ag gs.length cg):=h.box.cell 6 (by rw [NI (by rw [h.pl];omega),h.pl];rfl)
theorem Lp (h : LI V g pre ag cg ak ck gs Q) {r : Int} {a5 : OA} {c5 : Nat}
  (hown : w5.ownsRow (g+1) 3 1 (.slice a5 (Q.length+1) c5) (Q.length+1) (Q.map (Value.int .i64) ++ [.int .i64 r])) (hg : (V.alloc o).grownBy w5 (Value.slice ak Q.length ck).ownBlock) (hap : ∀b,b<(V.alloc o).heap.size->cF ak b->cF a5 b) :
  LI w5 g pre ag cg a5 c5 gs (Q ++ [r])/\Below (g+1) V w5:=by
 have hM0 : aw V w5 (LA g ag ak) (LA g ag ak):=(QU (aB V o) _).trans (QZ hg λh1=>.inr (.inr ⟨h1,rfl⟩));have hne : a5 ≠ none:=λe=>by
  obtain ⟨y,z,hv,hp⟩:=Q0 hown;cases hv
  have:=hp (by omega);rw [e] at this;cases this
 have hsz : (V.alloc o).heap.size=V.heap.size+1:=by simp
 have hsub : ∀b,LA g ag a5 b->LA g ag ak b\/V.heap.size<=b:=λb hb=>by
  rcases hb with hb | hb | ⟨_,hb⟩
  ·exact .inl (.inl hb)
  ·exact .inl (.inr (.inl hb))
  ·rcases MU b V.heap.size with h1 | h1
   ·by_cases h2 : cF ak b
    ·rcases hap b (by omega) h2 with h3 | h3
     ·exact absurd h3 hne
     ·exact absurd hb.symm h3
    ·exact .inl (.inr (.inr ⟨λe=>h2 (.inl e),Mv λe=>h2 (.inr λe2=>e e2.symm)⟩))
   ·exact .inr h1
 have hM:=hM0.Eb hsub;have hblk : ∀b,b<V.heap.size->cF ak b->w5.heap[b]? = V.heap[b]?:=λb h1 h3=>(hg.block b (by omega) λe=>h3.own _ _ e.symm).trans (O4 _ _ _ h1);have hgl:=h.box.1;have hapg : ag ≠ none->cF ak (an ag):=λh1=>by
  rcases h.st with h2 | h2 | h2
  ·exact absurd h2 h1
  ·exact .inl h2
  ·exact .inr λe=>h2 e.symm
 refine ⟨⟨h.pl,?_,mA h.so λh1=>hblk _ (aZ h.so h1).2 (hapg h1),?_,?_,λy hy=>(h.gx y hy).lV hM⟩,QT ((aB V o).mono (by omega)) (h.rk.alloc o) hg (Mf _) (by rw [hsz];omega)⟩
 ·have hx:=h.box.alloc o;have hb9 : w5.heap[g]? = (V.alloc o).heap[g]?:=hg.block g (by omega) λe=>h.L4.own _ _ e.symm;exact ⟨ME hx.1 hg.size,λj v hv=>(MI (w:=V.alloc o) (a:=⟨g,j,none⟩) hb9).trans (hx.2.1 j v hv),λj=>(MD (w:=V.alloc o) (a:=⟨g,j,none⟩) hb9).trans (hx.2.2 j)⟩
 ·rw [Mp,M3];exact hown
 ·by_cases h1 : ag=none
  ·exact .inl h1
  ·refine .inr (.inr λe=>?_);rcases hap _ (by have:=(aZ h.so h1).2;omega) (hapg h1) with h3 | h3
   ·exact hne h3
   ·exact h3 e.symm
theorem Lw (h : LI V g pre ag cg ak ck gs Q) {x : TX} (hx : gG (LA g ag ak) V x.a x.T.length x.T) {a5 : OA} {c5 : Nat}
  (hown : w5.ownsRow (g+1) 25 1 (.slice a5 (gs.length+1) c5) (gs.length+1) (gs.map AM ++ [AM x])) (hg : (V.alloc o).grownBy w5 (Value.slice ag gs.length cg).ownBlock) (hap : ∀b,b<(V.alloc o).heap.size->cF ag b->cF a5 b) :
  LI (w5.setCell ⟨g,6,none⟩ (.slice a5 (gs.length+1) c5)) g pre a5 c5 ak ck (gs ++ [x]) Q/\Below g V (w5.setCell ⟨g,6,none⟩ (.slice a5 (gs.length+1) c5))/\aw V (w5.setCell ⟨g,6,none⟩ (.slice a5 (gs.length+1) c5)) (LA g ag ak) (LA g a5 ak):=by
 have hM0 : aw V (w5.setCell ⟨g,6,none⟩ (.slice a5 (gs.length+1) c5)) (LA g ag ak) (LA g ag ak) :=
  ((QU (aB V o) _).trans (QZ hg λh1=>.inr (.inl ⟨h1,rfl⟩))).trans (aw.tm (I:=LA g ag ak) (p:=⟨g,6,none⟩) _ (.inl (Mf _)) _)
 have hne : a5 ≠ none:=λe=>by
  obtain ⟨y,z,hv,hp⟩:=Q0 hown;cases hv
  have:=hp (by omega);rw [e] at this;cases this
 have hsz : (V.alloc o).heap.size=V.heap.size+1:=by simp
 have hsub : ∀b,LA g a5 ak b->LA g ag ak b\/V.heap.size<=b:=λb hb=>by
  rcases hb with hb | ⟨_,hb⟩ | hb
  ·exact .inl (.inl hb)
  ·rcases MU b V.heap.size with h1 | h1
   ·by_cases h2 : cF ag b
    ·rcases hap b (by omega) h2 with h3 | h3
     ·exact absurd h3 hne
     ·exact absurd hb.symm h3
    ·exact .inl (.inr (.inl ⟨λe=>h2 (.inl e),Mv λe=>h2 (.inr λe2=>e e2.symm)⟩))
   ·exact .inr h1
  ·exact .inl (.inr (.inr hb))
 have hM:=hM0.Eb hsub;have hblk : ∀b,b<V.heap.size->b ≠ g->cF ag b->(w5.setCell ⟨g,6,none⟩ (.slice a5 (gs.length+1) c5)).heap[b]? = V.heap[b]?:=λb h1 h2 h3 =>
  (MB _ _ _ _ h2).trans ((hg.block b (by omega) λe=>h3.own _ _ e.symm).trans (O4 _ _ _ h1))
 have hgl:=h.box.1;have hb5 : bf w5 g (pre ++ [.slice ag gs.length cg,.slice none 0 0,.int .i64 0]):=by have hx:=h.box.alloc o;have hb9 : w5.heap[g]? = (V.alloc o).heap[g]?:=hg.block g (by omega) λe=>h.LC.own _ _ e.symm;exact ⟨ME hx.1 hg.size,λj v hv=>(MI (w:=V.alloc o) (a:=⟨g,j,none⟩) hb9).trans (hx.2.1 j v hv),λj=>(MD (w:=V.alloc o) (a:=⟨g,j,none⟩) hb9).trans (hx.2.2 j)⟩
 have hapB : cF a5 g:=hap g (by omega) h.LC;have hapk : ak ≠ none->cF ag (an ak):=λh1=>by
  rcases h.st with h2 | h2 | h2
  ·exact .inl h2
  ·exact absurd h2 h1
  ·exact .inr h2
 have hset : (pre ++ [.slice ag gs.length cg,.slice none 0 0,.int .i64 0] : List Value).set 6 (.slice a5 (gs.length+1) c5)=pre ++ [.slice a5 (gs.length+1) c5,.slice none 0 0,.int .i64 0]:=by rw [OX _ _ (by rw [h.pl];omega),h.pl];rfl
 refine ⟨⟨h.pl,?_,?_,mA h.rk λh1=>hblk _ (aZ h.rk h1).2 (by have:=(aZ h.rk h1).1;omega) (hapk h1),?_,λy hy=>?_⟩,?_⟩
 ·rw [Mp];have h9:=hb5.KG 6 (.slice a5 (gs.length+1) c5);rw [hset] at h9;exact h9
 ·rw [Mp,M3];exact du hown _ (hapB.elim (λe=>.inl e) λe=>.inr e)
 ·by_cases h1 : ak=none
  ·exact .inr (.inl h1)
  ·refine .inr (.inr λe=>?_);rcases hap _ (by have:=(aZ h.rk h1).2;omega) (hapk h1) with h3 | h3
   ·exact hne h3
   ·exact h3 e
 ·rcases List.mem_append.1 hy with hy | hy
  ·exact (h.gx y hy).lV hM
  ·rw [List.mem_singleton.1 hy];exact hx.lV hM
 ·refine ⟨?_,hM⟩;exact ((QT ((aB V o).mono (show g+1<=V.heap.size by omega)) (h.so.alloc o) hg (Mf _) (by rw [hsz];omega)).mono (Nat.le_succ g)).setCell (p:=⟨g,6,none⟩) (Mf g) _
end LI
structure yF (w : World) (a : OA) (n : Nat) (l : ZZ) : Prop where
 len : l.length=n
 pl : Pl a n
 max : n<=maxLen
 cell : ∀i,i<n->∀j,j<4->w.cell? ⟨an a,aP a+i * 4+j,none⟩=some (.int .i64 (nth (ai l i) j))
theorem yF.nil (w : World) (a : OA) : yF w a 0 []:=⟨rfl,λh=>by omega,by unfold maxLen;omega,λi h=>by omega⟩
def AO : ZZ->List Value
 | []=>[]
 | r :: l=>.int .i64 (nth r 0) :: .int .i64 (nth r 1) :: .int .i64 (nth r 2) :: .int .i64 (nth r 3) :: AO l
theorem G0 : ∀(l : ZZ) (i j : Nat),i<l.length->j<4->(AO l)[i * 4+j]? = some (.int .i64 (nth (ai l i) j))
 | [],i,j,h,_=>by simp at h
 | r :: l,0,j,_,hj=>by
  have e : ai (r :: l) 0=r:=rfl;rw [e,AO];match j,hj with
  | 0,_=>rfl
  | 1,_=>rfl
  | 2,_=>rfl
  | 3,_=>rfl
 | r :: l,i+1,j,hi,hj=>by have e : ai (r :: l) (i+1)=ai l i:=rfl;have h:=G0 l i j (by simpa using hi) hj;rw [e,AO,show (i+1) * 4+j=(i * 4+j)+1+1+1+1 by omega];simpa using h
theorem yF.own {w : World} {B : Nat} {e : TypeId} {a : OA} {k c : Nat} {l : ZZ} (h : w.ownsRow B e 4 (.slice a k c) k (AO l)) (hl : l.length=k) : yF w a k l:=by
 rcases h.2 with ⟨hv,h0⟩ | ⟨g,cap,cur,hv,hg,hh,hn,hm,hs,ht⟩
 ·cases hv
  have hT : l=[]:=MF hl;subst hT;exact yF.nil _ _
 ·cases hv
  refine ⟨hl,λ_=>rfl,by omega,λi hi j hj=>?_⟩;have hc:=World.ownsRow.cells h (g:=g) rfl _ _ (G0 l i j (by omega) hj);rw [Qm] at hc;simpa [an,aP,N5] using hc
theorem BW {P : Program} {w : World} {ops : Array Oper} {o : Oper} {ac : Act} {K : Act->World->Prop} {Q : Exit->Act->World->Prop} {E : Prop}
  (hg : o.guard=none) (s x : Operand) (t e : TypeId) (hop : o.op = .call { callee:=.builtin .append,args:=#[s,x],argTypes:=#[t,t] }) (z : Value) (bytes : Nat)
  (h1 : P.underlying t=some (.slice e)) (h2 : (P.info? e).map (λi=>(i.zero,i.size,i.bytes))=some (some z,4,bytes)) (hz : z.cells.size=4)
  (B : Nat) (a : OA) (n c : Nat) (xs : List Value) (hs : ac.eval s = .slice a n c) (hown : w.ownsRow B e 4 (.slice a n c) n xs)
  (g cc : Nat) (u0 u1 u2 u3 : Value) (hx : ac.eval x = .slice (some ⟨g,0,none⟩) 1 cc) (hu0 : w.cell? ⟨g,0,none⟩=some u0) (hu1 : w.cell? ⟨g,1,none⟩=some u1) (hu2 : w.cell? ⟨g,2,none⟩=some u2) (hu3 : w.cell? ⟨g,3,none⟩=some u3)
  (h1c : ∀u ∈ [u0,u1,u2,u3],u.oneCell'=true)
  (b2 : (n+1) * bytes<=140737488355328) (b3 : n+1<=maxLen) (hB : B<=w.heap.size)
  (hK : ∀a' c' w',w'.ownsRow B e 4 (.slice a' (n+1) c') (n+1) (xs ++ [u0,u1,u2,u3])->w.grownBy w' (Value.slice a n c).ownBlock->(∀b,b<w.heap.size->cF a b->cF a' b)->K (ac.put o.dst (.slice a' (n+1) c')) w') :
  if Region.wanted o (yielded ops ac.tmps)=true then Oper.wp P o ac w K Q else E:=by
 have hw : Region.wanted o (yielded ops ac.tmps)=true:=by simp [Region.wanted,hg]
 rw [Mg hw];obtain ⟨i,hi,hz0,hz1,hz2⟩ : ∃i,P.info? e=some i/\i.zero=some z/\i.size=4/\i.bytes=bytes:=by
  cases hp : P.info? e with
  | none=>rw [hp] at h2;cases h2
  | some i=>rw [hp] at h2;simp at h2;exact ⟨i,rfl,h2.1,h2.2.1,h2.2.2⟩
 obtain ⟨v',w',hr,h3,h4,_,h6⟩:=run_append_own_at (P:=P) w B t o.type e i z 4 bytes h1 hi hz0 hz1 hz2 hz (by decide) _ n xs hown ⟨g,0,none⟩ 1 cc [u0,u1,u2,u3] rfl
  (λj y hj=>by
   match j,hj with
   | 0,hj=>simp at hj;subst hj;simpa [Addr.add] using hu0
   | 1,hj=>simp at hj;subst hj;simpa [Addr.add] using hu1
   | 2,hj=>simp at hj;subst hj;simpa [Addr.add] using hu2
   | 3,hj=>simp at hj;subst hj;simpa [Addr.add] using hu3) h1c b3 b2 hB
 obtain ⟨a',c',rfl⟩ : ∃a' c',v' = .slice a' (n+1) c':=by
  rcases h3.2 with ⟨_,h0⟩ | ⟨g',cap,cur,rfl,_⟩
  ·omega
  ·exact ⟨_,cap,rfl⟩
 unfold Oper.wp execOp;simp only [hop,resolve,invoke,builtin,Qn,Qo,Pu,PG,Nc,Pj,hs,hx,hr];refine hK a' c' w' h3 h4 λb hb hapt=>?_;have h:=hapt.own n c;rcases h6 with h6 | h6
 ·exact Rl (n:=n+1) (c:=c') (by rw [h6];exact h)
 ·exact Rl (n:=n+1) (c:=c') (by rw [h6];intro h7;cases h7;omega)
theorem gG.I8 {g : Nat} {ag ak : OA} {w : World} {a : OA} {n : Nat} {L : ZZ} (h : gG (LA g ag ak) w a n L) : bX (g+1) w a n L :=
 ⟨h.len,h.pl,h.max,λhn=>QD λh2=>h.no hn (.inl h2),λi hi=>by obtain ⟨b,m,c,h1,h2,h3⟩:=h.cell i hi;exact ⟨b,m,c,h1,h2,λhm=>QD λh4=>h3 hm (.inl h4)⟩⟩
theorem ku {w : World} {B s : Nat} {e : TypeId} {a : OA} {n c : Nat} {xs : List Value} (h : w.ownsRow B e s (.slice a n c) n xs) (ha : a ≠ none) : B<=an a/\an a<w.heap.size:=by
 rcases h.2 with ⟨hv,_⟩ | ⟨g,cap,cur,hv,hg,hh,_⟩
 ·cases hv;exact absurd rfl ha
 ·cases hv;exact ⟨hg,(Array.getElem?_eq_some_iff.1 hh).1⟩
theorem pT {w w' : World} {B s : Nat} {e : TypeId} {a : OA} {n c : Nat} {xs : List Value} (h : w.ownsRow B e s (.slice a n c) n xs) (h1 : a ≠ none->w'.heap[an a]? = w.heap[an a]?) : w'.ownsRow B e s (.slice a n c) n xs:=by
 refine ⟨h.1,?_⟩;rcases h.2 with h2 | ⟨g,cap,cur,hv,hg,hh,r⟩
 ·exact .inl h2
 ·cases hv
  exact .inr ⟨g,_,cur,rfl,hg,by rw [show w'.heap[g]? = w.heap[g]? from h1 (by simp)];exact hh,r⟩
theorem Kd {P M : Int} {mod : Lz} {m : Nat} {L : ZZ} (hE : aH P M mod m L=0) {v : Int} (hv : 0<=v/\v<=(L.length : Int)) (hl : L.length<=64) :
  CG L.length ((gN (aa P M.toNat mod).ops L m).map (·.2)) v=(fU L.length v ((gN (aa P M.toNat mod).ops L m).map (·.2)) ((gN (aa P M.toNat mod).ops L m).map (·.2)).length,0):=by
 obtain ⟨m',e,hm1,hm64,_,_⟩:=aS hE;obtain ⟨h1,h2⟩:=gB hE;unfold CG;rw [Mg];refine ⟨?_,List.all_eq_true.2 λx hx=>?_⟩
 ·unfold Kj;simp [Mx];omega
 ·obtain ⟨t,ht,rfl⟩:=List.mem_map.1 hx;have h3:=fS h1 t ht;unfold Di;simp;omega
theorem aw.Lf {w w' : World} {M M' I : Nat->Prop} (h : aw w w' M M') (h1 : ∀x,M x->I x) (h2 : ∀x,M' x->I x) : aw w w' I I :=
 ⟨h.os,h.tape,h.output,h.size,λb hb hI=>h.block b hb λhm=>hI (h1 b hm),λb hb=>.inl hb⟩
theorem Iu : (prog.info? 62).map (λi=>(i.zero,i.size,i.bytes))=some (some (.agg #[.int .i64 0,.int .i64 0,.int .i64 0,.int .i64 0]),4,32):=by kernel_rfl
end
def nL (P M : Int) (mod : Lz) (m : Nat) (L SS : ZZ) (TT : List ZZ) (r : Nat) : Bool :=
 bG m (ai SS r) && (decide ((r : Int)+1<=fQ (aa P M.toNat mod).ops L m (ai SS r)) && decide (oC P M mod m L ((L.length : Int) - ((r : Int)+1)+1) (((ai SS r).length : Int) - 1) (wK TT r)=0))
def lO (P M : Int) (mod : Lz) (m : Nat) (L SS : ZZ) (TT : List ZZ) : Nat->Bool
 | 0=>true
 | k+1=>lO P M mod m L SS TT k && nL P M mod m L SS TT k
theorem Ap {P M : Int} {mod : Lz} {m : Nat} {L SS : ZZ} {TT : List ZZ} {k : Nat} (h : nL P M mod m L SS TT k=false) : ∀d,lO P M mod m L SS TT (k+1+d)=false
 | 0=>by show (lO P M mod m L SS TT k && nL P M mod m L SS TT k)=false;rw [h,Oq]
 | d+1=>by have ih:=Ap h d;show (lO P M mod m L SS TT (k+1+d) && _)=false;rw [ih,Qf]
def J0 (P M : Int) (mod : Lz) (N : Int) (L SS : ZZ) (TT : List ZZ) : Int :=
 if aH P M mod N L=0 then (if SS.length=L.length/\TT.length=L.length/\lO P M mod N.toNat L SS TT L.length=true then 0 else 13) else aH P M mod N L
def zw (SS : ZZ) (k : Nat) : Lz:=(List.range k).map λr=>((ai SS r).length : Int)
def jN (P M : Int) (mod : Lz) (N : Int) (n : Nat) (L SS : ZZ) (TT : List ZZ) (w : World) (e : Ending) (w' : World) : Prop :=
 Rs w w'/\((J0 P M mod N L SS TT ≠ 0/\e = .returned (.tuple #[.slice none 0 0,.int .i64 (J0 P M mod N L SS TT)])) \/
  (J0 P M mod N L SS TT=0/\∃a c,e = .returned (.tuple #[.slice a n c,.int .i64 0])/\w'.ownsRow w.heap.size 3 1 (.slice a n c) n ((zw SS n).map (Value.int .i64))))
theorem A8 (P M : Int) (am : OA) (mn cm : Nat) (mod : Lz) (N : Int) (a : OA) (n c : Nat) (L : ZZ) (asx : OA) (nsx csx : Nat) (SS : ZZ) (atx : OA) (ntx ctx : Nat) (TT : List ZZ) (w : World)
  (hmod : Ints w am mn mod) (hi : cU w a n L) (hSS : cU w asx nsx SS) (hTT : je w atx ntx TT) :
  Calls prog 96 #[.agg #[.int .i64 P,.int .i64 M,.slice am mn cm,.int .i64 N,.slice a n c],.agg #[.slice asx nsx csx,.slice atx ntx ctx]] w (jN P M mod N n L SS TT w):=by
 have Hil:=Z5 hi.len;have HSl:=Z5 hSS.len;have HTl:=Z5 hTT.len;have hplS:=hSS.pl;have hplT:=hTT.pl;go_enter func96,ntmps96;go_wp2_with fail;obtain ⟨U,hU⟩ : ∃U : World,U=(w.alloc (.cells #[.int .i64 P,.int .i64 M,.slice am mn cm,.int .i64 N,.slice a n c] 27)).alloc (.cells #[.slice asx nsx csx,.slice atx ntx ctx] 123):=⟨_,rfl⟩
 rw [<- hU];have hbU : Rs w U:=by rw [hU];exact iD _ _ _
 have x0 : bf U w.heap.size [.int .i64 P,.int .i64 M,.slice am mn cm,.int .i64 N,.slice a n c]:=by rw [hU];exact (QS _ _ _ rfl).alloc _
 have z0 : bf U (w.heap.size+1) [.slice asx nsx csx,.slice atx ntx ctx]:=by rw [hU];exact QS _ _ _ (by simp)
 have HS : Hid (∀V,Rs U V->V.cell? ⟨w.heap.size,0,none⟩=some (.int .i64 P)/\V.cell? ⟨w.heap.size,1,none⟩=some (.int .i64 M)/\V.cell? ⟨w.heap.size,2,none⟩=some (.slice am mn cm)/\V.cell? ⟨w.heap.size,3,none⟩=some (.int .i64 N)/\V.cell? ⟨w.heap.size,4,none⟩=some (.slice a n c) /\
   V.cell? ⟨w.heap.size+1,0,none⟩=some (.slice asx nsx csx)/\V.cell? ⟨w.heap.size+1,1,none⟩=some (.slice atx ntx ctx)):=λV hV=>by have x1:=x0.ah hV;have z1:=z0.ah hV;exact ⟨x1.cell 0 rfl,x1.cell 1 rfl,x1.cell 2 rfl,x1.cell 3 rfl,x1.cell 4 rfl,z1.cell 0 rfl,z1.cell 1 rfl⟩
 have HbU:=Z5 hbU;have HErr : Hid (∀V er,J0 P M mod N L SS TT=er->er ≠ 0->Rs U V->jN P M mod N n L SS TT w (.returned (.tuple #[.slice none 0 0,.int .i64 er])) V):=λV er h1 h2 hV =>
  ⟨QQ hbU hV,.inl ⟨by rw [h1];exact h2,by rw [h1]⟩⟩
 clear hU x0 z0;refine (ez P M am mn cm mod N a n c L U (hmod.ah hbU) (hi.ah hbU)).mono ?_;rintro e w1 ⟨rfl,hb1⟩;by_cases hC : aH P M mod N L=0;rotate_left
 ·have HR:=Z5 (HErr.out w1 _ (Mh hC) hC hb1);have hE' : (aH P M mod N L != 0)=true:=by simpa using hC
  clear hC;generalize aH P M mod N L=er at *;go_wp2_with fail;go_ret2;exact HR.out
 obtain ⟨m,em,hm1,hm64,F,hR⟩:=aS hC;subst em;have hn256 : n<=256:=by rw [<- hi.len];exact (eJ hC).choose_spec.2.2.2.1
 obtain ⟨d0,d1,d2,d3,d4,d5,d6⟩:=HS.out w1 hb1;have HRej : Hid (∀V,¬ (SS.length=L.length/\TT.length=L.length/\lO P M mod m L SS TT L.length=true)->Rs U V->jN P M mod m n L SS TT w (.returned (.tuple #[.slice none 0 0,.int .i64 13])) V):=λV h hV =>
  HErr.out V 13 (by show J0 _ _ _ _ _ _ _=13;unfold J0;rw [Mg hC,Mm,Mh h]) (by decide) hV
 by_cases hs1 : nsx=n;rotate_left
 ·have HR:=Z5 (HRej.out w1 (λh=>hs1 (by rw [<- hSS.len,h.1,hi.len])) hb1);have e1 : ((nsx : Int) != (n : Int))=true:=by simpa using λh=>hs1 (by omega)
  rw [hC];clear hC hs1;go_wp2_with fail;go_ret2;exact HR.out
 subst hs1;by_cases ht1 : ntx=nsx;rotate_left
 ·have HR:=Z5 (HRej.out w1 (λh=>ht1 (by rw [<- hTT.len,h.2.1,hi.len])) hb1);have e1 : ((ntx : Int) != (nsx : Int))=true:=by simpa using λh=>ht1 (by omega)
  rw [hC];clear hC ht1;go_wp2_with fail;go_ret2;exact HR.out
 subst ht1;have hbw1:=QQ hbU hb1;have HRj : Hid (∀V k,k<ntx->nL P M mod m L SS TT k=false->Rs U V->jN P M mod m ntx L SS TT w (.returned (.tuple #[.slice none 0 0,.int .i64 13])) V):=λV k hk hb hV =>
  HRej.out V (λh=>by have h1:=Ap hb (ntx - (k+1));rw [show k+1+(ntx - (k+1))=L.length by rw [hi.len];omega] at h1;rw [h1] at h;exact absurd h.2.2 (by decide)) hV
 have HOk : Hid (∀a1 c1 V,lO P M mod m L SS TT ntx=true->V.ownsRow w1.heap.size 3 1 (.slice a1 ntx c1) ntx ((zw SS ntx).map (Value.int .i64))->Rs w1 V->jN P M mod m ntx L SS TT w (.returned (.tuple #[.slice a1 ntx c1,.int .i64 0])) V):=λa1 c1 V h1 h2 h3 =>
  ⟨QQ hbw1 h3,.inr ⟨by unfold J0;rw [Mg hC,Mm,Mg ⟨by rw [hSS.len,hi.len],by rw [hTT.len,hi.len],by rw [hi.len];exact h1⟩],a1,c1,rfl,bg h2 hbw1.size⟩⟩
 have HStep : Hid (∀k,lO P M mod m L SS TT k=true->nL P M mod m L SS TT k=true->lO P M mod m L SS TT (k+1)=true):=λk h1 h2=>by show (lO P M mod m L SS TT k && nL P M mod m L SS TT k)=true;rw [h1,h2];rfl
 have HB0 : Hid (∀k : Nat,bG m (ai SS k)=false->nL P M mod m L SS TT k=false):=λk h=>by unfold nL;rw [h];rfl
 have HB1 : Hid (∀k : Nat,¬ (k : Int)+1<=fQ (aa P M.toNat mod).ops L m (ai SS k)->nL P M mod m L SS TT k=false):=λk h=>by unfold nL;rw [M1 h,Qf,Oq]
 have HB2 : Hid (∀(k : Nat) er,oC P M mod m L ((ntx : Int) - ((k : Int)+1)+1) (((ai SS k).length : Int) - 1) (wK TT k)=er->er ≠ 0->nL P M mod m L SS TT k=false):=λk er h1 h2=>by unfold nL;rw [M1 (p:=oC _ _ _ _ _ _ _ _=0) (by rw [hi.len,h1];exact h2),Oq,Oq]
 have HB3 : Hid (∀k : Nat,bG m (ai SS k)=true->(k : Int)+1<=fQ (aa P M.toNat mod).ops L m (ai SS k)->oC P M mod m L ((ntx : Int) - ((k : Int)+1)+1) (((ai SS k).length : Int) - 1) (wK TT k)=0->nL P M mod m L SS TT k=true):=λk h1 h2 h3=>by unfold nL;rw [h1,MO h2,hi.len,h3];rfl
 have HW : Hid (∀k,zw SS (k+1)=zw SS k ++ [((ai SS k).length : Int)]):=λk=>by unfold zw;rw [Nx];simp
 have HW0 : Hid (zw SS 0=[]):=rfl;have HCk : Hid (∀V mm WW ax nx cx ts,Rs w V->cU V ax nx ts->nx<=cx->Calls prog 127 #[.agg #[.int .i64 P,.int .i64 M,.slice am mn cm,.int .i64 m,.slice a ntx c],.int .i64 mm,.int .i64 WW,.agg #[.slice ax nx cx]] V λe w'=>e = .returned (.int .i64 (oC P M mod m L mm WW ts))/\Rs V w'):=λV mm WW ax nx cx ts hV h1 h2 =>
  qK P M am mn cm mod m a ntx c L mm WW ax nx cx ts V (hmod.ah hV) (hi.ah hV) h1
 have HRk1 : Hid (∀V ao no co Q,Rs w V->Ints V ao no Q->Calls prog 166 #[.agg #[.int .i64 P,.int .i64 M,.slice am mn cm,.int .i64 m,.slice a ntx c],.slice ao no co] V λe w'=>((bG m Q=false/\e = .returned (.tuple #[.int .i64 0,.int .i64 6]))\/(bG m Q=true/\e = .returned (.tuple #[.int .i64 (jI (aa P M.toNat mod).ops L Q : Nat),.int .i64 0])))/\Rs V w'):=λV ao no co Q hV hQ=>by
  refine (zl P M am mn cm mod m a ntx c L ao no co Q V (hmod.ah hV) (hi.ah hV) hQ).mono ?_;have he : eT P M mod m L Q=if bG m Q=true then 0 else 6:=by unfold eT;rw [Mg hC,mH]
  rintro e w' ⟨hb,⟨h0,rfl⟩ | ⟨h0,rfl⟩⟩
  ·by_cases hq : bG m Q=true
   ·rw [he,Mg hq] at h0;exact absurd rfl h0
   ·rw [he,Mh hq];exact ⟨.inl ⟨by simpa using hq,rfl⟩,hb⟩
  ·by_cases hq : bG m Q=true
   ·exact ⟨.inr ⟨hq,rfl⟩,hb⟩
   ·rw [he,Mh hq] at h0;cases h0
 have HDz : Hid (∀S,fQ (aa P M.toNat mod).ops L m S=(ntx : Int) - (jI (aa P M.toNat mod).ops L (aL false S m) : Nat)):=λS=>by unfold fQ;rw [hi.len]
 have HRb : Hid (∀S,jI (aa P M.toNat mod).ops L (aL false S m)<=m):=λS=>Mt (BG _ _ _) (fM _ _ _);have HOs : Hid (∀S,bG m (aL false S m)=true):=λS=>Ct false S m;have HG1 : Hid (∀(S : Lz) (k : Nat),decide ((k : Int) ∈ S)=false->aL false S (k+1)=aL false S k ++ [(k : Int)]):=λS k h=>by rw [aL,Mg h]
 have HG2 : Hid (∀(S : Lz) (k : Nat),decide ((k : Int) ∈ S)=true->aL false S (k+1)=aL false S k):=λS k h=>by rw [aL,Mh (by rw [h];decide)]
 have HGl : Hid (∀(S : Lz) k,(aL false S k).length<=k):=λS k=>fM _ _ _;obtain ⟨rk,hrk⟩ : ∃rk,jI (aa P M.toNat mod).ops L=rk:=⟨_,rfl⟩
 rw [hrk] at HRk1 HDz HRb;clear hrk;obtain ⟨ck,hck⟩ : ∃ck,oC P M mod m L=ck:=⟨_,rfl⟩
 obtain ⟨dz,hdz⟩ : ∃dz,fQ (aa P M.toNat mod).ops L m=dz:=⟨_,rfl⟩
 obtain ⟨G,hG⟩ : ∃G,zw SS=G:=⟨_,rfl⟩
 obtain ⟨H,hH⟩ : ∃H,lO P M mod m L SS TT=H:=⟨_,rfl⟩
 obtain ⟨hb,hhb⟩ : ∃hb,nL P M mod m L SS TT=hb:=⟨_,rfl⟩
 rw [hck] at HCk HB2 HB3;rw [hdz] at HB1 HB3 HDz;rw [hG] at HW HW0 HOk;rw [hH] at HOk HStep;rw [hhb] at HRj HStep HB0 HB1 HB2 HB3;have HH0 : Hid (H 0=true):=by show _=_;rw [<- hH];rfl
 rw [hC];have HSw : Hid (∀V,Rs w1 V->V.cell? ⟨w.heap.size,0,none⟩=some (.int .i64 P)/\V.cell? ⟨w.heap.size,1,none⟩=some (.int .i64 M)/\V.cell? ⟨w.heap.size,2,none⟩=some (.slice am mn cm)/\V.cell? ⟨w.heap.size,3,none⟩=some (.int .i64 m)/\V.cell? ⟨w.heap.size,4,none⟩=some (.slice a ntx c) /\
   V.cell? ⟨w.heap.size+1,0,none⟩=some (.slice asx ntx csx)/\V.cell? ⟨w.heap.size+1,1,none⟩=some (.slice atx ntx ctx)):=λV hV=>HS.out V (QQ hb1 hV)
 have Hbw1:=Z5 hbw1;have Hb1:=Z5 hb1;clear hck hdz hG hH hhb hC F hR HErr HRej HS hb1 hbU hbw1;go_wp2_with fail;go_loopw [8,9] (λov iv wr=>∃(k : Nat) (a1 : OA) (c1 : Nat),k<=ntx/\iv = .int .i64 ((k : Int)+1)/\ov = .slice a1 k c1/\wr.ownsRow w1.heap.size 3 1 (.slice a1 k c1) k ((G k).map (Value.int .i64))/\Hid (H k=true)/\Rs w1 wr) (λ_ iv _=>ntx+1 - (intOf iv).toNat);case atStart=>exact ⟨0,none,0,Mj _,rfl,rfl,by rw [HW0.out];exact bP,HH0.out,Mi _ _⟩
 case round =>
  obtain ⟨k,a1,c1,hk,rfl,rfl,hown,Hk,hbr⟩:=hrel
  obtain ⟨d0,d1,d2,d3,d4,d5,d6⟩:=HSw.out wr hbr
  by_cases hlt : k<ntx
  ·obtain ⟨r,hr⟩ : ∃r : Int,(k : Int)+1=r:=⟨_,rfl⟩
   have hr1 : 1<=r:=by omega
   have hrn : r<=ntx:=by omega
   have g1 : decide (r<=(ntx : Int))=true:=by simp;omega
   have g2 : r - 1=(k : Int):=by omega
   have HRk:=Z5 (λV=>HRj.out V k hlt)
   have HB0k:=Z5 (HB0.out k)
   have HB1k:=Z5 (HB1.out k)
   have HB2k:=Z5 (HB2.out k)
   have HB3k:=Z5 (HB3.out k)
   have HStk:=Z5 (HStep.out k Hk.out)
   have HWk:=Z5 (HW.out k)
   rw [hr] at HB1k HB2k HB3k ⊢
   obtain ⟨rb,rn,rc,hcell,hrow⟩:=(hSS.ah (QQ Hbw1.out hbr)).cell k (by omega)
   obtain ⟨tb,tn,tc,htcell,htree,htc⟩:=(hTT.ah (QQ Hbw1.out hbr)).cell k (by omega)
   obtain ⟨S,hS⟩ : ∃S,ai SS k=S:=⟨_,rfl⟩
   obtain ⟨ts,hts⟩ : ∃ts,wK TT k=ts:=⟨_,rfl⟩
   rw [hS] at HB0k HB1k HB2k HB3k HWk hrow
   rw [hts] at HB2k HB3k htree
   have hrl:=hrow.len
   rw [hrl] at HB2k HB3k HWk
   have hrmax : rn<=maxLen:=hrow.max
   unfold maxLen at hrmax
   have Hr:=Z5 hr
   have Hown:=Z5 hown
   have Hbr:=Z5 hbr
   have Hrow:=Z5 hrow
   have Htree:=Z5 htree
   have Hrl:=Z5 hrl
   clear hr hown hbr hrow htree hS hts hrl
   have HG1:=Z5 (HG1.out S)
   have HG2:=Z5 (HG2.out S)
   have HGl:=Z5 (HGl.out S)
   have hRb:=HRb.out S
   have HDz:=Z5 (HDz.out S)
   have HOs:=Z5 (HOs.out S)
   obtain ⟨Z,hZ⟩ : ∃Z,aL false S=Z:=⟨_,rfl⟩
   rw [hZ] at HG1 HG2 HGl hRb HDz HOs
   have HZ0 : Hid (Z 0=[]):=by show _=_;rw [<- hZ];rfl
   have hbw:=QQ Hbw1.out Hbr.out
   have Hbw:=Z5 hbw
   have HSr : Hid (∀V,Rs wr V->V.cell? ⟨w.heap.size,0,none⟩=some (.int .i64 P)/\V.cell? ⟨w.heap.size,1,none⟩=some (.int .i64 M)/\V.cell? ⟨w.heap.size,2,none⟩=some (.slice am mn cm)/\V.cell? ⟨w.heap.size,3,none⟩=some (.int .i64 m)/\V.cell? ⟨w.heap.size,4,none⟩=some (.slice a ntx c) /\
     V.cell? ⟨w.heap.size+1,0,none⟩=some (.slice asx ntx csx)/\V.cell? ⟨w.heap.size+1,1,none⟩=some (.slice atx ntx ctx)/\V.cell? ⟨an atx,aP atx+k,none⟩=some (.slice tb tn tc)):=λV hV=>by obtain ⟨x0,x1,x2,x3,x4,x5,x6⟩:=HSw.out V (QQ Hbr.out hV);exact ⟨x0,x1,x2,x3,x4,x5,x6,aA hV htcell⟩
   have hU1:=QQ Hb1.out Hbr.out
   have HU1:=Z5 hU1
   clear hZ hbw htcell hU1
   generalize wr=X at *
   go_upto_region 14 with fail
   clear hcell
   go_loopw [11,50] (λov iv wr=>∃(k g : Nat) (a1 : OA) (c1 : Nat),k<=m/\iv = .int .i64 k/\Hid ((Z k).length=g)/\ov = .slice a1 g c1/\wr.ownsRow X.heap.size 3 1 (.slice a1 g c1) g ((Z k).map (Value.int .i64))/\Rs X wr) (λ_ iv _=>m - (intOf iv).toNat)
   case atStart=>exact ⟨0,0,none,0,Mj _,rfl,by show _=_;rw [HZ0.out];rfl,rfl,by rw [HZ0.out];exact bP,Mi _ _⟩
   case round =>
    obtain ⟨j,g,a2,c2,hj,rfl,Hg2,rfl,hown,hbz⟩:=hrel
    by_cases hltj : j<m
    ·have hgk : g<=64:=by have h:=HGl.out j;rw [Hg2.out] at h;omega
     have hcont:=bI rb rn rc S j wr (Hrow.out.ah hbz)
     have hG1:=HG1.out j
     have hG2:=HG2.out j
     obtain ⟨b2,hb2⟩ : ∃b2,decide ((j : Int) ∈ S)=b2:=⟨_,rfl⟩
     rw [hb2] at hcont hG1 hG2
     have Hcont:=Z5 hcont
     clear hb2 hcont
     cases b2
     ·have Hn:=Z5 (hG1 rfl)
      clear hG1 hG2
      have hsz:=hbz.size
      have hcn:=bm wr (.int .i64 j) 3
      go_wp2_with (first | (go_at_call 68;refine Hcont.out.mono ?_;rintro e w3 ⟨rfl,rfl⟩) | (at_builtin;refine bj rfl _ _ 22 3 rfl (.int .i64 0) 8 underlying22 bt rfl X.heap.size a2 g c2 _ rfl (hown.alloc _) ⟨w3.heap.size,0,none⟩ 1 (.int .i64 j) rfl hcn rfl (by omega) (by unfold maxLen;omega) (by simp;omega) ?_;intro a5 c5 w5 hown5 hgr5 hap5))
      go_roundw
      case rel =>
       refine ⟨j+1,g+1,a5,c5,by omega,by go_num,by show _=_;rw [Hn.out,Mp,Hg2.out];rfl,rfl,by rw [Hn.out];simpa using hown5,QT (Q3 hbz _) (hown.alloc _) hgr5 (Mf _) (Q3 hbz _).size⟩
      case measure=>simp [intOf] <;> omega
     ·have Hn:=Z5 (hG2 rfl)
      clear hG1 hG2
      go_wp2_with (go_at_call 68;refine Hcont.out.mono ?_;rintro e w3 ⟨rfl,rfl⟩)
      go_roundw
      case rel=>exact ⟨j+1,g,a2,c2,by omega,by go_num,by show _=_;rw [Hn.out];exact Hg2.out,rfl,by rw [Hn.out];exact hown,hbz⟩
      case measure=>simp [intOf] <;> omega
    ·obtain rfl : j=m:=by omega
     have HIo:=Z5 (QR hown).1
     rw [<- Hg2.out] at HIo
     have HR1:=Z5 (HRk1.out wr rb rn rc S (QQ Hbw.out hbz) (Hrow.out.ah hbz))
     have Hbz:=Z5 hbz
     obtain ⟨d0,d1,d2,d3,d4,d5,d6,_⟩:=HSr.out wr hbz
     generalize wr=Y at *
     clear hown hbz
     go_wp2_with fail
     refine HR1.out.mono ?_
     rintro e w4 ⟨⟨hq,rfl⟩ | ⟨hq,rfl⟩,hb4⟩
     ·have HR:=Z5 (HRk.out w4 (HB0k.out hq) (QQ HU1.out (QQ Hbz.out hb4)))
      clear hq d0 d1 d2 d3 d4 d5 d6
      go_wp2_with fail
      go_ret2
      exact HR.out
     have hb4X:=QQ Hbz.out hb4
     have HR2:=Z5 (HRk1.out w4 a2 (Z j).length c2 (Z j) (QQ Hbw.out hb4X) (HIo.out.ah hb4))
     rw [Hg2.out] at HR2
     have Hq:=Z5 hq
     clear hq d0 d1 d2 d3 d4 d5 d6 HR1
     obtain ⟨d0,d1,d2,d3,d4,d5,d6,_⟩:=HSr.out w4 hb4X
     obtain ⟨v1,hv1⟩ : ∃v1 : Nat,rk S=v1:=⟨_,rfl⟩
     rw [hv1]
     obtain ⟨v2,hv2⟩ : ∃v2 : Nat,rk (Z j)=v2:=⟨_,rfl⟩
     rw [hv2] at HR2 HDz hRb
     clear hv1 hv2
     go_wp2_with fail
     refine HR2.out.mono ?_
     rintro e w5 ⟨⟨hq,rfl⟩ | ⟨_,rfl⟩,hb5⟩
     ·rw [HOs.out] at hq;cases hq
     have hb5X:=QQ hb4X hb5
     clear d0 d1 d2 d3 d4 d5 d6 HR2
     obtain ⟨d0,d1,d2,d3,d4,d5,d6,d7⟩:=HSr.out w5 hb5X
     have Hb5X:=Z5 hb5X
     obtain ⟨v3,hv3⟩ : ∃v3 : Int,(ntx : Int) - v2=v3:=⟨_,rfl⟩
     have Hv3:=Z5 hv3
     have hwv3 : IntKind.i64.wrap v3=v3:=Mq _ (by omega)
     have hw1 : IntKind.i64.wrap ((ntx : Int) - r)=(ntx : Int) - r:=Mq _ (by omega)
     have hw2 : IntKind.i64.wrap ((ntx : Int) - r+1)=(ntx : Int) - r+1:=Mq _ (by omega)
     have hw3 : IntKind.i64.wrap ((rn : Int) - 1)=(rn : Int) - 1:=Mq _ (by omega)
     have hwk : IntKind.i64.wrap (k : Int)=(k : Int):=Mq _ (by omega)
     have hkI : (k : Int)<(ntx : Int):=by omega
     have hkI0 : (0 : Int)<=(k : Int):=by omega
     by_cases hd : v3<r
     ·have HR : Hid (∀V,Rs w5 V->jN P M mod j ntx L SS TT w (.returned (.tuple #[.slice none 0 0,.int .i64 13])) V):=λV hV=>HRk.out V (HB1k.out (by rw [HDz.out,Hv3.out];omega)) (QQ HU1.out (QQ Hb5X.out hV))
      have g5 : decide (v3<r)=true:=by simpa using hd
      clear hd d7
      go_wp2_with fail
      go_quiet (fail)
      go_wp2_with fail
      go_ret2
      exact HR.out _ (by first | exact Mi _ _ | exact (Mi _ _).drew | exact Q1 ⟨_,rfl⟩)
     ·have g5 : decide (v3<r)=false:=by simpa using hd
      have HB3d : Hid (ck ((ntx : Int) - r+1) ((rn : Int) - 1) ts=0->hb k=true):=λh=>HB3k.out Hq.out (by rw [HDz.out,Hv3.out];omega) h
      have HCkk : Hid (∀V,Rs X V->Calls prog 127 #[.agg #[.int .i64 P,.int .i64 M,.slice am mn cm,.int .i64 j,.slice a ntx c],.int .i64 ((ntx : Int) - r+1),.int .i64 ((rn : Int) - 1),.agg #[.slice tb tn tc]] V λe w'=>e = .returned (.int .i64 (ck ((ntx : Int) - r+1) ((rn : Int) - 1) ts))/\Rs V w'):=λV hV =>
       HCk.out V _ _ tb tn tc ts (QQ Hbw.out hV) (Htree.out.ah hV) htc
      obtain ⟨er,her⟩ : ∃er,ck ((ntx : Int) - r+1) ((rn : Int) - 1) ts=er:=⟨_,rfl⟩
      have HB2d:=Z5 (HB2k.out er)
      rw [her] at HCkk HB3d HB2d
      clear her hd d0 d1 d2 d3 d4 d5 d6 d7
      by_cases h0 : er=0
      ·subst h0
       have HStn : Hid (H (k+1)=true):=HStk.out (HB3d.out rfl)
       go_wp2_with fail
       go_region_held3 (λV=>V.cell? ⟨w.heap.size,0,none⟩=some (.int .i64 P)/\V.cell? ⟨w.heap.size,1,none⟩=some (.int .i64 M)/\V.cell? ⟨w.heap.size,2,none⟩=some (.slice am mn cm)/\V.cell? ⟨w.heap.size,3,none⟩=some (.int .i64 j)/\V.cell? ⟨w.heap.size,4,none⟩=some (.slice a ntx c)/\V.cell? ⟨w.heap.size+1,0,none⟩=some (.slice asx ntx csx)/\V.cell? ⟨w.heap.size+1,1,none⟩=some (.slice atx ntx ctx)/\V.cell? ⟨an atx,aP atx+k,none⟩=some (.slice tb tn tc))
        ((refine HSr.out _ ?_;first | exact Hb5X.out.drew | exact QQ Hb5X.out hb7))
        (first
         | (go_at_call 127;((with_reducible refine (HCkk.out _ Hb5X.out.drew).mono ?_);rintro e w6 ⟨rfl,hb6⟩;have hb7 : Rs w5 w6:=QQ (Mi _ _).drew hb6)))
       have hbX6:=QQ Hb5X.out hb7
       have hbm : Rs w1 (w6.alloc (.cells #[.int .i64 rn] 3)):=QQ (QQ Hbr.out hbX6) (aB _ _)
       have hop:=ba Hown.out (QQ hbX6 (aB w6 (.cells #[.int .i64 rn] 3)))
       have hcn:=bm w6 (.int .i64 rn) 3
       have hs8:=hbm.size
       go_wp2_with (at_builtin;refine bj rfl _ _ 22 3 rfl (.int .i64 0) 8 underlying22 bt rfl w1.heap.size a1 k c1 _ rfl hop ⟨w6.heap.size,0,none⟩ 1 (.int .i64 rn) rfl hcn rfl (by omega) (by unfold maxLen;omega) hs8 ?_;intro a5 c5 w5 hown5 hgr5 hap5)
       go_roundw
       case rel =>
        refine ⟨k+1,a5,c5,by omega,?_,rfl,by rw [HWk.out];simpa using hown5,HStn.out,QT hbm hop hgr5 (Mf _) hs8⟩
        have:=Hr.out
        congr 1
        omega
       case measure =>
        have:=Hr.out
        simp [intOf] <;> omega
      ·have HR : Hid (∀V,Rs X V->jN P M mod j ntx L SS TT w (.returned (.tuple #[.slice none 0 0,.int .i64 13])) V):=λV hV=>HRk.out V (HB2d.out rfl h0) (QQ HU1.out hV)
       have g6 : (er != 0)=true:=by simpa using h0
       clear h0
       go_wp2_with fail
       go_region_held3 (λV=>V.cell? ⟨w.heap.size,0,none⟩=some (.int .i64 P)/\V.cell? ⟨w.heap.size,1,none⟩=some (.int .i64 M)/\V.cell? ⟨w.heap.size,2,none⟩=some (.slice am mn cm)/\V.cell? ⟨w.heap.size,3,none⟩=some (.int .i64 j)/\V.cell? ⟨w.heap.size,4,none⟩=some (.slice a ntx c)/\V.cell? ⟨w.heap.size+1,0,none⟩=some (.slice asx ntx csx)/\V.cell? ⟨w.heap.size+1,1,none⟩=some (.slice atx ntx ctx)/\V.cell? ⟨an atx,aP atx+k,none⟩=some (.slice tb tn tc))
        ((refine HSr.out _ ?_;first | exact Hb5X.out.drew | exact QQ Hb5X.out hb7))
        (first
         | (go_at_call 127;((with_reducible refine (HCkk.out _ Hb5X.out.drew).mono ?_);rintro e w6 ⟨rfl,hb6⟩;have hb7 : Rs w5 w6:=QQ (Mi _ _).drew hb6)))
       have HF:=Z5 (HR.out w6 (QQ Hb5X.out hb7))
       go_wp2_with fail
       go_ret2
       exact HF.out
  ·obtain rfl : k=ntx:=by omega
   have g1 : decide ((k : Int)+1<=(k : Int))=false:=by simp;omega
   have HF:=Z5 (HOk.out a1 c1 wr Hk.out hown hbr)
   clear hown hbr
   go_wp2_with fail
   go_ret2
   exact HF.out
section
open Go.RowKit
end
theorem Jz : lE 2 1 [] 4 cP 1=0:=by decide +kernel
theorem Kg : zH (aa 2 1 []).ops 4 cP 1=[0,2]:=by decide +kernel
theorem xu : gh 2 1 [] 4 cP=0:=by decide +kernel
theorem IZ : AS (aa 2 1 []).ops 4 cP=[2,4]:=by decide +kernel
theorem J6 : mh (fy (aa 2 1 []).ops 4 cP) 4=[0,0,1,1,2]:=by decide +kernel
theorem Jy : qR [2,4] 4=0:=by decide +kernel
theorem KA : EF [2,4] 4=[2,4]:=by decide +kernel
theorem Jr : E6 2 1 [] 4 cP [0,2,3]=0:=by decide +kernel
theorem KL : fI (aa 2 1 []) 4 cP [0,2,3]=[[1,0,1,0]]:=by decide +kernel
theorem C1 : dM (aa 2 1 []).ops cP 4 1=[0,2]:=by decide +kernel
theorem Dl : dM (aa 2 1 []).ops cP 4 2=[0,1,2,3]:=by decide +kernel
theorem Gh : jg 2 1 [] 4 cP 1 3=0:=by decide +kernel
theorem I4 : kI 2 1 [] 4 cP 1 3=(0,[[0],[1],[2],[3]]):=by rw [kI,Mg Gh,JU];decide +kernel
theorem CN : uz 2 1 [] 4 cP 0=(0,[[0,1],[1,2],[0,2]]):=by have h : dM (aa 2 (1 : Int).toNat []).ops cP (4 : Int).toNat (((0 : Nat) : Int)+1)=[0,2]:=C1;unfold uz;rw [h];exact Jj
theorem CX : uz 2 1 [] 4 cP 1=(0,[[0],[1],[2],[3]]):=by have h : dM (aa 2 (1 : Int).toNat []).ops cP (4 : Int).toNat (((1 : Nat) : Int)+1)=[0,1,2,3]:=Dl;unfold uz;rw [h];exact I4
theorem IC : nj 2 1 [] 4 cP=0:=by unfold nj;rw [Mg xu];show jc 2 1 [] 4 cP 2=0;simp only [jc,CN,CX,if_true]
theorem IK : qt 2 1 [] 4 cP 2=[[0,2],[0,1,2,3]]:=by unfold qt;show [_,_]=_;exact congr (congrArg List.cons C1) (congrArg (λx=>[x]) Dl)
theorem ID : qC 2 1 [] 4 cP 2=[[[0,1],[1,2],[0,2]],[[0],[1],[2],[3]]]:=by unfold qC;show [(uz 2 1 [] 4 cP 0).2,(uz 2 1 [] 4 cP 1).2]=_;rw [CN,CX]
theorem J3 : J0 2 1 [] 4 cP [[0,2],[0,1,2,3]] [[[0,1],[1,2],[0,2]],[[0],[1],[2],[3]]]=0:=by decide +kernel
theorem J4 : zw [[0,2],[0,1,2,3]] 2=[2,4]:=by decide +kernel
end Go.Proofs.YtcfmiocdlcapoaaGreat
