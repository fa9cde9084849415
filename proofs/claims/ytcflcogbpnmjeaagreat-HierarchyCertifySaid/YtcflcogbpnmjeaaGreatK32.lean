/-  -/
import Derived.Test.YtcflcogbpnmjeaaGreatK27
import Derived.Test.YtcflcogbpnmjeaaGreatK20
import Derived.Test.YtcflcogbpnmjeaaGreatK28
import Derived.Test.YtcflcogbpnmjeaaGreatK26
import Derived.Test.YtcflcogbpnmjeaaGreatK17
import Derived.Test.YtcflcogbpnmjeaaGreatK21
import Derived.Test.YtcflcogbpnmjeaaGreatK30
import Derived.Test.YtcflcogbpnmjeaaGreatK11
import Derived.Test.YtcflcogbpnmjeaaGreatK31
import Derived.Test.YtcflcogbpnmjeaaGreatK29
import Derived.Test.YtcflcogbpnmjeaaGreatK9
namespace Go.Proofs.YtcflcogbpnmjeaaGreat
set_option linter.unusedVariables false
set_option linter.unusedSimpArgs false
set_option linter.unusedSectionVars false

section
open Go.RowKit
end

section
open Go.RowKit
def BSt.I (σ : BSt) (x : Nat) : Prop:=OIn σ.ar σ.R x
def RBPost (B : Nat) (σ : BSt) (V : Int × List (List Int)) (w : World) (e : Ending) (w' : World) : Prop :=
 (V.1=0∧∃ σ' : BSt,OMat w' B σ'.ar σ'.T.length σ'.cr σ'.R σ'.T∧σ'.T=V.2∧σ'.T.length≤65536∧Moves w w' σ.I σ'.I∧e = .returned (.tuple #[.slice σ'.ar σ'.T.length σ'.cr,.int .i64 0])) ∨
 (V.1 ≠ 0∧∃ I',Moves w w' σ.I I'∧e = .returned (.tuple #[.slice none 0 0,.int .i64 V.1]))
theorem OMat.more {V w5 : World} {B : Nat} {σ : BSt} (h : OMat V B σ.ar σ.T.length σ.cr σ.R σ.T)
  {a3 : Option Addr} {c3 : Nat} {t : List Int} (hr : V.ownsRow B 3 1 (.slice a3 t.length c3) t.length (t.map (Value.int .i64))) (hra : a3 ≠ none→¬ σ.I (ablk a3)) {o : Obj}
  {a5 : Option Addr} {c5 : Nat} (hown : w5.ownsRow B 22 1 (.slice a5 (σ.T.length+1) c5) (σ.T.length+1) (List.zipWith rowV σ.R σ.T ++ [.slice a3 t.length c3])) (hg : (V.alloc o).grownBy w5 (Value.slice σ.ar σ.T.length σ.cr).ownBlock)
  (hap : ∀ b,b<(V.alloc o).heap.size→Apt σ.ar b→Apt a5 b) :
  OMat w5 B a5 (σ.T.length+1) c5 (σ.R ++ [(a3,c3)]) (σ.T ++ [t])∧Moves V w5 (fun x=>σ.I x∨(a3 ≠ none∧x=ablk a3)) (fun x=>OIn a5 (σ.R ++ [(a3,c3)]) x):=by
 have hal:=below1 V o
 have hO1 : OMat (V.alloc o) B σ.ar σ.T.length σ.cr σ.R σ.T:=h.keep hal
 refine ⟨OMat.push hO1 (own_keep hr hal) hra hown hg hap,?_⟩
 have hM0 : Moves V (V.alloc o) (fun x=>σ.I x∨(a3 ≠ none∧x=ablk a3)) (fun x=>σ.I x∨(a3 ≠ none∧x=ablk a3)):=Moves.of_below hal _
 have hM1 : Moves (V.alloc o) w5 (fun x=>σ.I x∨(a3 ≠ none∧x=ablk a3)) (fun x=>σ.I x∨(a3 ≠ none∧x=ablk a3)):=Moves.grown hg fun h0=>.inl (.inl ⟨h0,rfl⟩)
 have hM2:=hM0.trans hM1
 refine ⟨hM2.os,hM2.tape,hM2.output,hM2.size,hM2.block,fun x hx=>?_⟩
 rcases OIn.push hO1 hap hx with h1 | h1 | h1
 ·exact .inl (.inl h1)
 ·exact .inl (.inr h1)
 ·exact .inr (Nat.le_trans hal.size h1)
def Mov (U V : World) (I : Nat→Prop) : Prop:=∃ I',Moves U V I I'
theorem Mov.below {U V : World} {I : Nat→Prop} (h : Below U.heap.size U V) : Mov U V I:=⟨_,Moves.of_below h _⟩
theorem Mov.next {U V W : World} {I : Nat→Prop} (h : Mov U V I) (k : Below V.heap.size V W) : Mov U W I:=by
 obtain ⟨I',h⟩:=h
 exact ⟨_,h.trans (Moves.of_below k _)⟩
theorem Mov.allocN {U V : World} {I : Nat→Prop} (h : Mov U V I) (o : Obj) : Mov U (V.alloc o) I:=h.next (below1 _ _)
theorem Mov.drewN {U V : World} {I : Nat→Prop} (h : Mov U V I) : Mov U V.drew I:=h.next (Below.refl _ _).drew
def RBV (B : Nat) (σ : BSt) (V : Int × List (List Int)) (er : Int) (w : World) (rv : Value) (w' : World) : Prop :=
 (er=0∧∃ σ' : BSt,OMat w' B σ'.ar σ'.T.length σ'.cr σ'.R σ'.T∧σ'.T=V.2∧σ'.T.length≤65536∧Moves w w' σ.I σ'.I∧rv = .slice σ'.ar σ'.T.length σ'.cr) ∨
 (er ≠ 0∧∃ I',Moves w w' σ.I I'∧rv = .slice none 0 0)
theorem RBPost.split {B : Nat} {σ : BSt} {V : Int × List (List Int)} {w w' : World} {e : Ending} (h : RBPost B σ V w e w') : ∃ rv,e = .returned (.tuple #[rv,.int .i64 V.1])∧RBV B σ V V.1 w rv w':=by
 rcases h with ⟨h1,σ',g1,g2,g3,g4,rfl⟩ | ⟨h1,I',g4,rfl⟩
 ·exact ⟨_,by rw [h1],.inl ⟨h1,σ',g1,g2,g3,g4,rfl⟩⟩
 ·exact ⟨_,rfl,.inr ⟨h1,I',g4,rfl⟩⟩
theorem RBV.from {B : Nat} {σ : BSt} {V : Int × List (List Int)} {er : Int} {U w w' : World} {rv : Value} (h : RBV B σ V er w rv w') (hb : Below U.heap.size U w) : RBV B σ V er U rv w':=by
 rcases h with ⟨h1,σ',g1,g2,g3,g4,rfl⟩ | ⟨h1,I',g4,rfl⟩
 ·exact .inl ⟨h1,σ',g1,g2,g3,(Moves.of_below hb _).trans g4,rfl⟩
 ·exact .inr ⟨h1,I',(Moves.of_below hb _).trans g4,rfl⟩
theorem RBV.mov {B : Nat} {σ : BSt} {V : Int × List (List Int)} {er : Int} {w w' : World} {rv : Value} (h : RBV B σ V er w rv w') : Mov w w' σ.I:=by
 rcases h with ⟨h1,σ',g1,g2,g3,g4,rfl⟩ | ⟨h1,I',g4,rfl⟩
 ·exact ⟨_,g4⟩
 ·exact ⟨_,g4⟩
end

section
open Go.RowKit
end

section
open Go.RowKit
end

section
open Go.RowKit
end

section
open Go.RowKit
end

section
open Go.RowKit
theorem Box.other {w : World} {b : Nat} {cs : List Value} (h : Box w b cs) {g i : Nat} (v : Value) (hb : b ≠ g) : Box (w.setCell ⟨g,i,none⟩ v) b cs:=by
 refine ⟨by rw [World.size_setCell];exact h.1,fun j x hx=>?_,fun j=>?_⟩
 ·rw [World.cell?_setCell_other _ _ _ _ (by simp <;> omega)]
  exact h.2.1 j x hx
 ·rw [World.frozen?_setCell]
  exact h.2.2 j
def BldP (T : List (List Int)) (er : Int) (V : World) (e : Ending) (w' : World) : Prop:=∃ av nv cv R,e = .returned (.tuple #[.agg #[.slice av nv cv],.int .i64 er])∧OMat w' V.heap.size av nv cv R T∧Below V.heap.size V w'
theorem ExBldPost.bldP {V : Int × List (List Int)} {w w' : World} {e : Ending} (h : ExBldPost V w e w') : BldP (if V.1=0 then V.2 else []) V.1 w e w':=by
 obtain ⟨hb,⟨h1,rfl⟩ | ⟨h1,ar,cr,R,rfl,hO⟩⟩:=h
 ·rw [if_neg h1]
  exact ⟨none,0,0,[],rfl,OMat.nul _ _,hb⟩
 ·rw [if_pos h1]
  exact ⟨ar,_,cr,R,by rw [h1],hO,hb⟩
end

section
open Go.RowKit
theorem infoExc : (Tryz.prog.info? 37).map (fun i=>(i.zero,i.size,i.bytes))=some (some (.agg #[.slice none 0 0]),1,24):=by kernel_rfl
theorem wpList_pushT {P : Program} {w : World} {ops : Array Oper} {rest : List Oper} {o : Oper} {ac : Act} {Q : Exit→Act→World→Prop}
  (hg : o.guard=none) (s x : Operand) (t e : TypeId) (hop : o.op = .call { callee:=.builtin .append,args:=#[s,x],argTypes:=#[t,t] }) (z : Value) (bytes : Nat)
  (h1 : P.underlying t=some (.slice e)) (h2 : (P.info? e).map (fun i=>(i.zero,i.size,i.bytes))=some (some z,1,bytes)) (hz : z.cells.size=1)
  (B : Nat) (a : Option Addr) (n c : Nat) (xs : List Value) (hs : ac.eval s = .slice a n c) (hown : w.ownsRow B e 1 (.slice a n c) n xs)
  (ad : Addr) (cc : Nat) (u : Value) (hx : ac.eval x = .slice (some ad) 1 cc) (hu : w.cell? ad=some u) (h1c : u.oneCell'=true)
  (b2 : (n+1) * bytes≤140737488355328) (b3 : n+1≤maxLen) (hB : B≤w.heap.size)
  (hK : ∀ a' c' w',w'.ownsRow B e 1 (.slice a' (n+1) c') (n+1) (xs ++ [u])→w.grownBy w' (Value.slice a n c).ownBlock→(∀ b,b<w.heap.size→Apt a b→Apt a' b)→wpList P ops Q rest (ac.put o.dst (.slice a' (n+1) c')) w') :
  wpList P ops Q (o :: rest) ac w:=by
 obtain ⟨i,hi,hz0,hz1,hz2⟩:=info_parts h2
 refine wpList_append_own_at w hg s x t hop B e i z 1 bytes h1 hi hz0 hz1 hz2 hz (by decide) _ n xs hs hown ad 1 cc [u] hx rfl ?_ ?_ b3 b2 hB fun v' w' hown' hgr _ hat=>?_
 ·intro j v hj
  match j,hj with
  | 0,hj=>simp at hj;subst hj;simpa [Addr.add] using hu
 ·intro v hv;simp at hv;subst hv;exact h1c
 ·obtain ⟨a',c',rfl,_⟩:=Pl.own hown'
  refine hK a' c' w' hown' hgr fun b hb hapt=>?_
  have h:=hapt.own n c
  rcases hat with h3 | h3
  ·exact Apt.of_own (n:=n+1) (c:=c') (by rw [h3];exact h)
  ·exact Apt.of_own (n:=n+1) (c:=c') (by rw [h3];intro h4;cases h4;omega)
structure TX where
 a : Option Addr
 c : Nat
 T : List (List Int)
def rxW (x : RX) : Value:=.slice x.a x.l.length x.c
def txV (y : TX) : Value:=.slice y.a y.T.length y.c
def CA (B Bo : Nat) (as' at' : Option Addr) : Nat→Prop:=fun b=>b<B∨b=Bo∨(as' ≠ none∧b=ablk as')∨(at' ≠ none∧b=ablk at')
structure CerI (B : Nat) (V : World) (Bo : Nat) (as' : Option Addr) (cs : Nat) (at' : Option Addr) (ct : Nat) (ss : List RX) (tt : List TX) : Prop where
 bo : B≤Bo
 box : Box V Bo [.slice as' ss.length cs,.slice at' tt.length ct]
 so : V.ownsRow B 22 1 (.slice as' ss.length cs) ss.length (ss.map rxW)
 tow : V.ownsRow B 37 1 (.slice at' tt.length ct) tt.length (tt.map txV)
 as1 : Apt as' Bo
 at1 : Apt at' Bo
 st : as'=none∨at'=none∨ablk as' ≠ ablk at'
 sx : ∀ x ∈ ss,Ints V x.a x.l.length x.l∧(0<x.l.length→¬ CA B Bo as' at' (ablk x.a))
 tx : ∀ y ∈ tt,MatA (CA B Bo as' at') V y.a y.T.length y.T∧y.T.length≤y.c
theorem CerI.keep {B : Nat} {V V' : World} {Bo : Nat} {as' : Option Addr} {cs : Nat} {at' : Option Addr} {ct : Nat} {ss : List RX} {tt : List TX} (h : CerI B V Bo as' cs at' ct ss tt) (hb : Below V.heap.size V V') : CerI B V' Bo as' cs at' ct ss tt :=
 ⟨h.bo,h.box.keep hb,own_keep h.so hb,own_keep h.tow hb,h.as1,h.at1,h.st,fun x hx=>⟨(h.sx x hx).1.keep hb,(h.sx x hx).2⟩,fun y hy=>⟨(h.tx y hy).1.keep hb,(h.tx y hy).2⟩⟩
theorem CerI.start {V : World} {Bo B : Nat} (hB : B≤Bo) (h : Box V Bo [.slice none 0 0,.slice none 0 0]) : CerI B V Bo none 0 none 0 [] [] :=
 ⟨hB,h,own_none,own_none,.inl rfl,.inl rfl,.inl rfl,fun x hx=>by simp at hx,fun y hy=>by simp at hy⟩
theorem CerI.lt {B : Nat} {V : World} {Bo : Nat} {as' : Option Addr} {cs : Nat} {at' : Option Addr} {ct : Nat} {ss : List RX} {tt : List TX} (h : CerI B V Bo as' cs at' ct ss tt) : ∀ b,CA B Bo as' at' b→b<V.heap.size:=fun b hb=>by
 have h0:=h.bo
 have h9:=h.box.1
 rcases hb with h1 | rfl | ⟨h1,rfl⟩ | ⟨h1,rfl⟩
 ·omega
 ·exact h.box.1
 ·exact (own_ne h.so h1).2
 ·exact (own_ne h.tow h1).2
theorem own_blk {w w' : World} {B : Nat} {e : TypeId} {a : Option Addr} {n c : Nat} {xs : List Value} (h : w.ownsRow B e 1 (.slice a n c) n xs) (hb : a ≠ none→w'.heap[ablk a]? = w.heap[ablk a]?) : w'.ownsRow B e 1 (.slice a n c) n xs:=by
 refine ⟨h.1,?_⟩
 rcases h.2 with h2 | ⟨g,cap,cur,hv,hg,hh,r⟩
 ·exact .inl h2
 ·cases hv
  exact .inr ⟨g,_,cur,rfl,hg,by rw [show w'.heap[g]? = w.heap[g]? from hb (by simp)];exact hh,r⟩
theorem Moves.weak {w w' : World} {A A' : Nat→Prop} (h : Moves w w' A A) (hs : ∀ b,A' b→A b∨w.heap.size≤b) : Moves w w' A A':=⟨h.os,h.tape,h.output,h.size,h.block,hs⟩
theorem MatA.moves2 {A A' : Nat→Prop} {w w' : World} {a : Option Addr} {n : Nat} {L : List (List Int)} (h : MatA A w a n L) (hM : Moves w w' A A') : MatA A' w' a n L :=
 ⟨h.len,h.pl,h.max,fun hn=>hM.not (h.mat.lt hn) (h.no hn),fun i hi=>by
  obtain ⟨b,m,c,h1,h2,h3⟩:=h.cell i hi
  exact ⟨b,m,c,hM.cell h1 (h.no (by omega)),h2.moves hM h3,fun hm=>hM.not (h2.lt hm) (h3 hm)⟩⟩
section
variable {B : Nat} {V w5 : World} {Bo : Nat} {as' : Option Addr} {cs : Nat} {at' : Option Addr} {ct : Nat} {ss : List RX} {tt : List TX} {o : Obj}
theorem CerI.pushS (h : CerI B V Bo as' cs at' ct ss tt) {x : RX} (hx : Ints V x.a x.l.length x.l) (hxA : 0<x.l.length→¬ CA B Bo as' at' (ablk x.a)) {a5 : Option Addr} {c5 : Nat}
  (hown : w5.ownsRow B 22 1 (.slice a5 (ss.length+1) c5) (ss.length+1) (ss.map rxW ++ [rxW x])) (hg : (V.alloc o).grownBy w5 (Value.slice as' ss.length cs).ownBlock) (hap : ∀ b,b<(V.alloc o).heap.size→Apt as' b→Apt a5 b) :
  CerI B (w5.setCell ⟨Bo,0,none⟩ (.slice a5 (ss.length+1) c5)) Bo a5 c5 at' ct (ss ++ [x]) tt∧Moves V (w5.setCell ⟨Bo,0,none⟩ (.slice a5 (ss.length+1) c5)) (CA B Bo as' at') (CA B Bo a5 at')∧∀ w0,Below B w0 V→Below B w0 (w5.setCell ⟨Bo,0,none⟩ (.slice a5 (ss.length+1) c5)):=by
 have hne : a5 ≠ none:=fun e=>by
  obtain ⟨y,z,hv,hp⟩:=Pl.own hown
  cases hv
  have:=hp (by omega)
  rw [e] at this;cases this
 have hsz : (V.alloc o).heap.size=V.heap.size+1:=by simp
 have hM0 : Moves V (w5.setCell ⟨Bo,0,none⟩ (.slice a5 (ss.length+1) c5)) (CA B Bo as' at') (CA B Bo as' at') :=
  ((Moves.of_below (below1 V o) _).trans (Moves.grown hg fun h1=>.inr (.inr (.inl ⟨h1,rfl⟩)))).trans (Moves.setAt' (I:=CA B Bo as' at') (p:=⟨Bo,0,none⟩) _ (.inr (.inl rfl)) _)
 have hsub : ∀ b,CA B Bo a5 at' b→CA B Bo as' at' b∨V.heap.size≤b:=fun b hb=>by
  rcases hb with hb | hb | ⟨_,hb⟩ | hb
  ·exact .inl (.inl hb)
  ·exact .inl (.inr (.inl hb))
  ·rcases Nat.lt_or_ge b V.heap.size with h1 | h1
   ·by_cases h2 : Apt as' b
    ·rcases hap b (by omega) h2 with h3 | h3
     ·exact absurd h3 hne
     ·exact absurd hb.symm h3
    ·exact .inl (.inr (.inr (.inl ⟨fun e=>h2 (.inl e),Classical.byContradiction fun e=>h2 (.inr fun e2=>e e2.symm)⟩)))
   ·exact .inr h1
  ·exact .inl (.inr (.inr (.inr hb)))
 have hM:=hM0.weak hsub
 have hblk : ∀ b,b<V.heap.size→b ≠ Bo→Apt as' b→(w5.setCell ⟨Bo,0,none⟩ (.slice a5 (ss.length+1) c5)).heap[b]? = V.heap[b]?:=fun b h1 h2 h3 =>
  (Below.heap_setCell _ _ _ _ h2).trans ((hg.block b (by omega) fun e=>h3.own _ _ e.symm).trans (Below.heap_alloc _ _ _ h1))
 have hBo:=h.box.1
 have hb5 : Box w5 Bo [.slice as' ss.length cs,.slice at' tt.length ct]:=by
  have hx:=h.box.alloc o
  have hb9 : w5.heap[Bo]? = (V.alloc o).heap[Bo]?:=hg.block Bo (by omega) fun e=>h.as1.own _ _ e.symm
  exact ⟨Nat.lt_of_lt_of_le hx.1 hg.size,fun j v hv=>(World.cell?_of_block (w:=V.alloc o) (a:=⟨Bo,j,none⟩) hb9).trans (hx.2.1 j v hv),fun j=>(World.frozen?_of_block (w:=V.alloc o) (a:=⟨Bo,j,none⟩) hb9).trans (hx.2.2 j)⟩
 have hapB : Apt a5 Bo:=hap Bo (by omega) h.as1
 refine ⟨⟨h.bo,?_,?_,?_,hapB,h.at1,?_,fun y hy=>?_,fun y hy=>?_⟩,hM,fun w0 hw=>(Below.app (hw.alloc (by have:=h.bo;omega) o) (h.so.alloc o) hg (Nat.le_refl _) (by have:=h.bo;omega)).setCell (p:=⟨Bo,0,none⟩) h.bo _⟩
 ·rw [List.length_append];exact hb5.setA _
 ·rw [List.length_append,List.map_append]
  exact own_setOther hown _ (hapB.elim (fun e=>.inl e) fun e=>.inr e)
 ·refine own_blk h.tow fun h1=>hblk _ (own_ne h.tow h1).2 (h.at1.elim (fun e=>absurd e h1) fun e=>e) ?_
  rcases h.st with h2 | h2 | h2
  ·exact .inl h2
  ·exact absurd h2 h1
  ·exact .inr h2
 ·by_cases h1 : at'=none
  ·exact .inr (.inl h1)
  ·refine .inr (.inr fun e=>?_)
   have h2 : Apt as' (ablk at'):=by
    rcases h.st with h2 | h2 | h2
    ·exact .inl h2
    ·exact absurd h2 h1
    ·exact .inr h2
   rcases hap _ (by have:=(own_ne h.tow h1).2;omega) h2 with h3 | h3
   ·exact hne h3
   ·exact h3 e
 ·have key : Ints V y.a y.l.length y.l∧(0<y.l.length→¬ CA B Bo as' at' (ablk y.a)):=by
   rcases List.mem_append.1 hy with hy | hy
   ·exact h.sx y hy
   ·rw [List.mem_singleton.1 hy];exact ⟨hx,hxA⟩
  exact ⟨key.1.moves hM key.2,fun h0=>hM.not (key.1.lt h0) (key.2 h0)⟩
 ·exact ⟨(h.tx y hy).1.moves2 hM,(h.tx y hy).2⟩
theorem CerI.pushT (h : CerI B V Bo as' cs at' ct ss tt) {x : TX} (hx : MatA (CA B Bo as' at') V x.a x.T.length x.T) (hxc : x.T.length≤x.c) {a5 : Option Addr} {c5 : Nat}
  (hown : w5.ownsRow B 37 1 (.slice a5 (tt.length+1) c5) (tt.length+1) (tt.map txV ++ [txV x])) (hg : (V.alloc o).grownBy w5 (Value.slice at' tt.length ct).ownBlock) (hap : ∀ b,b<(V.alloc o).heap.size→Apt at' b→Apt a5 b) :
  CerI B (w5.setCell ⟨Bo,1,none⟩ (.slice a5 (tt.length+1) c5)) Bo as' cs a5 c5 ss (tt ++ [x])∧Moves V (w5.setCell ⟨Bo,1,none⟩ (.slice a5 (tt.length+1) c5)) (CA B Bo as' at') (CA B Bo as' a5)∧∀ w0,Below B w0 V→Below B w0 (w5.setCell ⟨Bo,1,none⟩ (.slice a5 (tt.length+1) c5)):=by
 have hne : a5 ≠ none:=fun e=>by
  obtain ⟨y,z,hv,hp⟩:=Pl.own hown
  cases hv
  have:=hp (by omega)
  rw [e] at this;cases this
 have hsz : (V.alloc o).heap.size=V.heap.size+1:=by simp
 have hM0 : Moves V (w5.setCell ⟨Bo,1,none⟩ (.slice a5 (tt.length+1) c5)) (CA B Bo as' at') (CA B Bo as' at') :=
  ((Moves.of_below (below1 V o) _).trans (Moves.grown hg fun h1=>.inr (.inr (.inr ⟨h1,rfl⟩)))).trans (Moves.setAt' (I:=CA B Bo as' at') (p:=⟨Bo,1,none⟩) _ (.inr (.inl rfl)) _)
 have hsub : ∀ b,CA B Bo as' a5 b→CA B Bo as' at' b∨V.heap.size≤b:=fun b hb=>by
  rcases hb with hb | hb | hb | ⟨_,hb⟩
  ·exact .inl (.inl hb)
  ·exact .inl (.inr (.inl hb))
  ·exact .inl (.inr (.inr (.inl hb)))
  ·rcases Nat.lt_or_ge b V.heap.size with h1 | h1
   ·by_cases h2 : Apt at' b
    ·rcases hap b (by omega) h2 with h3 | h3
     ·exact absurd h3 hne
     ·exact absurd hb.symm h3
    ·exact .inl (.inr (.inr (.inr ⟨fun e=>h2 (.inl e),Classical.byContradiction fun e=>h2 (.inr fun e2=>e e2.symm)⟩)))
   ·exact .inr h1
 have hM:=hM0.weak hsub
 have hblk : ∀ b,b<V.heap.size→b ≠ Bo→Apt at' b→(w5.setCell ⟨Bo,1,none⟩ (.slice a5 (tt.length+1) c5)).heap[b]? = V.heap[b]?:=fun b h1 h2 h3 =>
  (Below.heap_setCell _ _ _ _ h2).trans ((hg.block b (by omega) fun e=>h3.own _ _ e.symm).trans (Below.heap_alloc _ _ _ h1))
 have hBo:=h.box.1
 have hb5 : Box w5 Bo [.slice as' ss.length cs,.slice at' tt.length ct]:=by
  have hx:=h.box.alloc o
  have hb9 : w5.heap[Bo]? = (V.alloc o).heap[Bo]?:=hg.block Bo (by omega) fun e=>h.at1.own _ _ e.symm
  exact ⟨Nat.lt_of_lt_of_le hx.1 hg.size,fun j v hv=>(World.cell?_of_block (w:=V.alloc o) (a:=⟨Bo,j,none⟩) hb9).trans (hx.2.1 j v hv),fun j=>(World.frozen?_of_block (w:=V.alloc o) (a:=⟨Bo,j,none⟩) hb9).trans (hx.2.2 j)⟩
 have hapB : Apt a5 Bo:=hap Bo (by omega) h.at1
 refine ⟨⟨h.bo,?_,?_,?_,h.as1,hapB,?_,fun y hy=>?_,fun y hy=>?_⟩,hM,fun w0 hw=>(Below.app (hw.alloc (by have:=h.bo;omega) o) (h.tow.alloc o) hg (Nat.le_refl _) (by have:=h.bo;omega)).setCell (p:=⟨Bo,1,none⟩) h.bo _⟩
 ·rw [List.length_append];exact hb5.setB _
 ·refine own_blk h.so fun h1=>hblk _ (own_ne h.so h1).2 (h.as1.elim (fun e=>absurd e h1) fun e=>e) ?_
  rcases h.st with h2 | h2 | h2
  ·exact absurd h2 h1
  ·exact .inl h2
  ·exact .inr fun e=>h2 e.symm
 ·rw [List.length_append,List.map_append]
  exact own_setOther hown _ (hapB.elim (fun e=>.inl e) fun e=>.inr e)
 ·by_cases h1 : as'=none
  ·exact .inl h1
  ·refine .inr (.inr fun e=>?_)
   have h2 : Apt at' (ablk as'):=by
    rcases h.st with h2 | h2 | h2
    ·exact absurd h2 h1
    ·exact .inl h2
    ·exact .inr fun e=>h2 e.symm
   rcases hap _ (by have:=(own_ne h.so h1).2;omega) h2 with h3 | h3
   ·exact hne h3
   ·exact h3 e.symm
 ·exact ⟨(h.sx y hy).1.moves hM (h.sx y hy).2,fun h0=>hM.not ((h.sx y hy).1.lt h0) ((h.sx y hy).2 h0)⟩
 ·rcases List.mem_append.1 hy with hy | hy
  ·exact ⟨(h.tx y hy).1.moves2 hM,(h.tx y hy).2⟩
  ·rw [List.mem_singleton.1 hy];exact ⟨hx.moves2 hM,hxc⟩
end
theorem CerI.set {B : Nat} {V : World} {Bo : Nat} {as' : Option Addr} {cs : Nat} {at' : Option Addr} {ct : Nat} {ss : List RX} {tt : List TX} (h : CerI B V Bo as' cs at' ct ss tt) {p : Addr} (hp : p.block<B) (v : Value) : CerI B (V.setCell p v) Bo as' cs at' ct ss tt:=by
 have hM : Moves V (V.setCell p v) (CA B Bo as' at') (CA B Bo as' at'):=Moves.setAt' (I:=CA B Bo as' at') (p:=p) _ (.inl hp) _
 have hb:=h.bo
 have hblk : ∀ b,B≤b→(V.setCell p v).heap[b]? = V.heap[b]?:=fun b h1=>Below.heap_setCell _ _ _ _ (by omega)
 refine ⟨h.bo,?_,own_blk h.so fun h1=>hblk _ (own_ne h.so h1).1,own_blk h.tow fun h1=>hblk _ (own_ne h.tow h1).1,h.as1,h.at1,h.st,fun x hx=>⟨(h.sx x hx).1.moves hM (h.sx x hx).2,(h.sx x hx).2⟩,fun y hy=>⟨(h.tx y hy).1.moves2 hM,(h.tx y hy).2⟩⟩
 have hb9:=hblk Bo h.bo
 exact ⟨by have:=h.box.1;simpa using this,fun j v hv=>(World.cell?_of_block (w:=V) (a:=⟨Bo,j,none⟩) hb9).trans (h.box.2.1 j v hv),fun j=>(World.frozen?_of_block (w:=V) (a:=⟨Bo,j,none⟩) hb9).trans (h.box.2.2 j)⟩
def nthT (T : List (List (List Int))) (i : Nat) : List (List Int):=T.getD i []
theorem nthT_getElem {l : List (List (List Int))} {i : Nat} (h : i<l.length) : nthT l i=l[i]:=by simp [nthT,h]
structure Trees (w : World) (a : Option Addr) (n : Nat) (TT : List (List (List Int))) : Prop where
 len : TT.length=n
 pl : Pl a n
 max : n≤maxLen
 cell : ∀ i,i<n→∃ b m c,w.cell? ⟨ablk a,aoff a+i,none⟩=some (.slice b m c)∧Mat w b m (nthT TT i)∧m≤c
theorem Trees.lt {w : World} {a : Option Addr} {n : Nat} {TT : List (List (List Int))} (h : Trees w a n TT) (hn : 0<n) : ablk a<w.heap.size:=by
 obtain ⟨b,m,c,h1,_⟩:=h.cell 0 hn
 exact World.block_lt_of_cell? _ _ h1
theorem Trees.keep {w w' : World} {a : Option Addr} {n : Nat} {TT : List (List (List Int))} (h : Trees w a n TT) (hb : Below w.heap.size w w') : Trees w' a n TT :=
 ⟨h.len,h.pl,h.max,fun i hi=>by
  obtain ⟨b,m,c,h1,h2,h3⟩:=h.cell i hi
  exact ⟨b,m,c,cell_keep hb h1,h2.keep hb,h3⟩⟩
theorem CerI.mat {B : Nat} {V : World} {Bo : Nat} {as' : Option Addr} {cs : Nat} {at' : Option Addr} {ct : Nat} {ss : List RX} {tt : List TX} (h : CerI B V Bo as' cs at' ct ss tt) : Mat V as' ss.length (ss.map RX.l)∧Trees V at' tt.length (tt.map TX.T):=by
 constructor
 ·refine ⟨by simp,?_,?_,fun i hi=>?_⟩
  ·obtain ⟨a',c',hv,hp⟩:=Pl.own h.so
   cases hv;exact hp
  ·rcases Nat.eq_zero_or_pos ss.length with h0 | h0
   ·rw [h0];exact Nat.zero_le _
   ·exact (ownsRow_cell h.so 0 h0).2.2.2.2
  ·have h1:=(ownsRow_cell h.so i hi).1
   have e1 : (ss.map rxW)[i]? = some (rxW ss[i]):=by rw [List.getElem?_map,List.getElem?_eq_getElem hi];rfl
   refine ⟨ss[i].a,ss[i].l.length,ss[i].c,by rw [h1,e1];rfl,?_⟩
   rw [nthR_getElem (by rw [List.length_map];exact hi),List.getElem_map]
   exact (h.sx _ (List.getElem_mem hi)).1
 ·refine ⟨by simp,?_,?_,fun i hi=>?_⟩
  ·obtain ⟨a',c',hv,hp⟩:=Pl.own h.tow
   cases hv;exact hp
  ·rcases Nat.eq_zero_or_pos tt.length with h0 | h0
   ·rw [h0];exact Nat.zero_le _
   ·exact (ownsRow_cell h.tow 0 h0).2.2.2.2
  ·have h1:=(ownsRow_cell h.tow i hi).1
   have e1 : (tt.map txV)[i]? = some (txV tt[i]):=by rw [List.getElem?_map,List.getElem?_eq_getElem hi];rfl
   refine ⟨tt[i].a,tt[i].T.length,tt[i].c,by rw [h1,e1];rfl,?_⟩
   rw [nthT_getElem (by rw [List.length_map];exact hi),List.getElem_map]
   exact ⟨(h.tx _ (List.getElem_mem hi)).1.mat,(h.tx _ (List.getElem_mem hi)).2⟩
end

section
open Go.RowKit
theorem MatN.matA {A : Nat→Prop} {B : Nat} {w : World} {a : Option Addr} {n : Nat} {L : List (List Int)} (h : MatN B w a n L) (hA : ∀ b,A b→b<B) : MatA A w a n L :=
 ⟨h.len,h.pl,h.max,fun hn hc=>Nat.lt_irrefl _ (Nat.lt_of_lt_of_le (hA _ hc) (h.lo hn)),fun i hi=>by
  obtain ⟨b,m,c,h1,h2⟩:=h.cell i hi
  exact ⟨b,m,c,h1,h2.ints,fun hm hc=>Nat.lt_irrefl _ (Nat.lt_of_lt_of_le (hA _ hc) (h2.lo hm))⟩⟩
def cerB (P M : Int) (mod : List Int) (N : Int) (L : List (List Int)) (k : Nat) : Int × List (List Int):=bldRE P M mod N L ((L.length : Int) - ((k : Int)+1)+1) (((firS (tblOf P M.toNat mod).ops L N.toNat ((k : Int)+1)).length : Int) - 1)
def cerTo (P M : Int) (mod : List Int) (N : Int) (L : List (List Int)) : Nat→Int
 | 0=>0
 | k+1=>if cerTo P M mod N L k=0 then (cerB P M mod N L k).1 else cerTo P M mod N L k
theorem cerTo_stay {P M : Int} {mod : List Int} {N : Int} {L : List (List Int)} {k : Nat} {e : Int} (h : cerTo P M mod N L k=e) (he : e ≠ 0) : ∀ d,cerTo P M mod N L (k+d)=e
 | 0=>h
 | d+1=>by
  have ih:=cerTo_stay h he d
  show (if cerTo P M mod N L (k+d)=0 then _ else cerTo P M mod N L (k+d))=e
  rw [ih,if_neg he]
def cerE (P M : Int) (mod : List Int) (N : Int) (L : List (List Int)) : Int:=if dimE P M mod N L=0 then cerTo P M mod N L L.length else dimE P M mod N L
def cerSS (P M : Int) (mod : List Int) (N : Int) (L : List (List Int)) (k : Nat) : List (List Int):=(List.range k).map fun (r : Nat)=>firS (tblOf P M.toNat mod).ops L N.toNat ((r : Int)+1)
def cerTT (P M : Int) (mod : List Int) (N : Int) (L : List (List Int)) (k : Nat) : List (List (List Int)):=(List.range k).map fun (r : Nat)=>(cerB P M mod N L r).2
def CerPost (P M : Int) (mod : List Int) (N : Int) (n : Nat) (L : List (List Int)) (w : World) (e : Ending) (w' : World) : Prop :=
 Below w.heap.size w w'∧((cerE P M mod N L ≠ 0∧e = .returned (.tuple #[.agg #[.slice none 0 0,.slice none 0 0],.int .i64 (cerE P M mod N L)])) ∨
  (cerE P M mod N L=0∧∃ as' cs at' ct,e = .returned (.tuple #[.agg #[.slice as' n cs,.slice at' n ct],.int .i64 0])∧Mat w' as' n (cerSS P M mod N L n)∧Trees w' at' n (cerTT P M mod N L n)))
theorem fir_short {O : FOps} {L : List (List Int)} {m : Nat} {r : Int} (hm : m≤16) : (firS O L m r).length≤65536:=by
 unfold firS
 cases h : (allS m).find? (pD O L m r) with
 | none=>exact Nat.zero_le _
 | some t =>
  have h1:=List.mem_of_find?_eq_some h
  have h2:=asc_len (mem_allS.1 h1) (Nat.zero_le m)
  show t.length≤65536
  omega
theorem frozen_grown {w w' : World} {ao : Option Addr} {m c : Nat} {ad : Addr} (hg : w.grownBy w' (Value.slice ao m c).ownBlock) (hlt : ad.block<w.heap.size) (h : w.frozen? ad=false) (hne : Apt ao ad.block) : w'.frozen? ad=false :=
 (World.frozen?_of_block (w:=w) (a:=ad) (hg.block _ hlt fun e=>hne.own m c e.symm)).trans h
set_option maxRecDepth 100000 in
set_option maxHeartbeats 8000000 in
theorem hCertify_any (P M : Int) (am : Option Addr) (mn cm : Nat) (mod : List Int) (N : Int) (a : Option Addr) (n c : Nat) (L : List (List Int)) (w : World) (hmod : Ints w am mn mod) (hi : Mat w a n L) :
  Calls Tryz.prog 40 #[.agg #[.int .i64 P,.int .i64 M,.slice am mn cm,.int .i64 N,.slice a n c]] w (CerPost P M mod N n L w):=by
 have Hil:=Lib.hid hi.len
 go_enter Tryz.func40,Tryz.ntmps40
 go_wp2_with fail
 obtain ⟨U,hU⟩ : ∃ U : World,U=(w.alloc (.cells #[.int .i64 P,.int .i64 M,.slice am mn cm,.int .i64 N,.slice a n c] 27)).alloc (.cells #[.slice none 0 0,.slice none 0 0] 59):=⟨_,rfl⟩
 rw [← hU]
 have hbU : Below w.heap.size w U:=by rw [hU];exact below2 _ _ _
 have hsU : U.heap.size=w.heap.size+2:=by rw [hU];simp
 have x0 : Box U w.heap.size [.int .i64 P,.int .i64 M,.slice am mn cm,.int .i64 N,.slice a n c]:=by rw [hU];exact (Box.new _ _ _ rfl).alloc _
 have z0 : Box U (w.heap.size+1) [.slice none 0 0,.slice none 0 0]:=by rw [hU];exact Box.new _ _ _ (by simp)
 have HS : Hid (∀ V,Below U.heap.size U V→V.cell? ⟨w.heap.size,0,none⟩=some (.int .i64 P)∧V.cell? ⟨w.heap.size,1,none⟩=some (.int .i64 M)∧V.cell? ⟨w.heap.size,2,none⟩=some (.slice am mn cm)∧V.cell? ⟨w.heap.size,3,none⟩=some (.int .i64 N)∧V.cell? ⟨w.heap.size,4,none⟩=some (.slice a n c) ∧
   V.cell? ⟨w.heap.size+1,0,none⟩=some (.slice none 0 0)∧V.cell? ⟨w.heap.size+1,1,none⟩=some (.slice none 0 0)∧V.frozen? ⟨w.heap.size+1,0,none⟩=false∧V.frozen? ⟨w.heap.size+1,1,none⟩=false):=fun V hV=>by
  have x1:=x0.keep hV
  have z1:=z0.keep hV
  exact ⟨x1.cell 0 rfl,x1.cell 1 rfl,x1.cell 2 rfl,x1.cell 3 rfl,x1.cell 4 rfl,z1.cell 0 rfl,z1.cell 1 rfl,z1.frozen 0,z1.frozen 1⟩
 have HErr : Hid (∀ V er,cerE P M mod N L=er→er ≠ 0→Below U.heap.size U V→CerPost P M mod N n L w (.returned (.tuple #[.agg #[.slice none 0 0,.slice none 0 0],.int .i64 er])) ((V.setCell ⟨w.heap.size+1,0,none⟩ (.slice none 0 0)).setCell ⟨w.heap.size+1,1,none⟩ (.slice none 0 0))):=fun V er h1 h2 hV =>
  ⟨((Below.next hbU hV).setCell (p:=⟨w.heap.size+1,0,none⟩) (by simp) _).setCell (p:=⟨w.heap.size+1,1,none⟩) (by simp) _,.inl ⟨by rw [h1];exact h2,by rw [h1]⟩⟩
 have HbU:=Lib.hid hbU
 have HsU:=Lib.hid hsU
 clear hU x0 z0 hsU
 refine (dims_any P M am mn cm mod N a n c L U (hmod.keep hbU) (hi.keep hbU)).mono ?_
 rintro e w1 ⟨hb1,⟨hE,rfl⟩ | ⟨hE,a1,c1,rfl,hown⟩⟩
 ·have HE : Hid (cerE P M mod N L=dimE P M mod N L):=if_neg hE
  obtain ⟨_,_,_,_,_,z3,z4,f3,f4⟩:=HS.out w1 hb1
  have HR:=Lib.hid (HErr.out w1 _ HE.out hE hb1)
  have hE' : (dimE P M mod N L != 0)=true:=by simpa using hE
  clear hE
  generalize dimE P M mod N L=er at *
  go_wp2_with fail
  exact bodyPost_ret (v:=.tuple #[.agg #[.slice none 0 0,.slice none 0 0],.int .i64 er]) (by simp [results,Tryz.results40,go_sem,z3,z4]) rfl HR.out
 obtain ⟨hC,hN1,hN16⟩:=dimE_zero hE
 obtain ⟨m,rfl⟩ : ∃ m : Nat,N=m:=⟨N.toNat,by omega⟩
 have hm16 : m≤16:=by omega
 rw [Int.toNat_natCast] at hown
 have Hdi:=Lib.hid (Ints.own hown).1
 clear hown
 have Hm16:=Lib.hid hm16
 have hn256 : n≤256:=by rw [← hi.len];exact (codeE_rws hC).choose_spec.2.2.2.1
 obtain ⟨N',em,hm1,hm64,F,hR⟩:=codeE_fld hC
 obtain rfl : m=N':=by omega
 have hb01:=hb1
 have Hb1:=Lib.hid hb1
 have hbw1:=Below.next hbU hb1
 have HBld : Hid (∀ V mm WW,Below w.heap.size w V→Calls Tryz.prog 54 #[.agg #[.int .i64 P,.int .i64 M,.slice am mn cm,.int .i64 m,.slice a n c],.int .i64 mm,.int .i64 WW] V (BldP (if (bldRE P M mod m L mm WW).1=0 then (bldRE P M mod m L mm WW).2 else []) (bldRE P M mod m L mm WW).1 V)):=fun V mm WW hV =>
  (exBuildRank_any P M am mn cm mod m a n c L mm WW V (hmod.keep hV) (hi.keep hV)).mono fun e w' h=>h.bldP
 have HFir : Hid (∀ V r,Below w1.heap.size w1 V→Calls Tryz.prog 77 #[.slice a1 (2 ^ m) c1,.int .i64 r] V fun e w'=>∃ a3 c3,e = .returned (.slice a3 (firS (tblOf P M.toNat mod).ops L m r).length c3)∧IntsN V.heap.size w' a3 (firS (tblOf P M.toNat mod).ops L m r).length (firS (tblOf P M.toNat mod).ops L m r)∧(firS (tblOf P M.toNat mod).ops L m r).length≤65536∧Below V.heap.size V w'):=fun V r hV=>by
  have h:=witness_any a1 c1 m (dimsS (tblOf P M.toNat mod).ops m L) r V hm16 (Hdi.out.keep hV)
  have hf : (witTo (dimsS (tblOf P M.toNat mod).ops m L) m r (2 ^ m)).2=firS (tblOf P M.toNat mod).ops L m r:=wit_fir F hR hm64 r
  rw [hf] at h
  refine h.mono ?_
  rintro e w' ⟨a3,c3,rfl,ho,hb⟩
  exact ⟨a3,c3,rfl,IntsN.own ho,fir_short hm16,hb⟩
 have HT0 : Hid (cerTo P M mod m L 0=0):=rfl
 have HTs : Hid (∀ k,k<n→cerTo P M mod m L k=0→cerTo P M mod m L (k+1)=(bldRE P M mod m L ((n : Int) - ((k : Int)+1)+1) (((firS (tblOf P M.toNat mod).ops L m ((k : Int)+1)).length : Int) - 1)).1):=fun k hk h=>by
  rw [cerTo,if_pos h,cerB,Hil.out,Int.toNat_natCast]
 have HTn : Hid (∀ k er,k≤n→cerTo P M mod m L k=er→er ≠ 0→cerE P M mod m L=er):=fun k er hk h1 h2=>by
  show cerE _ _ _ _ _=er
  unfold cerE
  rw [if_pos hE,Hil.out]
  have h3:=cerTo_stay h1 h2 (n - k)
  rw [show k+(n - k)=n by omega] at h3
  exact h3
 have HTe : Hid (cerTo P M mod m L n=0→cerE P M mod m L=0):=fun h=>by
  show cerE _ _ _ _ _=0
  unfold cerE
  rw [if_pos hE,Hil.out];exact h
 have HSS : Hid (∀ k,cerSS P M mod m L (k+1)=cerSS P M mod m L k ++ [firS (tblOf P M.toNat mod).ops L m ((k : Int)+1)]):=fun k=>by unfold cerSS;rw [List.range_succ,Int.toNat_natCast];simp
 have HTT : Hid (∀ k,cerTT P M mod m L (k+1)=cerTT P M mod m L k ++ [(bldRE P M mod m L ((n : Int) - ((k : Int)+1)+1) (((firS (tblOf P M.toNat mod).ops L m ((k : Int)+1)).length : Int) - 1)).2]):=fun k=>by
  unfold cerTT;rw [List.range_succ];simp only [List.map_append,List.map_cons,List.map_nil,cerB,Hil.out,Int.toNat_natCast]
 have HPost : Hid (∀ as' cs at' ct V,cerE P M mod m L=0→Mat V as' n (cerSS P M mod m L n)→Trees V at' n (cerTT P M mod m L n)→Below w.heap.size w V→CerPost P M mod m n L w (.returned (.tuple #[.agg #[.slice as' n cs,.slice at' n ct],.int .i64 0])) V):=fun as' cs at' ct V h0 h1 h2 h3=>⟨h3,.inr ⟨h0,as',cs,at',ct,rfl,h1,h2⟩⟩
 obtain ⟨bl,hbl⟩ : ∃ bl,bldRE P M mod m L=bl:=⟨_,rfl⟩
 obtain ⟨fr,hfr⟩ : ∃ fr,firS (tblOf P M.toNat mod).ops L m=fr:=⟨_,rfl⟩
 obtain ⟨CT,hCT⟩ : ∃ CT,cerTo P M mod m L=CT:=⟨_,rfl⟩
 obtain ⟨SS,hSS⟩ : ∃ SS,cerSS P M mod m L=SS:=⟨_,rfl⟩
 obtain ⟨TT,hTT⟩ : ∃ TT,cerTT P M mod m L=TT:=⟨_,rfl⟩
 obtain ⟨ce,hce⟩ : ∃ ce,cerE P M mod m L=ce:=⟨_,rfl⟩
 rw [hbl] at HBld HTs HTT
 rw [hfr] at HTs HSS HTT HFir
 rw [hCT] at HT0 HTs HTn HTe
 rw [hSS] at HSS HPost
 rw [hTT] at HTT HPost
 rw [hce] at HTn HTe HPost HErr
 have HSS0 : Hid (SS 0=[]):=by show _=_;rw [← hSS];rfl
 have HTT0 : Hid (TT 0=[]):=by show _=_;rw [← hTT];rfl
 clear hbl hfr hCT hSS hTT hce F hR em hC hE
 unfold BldP at HBld
 go_upto_region 5 with fail
 obtain ⟨X,hX⟩ : ∃ X,w1.alloc (.cells #[.slice none 0 0,.slice none 0 0] 59)=X:=⟨_,rfl⟩
 rw [hX]
 have hbX : Below w1.heap.size w1 X:=by rw [← hX];exact below1 _ _
 have hC0 : CerI w1.heap.size X w1.heap.size none 0 none 0 [] []:=CerI.start (Nat.le_refl _) (by rw [← hX];exact Box.new _ _ _ rfl)
 clear hX
 have HSw : Hid (∀ V,Below w1.heap.size w1 V→V.cell? ⟨w.heap.size,0,none⟩=some (.int .i64 P)∧V.cell? ⟨w.heap.size,1,none⟩=some (.int .i64 M)∧V.cell? ⟨w.heap.size,2,none⟩=some (.slice am mn cm)∧V.cell? ⟨w.heap.size,3,none⟩=some (.int .i64 m)∧V.cell? ⟨w.heap.size,4,none⟩=some (.slice a n c) ∧
   V.cell? ⟨w.heap.size+1,0,none⟩=some (.slice none 0 0)∧V.cell? ⟨w.heap.size+1,1,none⟩=some (.slice none 0 0)∧V.frozen? ⟨w.heap.size+1,0,none⟩=false∧V.frozen? ⟨w.heap.size+1,1,none⟩=false):=fun V hV=>HS.out V (Below.next hb1 hV)
 have Hbw1:=Lib.hid hbw1
 have hsw1 : w.heap.size+2≤w1.heap.size:=by have h1:=hb1.size;have h2:=HsU.out;omega
 have HEr1 : Hid (∀ V er,ce=er→er ≠ 0→Below w1.heap.size w1 V→CerPost P M mod m n L w (.returned (.tuple #[.agg #[.slice none 0 0,.slice none 0 0],.int .i64 er])) ((V.setCell ⟨w.heap.size+1,0,none⟩ (.slice none 0 0)).setCell ⟨w.heap.size+1,1,none⟩ (.slice none 0 0))):=fun V er h1 h2 hV=>HErr.out V er h1 h2 (Below.next hb1 hV)
 clear HS HErr hb1 hb01 hbU hbw1
 go_wp2_with fail
 go_loopw [7] (fun iv wr=>∃ (k : Nat) (as' : Option Addr) (cs : Nat) (at' : Option Addr) (ct : Nat) (ss : List RX) (tt : List TX),k≤n∧iv = .int .i64 ((k : Int)+1)∧CerI w1.heap.size wr w1.heap.size as' cs at' ct ss tt∧Hid (ss.length=k)∧Hid (tt.length=k)∧Hid (ss.map RX.l=SS k)∧Hid (tt.map TX.T=TT k)∧Hid (CT k=0)∧Below w1.heap.size w1 wr) (fun iv _=>n+1 - (intOf iv).toNat)
 case atStart=>exact ⟨0,none,0,none,0,[],[],Nat.zero_le _,rfl,hC0,rfl,rfl,HSS0.out.symm,HTT0.out.symm,HT0.out,hbX⟩
 case round =>
  clear hC0 hbX
  obtain ⟨k,as',cs,at',ct,ss,tt,hk,rfl,hI,Hsl,Htl,Hss,Htt,Hct,hbr⟩:=hrel
  obtain ⟨c0,c1,c2,c3,c4,z3,z4,f3,f4⟩:=HSw.out wr hbr
  by_cases hlt : k<n
  ·obtain ⟨r,hr⟩ : ∃ r : Int,(k : Int)+1=r:=⟨_,rfl⟩
   have hr1 : 1≤r:=by omega
   have hrn : r≤n:=by omega
   have d1 : decide (r≤(n : Int))=true:=by simp;omega
   have HFr:=Lib.hid (HFir.out wr r hbr)
   have HTsk:=Lib.hid (HTs.out k hlt Hct.out)
   have HSSk:=Lib.hid (HSS.out k)
   have HTTk:=Lib.hid (HTT.out k)
   rw [hr] at HTsk HSSk HTTk ⊢
   have Hr:=Lib.hid hr
   obtain ⟨S,hS⟩ : ∃ S,fr r=S:=⟨_,rfl⟩
   rw [hS] at HFr HTsk HSSk HTTk
   obtain ⟨v,hv⟩ : ∃ v,S.length=v:=⟨_,rfl⟩
   rw [hv] at HFr HTsk HTTk
   have Hv:=Lib.hid hv
   have HI:=Lib.hid hI
   have Hbr:=Lib.hid hbr
   clear hS hv hr hI hbr
   go_wp2_with fail
   refine HFr.out.mono ?_
   rintro e w3 ⟨a3,c3',rfl,hN3,hv16,hb3⟩
   clear c0 c1 c2 c3 c4 z3 z4 f3 f4 HFr
   have hbr3:=Below.next Hbr.out hb3
   obtain ⟨c0,c1,c2,c3,c4,z3,z4,f3,f4⟩:=HSw.out w3 hbr3
   have k1 : (0 : Int)≤(v : Int):=by omega
   have HB3:=Lib.hid (HBld.out w3 ((n : Int) - r+1) ((v : Int) - 1) (Below.next Hbw1.out hbr3))
   obtain ⟨bv,hbv⟩ : ∃ bv,bl ((n : Int) - r+1) ((v : Int) - 1)=bv:=⟨_,rfl⟩
   rw [hbv] at HB3 HTsk HTTk
   obtain ⟨er,T⟩:=bv
   have HN3:=Lib.hid hN3
   have Hb3:=Lib.hid hb3
   have Hbr3:=Lib.hid hbr3
   clear hbv hN3 hb3 hbr3
   go_wp2_with fail
   refine HB3.out.mono ?_
   rintro e w4 ⟨ar,nr,cr,R4,rfl,hO4,hb4⟩
   clear c0 c1 c2 c3 c4 z3 z4 f3 f4 HB3
   have hbr4:=Below.next Hbr3.out hb4
   by_cases her : er=0
   rotate_left
   ·have hbr5:=Below.next hbr4 (below1 w4 (.cells #[.slice ar nr cr] 37))
    obtain ⟨_,_,_,_,_,z3,z4,f3,f4⟩:=HSw.out _ hbr5
    have HR:=Lib.hid (HEr1.out _ er (HTn.out (k+1) er (by omega) HTsk.out her) her hbr5)
    have he' : (er != 0)=true:=by simpa using her
    clear hO4
    go_upto_region 10 with fail
    obtain ⟨V,hV⟩ : ∃ V,w4.alloc (.cells #[.slice ar nr cr] 37)=V:=⟨_,rfl⟩
    rw [hV] at z3 z4 f3 f4 HR ⊢
    clear hV hbr5 her
    go_wp2_with fail
    exact bodyPost_ret (v:=.tuple #[.agg #[.slice none 0 0,.slice none 0 0],.int .i64 er]) (by simp [results,Tryz.results40,go_sem,z3,z4]) rfl HR.out
   ·subst her
    have hTe : (if (0 : Int)=0 then T else [])=T:=if_pos rfl
    have hO4' : OMat w4 w3.heap.size ar nr cr R4 T:=by simpa using hO4
    have hcap:=own_cap hO4'.own
    obtain rfl : T.length=nr:=hO4'.ll
    have Hct1 : Hid (CT (k+1)=0):=HTsk.out
    have hTTk : TT (k+1)=TT k ++ [T]:=HTTk.out
    have HTTe:=Lib.hid hTTk
    have hb5 : Below w4.heap.size w4 (w4.alloc (.cells #[.slice ar T.length cr] 37)):=below1 _ _
    have hI5:=((HI.out.keep Hb3.out).keep hb4).keep hb5
    have hlt3 : ∀ b,CA w1.heap.size w1.heap.size as' at' b→b<wr.heap.size:=fun b hb=>HI.out.lt b hb
    have hsz3:=Hb3.out.size
    have hMT:=(hO4'.matN.matA (A:=CA w1.heap.size w1.heap.size as' at') (fun b hb=>by have:=hlt3 b hb;omega)).keep hb5
    have hbw5:=Below.next hb4 hb5
    have hSx:=HN3.out.ints.keep hbw5
    have hSn : 0<v→¬ CA w1.heap.size w1.heap.size as' at' (ablk a3):=fun h0 hc=>by
     have h1:=hlt3 _ hc
     have h2:=HN3.out.lo h0
     omega
    have hbr5:=Below.next hbr4 hb5
    have hy5 : Box (w4.alloc (.cells #[.slice ar T.length cr] 37)) w4.heap.size [.slice ar T.length cr]:=Box.new _ _ _ rfl
    have hg3 : ∀ b,CA w1.heap.size w1.heap.size as' at' b→b ≠ w4.heap.size:=fun b hb e=>by have h1:=hlt3 b hb;have h2:=hb4.size;omega
    obtain ⟨q,hq⟩ : ∃ q,w4.heap.size=q:=⟨_,rfl⟩
    go_upto_region 10 with fail
    obtain ⟨V,hV⟩ : ∃ V,w4.alloc (.cells #[.slice ar T.length cr] 37)=V:=⟨_,rfl⟩
    rw [hV] at hI5 hMT hSx hbr5 hy5 ⊢
    rw [hq] at hy5 hg3
    try rw [hq]
    clear hV hb5 hbw5 hb4 hbr4 hO4 hO4' hq hTTk hTe hsz3
    have b0:=hI5.box.cell 0 rfl
    have g0:=hI5.box.frozen 0
    have hslk : ss.length=k:=Hsl.out
    have htlk : tt.length=k:=Htl.out
    have hso:=(hI5.keep (below1 V (.cells #[.slice a3 v c3'] 22))).so
    have hcn:=cell_new V (.slice a3 v c3') 22
    have b0':=cell_box b0 (.cells #[.slice a3 v c3'] 22)
    have hIc:=hI5
    rw [hslk] at b0 b0' hso
    have hs8 : w1.heap.size≤(V.alloc (.cells #[.slice a3 v c3'] 22)).heap.size:=by have:=hbr5.size;simp;omega
    have hlt5 : w1.heap.size<V.heap.size:=hI5.box.1
    have HI5:=Lib.hid (And.intro hI5 (And.intro hMT (And.intro hSx (And.intro hSn (And.intro hbr5 (And.intro hy5 (And.intro hg3 hcap)))))))
    have Hlt5:=Lib.hid hlt5
    have Hasb:=Lib.hid hI5.as1
    clear hI5 hMT hSx hSn hbr5 hy5 hg3 hIc hlt3 hcap hlt5
    go_upto_region 13 with (at_builtin;refine wpList_push rfl _ _ 25 22 rfl (.slice none 0 0) 24 Tryz.underlying25 infoInts rfl w1.heap.size as' k cs _ rfl hso ⟨V.heap.size,0,none⟩ 1 (.slice a3 v c3') rfl hcn rfl (by omega) (by unfold maxLen;omega) hs8 ?_;intro a5 c5 w5 hown5 hgr5 hap5;have b5:=cell_grownApt (ad:=⟨w1.heap.size,0,none⟩) hgr5 b0' Hasb.out;have g5 : w5.frozen? ⟨w1.heap.size,0,none⟩=false:=frozen_grown hgr5 (by simp;have:=Hlt5.out;omega) (frozen_box Hlt5.out g0 _) Hasb.out)
    obtain ⟨hI5,hMT,hSx,hSn,hbr5,hy5,hg3,hcap⟩:=HI5.out
    have erx : rxW ⟨a3,c3',S⟩ = .slice a3 v c3':=by show Value.slice _ _ _=_;rw [Hv.out]
    have hown5' : w5.ownsRow w1.heap.size 22 1 (.slice a5 (ss.length+1) c5) (ss.length+1) (ss.map rxW ++ [rxW ⟨a3,c3',S⟩]):=by rw [hslk,erx];exact hown5
    obtain ⟨hI6,hM6,hbp⟩:=CerI.pushS hI5 (x:=⟨a3,c3',S⟩) (by show Ints V a3 S.length S;rw [Hv.out];exact hSx) (by show 0<S.length→_;rw [Hv.out];exact hSn) hown5' (by rw [hslk];exact hgr5) hap5
    have hbr6:=hbp _ hbr5
    rw [hslk] at hI6 hM6 hbr6
    have hMT6:=hMT.moves2 hM6
    have hy6:=hM6.cell (hy5.cell 0 rfl) (fun h=>hg3 _ h rfl)
    obtain ⟨V6,hV6⟩ : ∃ V6,w5.setCell ⟨w1.heap.size,0,none⟩ (.slice a5 (k+1) c5)=V6:=⟨_,rfl⟩
    rw [hV6] at hI6 hbr6 hMT6 hy6 ⊢
    clear hV6 hown5 hown5' hgr5 hap5 hI5 hMT hSx hSn hbr5 hy5 hg3 hM6 hbp b0 b0' g0 hso hcn hs8 b5 g5 HI5 erx
    have b1:=hI6.box.cell 1 rfl
    have g1:=hI6.box.frozen 1
    have hto:=(hI6.keep (below1 V6 (.cells #[.slice ar T.length cr] 37))).tow
    have hcn2:=cell_new V6 (.slice ar T.length cr) 37
    have b1':=cell_box b1 (.cells #[.slice ar T.length cr] 37)
    rw [htlk] at b1 b1' hto
    have hs9 : w1.heap.size≤(V6.alloc (.cells #[.slice ar T.length cr] 37)).heap.size:=by have:=hbr6.size;simp;omega
    have hlt6 : w1.heap.size<V6.heap.size:=hI6.box.1
    have HI6:=Lib.hid (And.intro hI6 (And.intro hMT6 (And.intro hbr6 hcap)))
    have Hlt6:=Lib.hid hlt6
    have Hatb:=Lib.hid hI6.at1
    clear hI6 hMT6 hbr6 hcap hlt6
    go_wp2_with (at_builtin;refine wpList_pushT rfl _ _ 57 37 rfl (.agg #[.slice none 0 0]) 24 Tryz.underlying57 infoExc rfl w1.heap.size at' k ct _ rfl hto ⟨V6.heap.size,0,none⟩ 1 (.slice ar T.length cr) rfl hcn2 rfl (by omega) (by unfold maxLen;omega) hs9 ?_;intro a6 c6 w6 hown6 hgr6 hap6;have b6:=cell_grownApt (ad:=⟨w1.heap.size,1,none⟩) hgr6 b1' Hatb.out;have g6 : w6.frozen? ⟨w1.heap.size,1,none⟩=false:=frozen_grown hgr6 (by simp;have:=Hlt6.out;omega) (frozen_box Hlt6.out g1 _) Hatb.out)
    go_roundw
    case rel =>
     obtain ⟨hI6,hMT6,hbr6,hcap⟩:=HI6.out
     have hown6' : w6.ownsRow w1.heap.size 37 1 (.slice a6 (tt.length+1) c6) (tt.length+1) (tt.map txV ++ [txV ⟨ar,cr,T⟩]):=by rw [htlk];exact hown6
     obtain ⟨hI7,_,hbp⟩:=CerI.pushT hI6 (x:=⟨ar,cr,T⟩) hMT6 hcap hown6' (by rw [htlk];exact hgr6) hap6
     have hbr7:=hbp _ hbr6
     rw [htlk] at hI7 hbr7
     refine ⟨k+1,a5,c5,a6,c6,ss ++ [⟨a3,c3',S⟩],tt ++ [⟨ar,cr,T⟩],by omega,?_,hI7,by show _=_;rw [List.length_append,hslk];rfl,by show _=_;rw [List.length_append,htlk];rfl,by show _=_;rw [List.map_append,Hss.out,HSSk.out];rfl,by show _=_;rw [List.map_append,Htt.out,HTTe.out];rfl,Hct1.out,hbr7⟩
     have:=Hr.out
     congr 1
     omega
    case measure =>
     have:=Hr.out
     simp [intOf] <;> omega
  ·obtain rfl : k=n:=by omega
   have d1 : decide ((k : Int)+1≤(k : Int))=false:=by simp;omega
   have b0:=hI.box.cell 0 rfl
   have b1:=hI.box.cell 1 rfl
   rw [Hsl.out] at b0
   rw [Htl.out] at b1
   have hI2:=(hI.set (p:=⟨w.heap.size+1,0,none⟩) (by show w.heap.size+1<w1.heap.size;omega) (.slice as' k cs)).set (p:=⟨w.heap.size+1,1,none⟩) (by show w.heap.size+1<w1.heap.size;omega) (.slice at' k ct)
   obtain ⟨q1,q2⟩:=hI2.mat
   rw [Hsl.out,Hss.out] at q1
   rw [Htl.out,Htt.out] at q2
   have HF:=Lib.hid (HPost.out as' cs at' ct _ (HTe.out Hct.out) q1 q2 (((Below.next Hbw1.out hbr).setCell (p:=⟨w.heap.size+1,0,none⟩) (by simp) _).setCell (p:=⟨w.heap.size+1,1,none⟩) (by simp) _))
   clear hI hI2 q1 q2
   go_wp2_with fail
   exact bodyPost_ret (v:=.tuple #[.agg #[.slice as' k cs,.slice at' k ct],.int .i64 0]) (by simp [results,Tryz.results40,go_sem,z3,z4]) rfl HF.out
end

section
open Go.RowKit
theorem okTo_frm {N : Int} {l : List Int} : ∀ k,(∀ i,i<k→okAt N l i=true)→okTo N l k=true
 | 0,_=>rfl
 | k+1,h=>okTo_succ (okTo_frm k fun i hi=>h i (by omega)) (h k (by omega))
theorem okSet_frTo (b : Bool) (U : List Int) (m : Nat) : okSet m (frTo b U m)=true:=by
 unfold okSet
 refine okTo_frm _ fun i hi=>?_
 have h1:=(mem_frTo m).1 (nth_mem hi)
 obtain ⟨j,hj,e,_⟩:=h1
 have hp:=frTo_pair b U m
 rw [List.pairwise_iff_getElem] at hp
 unfold okAt
 have h2 : 0<i→nth (frTo b U m) (i - 1)<nth (frTo b U m) i:=fun h0=>by
  rw [nth_getElem hi,nth_getElem (show i - 1<_ by omega)]
  exact hp (i - 1) i (by omega) hi (by omega)
 rw [e] at h2 ⊢
 simp
 omega
end

section
open Go.RowKit
end

section
open Go.RowKit
def PairU (er : Int) (X : List Int) (w : World) (e : Ending) (w' : World) : Prop :=
 Below w.heap.size w w'∧∃ a n c,e = .returned (.tuple #[.slice a n c,.int .i64 er])∧Ints w' a n X
theorem pair_no {w w' : World} {er : Int} {X : List Int} (hb : Below w.heap.size w w') (h : er ≠ 0) : PairU er (if er=0 then X else []) w (.returned (.tuple #[.slice none 0 0,.int .i64 er])) w':=by
 rw [if_neg h]
 exact ⟨hb,none,0,0,rfl,Ints.nil _ _⟩
theorem pair_ok {w w' : World} {er : Int} {X : List Int} {a : Option Addr} {n c : Nat} (hb : Below w.heap.size w w') (h : er=0) (hX : Ints w' a n X) : PairU er (if er=0 then X else []) w (.returned (.tuple #[.slice a n c,.int .i64 0])) w':=by
 rw [if_pos h]
 exact ⟨hb,a,n,c,by rw [h],hX⟩
section
variable (P M : Int) (am : Option Addr) (mn cm : Nat) (mod : List Int) (N : Int) (a : Option Addr) (n c : Nat) (L : List (List Int)) (w : World)
end
end

end Go.Proofs.YtcflcogbpnmjeaaGreat
