import Derived.Test.YtcfmiocdlcapoaaGreatK10
import Derived.Test.YtcfmiocdlcapoaaGreatK9
import Derived.Laws.Bits64
import Derived.Laws.Bits64b
import Derived.Test.YtcfmiocdlcapoaaGreatK1
namespace Go.Proofs.YtcfmiocdlcapoaaGreat
set_option linter.unusedVariables false
set_option linter.unusedSimpArgs false
set_option linter.unusedSectionVars false
set_option maxRecDepth 100000
set_option maxHeartbeats 4000000
open Go.RowKit
section
def dP (O : aQ) (v : Lz) (x : Int) (r : Lz) : Lz:=List.zipWith (λp y=>O.add p (O.neg (O.mul x y))) v r
theorem fc (O : aQ) (v : Lz) (x : Int) (r : Lz) (h : r.length=v.length) : (dP O v x r).length=v.length:=by simp [dP,h]
theorem e8 (O : aQ) (v : Lz) (x : Int) (r : Lz) (i : Nat) (h : r.length=v.length) (hi : i<v.length) : nth (dP O v x r) i=O.add (nth v i) (O.neg (O.mul x (nth r i))):=by
 rw [ai (show i<(dP O v x r).length by rw [fc _ _ _ _ h];exact hi),ai (show i<r.length by omega),ai hi]
 simp [dP]
def dU (O : aQ) (u : Lz) (p : Int) (r : Lz) : Lz:=if nth u p.toNat=0 then u else dP O u (nth u p.toNat) r
def redTo (O : aQ) (L : Ll) (Q : Lz) (v : Lz) : Nat->Lz
 | 0=>v
 | k+1=>dU O (redTo O L Q v k) (nth Q k) (aj L k)
structure BS where
 rows : Ll
 place : Lz
def BS.red (O : aQ) (s : BS) (v : Lz) : Lz:=redTo O s.rows s.place v s.rows.length
def BS.dQ (O : aQ) (s : BS) (v : Lz) : Bool:=decide (fnz (s.red O v)<(s.red O v).length)
def BS.next (O : aQ) (s : BS) (v : Lz) : BS :=
 if s.dQ O v=true then ⟨s.rows ++ [(s.red O v).map (O.mul (O.inv (nth (s.red O v) (fnz (s.red O v)))))],s.place ++ [(fnz (s.red O v) : Int)]⟩ else s
structure BS.Ok (El : Int->Prop) (n : Nat) (s : BS) : Prop where
 rws : bH El n s.rows
 len : s.place.length=s.rows.length
 plc : ∀i,i<s.rows.length->0<=nth s.place i/\nth s.place i<n
theorem vn {O : aQ} {El : Int->Prop} (hO : sr O El) {v r : Lz} {x : Int} (hv : ∀y ∈ v,El y) (hr : ∀y ∈ r,El y) (hx : El x) : ∀y ∈ dP O v x r,El y:=by
 intro y hy
 unfold dP at hy
 rw [List.mem_iff_getElem] at hy
 obtain ⟨i,hi,rfl⟩:=hy
 rw [List.getElem_zipWith]
 exact hO.add _ _ (hv _ (List.getElem_mem _)) (hO.neg _ (hO.mul _ _ hx (hr _ (List.getElem_mem _))))
theorem mW {O : aQ} {El : Int->Prop} (hO : sr O El) {n : Nat} {L : Ll} {Q v : Lz} (hL : bH El n L) (hQ : ∀i,i<L.length->0<=nth Q i/\nth Q i<n)
  (hv : v.length=n/\∀y ∈ v,El y) : ∀k,k<=L.length->(redTo O L Q v k).length=n/\∀y ∈ redTo O L Q v k,El y
 | 0,_=>hv
 | k+1,hk=>by
  have ih:=mW hO hL hQ hv k (by omega)
  have hr:=hL.row (i:=k) (by omega)
  have hq:=hQ k (by omega)
  rw [redTo,dU]
  split
  ·exact ih
  ·exact ⟨by rw [fc _ _ _ _ (by omega)];exact ih.1,vn hO ih.2 hr.2 (ih.2 _ (aN (by omega)))⟩
theorem BS.Ok.next {O : aQ} {El : Int->Prop} (hO : sr O El) {n : Nat} {s : BS} (h : s.Ok El n) {v : Lz} (hv : v.length=n/\∀y ∈ v,El y) : (s.next O v).Ok El n:=by
 unfold BS.next
 split
 ·rename_i ht
  have hu:=mW hO h.rws h.plc hv s.rows.length (Nat.le_refl _)
  have hf : fnz (s.red O v)<(s.red O v).length:=by simpa [BS.dQ] using ht
  have hne:=jf _ hf
  have hul : (s.red O v).length=n:=hu.1
  have hue : ∀y ∈ s.red O v,El y:=hu.2
  refine ⟨λr hr=>?_,by simp [h.len],λi hi=>?_⟩
  ·rcases List.mem_append.1 hr with h1 | h1
   ·exact h.rws r h1
   ·rw [List.mem_singleton.1 h1]
    refine ⟨by rw [List.length_map];exact hul,λy hy=>?_⟩
    obtain ⟨z,hz,rfl⟩:=List.mem_map.1 hy
    exact hO.mul _ _ (hO.inv _ (hue _ (aN hf)) hne) (hue z hz)
  ·simp only [List.length_append,List.length_singleton] at hi
   by_cases h1 : i<s.rows.length
   ·have:=h.plc i h1
    have e : nth (s.place ++ [(fnz (s.red O v) : Int)]) i=nth s.place i:=by
     simp only [nth,List.getD_eq_getElem?_getD];rw [List.getElem?_append_left (by rw [h.len];exact h1)]
    rw [e];exact this
   ·obtain rfl : i=s.rows.length:=by omega
    have e : nth (s.place ++ [(fnz (s.red O v) : Int)]) s.rows.length=fnz (s.red O v):=by
     simp only [nth,List.getD_eq_getElem?_getD];rw [<- h.len];simp
    rw [e];omega
 ·exact h
structure oP (w : World) (B bb b : Nat) (ar : OA) (cr : Nat) (R : La) (ap : OA) (cp : Nat) (s : BS) : Prop where
 bB : B<=bb
 c0 : w.cell? ⟨bb,0,none⟩=some (.pointer (some ⟨b,0,none⟩))
 c1 : w.cell? ⟨bb,1,none⟩=some (.slice ar s.rows.length cr)
 c2 : w.cell? ⟨bb,2,none⟩=some (.slice ap s.rows.length cp)
 fr : ∀i,w.frozen? ⟨bb,i,none⟩=false
 om : aU w B ar s.rows.length cr R s.rows
 pl : w.ownsRow B 3 1 (.slice ap s.rows.length cp) s.rows.length (s.place.map (Value.int .i64))
 d1 : ¬ bL ar R bb
 d2 : db ap bb
 d3 : ap ≠ none->¬ bL ar R (ablk ap)
def sT (bb : Nat) (ar : OA) (R : La) (ap : OA) (x : Nat) : Prop:=x=bb\/bL ar R x\/(ap ≠ none/\x=ablk ap)
theorem Br {w w' : World} {B : Nat} {e : TypeId} {a : OA} {c n : Nat} {xs : List Value} (h : w.ownsRow B e 1 (.slice a n c) n xs) (hb : a ≠ none->w'.heap[ablk a]? = w.heap[ablk a]?) : w'.ownsRow B e 1 (.slice a n c) n xs:=by
 by_cases ha : a=none
 ·subst ha
  refine ⟨h.1,?_⟩
  rcases h.2 with h2 | ⟨g,cap,cur,hv,_⟩
  ·exact .inl h2
  ·cases hv
 ·exact jG h (hb ha)
namespace oP
variable {w w' : World} {B bb b : Nat} {ar : OA} {cr : Nat} {R : La} {ap : OA} {cp : Nat} {s : BS}
theorem lt (h : oP w B bb b ar cr R ap cp s) (x : Nat) (hx : sT bb ar R ap x) : B<=x/\x<w.heap.size:=by
 rcases hx with rfl | hx | ⟨h1,rfl⟩
 ·exact ⟨h.bB,World.block_lt_of_cell? w _ h.c0⟩
 ·exact h.om.lt x hx
 ·exact aR h.pl h1
theorem bz (h : oP w B bb b ar cr R ap cp s) (hb : ∀x,sT bb ar R ap x->w'.heap[x]? = w.heap[x]?) : oP w' B bb b ar cr R ap cp s:=by
 have hbb:=hb bb (.inl rfl)
 exact ⟨h.bB,(World.cell?_of_block (w:=w) (a:=⟨bb,0,none⟩) hbb).trans h.c0,(World.cell?_of_block (w:=w) (a:=⟨bb,1,none⟩) hbb).trans h.c1,(World.cell?_of_block (w:=w) (a:=⟨bb,2,none⟩) hbb).trans h.c2,
  λi=>(World.frozen?_of_block (w:=w) (a:=⟨bb,i,none⟩) hbb).trans (h.fr i),h.om.bz λx hx=>hb x (.inr (.inl hx)),Br h.pl λha=>hb _ (.inr (.inr ⟨ha,rfl⟩)),h.d1,h.d2,h.d3⟩
theorem ah (h : oP w B bb b ar cr R ap cp s) (hb : Below w.heap.size w w') : oP w' B bb b ar cr R ap cp s:=h.bz λx hx=>hb.block x (h.lt x hx).2
theorem only (h : oP w B bb b ar cr R ap cp s) {av : OA} (ho : bX av w w') (hav : av ≠ none->¬ sT bb ar R ap (ablk av)) : oP w' B bb b ar cr R ap cp s :=
 h.bz λx hx=>ho.block x (h.lt x hx).2 λ⟨h1,h2⟩=>hav h1 (h2 ▸ hx)
end oP
theorem aU.push {w w' : World} {B : Nat} {a : OA} {n c : Nat} {R : La} {L : Ll} (h : aU w B a n c R L) {r : OA} {rc : Nat} {l : Lz}
  (hr : w.ownsRow B 3 1 (.slice r l.length rc) l.length (l.map (Value.int .i64))) (hra : r ≠ none->¬ bL a R (ablk r))
  {a' : OA} {c' : Nat} (hown : w'.ownsRow B 22 1 (.slice a' (n+1) c') (n+1) (List.zipWith e9 R L ++ [.slice r l.length rc])) (hg : w.grownBy w' (Value.slice a n c).ownBlock)
  (hap : ∀b,b<w.heap.size->db a b->db a' b) : aU w' B a' (n+1) c' (R ++ [(r,rc)]) (L ++ [l]):=by
 have hn' : a' ≠ none:=by
  intro e
  have:=(Pl.own hown)
  obtain ⟨x,y,hv,hp⟩:=this
  cases hv
  have:=hp (by omega)
  rw [e] at this;cases this
 have nthL : ∀i,aj (L ++ [l]) i=if i<n then aj L i else if i=n then l else []:=by
  intro i
  simp only [aj,List.getD_eq_getElem?_getD]
  by_cases h1 : i<n
  ·rw [if_pos h1,List.getElem?_append_left (by rw [h.ll];exact h1)]
  ·rw [if_neg h1]
   by_cases h2 : i=n
   ·subst h2;rw [if_pos rfl,<- h.ll];simp
   ·rw [if_neg h2,List.getElem?_eq_none (by simp [h.ll];omega)];rfl
 have nthAA : ∀i,aM (R ++ [(r,rc)]) i=if i<n then aM R i else if i=n then (r,rc) else (none,0):=by
  intro i
  simp only [aM,List.getD_eq_getElem?_getD]
  by_cases h1 : i<n
  ·rw [if_pos h1,List.getElem?_append_left (by rw [h.rl];exact h1)]
  ·rw [if_neg h1]
   by_cases h2 : i=n
   ·subst h2;rw [if_pos rfl,<- h.rl];simp
   ·rw [if_neg h2,List.getElem?_eq_none (by simp [h.rl];omega)];rfl
 have rowKeep : ∀ {x : OA} {cx m : Nat} {xs : List Value},w.ownsRow B 3 1 (.slice x m cx) m xs->(x ≠ none->db a (ablk x))->w'.ownsRow B 3 1 (.slice x m cx) m xs:=by
  intro x cx m xs ho h2
  exact Br ho λhx=>hg.block _ (aR ho hx).2 λe=>(h2 hx).own n c e.symm
 have rA : r ≠ none->db a (ablk r):=λhr0=>by
  by_cases ha : a=none
  ·exact .inl ha
  ·exact .inr λe=>hra hr0 (.inl ⟨ha,e.symm⟩)
 have oA : ∀i,i<n->(aM R i).1 ≠ none->db a (ablk (aM R i).1):=λi hi hx=>by
  rcases h.sD i hi with h2 | h2
  ·exact absurd h2 hx
  ·exact .inr λe=>h2 e.symm
 have toA : ∀ {x : OA} {cx m : Nat} {xs : List Value},w.ownsRow B 3 1 (.slice x m cx) m xs->(x ≠ none->db a (ablk x))->db x (ablk a'):=by
  intro x cx m xs ho h2
  by_cases hx : x=none
  ·exact .inl hx
  ·rcases hap _ (aR ho hx).2 (h2 hx) with h3 | h3
   ·exact absurd h3 hn'
   ·exact .inr λe=>h3 e.symm
 have ezip : List.zipWith e9 (R ++ [(r,rc)]) (L ++ [l])=List.zipWith e9 R L ++ [.slice r l.length rc]:=by
  rw [List.zipWith_append (by rw [h.rl,h.ll])];rfl
 refine ⟨by simp [h.rl],by simp [h.ll],by rw [ezip];exact hown,λi hi=>?_,λi hi=>?_,λi j hi hj hij=>?_⟩
 ·rw [nthL,nthAA]
  by_cases h1 : i<n
  ·simp only [if_pos h1]
   exact rowKeep (h.row i h1) (oA i h1)
  ·obtain rfl : i=n:=by omega
   simp only [if_neg h1,if_true]
   exact rowKeep hr rA
 ·rw [nthAA]
  by_cases h1 : i<n
  ·simp only [if_pos h1]
   exact toA (h.row i h1) (oA i h1)
  ·obtain rfl : i=n:=by omega
   simp only [if_neg h1,if_true]
   exact toA hr rA
 ·rw [nthAA,nthAA]
  by_cases h1 : i<n
  ·by_cases h2 : j<n
   ·simp only [if_pos h1,if_pos h2];exact h.sep i j h1 h2 hij
   ·obtain rfl : j=n:=by omega
    simp only [if_pos h1,if_neg h2,if_true]
    by_cases hr0 : r=none
    ·exact .inr (.inl hr0)
    ·by_cases hx : (aM R i).1=none
     ·exact .inl hx
     ·exact .inr (.inr λe=>hra hr0 (by rw [e];exact aU.mw (by rw [h.rl];exact h1) hx))
  ·obtain rfl : i=n:=by omega
   have h2 : j<i:=by omega
   simp only [if_neg h1,if_pos h2,if_true]
   by_cases hr0 : r=none
   ·exact .inl hr0
   ·by_cases hx : (aM R j).1=none
    ·exact .inr (.inl hx)
    ·exact .inr (.inr λe=>hra hr0 (by rw [<- e];exact aU.mw (by rw [h.rl];exact h2) hx))
theorem bL.push {w : World} {B : Nat} {a : OA} {n c : Nat} {R : La} {L : Ll} (h : aU w B a n c R L) {r : OA} {rc : Nat} {a' : OA}
  (hap : ∀b,b<w.heap.size->db a b->db a' b) {x : Nat} (hx : bL a' (R ++ [(r,rc)]) x) : bL a R x\/(r ≠ none/\x=ablk r)\/w.heap.size<=x:=by
 rcases hx with ⟨h1,rfl⟩ | ⟨i,hi,h1,rfl⟩
 ·by_cases hlt : ablk a'<w.heap.size
  ·by_cases h2 : db a (ablk a')
   ·rcases hap _ hlt h2 with h3 | h3
    ·exact absurd h3 h1
    ·exact absurd rfl h3
   ·left;left
    refine ⟨λe=>h2 (.inl e),?_⟩
    apply Classical.byContradiction
    intro e
    exact h2 (.inr λe2=>e e2.symm)
  ·exact .inr (.inr (by omega))
 ·simp only [List.length_append,List.length_singleton] at hi
  by_cases h2 : i<R.length
  ·have e : aM (R ++ [(r,rc)]) i=aM R i:=by simp only [aM,List.getD_eq_getElem?_getD];rw [List.getElem?_append_left h2]
   rw [e] at h1 ⊢
   exact .inl (aU.mw h2 h1)
  ·obtain rfl : i=R.length:=by omega
   have e : aM (R ++ [(r,rc)]) R.length=(r,rc):=by simp [aM]
   rw [e] at h1 ⊢
   exact .inr (.inl ⟨h1,rfl⟩)
namespace oP
variable {V w4 w5 X w6 : World} {B bb b : Nat} {ar : OA} {cr : Nat} {R : La} {ap : OA} {cp : Nat} {s : BS}
theorem Fo {a4 a5 : OA} {c4 c5 k : Nat} {N : Lz} {o : Obj} (h : oP V B bb b ar cr R ap cp s) (hk : s.rows.length=k) (hVB : B<=V.heap.size) (hb4 : Below V.heap.size V w4)
  (hown4 : w4.ownsRow V.heap.size 3 1 (.slice a4 N.length c4) N.length (N.map (Value.int .i64)))
  (hown5 : w5.ownsRow B 22 1 (.slice a5 (k+1) c5) (k+1) (List.zipWith e9 R s.rows ++ [.slice a4 N.length c4])) (hgr5 : (w4.alloc o).grownBy w5 (Value.slice ar k cr).ownBlock)
  (hap5 : ∀x,x<(w4.alloc o).heap.size->db ar x->db a5 x) (p1 : ∃v,w5.cell? ⟨bb,1,none⟩=some v) :
  ∃ar' cr' R',(w5.setCell ⟨bb,1,none⟩ (.slice a5 (k+1) c5)).cell? ⟨bb,1,none⟩=some (.slice ar' (k+1) cr')/\aU (w5.setCell ⟨bb,1,none⟩ (.slice a5 (k+1) c5)) B ar' (k+1) cr' R' (s.rows ++ [N]) /\
   aB V (w5.setCell ⟨bb,1,none⟩ (.slice a5 (k+1) c5)) (λx=>x=bb\/bL ar R x) (λx=>x=bb\/bL ar' R' x)/\¬ bL ar' R' bb /\
   (∀i v,i ≠ 1->V.cell? ⟨bb,i,none⟩=some v->(w5.setCell ⟨bb,1,none⟩ (.slice a5 (k+1) c5)).cell? ⟨bb,i,none⟩=some v)/\∀i,(w5.setCell ⟨bb,1,none⟩ (.slice a5 (k+1) c5)).frozen? ⟨bb,i,none⟩=false:=by
 have hbo : Below V.heap.size V (w4.alloc o):=Below.next hb4 (an _ _)
 have hO4:=h.om.ah hbo
 rw [hk] at hO4
 have hr : (w4.alloc o).ownsRow B 3 1 (.slice a4 N.length c4) N.length (N.map (Value.int .i64)):=aP (aW hown4 (an _ _)) hVB
 have hra : a4 ≠ none->¬ bL ar R (ablk a4):=λh0 hI=>by
  have h1:=(aR hown4 h0).1
  have h2:=(h.om.lt _ hI).2
  omega
 have hP:=aU.push hO4 hr hra hown5 hgr5 hap5
 have hbb:=h.lt bb (.inl rfl)
 have haptb : db ar bb:=by
  by_cases ha : ar=none
  ·exact .inl ha
  ·exact .inr λe=>h.d1 (.inl ⟨ha,e.symm⟩)
 have hsz:=hbo.size
 have hpush:=λ{x : Nat} (hx : bL a5 (R ++ [(a4,c4)]) x)=>bL.push hO4 hap5 hx
 have hd : ¬ bL a5 (R ++ [(a4,c4)]) bb:=λhI=>by
  rcases hpush hI with h1 | ⟨h1,h2⟩ | h1
  ·exact h.d1 h1
  ·have:=(aR hown4 h1).1;omega
  ·omega
 obtain ⟨v,p1⟩:=p1
 refine ⟨a5,c5,R ++ [(a4,c4)],World.cell?_setCell_same _ _ _ p1,hP.bz λx hx=>Below.heap_setCell _ _ _ _ λe=>hd (by rw [show bb=x from e.symm];exact hx),?_,hd,λi v hi hv=>?_,λi=>?_⟩
 rotate_left
 ·rw [World.cell?_setCell_other _ _ _ _ (by simp <;> omega)]
  exact bK hgr5 (aw hbo hv) haptb
 ·rw [World.frozen?_setCell]
  exact (World.frozen?_of_block (w:=w4.alloc o) (a:=⟨bb,i,none⟩) (hgr5.block bb (by omega) λe=>haptb.own k cr e.symm)).trans (kC hbo hbb.2 (h.fr i))
 have hb0 : Below 0 w5 (w5.setCell ⟨bb,1,none⟩ (.slice a5 (k+1) c5)):=(Below.refl 0 w5).setCell (Nat.zero_le _) _
 refine ⟨hb0.os.trans (hgr5.os.trans hbo.os),hb0.tape.trans (hgr5.tape.trans hbo.tape),hb0.output.trans (hgr5.output.trans hbo.output),Nat.le_trans hbo.size (Nat.le_trans hgr5.size hb0.size),λx hx hI=>?_,λx hx=>?_⟩
 ·rw [Below.heap_setCell _ _ _ _ λe=>hI (.inl e)]
  rw [hgr5.block x (by omega) λe=>?_]
  ·exact hbo.block x hx
  ·apply hI
   right;left
   cases ar with
   | none=>simp [Value.ownBlock] at e
   | some y=>simp [Value.ownBlock] at e;exact ⟨by simp,by rw [e];rfl⟩
 ·rcases hx with rfl | hx
  ·exact .inl (.inl rfl)
  ·rcases hpush hx with h1 | ⟨h1,h2⟩ | h1
   ·exact .inl (.inr h1)
   ·exact .inr (by have:=(aR hown4 h1).1;omega)
   ·exact .inr (by omega)
theorem FV {a6 : OA} {c6 k : Nat} {f : Int} {L : Ll} {Q : Lz} {o : Obj} (hB : B<=bb) (x0 : X.cell? ⟨bb,0,none⟩=some (.pointer (some ⟨b,0,none⟩))) (x1 : X.cell? ⟨bb,1,none⟩=some (.slice ar (k+1) cr))
  (x2 : ∃v,X.cell? ⟨bb,2,none⟩=some v)
  (xf : ∀i,X.frozen? ⟨bb,i,none⟩=false) (hO : aU X B ar (k+1) cr R L) (hp : X.ownsRow B 3 1 (.slice ap k cp) k (Q.map (Value.int .i64))) (d1 : ¬ bL ar R bb) (d2 : db ap bb) (d3 : ap ≠ none->¬ bL ar R (ablk ap))
  (hown6 : w6.ownsRow B 3 1 (.slice a6 (k+1) c6) (k+1) (Q.map (Value.int .i64) ++ [.int .i64 f])) (hgr6 : (X.alloc o).grownBy w6 (Value.slice ap k cp).ownBlock)
  (hap6 : ∀x,x<(X.alloc o).heap.size->db ap x->db a6 x) :
  oP (w6.setCell ⟨bb,2,none⟩ (.slice a6 (k+1) c6)) B bb b ar cr R a6 c6 ⟨L,Q ++ [f]⟩ /\
   aB X (w6.setCell ⟨bb,2,none⟩ (.slice a6 (k+1) c6)) (sT bb ar R ap) (sT bb ar R a6):=by
 have hbb : bb<X.heap.size:=World.block_lt_of_cell? X _ x0
 have hbo : Below X.heap.size X (X.alloc o):=an _ _
 have hsz:=hbo.size
 have hne : a6 ≠ none:=λe=>by
  obtain ⟨y,z,hv,hp⟩:=Pl.own hown6
  cases hv
  have:=hp (by omega)
  rw [e] at this;cases this
 have aptOf : ∀ {x : Nat},db ap x->x<X.heap.size->x ≠ ablk a6:=λh2 hx e=>by
  rcases hap6 _ (by omega) h2 with h3 | h3
  ·exact hne h3
  ·exact h3 e.symm
 have hbb6:=aptOf d2 hbb
 have GJ : ∀x,x<X.heap.size->x ≠ bb->db ap x->(w6.setCell ⟨bb,2,none⟩ (.slice a6 (k+1) c6)).heap[x]? = X.heap[x]?:=λx hx h1 h2=>by
  rw [Below.heap_setCell _ _ _ _ h1,hgr6.block x (by omega) λe=>h2.own k cp e.symm]
  exact hbo.block x hx
 have aptO : ∀x,bL ar R x->db ap x:=λx hx=>by
  by_cases h0 : ap=none
  ·exact .inl h0
  ·exact .inr λe=>d3 h0 (e ▸ hx)
 have c6k : ∀i v,X.cell? ⟨bb,i,none⟩=some v->w6.cell? ⟨bb,i,none⟩=some v:=λi v hv=>bK hgr6 (aS hv _) d2
 have hLl : L.length=k+1:=hO.ll
 have hQl : Q.length=k:=by simpa using jr hp
 have hO6 : aU (w6.setCell ⟨bb,2,none⟩ (.slice a6 (k+1) c6)) B ar (k+1) cr R L:=hO.bz λx hx=>GJ x (hO.lt x hx).2 (λe=>d1 (e ▸ hx)) (aptO x hx)
 obtain ⟨v2,x2⟩:=x2
 refine ⟨⟨hB,?_,?_,?_,λi=>?_,?_,?_,d1,.inr λe=>hbb6 e.symm,λ_ hI=>?_⟩,?_⟩
 ·rw [World.cell?_setCell_other _ _ _ _ (by simp)];exact c6k _ _ x0
 ·rw [World.cell?_setCell_other _ _ _ _ (by simp)];simpa [hLl] using c6k _ _ x1
 ·simp only [hLl];exact World.cell?_setCell_same _ _ _ (c6k _ _ x2)
 ·rw [World.frozen?_setCell]
  exact (World.frozen?_of_block (w:=X.alloc o) (a:=⟨bb,i,none⟩) (hgr6.block bb (by omega) λe=>d2.own k cp e.symm)).trans (dG hbb (xf i) _)
 ·simp only [hLl];exact hO6
 ·simp only [hLl]
  have:=eO hown6 (p:=⟨bb,2,none⟩) (.slice a6 (k+1) c6) (.inr λe=>hbb6 e.symm)
  simpa using this
 ·exact aptOf (aptO _ hI) (hO.lt _ hI).2 rfl
 ·have hb0 : Below 0 w6 (w6.setCell ⟨bb,2,none⟩ (.slice a6 (k+1) c6)):=(Below.refl 0 w6).setCell (Nat.zero_le _) _
  refine ⟨hb0.os.trans (hgr6.os.trans hbo.os),hb0.tape.trans (hgr6.tape.trans hbo.tape),hb0.output.trans (hgr6.output.trans hbo.output),Nat.le_trans hbo.size (Nat.le_trans hgr6.size hb0.size),λx hx hI=>?_,λx hx=>?_⟩
  ·refine GJ x hx (λe=>hI (.inl e)) ?_
   by_cases h0 : ap=none
   ·exact .inl h0
   ·exact .inr λe=>hI (.inr (.inr ⟨h0,e.symm⟩))
  ·rcases hx with rfl | hx | ⟨h1,rfl⟩
   ·exact .inl (.inl rfl)
   ·exact .inl (.inr (.inl hx))
   ·by_cases hlt : ablk a6<X.heap.size
    ·left;right;right
     apply Classical.byContradiction
     intro hn
     have hA : db ap (ablk a6):=by
      by_cases h0 : ap=none
      ·exact .inl h0
      ·exact .inr λe=>hn ⟨h0,e.symm⟩
     exact aptOf hA hlt rfl
    ·exact .inr (by omega)
end oP
end
def Ap (w0 : World) (bb b : Nat) (ar : OA) (R : La) (ap av : OA) (O : aQ) (s : BS) (v : Lz) (w : World) (e : Ending) (w' : World) : Prop :=
 ∃ar' cr' R' ap' cp',e = .returned (.bool (s.dQ O v))/\oP w' w0.heap.size bb b ar' cr' R' ap' cp' (s.next O v) /\
  aB w w' (λx=>sT bb ar R ap x\/(av ≠ none/\x=ablk av)) (sT bb ar' R' ap')
theorem EZ {w w0 : World} {b : Nat} {G : de} (bb : Nat) (ar : OA) (cr : Nat) (R : La) (ap : OA) (cp : Nat) (s : BS) (av : OA) (cv n : Nat) (v : Lz)
  (h : eD w0 b G) (hb : Below w0.heap.size w0 w) (hB : oP w w0.heap.size bb b ar cr R ap cp s) (hs : s.Ok G.El n) (hv : w.ownsRow w0.heap.size 3 1 (.slice av n cv) n (v.map (Value.int .i64)))
  (hav : av ≠ none->¬ sT bb ar R ap (ablk av)) (hve : G.B9 v) (hn : n<=1000000) (hk : s.rows.length<=1000000) :
  Calls Tryz.prog 132 #[.pointer (some ⟨bb,0,none⟩),.slice av n cv] w (Ap w0 bb b ar R ap av G.ops s v w):=by
 have hvl : v.length=n:=by simpa using jr hv
 have hpv:=(Ints.own hv).1.pl
 have hcl:=de.cl h
 have hred:=mW hcl hs.rws hs.plc ⟨hvl,hve⟩
 have Hred:=Z5 hred
 have Hvl:=Z5 hvl
 have Hs:=Z5 hs
 have Hve:=Z5 hve
 have c1:=hB.c1
 have hplr:=hB.om.pl
 clear hred hvl hs hve
 go_enter Tryz.func132,Tryz.ntmps132
 go_wp2_with fail
 obtain ⟨kk,hkk⟩ : ∃kk,s.rows.length=kk:=⟨_,rfl⟩
 have Hkk:=Z5 hkk
 rw [hkk] at hk hplr c1
 rw [hkk]
 clear hkk
 go_loopw [18] (λiv wr=>∃k : Nat,k<=kk/\iv = .int .i64 k/\wr.ownsRow w0.heap.size 3 1 (.slice av n cv) n ((redTo G.ops s.rows s.place v k).map (Value.int .i64))/\bX av w wr) (λiv _=>kk - (intOf iv).toNat)
 case atStart=>exact ⟨0,Nat.zero_le _,rfl,hv,bX.refl _ _⟩
 case round =>
  obtain ⟨k,hkk2,rfl,hown,honly⟩:=hrel
  have hBr:=hB.only honly hav
  by_cases hlt : k<kk
  ·have hkr : k<s.rows.length:=by rw [Hkk.out];exact hlt
   have e0:=hBr.c0
   have e2:=hBr.c2
   have er:=hBr.om.cell hkr
   have ir:=hBr.om.ints hkr
   have hrow:=Hs.out.rws.row hkr
   have hplc:=Hs.out.plc k hkr
   rw [hrow.1] at er ir
   obtain ⟨ip,mp⟩:=Ints.own hBr.pl
   have ep:=ip.cell k hkr
   have hpp:=ip.pl
   rw [Hkk.out] at e2 hpp
   obtain ⟨pn,hpn⟩ : ∃pn : Nat,nth s.place k=pn:=⟨(nth s.place k).toNat,by omega⟩
   rw [hpn] at ep hplc
   have hpnn : pn<n:=by omega
   have hrd:=Hred.out k (by omega)
   have hrd1:=Hred.out (k+1) (by omega)
   have hstep : redTo G.ops s.rows s.place v (k+1)=dU G.ops (redTo G.ops s.rows s.place v k) pn (aj s.rows k):=by rw [redTo,hpn]
   have Hstep:=Z5 hstep
   have Hrow:=Z5 hrow
   have Hpn:=Z5 hpn
   clear hstep hpn
   obtain ⟨u,hu⟩ : ∃u,redTo G.ops s.rows s.place v k=u:=⟨_,rfl⟩
   rw [hu] at hown hrd
   have Hu:=Z5 hu
   obtain ⟨iu,mu⟩:=Ints.own hown
   have eu:=iu.cell pn hpnn
   have hpu:=iu.pl
   have Hrd:=Z5 hrd
   clear hu hrow hrd hrd1
   by_cases hz : nth u pn=0
   ·have hz' : (nth u pn != 0)=false:=by simpa using hz
    have Hn : Hid (redTo G.ops s.rows s.place v (k+1)=u):=by show _=_;rw [Hstep.out,Hu.out,dU,Int.toNat_natCast,if_pos hz]
    clear hz
    go_wp2_with fail
    go_roundw
    case rel=>exact ⟨k+1,by omega,by go_num,by rw [Hn.out];exact hown,honly⟩
    case measure=>simp [intOf] <;> omega
   ·have hz' : (nth u pn != 0)=true:=by simpa using hz
    have Hn : Hid (redTo G.ops s.rows s.place v (k+1)=dP G.ops u (nth u pn) (aj s.rows k)):=by show _=_;rw [Hstep.out,Hu.out,dU,Int.toNat_natCast,if_neg hz]
    have hxe : G.El (nth u pn):=Hrd.out.2 _ (aN (by rw [Hrd.out.1];exact hpnn))
    have hSl : (dP G.ops u (nth u pn) (aj s.rows k)).length=u.length:=fc _ _ _ _ (by rw [Hrow.out.1,Hrd.out.1])
    have hSn:=λi hi=>e8 G.ops u (nth u pn) (aj s.rows k) i (by rw [Hrow.out.1,Hrd.out.1]) hi
    have HSl:=Z5 hSl
    have HSn:=Z5 hSn
    clear hz hSl hSn
    have hplr2:=ir.pl
    go_wp2_with fail
    generalize nth u pn=x at *
    generalize dP G.ops u x (aj s.rows k)=S at *
    go_loopw [37] (λiv wx=>∃j : Nat,j<=n/\iv = .int .i64 j/\wx.ownsRow w0.heap.size 3 1 (.slice av n cv) n ((fD S u j).map (Value.int .i64))/\bX av w wx) (λiv _=>n - (intOf iv).toNat)
    case atStart=>exact ⟨0,Nat.zero_le _,rfl,by rw [en];exact hown,honly⟩
    case round =>
     obtain ⟨j,hj,rfl,hown2,honly2⟩:=hrel
     have hBx:=hB.only honly2 hav
     have ix:=hBx.om.ints hkr
     rw [Hrow.out.1] at ix
     by_cases hjn : j<n
     ·have cj:=ix.cell j hjn
      have f0:=hBx.c0
      obtain ⟨im,mm⟩:=Ints.own hown2
      have cm:=im.cell j hjn
      have fm:=(mm (by omega)).2 j hjn
      have hju : j<u.length:=by rw [Hrd.out.1];exact hjn
      have hmix:=ed S u j j HSl.out (by omega)
      rw [if_neg (by omega)] at hmix
      rw [hmix] at cm
      have hset:=dZ S u j HSl.out hju
      rw [HSn.out j hju] at hset
      have Hset:=Z5 hset
      have ely : G.El (nth (aj s.rows k) j):=Hrow.out.2 _ (aN (by rw [Hrow.out.1];exact hjn))
      have elv : G.El (nth u j):=Hrd.out.2 _ (aN hju)
      have elm : ∀x y,G.El (G.mul x y):=λx y=>de.mI h x y
      have hbx : Below w0.heap.size w0 wr:=Below.trans hb (honly2.below (λha=>(aR hv ha).1) hb.size)
      have hGr : eD wr b G:=h.ah hbx
      have HG : Hid (eD wr.drew b G/\∀n,eD (wr.drewN n) b G):=⟨hGr.ah (Below.refl _ _).drew,λn=>hGr.drewN n⟩
      clear hset hmix
      go_wp2_with fail
      go_region_law ((first
       | (go_simp;go_at_call 153;((with_reducible refine (qF x (nth (aj s.rows k) j) HG.out.1 hxe ely).mono ?_);rintro e w4 ⟨m4,rfl,rfl⟩))
       | (go_simp;go_at_call 153;((with_reducible refine (qF x (nth (aj s.rows k) j) (HG.out.2 _) hxe ely).mono ?_);rintro e w4 ⟨m4,rfl,rfl⟩))
       | (go_simp;go_at_call 191;((with_reducible refine (Jw (nth u j) (G.mul x (nth (aj s.rows k) j)) (HG.out.2 _) elv (elm _ _)).mono ?_);rintro e w4 ⟨m5,rfl,rfl⟩))))
      all_goals (
       go_wp2_with fail
       go_roundw
       case rel =>
        have hdr : bd wr (wr.drewN (1+m4+m5)):=⟨_,rfl⟩
        refine ⟨j+1,by omega,by go_num,?_,honly2.trans ((bX.drawn hdr).trans (bX.set _ j _ (by intro e;have:=hpv (by omega);rw [e] at this;cases this)))⟩
        have h1:=bC (w:=wr.drewN (1+m4+m5)) hown2 j hjn (.int .i64 (G.sub (nth u j) (G.mul x (nth (aj s.rows k) j))))
        rw [<- List.map_set,show G.sub (nth u j) (G.mul x (nth (aj s.rows k) j))=G.ops.add (nth u j) (G.ops.neg (G.ops.mul x (nth (aj s.rows k) j))) from rfl,Hset.out] at h1
        exact h1
       case measure=>simp [intOf] <;> omega)
     ·obtain rfl : j=n:=by omega
      rw [fy S u j (by rw [HSl.out,Hrd.out.1]) Hrd.out.1] at hown2
      go_wp2_with fail
      go_roundw
      case rel=>exact ⟨k+1,by omega,by go_num,by rw [Hn.out];exact hown2,honly2⟩
      case measure=>simp [intOf] <;> omega
  ·obtain rfl : k=kk:=by omega
   have hrd:=Hred.out k (by rw [Hkk.out];exact Nat.le_refl _)
   have hurd : redTo G.ops s.rows s.place v k=s.red G.ops v:=by rw [BS.red,Hkk.out]
   rw [hurd] at hown hrd
   obtain ⟨iu,mu⟩:=Ints.own hown
   have Hrd:=Z5 hrd
   clear hurd hrd
   go_wp2_with fail
   refine (zO _ _ _ _ _ iu).mono ?_
   rintro e w' ⟨rfl,rfl⟩
   by_cases hf : fnz (s.red G.ops v)<(s.red G.ops v).length
   ·have hfv : jg (s.red G.ops v)=fnz (s.red G.ops v):=by rw [jg,if_pos hf]
    have hfn:=jf _ hf
    have Ht : Hid (s.dQ G.ops v=true):=by show _=_;simpa [BS.dQ] using hf
    have HN : Hid (s.next G.ops v=⟨s.rows ++ [(s.red G.ops v).map (G.mul (G.inv (nth (s.red G.ops v) (fnz (s.red G.ops v)))))],s.place ++ [(fnz (s.red G.ops v) : Int)]⟩):=by
     show _=_;rw [BS.next,if_pos Ht.out];rfl
    rw [hfv]
    obtain ⟨u,hu⟩ : ∃u,s.red G.ops v=u:=⟨_,rfl⟩
    rw [hu] at hown Hrd hf hfn iu HN
    rw [hu]
    clear hu hfv
    obtain ⟨f,hff⟩ : ∃f,fnz u=f:=⟨_,rfl⟩
    rw [hff] at hf hfn HN
    rw [hff]
    have hfn' : f<n:=by rw [<- Hrd.out.1];exact hf
    have e0:=hBr.c0
    have eu:=iu.cell f hfn'
    have hpu:=iu.pl
    have elf : G.El (nth u f):=Hrd.out.2 _ (aN hf)
    have hbx : Below w0.heap.size w0 wr:=Below.trans hb (honly.below (λha=>(aR hv ha).1) hb.size)
    have hGr : eD wr b G:=h.ah hbx
    have HG : Hid (eD wr.drew b G/\∀n,eD (wr.drewN n) b G):=⟨hGr.ah (Below.refl _ _).drew,λn=>hGr.drewN n⟩
    have Hfn:=Z5 hfn
    have Hf:=Z5 hf
    clear hff hfn hf
    go_upto_region 15 with fail
    go_cut [11] (λdv wx=>dv = .int .i64 (G.inv (nth u f))/\bd wr wx)
    case first =>
     go_region_held3 (λw'=>w'.cell? ⟨bb,0,none⟩=some (.pointer (some ⟨b,0,none⟩))/\w'.cell? ⟨ablk av,aJ av+f,none⟩=some (.int .i64 (nth u f)))
      (exact ⟨e0,eu⟩)
      (first
      | (go_at_call 193;((with_reducible refine (BH _ HG.out.1 elf Hfn.out).mono ?_);rintro e w4 ⟨m4,rfl,rfl⟩)))
     all_goals (
      go_step;go_step
      go_meet
      exact ⟨rfl,⟨_,rfl⟩⟩)
    obtain ⟨rfl,hdr⟩:=hcut
    generalize wc=V at *
    have hBV : oP V w0.heap.size bb b ar cr R ap cp s:=hBr.ah hdr.below
    have hownV:=aW hown hdr.below
    have hbV : Below w0.heap.size w0 V:=hdr.xj hbx
    have honV : bX av w V:=honly.trans (bX.drawn hdr)
    clear hBr hown hbx hGr HG e0 eu iu mu hdr honly
    obtain ⟨iu,mu⟩:=Ints.own hownV
    have HGV : Hid (eD V.drew b G/\∀n,eD (V.drewN n) b G):=⟨(h.ah hbV).ah (Below.refl _ _).drew,λn=>(h.ah hbV).drewN n⟩
    have hiel : G.El (G.inv (nth u f)):=de.qT h _
    have e0:=hBV.c0
    have e1:=hBV.c1
    have f1:=hBV.fr 1
    have hS : ∀W,Below V.heap.size V W->W.cell? ⟨bb,0,none⟩=some (.pointer (some ⟨b,0,none⟩))/\W.cell? ⟨bb,1,none⟩=some (.slice ar s.rows.length cr)/\W.frozen? ⟨bb,1,none⟩=false/\Below V.heap.size V W:=by
     intro W hW
     have hBW:=hBV.ah hW
     exact ⟨hBW.c0,hBW.c1,hBW.fr 1,hW⟩
    have HS:=Z5 hS
    have haptb : db ar bb:=by
     by_cases ha : ar=none
     ·exact .inl ha
     ·exact .inr λe=>hBV.d1 (.inl ⟨ha,e.symm⟩)
    have hR : ∀W,Below V.heap.size V W->W.ownsRow w0.heap.size 22 1 (.slice ar k cr) k (List.zipWith e9 R s.rows):=λW hW=>by
     have:=(hBV.om.ah hW).own
     rwa [Hkk.out] at this
    have HR:=Z5 hR
    obtain ⟨N,hN⟩ : ∃N,u.map (G.mul (G.inv (nth u f)))=N:=⟨_,rfl⟩
    have hsc : Calls Tryz.prog 194 #[.pointer (some ⟨b,0,none⟩),.int .i64 (G.inv (nth u f)),.slice av n cv] V.drew (cC V.drew N):=by
     rw [<- hN];exact xS (G.inv (nth u f)) _ _ _ u HGV.out.1 hiel (iu.ah (Below.refl _ _).drew) Hrd.out.2 hn
    have Hsc:=Z5 hsc
    have HNe:=Z5 hN
    rw [hN] at HN
    clear hN hsc
    clear hS hR
    go_upto_region 16 with fail
    go_cut [] (λwx=>∃ar' cr' R',wx.cell? ⟨bb,1,none⟩=some (.slice ar' (k+1) cr')/\aU wx w0.heap.size ar' (k+1) cr' R' (s.rows ++ [N]) /\
     aB V wx (λx=>x=bb\/bL ar R x) (λx=>x=bb\/bL ar' R' x)/\¬ bL ar' R' bb /\
     (∀i v,i ≠ 1->V.cell? ⟨bb,i,none⟩=some v->wx.cell? ⟨bb,i,none⟩=some v)/\∀i,wx.frozen? ⟨bb,i,none⟩=false)
    case first =>
     rw [Hkk.out] at e1 HS
     go_region_law ((first
      | (go_simp;go_at_call 194;((with_reducible refine Hsc.out.mono ?_);rintro e w4 ⟨a4,c4,rfl,hown4,hb4⟩;obtain ⟨q0,q1,q2,q5⟩:=HS.out w4 (Below.next (Below.refl _ _).drew hb4);have q6 : bb<w4.heap.size:=World.block_lt_of_cell? w4 _ q0))
      | (refine bg (by rfl) (.tmp 83) (.tmp 91) 25 22 (by rfl) (.slice none 0 0) 24 Tryz.underlying25 ch (by rfl) w0.heap.size ar k cr (List.zipWith e9 R s.rows) (by rfl) (HR.out _ (Below.next q5 (an _ _))) (some ⟨w4.heap.size,0,none⟩) 1 1 [.slice a4 N.length c4] (by rfl) (λ_=>rfl) rfl (by intro j hj;obtain rfl : j=0:=(by omega);exact bs _ _ _ rfl) (by intro y hy;simp at hy;subst hy;rfl) (by omega) (by unfold maxLen;omega) (by have e1:=hbV.size;have e2:=Below.size q5;simp;omega) ?_;intro a5 c5 w5 hown5 hgr5 hap5;have p1:=bK hgr5 (aS q1 _) haptb;have p2 : w5.frozen? ⟨bb,1,none⟩=false:=(World.frozen?_of_block (hgr5.block bb (World.block_lt_of_cell? _ _ (aS q1 _)) (λe=>haptb.own k cr e.symm))).trans (dG (World.block_lt_of_cell? _ _ q1) q2 _))))
     all_goals (
      go_wp2_with fail
      go_meet
      exact hBV.Fo Hkk.out hbV.size (Below.next (Below.refl _ _).drew hb4) hown4 hown5 hgr5 hap5 ⟨_,p1⟩)
    obtain ⟨ar',cr',R',y1,hOX,hMX,hdX,hcX,hfX⟩:=hcut
    generalize wc=X at *
    have y0:=hcX 0 _ (by omega) e0
    have y2:=hcX 2 _ (by omega) hBV.c2
    have yf:=hfX 2
    have hnI : ap ≠ none->¬ (ablk ap=bb\/bL ar R (ablk ap)):=λh0 hI=>by
     rcases hI with h1 | h1
     ·rcases hBV.d2 with h2 | h2
      ·exact h0 h2
      ·exact h2 h1
     ·exact hBV.d3 h0 h1
    have hpX:=hMX.own hBV.pl hnI
    have hd3 : ap ≠ none->¬ bL ar' R' (ablk ap):=λh0 hI=>hMX.not (aR hBV.pl h0).2 (hnI h0) (.inr hI)
    rw [Hkk.out] at y2 hpX
    have hbX : Below w0.heap.size w0 X:=hbV.trans (hMX.below (λx hx=>(hBV.lt x (by rcases hx with h1 | h1;exact .inl h1;exact .inr (.inl h1))).1) hbV.size)
    have hz : bb<X.heap.size:=World.block_lt_of_cell? X _ y0
    have HfX:=Z5 hfX
    have Hd3:=Z5 hd3
    have HdX:=Z5 hdX
    have hd2:=hBV.d2
    have hbB:=hBV.bB
    have hcn:=br X (.int .i64 f) 3
    clear hcX hfX hd3 hdX e0 e1 f1
    go_wp2_with (at_builtin;refine bk rfl _ _ 22 3 rfl (.int .i64 0) 8 Tryz.underlying22 aX rfl w0.heap.size ap k cp _ rfl (hpX.alloc _) ⟨X.heap.size,0,none⟩ 1 (.int .i64 f) rfl hcn rfl (by omega) (by unfold maxLen;omega) (by have e1:=hbX.size;simp;omega) ?_;intro a6 c6 w6 hown6 hgr6 hap6;have p1:=bK hgr6 (aS y2 _) hd2;have p2 : w6.frozen? ⟨bb,2,none⟩=false:=(World.frozen?_of_block (hgr6.block bb (World.block_lt_of_cell? _ _ (aS y2 _)) (λe=>hd2.own k cp e.symm))).trans (dG hz yf _))
    have hP:=oP.FV (w6:=w6) hbB y0 y1 ⟨_,y2⟩ HfX.out hOX hpX HdX.out hd2 Hd3.out hown6 hgr6 hap6
    have HP:=Z5 hP
    clear hP
    go_ret
    refine ⟨ar',cr',R',a6,c6,aY Ht.out.symm,by rw [HN.out];exact HP.out.1,?_⟩
    refine aB.trans (w':=V) (I':=λx=>sT bb ar R ap x\/(av ≠ none/\x=ablk av)) ?_ (aB.trans (w':=X) (I':=sT bb ar' R' ap) ?_ HP.out.2)
    ·exact ⟨honV.os,honV.tape,honV.output,honV.size,λx hx hI=>honV.block x hx λh2=>hI (.inr h2),λx hx=>.inl hx⟩
    ·refine ⟨hMX.os,hMX.tape,hMX.output,hMX.size,λx hx hI=>hMX.block x hx λh2=>hI (.inl (by rcases h2 with h3 | h3;exact .inl h3;exact .inr (.inl h3))),λx hx=>?_⟩
     rcases hx with h1 | h1 | h1
     ·exact .inl (.inl (.inl h1))
     ·rcases hMX.grow x (.inr h1) with h2 | h2
      ·exact .inl (.inl (by rcases h2 with h3 | h3;exact .inl h3;exact .inr (.inl h3)))
      ·exact .inr h2
     ·exact .inl (.inl (.inr (.inr h1)))
   ·have hfv : jg (s.red G.ops v) = -1:=by rw [jg,if_neg hf]
    rw [hfv]
    have Ht : Hid (s.dQ G.ops v=false):=by show _=_;simp [BS.dQ];omega
    have HN : Hid (s.next G.ops v=s):=by show _=_;rw [BS.next,if_neg (by rw [Ht.out];simp)]
    clear hf hfv
    go_wp2_with fail
    go_ret
    refine ⟨ar,cr,R,ap,cp,aY Ht.out.symm,by rw [HN.out];exact hBr,?_⟩
    exact ⟨honly.os,honly.tape,honly.output,honly.size,λx hx hI=>honly.block x hx λh2=>hI (.inr h2),λx hx=>.inl (.inl hx)⟩
def cI (O : aQ) (L : Ll) (Q : Lz) : Nat->BS × Lz
 | 0=>(⟨[],[]⟩,[])
 | k+1=>((cI O L Q k).1.next O (bf L (nth Q k).toNat),if (cI O L Q k).1.dQ O (bf L (nth Q k).toNat)=true then (cI O L Q k).2 ++ [nth Q k] else (cI O L Q k).2)
def i7 (O : aQ) (L : Ll) (Q : Lz) : Lz:=(cI O L Q Q.length).2
theorem BS.Ai (O : aQ) (s : BS) (v : Lz) : (s.next O v).rows.length<=s.rows.length+1:=by
 unfold BS.next;split <;> simp
theorem aU.empty (w : World) (B : Nat) : aU w B none 0 0 [] [] :=
 ⟨rfl,rfl,bY,λi hi=>by omega,λi hi=>by omega,λi j hi=>by omega⟩
theorem oP.start {w : World} {B bb b : Nat} (hB : B<=bb) (h : aV w bb [.pointer (some ⟨b,0,none⟩),.slice none 0 0,.slice none 0 0]) : oP w B bb b none 0 [] none 0 ⟨[],[]⟩ :=
 ⟨hB,h.cell 0 rfl,h.cell 1 rfl,h.cell 2 rfl,λi=>h.frozen i,aU.empty w B,bY,λhI=>by
  rcases hI with ⟨h1,_⟩ | ⟨i,hi,_⟩
  ·exact h1 rfl
  ·simp at hi,.inl rfl,λh1=>absurd rfl h1⟩
theorem CN {El : Int->Prop} {m : Nat} {L : Ll} (h : bH El m L) {i : Nat} (hi : i<m) : (bf L i).length=L.length/\∀y ∈ bf L i,El y:=by
 refine ⟨dc _ _,λy hy=>?_⟩
 unfold bf at hy
 obtain ⟨r,hr,rfl⟩:=List.mem_map.1 hy
 exact (h r hr).2 _ (aN (by rw [(h r hr).1];exact hi))
theorem tn {w : World} {b : Nat} {G : de} (P M : Int) (am : OA) (mn cm : Nat) (N : Int) (a : OA) (n c : Nat) (L : Ll) (m : Nat) (ao : OA) (no co : Nat) (Q : Lz)
  (h : eD w b G) (hi : bZ w a n L) (hR : bH G.El m L) (hq : Ints w ao no Q) (hQ : ∀k,k<no->0<=nth Q k/\nth Q k<m) (hn : n<=1000000) (hno : no<=1000000) :
  Calls Tryz.prog 69 #[.pointer (some ⟨b,0,none⟩),.agg #[.int .i64 P,.int .i64 M,.slice am mn cm,.int .i64 N,.slice a n c],.slice ao no co] w (cC w (i7 G.ops L Q)):=by
 have Hlen:=Z5 hi.len
 have HR:=Z5 hR
 have HQ:=Z5 hQ
 have Hql:=Z5 hq.len
 have hplq:=hq.pl
 have hcl:=Z5 (de.cl h)
 clear hR hQ
 go_enter Tryz.func69,Tryz.ntmps69
 go_wp2_with fail
 obtain ⟨W,hW⟩ : ∃W : World,W=w.alloc (.cells #[.int .i64 P,.int .i64 M,.slice am mn cm,.int .i64 N,.slice a n c] 27):=⟨_,rfl⟩
 rw [<- hW]
 have hbW : Below w.heap.size w W:=by rw [hW];exact an _ _
 have x0 : aV W w.heap.size [.int .i64 P,.int .i64 M,.slice am mn cm,.int .i64 N,.slice a n c]:=by rw [hW];exact aV.new _ _ _ rfl
 have hsW : w.heap.size+1=W.heap.size:=by rw [hW];simp
 rw [hsW]
 have HX:=Z5 x0
 have HsW:=Z5 hsW
 have hGW:=h.ah hbW
 have hiW:=hi.ah hbW
 have hqW:=hq.ah hbW
 clear hW x0 hsW
 obtain ⟨V,hV⟩ : ∃V : World,V=W.alloc (.cells #[.pointer (some ⟨b,0,none⟩),.slice none 0 0,.slice none 0 0] 152):=⟨_,rfl⟩
 rw [<- hV]
 have hbV : Below W.heap.size W V:=by rw [hV];exact an _ _
 have hB0 : oP V W.heap.size W.heap.size b none 0 [] none 0 ⟨[],[]⟩:=oP.start (Nat.le_refl _) (by rw [hV];exact aV.new _ _ _ rfl)
 clear hV
 go_loopw [8,16] (λqv iv wr=>∃(k : Nat) (aq : OA) (cq : Nat) (out : Lz) (s : BS) (ar : OA) (cr : Nat) (R : La) (ap : OA) (cp : Nat),k<=no/\iv = .int .i64 k/\qv = .slice aq out.length cq /\
   Hid (cI G.ops L Q k=(s,out))/\oP wr W.heap.size W.heap.size b ar cr R ap cp s/\wr.ownsRow W.heap.size 3 1 (.slice aq out.length cq) out.length (out.map (Value.int .i64))/\Hid (aq ≠ none->¬ sT W.heap.size ar R ap (ablk aq)) /\
   Below W.heap.size W wr/\Hid (s.Ok G.El n)/\s.rows.length<=k/\out.length<=k)
  (λ_ iv _=>no - (intOf iv).toNat)
 case atStart=>exact ⟨0,none,0,[],⟨[],[]⟩,none,0,[],none,0,Nat.zero_le _,rfl,rfl,rfl,hB0,bY,λh0=>absurd rfl h0,hbV,⟨λr hr=>by simp at hr,rfl,λi hi=>by simp at hi⟩,Nat.zero_le _,Nat.zero_le _⟩
 case round =>
  obtain ⟨k,aq,cq,out,s,ar,cr,R,ap,cp,hk,rfl,rfl,hst,hBr,hop,hdq,hbr,hok,hsk,hok2⟩:=hrel
  generalize wr=U at *
  by_cases hlt : k<no
  ·have cq1:=(hqW.ah hbr).cell k hlt
   have hQk:=HQ.out k hlt
   obtain ⟨i,hik⟩ : ∃i : Nat,nth Q k=i:=⟨(nth Q k).toNat,by omega⟩
   rw [hik] at cq1 hQk
   have him : i<m:=by omega
   have xU:=HX.out.ah hbr
   have b0:=xU.cell 0 rfl
   have b1:=xU.cell 1 rfl
   have b2:=xU.cell 2 rfl
   have b3:=xU.cell 3 rfl
   have b4:=xU.cell 4 rfl
   have hcol:=CN HR.out him
   rw [Hlen.out] at hcol
   have hstep : cI G.ops L Q (k+1)=(s.next G.ops (bf L i),if s.dQ G.ops (bf L i)=true then out ++ [(i : Int)] else out):=by rw [cI,hst.out,hik,Int.toNat_natCast]
   have Hstep:=Z5 hstep
   have Hcol:=Z5 hcol
   clear xU hstep hcol hik
   go_wp2_with fail
   refine (AR P M am mn cm N a n c L i U (hiW.ah hbr) (λr hr=>by rw [(HR.out r hr).1];exact him) hn).mono ?_
   rintro e w3 ⟨a3,c3,rfl,hown3,hb3⟩
   rw [Hcol.out.1] at hown3
   rw [Hcol.out.1]
   have hB3:=hBr.ah hb3
   have hbw3:=Below.next hbr hb3
   have hn3 : a3 ≠ none->¬ sT W.heap.size ar R ap (ablk a3):=λh0 hI=>by
    have h1:=(aR hown3 h0).1
    have h2:=(hBr.lt _ hI).2
    omega
   go_wp2_with fail
   refine (EZ W.heap.size ar cr R ap cp s a3 c3 n (bf L i) hGW hbw3 hB3 hok.out (aP hown3 hbr.size) hn3 Hcol.out.2 hn (by omega)).mono ?_
   rintro e w4 ⟨ar',cr',R',ap',cp',rfl,hB4,hM4⟩
   have hbw4 : Below W.heap.size W w4:=hbw3.trans (hM4.below (λx hx=>by
    rcases hx with h1 | ⟨h1,h2⟩
    ·exact (hB3.lt x h1).1
    ·rw [h2];exact Nat.le_trans hbr.size (aR hown3 h1).1) hbw3.size)
   have hop3:=aW hop hb3
   have hnI : aq ≠ none->¬ (sT W.heap.size ar R ap (ablk aq)\/(a3 ≠ none/\ablk aq=ablk a3)):=λh0 hI=>by
    rcases hI with h1 | ⟨h1,h2⟩
    ·exact hdq.out h0 h1
    ·have e1:=(aR hop h0).2
     have e2:=(aR hown3 h1).1
     omega
   have hop4:=hM4.own hop3 hnI
   have hdq4 : aq ≠ none->¬ sT W.heap.size ar' R' ap' (ablk aq):=λh0=>hM4.not (aR hop3 h0).2 (hnI h0)
   have hok4 : (s.next G.ops (bf L i)).Ok G.El n:=BS.Ok.next hcl.out hok.out Hcol.out
   have hlen4:=BS.Ai G.ops s (bf L i)
   have Hok4:=Z5 hok4
   have Hdq4:=Z5 hdq4
   clear hnI hdq4 hok4 b0 b1 b2 b3 b4
   by_cases ht : s.dQ G.ops (bf L i)=true
   ·rw [ht]
    have Hst : Hid (cI G.ops L Q (k+1)=(s.next G.ops (bf L i),out ++ [(i : Int)])):=by show _=_;rw [Hstep.out,if_pos ht]
    clear ht
    generalize s.next G.ops (bf L i)=s' at *
    have hcn:=br w4 (.int .i64 i) 3
    have hbn:=an w4 (.cells #[.int .i64 i] 3)
    have hsz4:=hbw4.size
    go_wp2_with (at_builtin;refine bk rfl _ _ 22 3 rfl (.int .i64 0) 8 Tryz.underlying22 aX rfl W.heap.size aq out.length cq _ rfl (hop4.alloc _) ⟨w4.heap.size,0,none⟩ 1 (.int .i64 i) rfl hcn rfl (by omega) (by unfold maxLen;omega) (by simp;omega) ?_;intro a5 c5 w5 hown5 hgr5 hap5)
    go_roundw
    case rel =>
     have hBn:=hB4.ah hbn
     have haq : ∀x,sT W.heap.size ar' R' ap' x->db aq x:=λx hx=>by
      by_cases h0 : aq=none
      ·exact .inl h0
      ·exact .inr λe=>Hdq4.out h0 (e ▸ hx)
     have hB5 : oP w5 W.heap.size W.heap.size b ar' cr' R' ap' cp' s':=hBn.bz λx hx=>hgr5.block x (hBn.lt x hx).2 λe=>(haq x hx).own _ _ e.symm
     have hb5 : Below W.heap.size W w5:=Below.app (Below.trans hbw4 (hbn.mono hsz4)) (hop4.alloc _) hgr5 (Nat.le_refl _) (Nat.le_trans hsz4 hbn.size)
     refine ⟨k+1,a5,c5,out ++ [(i : Int)],s',ar',cr',R',ap',cp',by omega,by go_num,by simp,Hst.out,hB5,?_,?_,hb5,Hok4.out,by omega,by simp;omega⟩
     ·simpa using hown5
     ·show a5 ≠ none->_
      intro h0 hI
      rcases hap5 _ (hBn.lt _ hI).2 (haq _ hI) with h1 | h1
      ·exact h0 h1
      ·exact h1 rfl
    case measure=>simp [intOf] <;> omega
   ·have ht' : s.dQ G.ops (bf L i)=false:=by simpa using ht
    rw [ht']
    have Hst : Hid (cI G.ops L Q (k+1)=(s.next G.ops (bf L i),out)):=by show _=_;rw [Hstep.out,if_neg ht]
    clear ht ht'
    generalize s.next G.ops (bf L i)=s' at *
    go_wp2_with fail
    go_roundw
    case rel=>exact ⟨k+1,aq,cq,out,s',ar',cr',R',ap',cp',by omega,by go_num,rfl,Hst.out,hB4,hop4,Hdq4.out,hbw4,Hok4.out,by omega,by omega⟩
    case measure=>simp [intOf] <;> omega
  ·obtain rfl : k=no:=by omega
   have Ho : Hid (i7 G.ops L Q=out):=by show _=_;rw [i7,Hql.out,hst.out]
   go_wp2_with fail
   go_ret
   exact ⟨aq,cq,by rw [Ho.out];rfl,by rw [Ho.out];exact aP hop hbW.size,Below.next hbW hbr⟩
theorem yU {N : Int} {l : Lz} (h : bF N l=true) : ∀k,k<l.length->(k : Int)<=nth l k
 | 0,hk=>(gh h hk).1
 | k+1,hk=>by
  have ih:=yU h k (by omega)
  have:=(gh h hk).2.2 (by omega)
  rw [Nat.add_sub_cancel] at this
  omega
theorem lj {N : Int} {l : Lz} (h : bF N l=true) (hN : 0<=N) : (l.length : Int)<=N:=by
 by_cases h0 : l.length=0
 ·omega
 ·have h1:=yU h (l.length - 1) (by omega)
  have h2:=(gh h (k:=l.length - 1) (by omega)).2.1
  omega
theorem nO (N : Int) (l : Lz) : jl N [l]=if bF N l=true then 0 else 6:=by simp [jl]
def dR (P M : Int) (mod : Lz) (N : Int) (L : Ll) (Q : Lz) : Int:=if aL P M mod N L=0 then jl N [Q] else aL P M mod N L
def zS (P M : Int) (mod : Lz) (N : Int) (L : Ll) (Q : Lz) (w : World) (e : Ending) (w' : World) : Prop :=
 Below w.heap.size w w'/\((dR P M mod N L Q ≠ 0/\e = .returned (.tuple #[.int .i64 0,.int .i64 (dR P M mod N L Q)])) \/
  (dR P M mod N L Q=0/\e = .returned (.tuple #[.int .i64 (i7 (aa P M.toNat mod).ops L Q).length,.int .i64 0])))
theorem eJ {P M : Int} {mod : Lz} {N : Int} {L : Ll} (h : aL P M mod N L=0) : ∃m : Nat,N=m/\1<=m/\m<=64/\L.length<=256/\bH (aa P M.toNat mod).El m L:=by
 obtain ⟨h1,h2,h3,h4⟩:=bh h
 obtain ⟨h5,h6⟩:=dY h4
 obtain ⟨h7,h8⟩:=eg h5
 obtain ⟨m,rfl,hm,hl,hR⟩:=gP h8
 exact ⟨m,rfl,by omega,by omega,hl,hR⟩
theorem EP (P M : Int) (am : OA) (mn cm : Nat) (mod : Lz) (N : Int) (a : OA) (n c : Nat) (L : Ll) (ao : OA) (no co : Nat) (Q : Lz) (w : World)
  (hmod : Ints w am mn mod) (hi : bZ w a n L) (hq : Ints w ao no Q) :
  Calls Tryz.prog 166 #[.agg #[.int .i64 P,.int .i64 M,.slice am mn cm,.int .i64 N,.slice a n c],.slice ao no co] w (zS P M mod N L Q w):=by
 have Hql:=Z5 hq.len
 have Hil:=Z5 hi.len
 go_enter Tryz.func166,Tryz.ntmps166
 go_wp2_with fail
 obtain ⟨W,hW⟩ : ∃W : World,W=w.alloc (.cells #[.int .i64 P,.int .i64 M,.slice am mn cm,.int .i64 N,.slice a n c] 27):=⟨_,rfl⟩
 rw [<- hW]
 have hbW : Below w.heap.size w W:=by rw [hW];exact an _ _
 have x0 : aV W w.heap.size [.int .i64 P,.int .i64 M,.slice am mn cm,.int .i64 N,.slice a n c]:=by rw [hW];exact aV.new _ _ _ rfl
 have HX:=Z5 x0
 clear hW x0
 refine (rQ P M am mn cm mod N a n c L W (hmod.ah hbW) (hi.ah hbW)).mono ?_
 rintro e w1 ⟨hb1,⟨hE,rfl⟩ | ⟨hE,b,rfl,hG⟩⟩
 ·have hbw1:=Below.next hbW hb1
  have HE : Hid (dR P M mod N L Q=aL P M mod N L):=by show _=_;rw [dR,if_neg hE]
  have He:=Z5 hE
  have hE1 : (aL P M mod N L == 0)=false:=by simpa using hE
  have hE2 : (aL P M mod N L != 0)=true:=by simpa using hE
  clear hE
  go_wp2_with fail
  go_ret2
  exact ⟨hbw1,.inl ⟨by rw [HE.out];exact He.out,by rw [HE.out];rfl⟩⟩
 ·have hbw1:=Below.next hbW hb1
  have HE : Hid (dR P M mod N L Q=jl N [Q]):=by show _=_;rw [dR,if_pos hE]
  have Hrw:=Z5 (eJ hE)
  have xU:=HX.out.ah hb1
  have b0:=xU.cell 0 rfl
  have b1:=xU.cell 1 rfl
  have b2:=xU.cell 2 rfl
  have b3:=xU.cell 3 rfl
  have b4:=xU.cell 4 rfl
  have hq1:=(hq.ah hbW).ah hb1
  have hbl:=an w1 (.cells #[.slice ao no co] 22)
  have hMs : bZ (w1.alloc (.cells #[.slice ao no co] 22)) (some ⟨w1.heap.size,0,none⟩) 1 [Q]:=⟨rfl,λ_=>rfl,by unfold maxLen;omega,λi hi=>by
   obtain rfl : i=0:=by omega
   exact ⟨ao,no,co,bs _ _ _ rfl,hq1.ah hbl⟩⟩
  clear xU hE
  go_wp2_with fail
  refine (Gu P M am mn cm N a n c _ 1 1 [Q] _ hMs).mono ?_
  rintro e w2 ⟨rfl,hb2⟩
  have hb3 : Below w1.heap.size w1 w2:=Below.next hbl hb2
  have hbw2:=Below.next hbw1 hb3
  rw [nO] at HE ⊢
  by_cases hok : bF N Q=true
  ·have HE2 : Hid (dR P M mod N L Q=0):=by show _=_;rw [HE.out,if_pos hok]
   rw [if_pos hok]
   obtain ⟨m,hm,hm1,hm2,hLl,hRw⟩:=Hrw.out
   subst hm
   have hlen:=lj hok (by omega)
   have hQk : ∀k,k<no->0<=nth Q k/\nth Q k<m:=λk hk=>by
    have:=gh hok (k:=k) (by rw [Hql.out];exact hk)
    exact ⟨this.1,this.2.1⟩
   have hno : no<=1000000:=by rw [<- Hql.out];omega
   have hn : n<=1000000:=by rw [<- Hil.out];omega
   have HQk:=Z5 hQk
   have HRw:=Z5 hRw
   have xU:=(HX.out.ah hb1).ah hb3
   have b0:=xU.cell 0 rfl
   have b1:=xU.cell 1 rfl
   have b2:=xU.cell 2 rfl
   have b3:=xU.cell 3 rfl
   have b4:=xU.cell 4 rfl
   have hq2:=hq1.ah hb3
   have hi2:=((hi.ah hbW).ah hb1).ah hb3
   have hG2:=hG.ah hb3
   clear hok hlen hQk hRw xU
   go_wp2_with fail
   refine (tn P M am mn cm m a n c L m ao no co Q hG2 hi2 HRw.out hq2 HQk.out hn hno).mono ?_
   rintro e w4 ⟨a4,c4,rfl,hown4,hb4⟩
   have hF : zS P M mod m L Q w (.returned (.tuple #[.int .i64 (i7 (aa P M.toNat mod).ops L Q).length,.int .i64 0])) w4:=⟨Below.next hbw2 hb4,.inr ⟨HE2.out,rfl⟩⟩
   have HF:=Z5 hF
   clear hF hown4
   generalize i7 (aa P M.toNat mod).ops L Q=out at *
   go_wp2_with fail
   go_ret2
   exact HF.out
  ·have HE2 : Hid (dR P M mod N L Q=6):=by show _=_;rw [HE.out,if_neg hok]
   rw [if_neg hok]
   clear hok b0 b1 b2 b3 b4
   go_wp2_with fail
   go_ret2
   exact ⟨hbw2,.inl ⟨by rw [HE2.out];omega,by rw [HE2.out];rfl⟩⟩
section
open Go.RowKit
end
theorem iJ (a : OA) (n c : Nat) (l : Lz) (a' : OA) (n' c' : Nat) (l' : Lz) {w : World} (h : Ints w a n l) (h' : Ints w a' n' l') :
  Calls Tryz.prog 19 #[.slice a n c,.slice a' n' c'] w (lp w (decide (l=l'))):=by
 have Hl:=Z5 h.len
 have Hl':=Z5 h'.len
 have hpl:=h.pl
 have hpl':=h'.pl
 have hmax:=h.max
 unfold maxLen at hmax
 by_cases hn : n=n'
 ·subst hn
  have hnn : ((n : Int) != n)=false:=by simp
  go_enter Tryz.func19,Tryz.ntmps19
  go_wp2_with fail
  go_loopw [5] (λiv wr=>∃k : Nat,k<=n/\iv = .int .i64 k/\Hid (l.take k=l'.take k)/\bd w wr) (λi _=>n - (intOf i).toNat)
  case atStart=>exact ⟨0,Nat.zero_le _,rfl,rfl,bd.refl _⟩
  case round =>
   obtain ⟨k,hk,rfl,htk,hd⟩:=hrel
   by_cases hlt : k<n
   ·have c1:=(h.drawn hd).cell k hlt
    have c2:=(h'.drawn hd).cell k hlt
    by_cases he : nth l k=nth l' k
    ·have he' : (nth l k != nth l' k)=false:=by simpa using he
     have Hs : Hid (l.take (k+1)=l'.take (k+1)):=rR htk.out (by rw [Hl.out];exact hlt) (by rw [Hl'.out];exact hlt) he
     clear he
     go_wp2_with fail
     go_quiet (fail)
     go_wp2
     go_roundw
     case rel=>exact ⟨k+1,by omega,by go_num,Hs.out,hd.drewN _⟩
     case measure=>simp [intOf] <;> omega
    ·have he' : (nth l k != nth l' k)=true:=by simpa using he
     have Hs : Hid (decide (l=l')=false):=by
      show _=_;simp;intro e;exact he (by rw [e])
     clear he
     go_wp2_with fail
     go_quiet (fail)
     go_wp2
     go_ret
     exact ⟨aY Hs.out.symm,hd.drewN _⟩
   ·obtain rfl : k=n:=by omega
    have Hs : Hid (decide (l=l')=true):=by
     show _=_
     have:=htk.out
     rw [List.take_of_length_le (by rw [Hl.out];exact Nat.le_refl _),List.take_of_length_le (by rw [Hl'.out];exact Nat.le_refl _)] at this
     simpa using this
    go_wp2_with fail
    go_ret
    exact ⟨aY Hs.out.symm,hd⟩
 ·have hnn : ((n : Int) != n')=true:=by simp;omega
  have Hs : Hid (decide (l=l')=false):=by
   show _=_;simp;intro e;have e1:=Hl.out;have e2:=Hl'.out;rw [e] at e1;omega
  clear hn
  go_enter Tryz.func19,Tryz.ntmps19
  go_wp2_with fail
  go_ret
  exact ⟨aY Hs.out.symm,bd.refl _⟩
theorem kJ (a : OA) (n c : Nat) (l : Ll) (a' : OA) (n' c' : Nat) (l' : Ll) {w : World} (h : bZ w a n l) (h' : bZ w a' n' l') :
  Calls Tryz.prog 46 #[.slice a n c,.slice a' n' c'] w (lp w (decide (l=l'))):=by
 have Hl:=Z5 h.len
 have Hl':=Z5 h'.len
 have hpl:=h.pl
 have hpl':=h'.pl
 have hmax:=h.max
 unfold maxLen at hmax
 by_cases hn : n=n'
 ·subst hn
  have hnn : ((n : Int) != n)=false:=by simp
  go_enter Tryz.func46,Tryz.ntmps46
  go_wp2_with fail
  go_loopw [5] (λiv wr=>∃k : Nat,k<=n/\iv = .int .i64 k/\Hid (l.take k=l'.take k)/\bd w wr) (λi _=>n - (intOf i).toNat)
  case atStart=>exact ⟨0,Nat.zero_le _,rfl,rfl,bd.refl _⟩
  case round =>
   obtain ⟨k,hk,rfl,htk,hd⟩:=hrel
   by_cases hlt : k<n
   ·obtain ⟨b1,n1,d1,c1,i1⟩:=(h.drawn hd).cell k hlt
    obtain ⟨b2,n2,d2,c2,i2⟩:=(h'.drawn hd).cell k hlt
    have Hc:=Z5 (iJ b1 n1 d1 _ b2 n2 d2 _ (i1.drawn (bd.refl wr).drew) (i2.drawn (bd.refl wr).drew))
    by_cases he : aj l k=aj l' k
    ·have he' : decide (aj l k=aj l' k)=true:=by simpa using he
     have Hs : Hid (l.take (k+1)=l'.take (k+1)):=pK htk.out (by rw [Hl.out];exact hlt) (by rw [Hl'.out];exact hlt) he
     rw [he'] at Hc
     clear he he'
     go_wp2_with fail
     go_region_held3 (λV=>V.cell? ⟨ablk a,aJ a+k,none⟩=some (.slice b1 n1 d1)/\V.cell? ⟨ablk a',aJ a'+k,none⟩=some (.slice b2 n2 d2)) (exact ⟨c1,c2⟩)
      (first | (go_at_call 19;((with_reducible refine Hc.out.mono ?_);rintro e w4 ⟨rfl,m4,rfl⟩)))
     go_wp2_with fail
     go_roundw
     case rel=>exact ⟨k+1,by omega,by go_num,Hs.out,hd.drewN (1+m4)⟩
     case measure=>simp [intOf] <;> omega
    ·have he' : decide (aj l k=aj l' k)=false:=by simpa using he
     have Hs : Hid (decide (l=l')=false):=by
      show _=_;simp;intro e;exact he (by rw [e])
     rw [he'] at Hc
     clear he he'
     go_wp2_with fail
     go_region_held3 (λV=>V.cell? ⟨ablk a,aJ a+k,none⟩=some (.slice b1 n1 d1)/\V.cell? ⟨ablk a',aJ a'+k,none⟩=some (.slice b2 n2 d2)) (exact ⟨c1,c2⟩)
      (first | (go_at_call 19;((with_reducible refine Hc.out.mono ?_);rintro e w4 ⟨rfl,m4,rfl⟩)))
     go_wp2_with fail
     go_ret
     exact ⟨aY Hs.out.symm,hd.drewN (1+m4)⟩
   ·obtain rfl : k=n:=by omega
    have Hs : Hid (decide (l=l')=true):=by
     show _=_
     have:=htk.out
     rw [List.take_of_length_le (by rw [Hl.out];exact Nat.le_refl _),List.take_of_length_le (by rw [Hl'.out];exact Nat.le_refl _)] at this
     simpa using this
    go_wp2_with fail
    go_ret
    exact ⟨aY Hs.out.symm,hd⟩
 ·have hnn : ((n : Int) != n')=true:=by simp;omega
  have Hs : Hid (decide (l=l')=false):=by
   show _=_;simp;intro e;have e1:=Hl.out;have e2:=Hl'.out;rw [e] at e1;omega
  clear hn
  go_enter Tryz.func46,Tryz.ntmps46
  go_wp2_with fail
  go_ret
  exact ⟨aY Hs.out.symm,bd.refl _⟩
section
open Go.RowKit
end
section
open Go.RowKit
end
theorem tR (O : aQ) (L : Ll) (Q : Lz) : ∀k,(cI O L Q k).2.length<=k
 | 0=>Nat.le_refl _
 | k+1=>by
  have:=tR O L Q k
  simp only [cI]
  split
  ·simp;omega
  ·omega
theorem Cm (O : aQ) (L : Ll) (Q : Lz) : (i7 O L Q).length<=Q.length:=tR O L Q _
section
open Go.RowKit
end
end Go.Proofs.YtcfmiocdlcapoaaGreat
