import Derived.Test.YthglbncgemdcbaaGreatCK13
import Derived.Test.YthglbncgemdcbaaGreatCK16
import Derived.Test.YthglbncgemdcbaaGreatCK17
namespace Go.Proofs.YthglbncgemdcbaaGreat
set_option linter.all false
set_option maxRecDepth 100000
set_option maxHeartbeats 8000000
open Go.RowKit Go.Proofs.Tryz
section
open Go.RowKit Go.Shelf
theorem yC : (prog.info? 22).map (λi=>(i.zero,i.size,i.bytes))=some (some (.slice none 0 0),1,24):=by kernel_rfl
theorem F1 (n : Nat) (V : n<=1000000) (w : World) :
  (Instr.makeSlice 25 (.int .i64 0) (.int .i64 n)).run prog w = .ok (.slice (some ⟨w.heap.size,0,none⟩) 0 n) (w.alloc (.cells (List.replicate n (Value.slice none 0 0)).toArray 22)):=by
 obtain ⟨i,hi,Z,X,Y⟩:=info_parts yC;have h:=run_make (P:=prog) w 25 22 i (.slice none 0 0) underlying25 hi Z .i64 .i64 0 n (by omega) (by omega) (by rw [Y];omega) (by omega);rw [X,Nat.mul_one,show (Value.slice none 0 0).cells = #[Value.slice none 0 0] from rfl,JQ] at h;have e : madeCells #[Value.slice none 0 0] n=(List.replicate n (Value.slice none 0 0)).toArray:=by rw [<- toList_madeCells_one]
 rw [h,e];rfl
def BM (B X Z n Y : Nat) (pre : List WX) (V : World) : Prop :=
 (aO V X [.slice (some ⟨Z,0,none⟩) pre.length Y]/\V.ownsRow B 22 1 (.slice (some ⟨Z,0,none⟩) pre.length Y) pre.length (pre.map λx=>.slice x.a n x.c)) /\
  ∀x ∈ pre,Ints V x.a n x.l/\ablk x.a ≠ X/\ablk x.a ≠ Z
theorem BM.bj {B Y U n S : Nat} {pre : List WX} {V X : World} (h : BM B Y U n S pre V) (Q : X.heap[Y]? = V.heap[Y]?) (K : X.heap[U]? = V.heap[U]?) (I : ∀x ∈ pre,X.heap[ablk x.a]? = V.heap[ablk x.a]?) (N : V.heap.size<=X.heap.size) : BM B Y U n S pre X :=
 ⟨⟨⟨Kl h.1.1.1 N,λi v L=>(Kj (w:=V) (a:=⟨Y,i,none⟩) Q).trans (h.1.1.2.1 i v L),λi=>(Ks (w:=V) (a:=⟨Y,i,none⟩) Q).trans (h.1.1.2.2 i)⟩,
  eS h.1.2 K⟩,λx Z=>⟨(h.2 x Z).1.of_block λ_=>I x Z,(h.2 x Z).2⟩⟩
theorem BM.Jn {B X Z n Y : Nat} {pre : List WX} {V : World} (h : BM B X Z n Y pre V) : B<=Z/\Z<V.heap.size:=ba h.1.2 (by simp)
theorem aO.Jz {w : World} {b : Nat} {v : Value} (h : aO w b [v]) (u : Value) : aO (w.setCell ⟨b,0,none⟩ u) b [u] :=
 ⟨by have:=((JP 0 w).setCell (p:=⟨b,0,none⟩) (JU _) u).size;exact Kl h.1 this,λi x Z=>by
  cases i with
  | zero=>simp at Z;subst Z;exact L7 _ _ _ (by rw [h.2.1 0 v rfl];rfl)
  | succ i=>simp at Z,λi=>by rw [KK];exact h.2.2 i⟩
theorem aO.of_block {w w' : World} {b : Nat} {cs : List Value} (h : aO w b cs) (hb : w'.heap[b]? = w.heap[b]?) (Y : w.heap.size<=w'.heap.size) : aO w' b cs :=
 ⟨Kl h.1 Y,λi v Z=>(Kj (w:=w) (a:=⟨b,i,none⟩) hb).trans (h.2.1 i v Z),λi=>(Ks (w:=w) (a:=⟨b,i,none⟩) hb).trans (h.2.2 i)⟩
theorem aD.Ic {w w' : World} {I : Nat->Prop} {B : Nat} (Z : w.grownBy w' (some B)) (Y : I B) : aD w w' I I :=
 ⟨Z.os,Z.tape,Z.output,Z.size,λb hb hI=>Z.block b hb (λe=>by cases e;exact hI Y),λb hb=>.inl hb⟩
theorem BM.step {B Z n S : Nat} {pre : List WX} {x : WX} {W V : World} {o : Obj} (h : BM B (Z+1) Z n S pre W) (G : Ints W x.a n x.l) (F : 1<=n) (K : ablk x.a ≠ Z+1) (N : ablk x.a ≠ Z)
  (L : (W.alloc o).grownBy V (some Z)) (Q : V.ownsRow B 22 1 (.slice (some ⟨Z,0,none⟩) (pre.length+1) S) (pre.length+1) (pre.map (λx=>.slice x.a n x.c) ++ [.slice x.a n x.c])) :
  BM B (Z+1) Z n S (pre ++ [x]) (V.setCell ⟨Z+1,0,none⟩ (.slice (some ⟨Z,0,none⟩) (pre.length+1) S)) /\
   aD W (V.setCell ⟨Z+1,0,none⟩ (.slice (some ⟨Z,0,none⟩) (pre.length+1) S)) (λy=>y=Z+1\/y=Z) (λy=>y=Z+1\/y=Z):=by
 have X : ∀y,y<W.heap.size->y ≠ Z->V.heap[y]? = W.heap[y]?:=λy U h2=>(L.block y (by simp;omega) (λe=>by cases e;exact h2 rfl)).trans (MP _ _ _ U);have I : W.heap.size<=V.heap.size:=by have:=L.size;simp at this;omega
 have H : aO V (Z+1) [.slice (some ⟨Z,0,none⟩) pre.length S]:=h.1.1.of_block (X _ h.1.1.1 (by omega)) I;refine ⟨⟨⟨by rw [J0];exact H.Jz _,?_⟩,?_⟩,((N3 (an W o) _).trans (aD.Ic L (.inr rfl))).trans (aD.setAt _ (.inl rfl) _)⟩
 ·have h2:=eS Q (w':=V.setCell ⟨Z+1,0,none⟩ (.slice (some ⟨Z,0,none⟩) (pre.length+1) S)) (J6 _ _ _ _ (by show Z ≠ Z+1;omega));rw [J0,Ko];exact h2
 ·intro y U;have Y : Ints W y.a n y.l/\ablk y.a ≠ Z+1/\ablk y.a ≠ Z:=by
   rcases List.mem_append.1 U with U | U
   ·exact h.2 y U
   ·rw [List.mem_singleton.1 U];exact ⟨G,K,N⟩
  refine ⟨Y.1.of_block λh0=>?_,Y.2⟩;exact (J6 _ _ _ _ (by show ablk y.a ≠ Z+1;exact Y.2.1)).trans (X _ (Y.1.lt h0) Y.2.2)
attribute [local go_sem] M3
theorem DI (P M : Int) (am : OA) (Z cm : Nat) (N : Int) (a : OA) (k c : Nat) (w : World) :
  Calls prog 211 #[.agg #[.int .i64 P,.int .i64 M,.slice am Z cm,.int .i64 N,.slice a k c]] w λe w' =>
   e = .returned (.func (.func 250) #[] #[.pointer (some ⟨w.heap.size,0,none⟩)])/\w'=w.alloc (.cells #[.int .i64 P,.int .i64 M,.slice am Z cm,.int .i64 N,.slice a k c] 27):=by have Y : ∀(fn : Fn) (first cap : Array Value) (w : World),(Instr.makeFunc fn first cap).run prog w = .ok (.func fn first cap) w:=λ_ _ _ _=>rfl;go_enter func211,ntmps211;go_wp2;go_ret;exact ⟨rfl,rfl⟩
theorem CD (P M : Int) (am : OA) (C cm : Nat) (mod : LI) (n : Nat) (a : OA) (k c : Nat) (L : Ll) (w : World) (Y : Nat) (hE : aJ P M mod n L=0) (hmod : Ints w am C mod) (hi : bu w a k L)
  (hNN : (ah P M.toNat mod).q ^ k=Y) (hN6 : Y<=65536) :
  Calls prog 158 #[.agg #[.int .i64 P,.int .i64 M,.slice am C cm,.int .i64 n,.slice a k c]] w λe w' =>
   ∃ao co,e = .returned (.tuple #[.slice ao Y co,.int .i64 0])/\bu w' ao Y (wlkS (ah P M.toNat mod).ops (ah P M.toNat mod).q L (List.replicate n 0))/\OC w w':=by
 obtain ⟨N',em,r,hm64,F,hR⟩:=aY hE;obtain rfl : n=N':=by omega
 have HSz : Hid (∀V,OC w V->Calls prog 210 #[.agg #[.int .i64 P,.int .i64 M,.slice am C cm,.int .i64 n,.slice a k c]] V λe w'=>e = .returned (.tuple #[.int .i64 (Y : Nat),.int .i64 0])/\OC V w'):=λV hV=>by
  refine (xa P M am C cm mod n a k c L V hE (hmod.af hV) (hi.af hV)).mono ?_;rintro e w' ⟨rfl,h2⟩;have h3 : ((ah P M.toNat mod).q : Int) ^ k=(Y : Nat):=by rw [<- hNN];simp
  have h4:=Bk (q:=(ah P M.toNat mod).q) (k:=k) (by rw [h3];omega);rw [h4.1,h4.2,h3];exact ⟨rfl,h2⟩
 have HWk : Hid (∀(W : World) (Bc l : Nat),OC w W->aO W Bc [.int .i64 P,.int .i64 M,.slice am C cm,.int .i64 n,.slice a k c]->∀(J : List WX->World->Prop) (MM : Nat->Prop),(∀x,MM x->x<W.heap.size) ->
   (∀V,(∀x,x<W.heap.size->¬ MM x->V.heap[x]? = W.heap[x]?)->bu V a k L/\V.cell? ⟨Bc,4,none⟩=some (.slice a k c)) ->
   (∀pre V V',J pre V->OC V V'->J pre V')->(∀B pre V v,W.heap.size<=B->(∀x ∈ pre,ablk x.a ≠ B)->J pre V->J pre (V.setCell ⟨B,0,none⟩ v)) ->
   (∀m pre x V,J pre V->pre.length<Y->Ints V x.a n x.l->(∀j,MM j->j ≠ ablk x.a)->I3 l n J MM m pre x V)->J [] W ->
   Calls prog 250 #[.func (.yield l) #[] #[],.pointer (some ⟨Bc,0,none⟩)] W λe V=>e = .returned (.tuple #[]) /\
    ∃xs : List WX,xs.map WX.l=wlkS (ah P M.toNat mod).ops (ah P M.toNat mod).q L (List.replicate n 0)/\J xs V/\aD W V MM MM):=by intro W Bc l hb X J MM h1 h2 h3 h4 h5 h6;refine BY P M am C cm mod n a k c L W Bc l hE X (hmod.af hb) (hi.af hb) J MM h1 h2 h3 h4 ?_ (by rw [hNN];omega) h6;intro m pre x V hj hl;rw [hNN] at hl;exact h5 m pre x V hj hl
 have Hmat : Hid (∀V,(∀x,x<w.heap.size->V.heap[x]? = w.heap[x]?)->bu V a k L):=λV hV=>⟨hi.len,hi.pl,hi.max,λi hik=>by obtain ⟨b,m,c',h1,h2⟩:=hi.cell i hik;exact ⟨b,m,c',(Kj (w:=w) (hV _ (J2 _ _ h1))).trans h1,h2.of_block λh0=>hV _ (h2.lt h0)⟩⟩
 have Hlen : Hid ((wlkS (ah P M.toNat mod).ops (ah P M.toNat mod).q L (List.replicate n 0)).length=Y):=by show _=_;rw [kC,hi.len,hNN]
 generalize wlkS (ah P M.toNat mod).ops (ah P M.toNat mod).q L (List.replicate n 0)=R at *;clear hNN hR F em hE hmod hi;refine (callsIn_wide (n:=8)).1 ?_;refine callsIn_of_wp_marks func158 rfl trivial ?_ rfl;simp only [ntmps158,LB,Kr,Lw,Nat.reduceAdd,Nat.reduceSub,La,Lb,LC,Lg,KL,LH];refine wpIn_wide.2 ?_;go_upto_region 1 with fail;obtain ⟨W1,hW1⟩ : ∃W1 : World,W1=w.alloc (.cells #[.int .i64 P,.int .i64 M,.slice am C cm,.int .i64 n,.slice a k c] 27):=⟨_,rfl⟩
 rw [<- hW1];have hb1 : OC w W1:=by rw [hW1];exact an _ _
 have x1 : aO W1 w.heap.size [.int .i64 P,.int .i64 M,.slice am C cm,.int .i64 n,.slice a k c]:=by rw [hW1];exact NY _ _ _ rfl
 have X1:=Z5 x1;have c0:=x1.cell 0 rfl;have c1:=x1.cell 1 rfl;have c2:=x1.cell 2 rfl;have c3:=x1.cell 3 rfl;have c4:=x1.cell 4 rfl;clear hW1 x1;go_upto_region 4 with (go_at_call 210;refine (HSz.out _ hb1).mono ?_;rintro e w2 ⟨rfl,hb2⟩;clear c0 c1 c2 c3 c4)
 have hmk:=λV=>F1 Y (by omega) V;go_upto_region 5 with fail;obtain ⟨Z,D⟩ : ∃Z,Z=w2.heap.size:=⟨_,rfl⟩
 rw [<- D];obtain ⟨Q,E⟩ : ∃Q : World,Q=((w2.alloc (.cells (Array.replicate Y (Value.slice none 0 0)) 22)).alloc (.cells #[.slice (some ⟨Z,0,none⟩) 0 Y] 25)):=⟨_,rfl⟩
 rw [<- E];have hb3 : OC w2 Q:=by rw [E];exact bT _ _ _
 have S : Q.heap.size=Z+2:=by rw [E,D];simp
 have hwB : w.heap.size<Z:=by have h1:=X1.out.1;have h2:=hb2.size;omega
 have hwi : BM w.heap.size (Z+1) Z n Y [] Q:=by
  refine ⟨⟨?_,?_⟩,λx X=>by simp at X⟩
  ·rw [E];exact NY _ _ _ (by rw [D];simp)
  ·refine ⟨rfl,.inr ⟨Z,Y,Array.replicate Y (Value.slice none 0 0),rfl,by omega,?_,by simp,by unfold maxLen;omega,by simp,by simp⟩⟩;rw [E,D];exact (MP _ _ _ (by simp)).trans (World.alloc_heap_new w2 _)
 have Hwi:=Z5 hwi;have HBr:=Z5 D;have hb13:=NX (NX hb1 hb2) hb3;have x3:=(X1.out.af hb2).af hb3;have c0:=x3.cell 0 rfl;have c1:=x3.cell 1 rfl;have c2:=x3.cell 2 rfl;have c3:=x3.cell 3 rfl;have c4:=x3.cell 4 rfl;have Hs3:=Z5 S;clear E hwi D x3 hmk;go_wp2_with (go_at_call 211;refine (DI P M am C cm n a k c Q).mono ?_;rintro e A ⟨rfl,I⟩;have Hw4:=Z5 I;clear I S);have I:=Hw4.out;have S:=Hs3.out;have hb4 : OC Q A:=by rw [I];exact an _ _
 have G : A.heap.size=Q.heap.size+1:=by rw [I];simp
 have x4 : aO A Q.heap.size [.int .i64 P,.int .i64 M,.slice am C cm,.int .i64 n,.slice a k c]:=by rw [I];exact NY _ _ _ rfl
 clear I c0 c1 c2 c3 c4;have hi4 : BM w.heap.size (Z+1) Z n Y [] A:=BM.bj Hwi.out (hb4.block _ (by omega)) (hb4.block _ (by omega)) (λx X=>by simp at X) hb4.size;have Hs4:=Z5 G;obtain ⟨i0,hi,hz0,hz1,hz2⟩:=info_parts yC;have hMB4 : ∀x,(x=Z+1\/x=Z)->x<A.heap.size:=λx X=>by omega
 clear S G;refine (wpIn_wide (n:=8)).1 ?_;refine sN (n:=n) (N:=Y) (lb:=#[.pointer (some ⟨Q.heap.size,0,none⟩)]) (R:=R) rfl (enters_of func250 (by kernel_rfl) rfl) rfl (by omega) r
  (λx=>x=Z+1\/x=Z) hMB4 ?hseq (BM w.heap.size (Z+1) Z n Y) ?hIa ?hIb ?hIp hi4
  (λpre x=>{ tmps:=#[.agg #[.int .i64 P,.int .i64 M,.slice am C cm,.int .i64 n,.slice a k c],.pointer (some ⟨w.heap.size,0,none⟩),.slice none 0 0,.int .i64 0,.int .i64 Y,.int .i64 0,.pointer (some ⟨Z+1,0,none⟩),undef,.slice x.a n x.c,
   .tuple #[.int .i64 Y,.int .i64 0],.agg #[.int .i64 P,.int .i64 M,.slice am C cm,.int .i64 n,.slice a k c],.tuple #[.int .i64 Y,.int .i64 0],.int .i64 Y,.int .i64 0,.int .i64 0,.bool false,undef,.int .i64 Y,.slice (some ⟨Z,0,none⟩) 0 Y,
   .agg #[.int .i64 P,.int .i64 M,.slice am C cm,.int .i64 n,.slice a k c],.func (.func 250) #[] #[.pointer (some ⟨Q.heap.size,0,none⟩)],.int .i64 (pre.length : Nat),.slice x.a n x.c,undef,undef,undef,undef,undef],defers:=[] })
  ?assign ?body ?done
 case hseq =>
  intro l J MM W hb hs hMM hJa hJb hY h0
  have S:=Hs3.out
  have G:=Hs4.out
  have hbw : OC w W:=NX (NX hb13 hb4) hb
  refine HWk.out W Q.heap.size l hbw (x4.af hb) J MM (λx X=>by have:=hMM x X;omega) (λV hV=>?_) hJa hJb hY h0
  have hwV : ∀x,x<w.heap.size->V.heap[x]? = w.heap[x]?:=λx X=>(hV x (by have:=hbw.size;omega) (λh=>by have:=hMM x h;have:=hb4.size;omega)).trans (hbw.block x X)
  refine ⟨Hmat.out V hwV,?_⟩
  ·refine (Kj (w:=W) (a:=⟨Q.heap.size,4,none⟩) (hV _ ?_ ?_)).trans ((x4.af hb).cell 4 rfl)
   ·have:=(x4.af hb).1;exact this
   ·intro h
    have h2 : (Q.heap.size=Z+1\/Q.heap.size=Z)\/Q.heap.size=A.heap.size+1:=hMM _ h
    omega
 case hIa =>
  intro pre V V' h hb
  exact h.bj (hb.block _ h.1.1.1) (hb.block _ h.Jn.2) (λx X=>hb.block _ ((h.2 x X).1.lt r)) hb.size
 case hIb =>
  intro B pre V v hB X h
  have S:=Hs3.out
  have G:=Hs4.out
  refine h.bj (J6 _ _ _ _ ?_) (J6 _ _ _ _ ?_) (λx hxp=>J6 _ _ _ _ (X x hxp)) (((JP 0 V).setCell (p:=⟨B,0,none⟩) (JU _) v).size)
  ·show Z+1 ≠ B;omega
  ·show Z ≠ B;omega
 case hIp =>
  intro B pre V o hB X h
  have S:=Hs3.out
  have G:=Hs4.out
  refine h.bj (World.putObj_heap_other ?_) (World.putObj_heap_other ?_) (λx hxp=>World.putObj_heap_other (X x hxp)) (grownBy_putObj' V B o).size
  ·omega
  ·omega
 case assign =>
  intro l m pre x W K hK
  gi_wp2
  exact hK
 case body =>
  rintro l m pre x W h hlt hix hxM
  have hcv:=h.1.1.cell 0 rfl
  have z:=h.1.2
  obtain ⟨v,hv⟩ : ∃v,v=Value.slice (some ⟨Z,0,none⟩) pre.length Y:=⟨_,rfl⟩
  rw [<- hv] at hcv
  have Hv:=Z5 hv
  have Hh:=Z5 h
  clear hv h
  gi_wp2_with (gi_at_builtin;refine wpListIn_append_fits _ rfl _ _ 25 rfl w.heap.size 22 i0 1 underlying25 hi hz1 Z pre.length Y (pre.map λx=>.slice x.a n x.c) Hv.out (z.alloc _) ⟨W.heap.size,0,none⟩ 1 1 [.slice x.a n x.c] rfl rfl (cell_one_new _ _ _) (by simp [Value.oneCell']) (by omega) ?_;intro w1 hown1 U;have hbo : aO w1 (Z+1) [.slice (some ⟨Z,0,none⟩) pre.length Y]:=(Hh.out.1.1.alloc _).of_block (U.block _ (Hh.out.1.1.alloc _).1 (λe=>by injection e with e;omega)) U.size;have hc1:=hbo.cell 0 rfl;have hf1:=hbo.frozen 0)
  have hst:=BM.step Hh.out hix r (λe=>hxM _ (.inl rfl) e.symm) (λe=>hxM _ (.inr rfl) e.symm) U hown1
  exact ⟨hst.1,hst.2⟩
 case done =>
  intro xs V X hI hm hK
  have hcv:=hI.1.1.cell 0 rfl
  have HI:=Z5 hI
  have Hm:=Z5 hm
  have Hx:=Z5 X
  clear hI hm X
  go_wp2_with fail
  refine ⟨by simp,.inl ⟨_,_,rfl,run_takeDeferred hK,?_⟩⟩
  have hxl : xs.length=Y:=by rw [<- Hlen.out,<- Hx.out,J5]
  have hIV : BM w.heap.size (Z+1) Z n Y xs (V.putObj A.heap.size (.deferred none)):=by
   have S:=Hs3.out;have G:=Hs4.out;have hlo : ∀x ∈ xs,ablk x.a ≠ A.heap.size:=λx X e=>by obtain ⟨_,ix⟩:=(HI.out.2 x X).1.cell 0 r |> λh=>JZ h (Array.getElem?_eq_some_iff.1 hK).1;have h1:=(HI.out.2 x X).1.cell 0 r;rw [e] at h1;simp [World.cell?,hK] at h1
   exact HI.out.bj (World.putObj_heap_other (by omega)) (World.putObj_heap_other (by omega)) (λx X=>World.putObj_heap_other (hlo x X)) (grownBy_putObj' V _ _).size
  have H : OC w A:=NX hb13 hb4
  have hbV : Below w.heap.size A V:=Hm.out.below (λb hb=>by have:=H.size;omega) H.size
  refine ⟨_,results_tmp2 rfl _ _ _,some ⟨Z,0,none⟩,Y,?_,?_,?_⟩
  ·simp [hxl]
  ·refine ⟨Hlen.out,λ_=>rfl,by unfold maxLen;omega,λi hi=>?_⟩
   obtain ⟨y,hy⟩ : ∃y,xs[i]? = some y:=⟨xs[i],Km (by omega)⟩
   have z:=hIV.1.2
   have hc:=z.cellAt i (by omega)
   rw [Ly,hy] at hc
   refine ⟨y.a,n,y.c,?_,?_⟩
   ·have e : aL (some ⟨Z,0,none⟩ : OA)+i=i:=by simp [aL]
    rw [e];exact hc
   ·have h2:=(hIV.2 y (List.mem_of_getElem? hy)).1
    have e : ai R i=y.l:=by
     rw [<- Hx.out,aE (by rw [J5];omega),KF];rw [Km (by omega)] at hy;injection hy with hy
     rw [hy]
    rw [e];exact h2
  ·exact (H.trans hbV).trans (belowK_b (w:=A) H.size V A.heap.size _ _ (JO _) hK rfl rfl)
end
section
variable {O : aM} {El : Int->Prop} {m : Nat} {R : Ll} {P : LI}
theorem uR (F : bI O El) (hI : BS.Inv El m ⟨R,P⟩) {S : Ll} (hS : bs El m S) (Z : eA O El m R S) {v : LI} (Q : Vc El m v) : ∀k,k<=R.length->(RS O El m S (λx=>nth (redTo O R P v k) x) ↔ RS O El m S (λx=>nth v x))
 | 0,_=>Iff.rfl
 | k+1,N=>by
  have hu : Vc El m (redTo O R P v k):=Oj F hI.ok Q k (show k<=R.length by omega);have X : (nth P k).toNat<m:=hI.ok.pl (show k<R.length by omega);have V : Vc El m (ai R k):=hI.ok.row (show k<R.length by omega);refine Iff.trans ?_ (uR F hI hS Z Q k (by omega));constructor
  ·intro h;refine (Ox F hS h (Z k (by omega)) (hu.at X)).congr λx Y=>?_;have e1:=hu.at Y;have U:=F.cl.mul _ _ (hu.at X) (V.at Y);rw [redTo,e9 F hu V X Y,F.mul_comm _ _ (V.at Y) (hu.at X),F.add_assoc _ _ _ e1 (F.cl.neg _ U) U,F.j6 U,F.add_zero _ e1]
  ·intro h;refine (h.comb F (Z k (by omega)) (hu.at X)).congr λx Y=>?_;rw [redTo,e9 F hu V X Y,F.mul_comm _ _ (hu.at X) (V.at Y)]
theorem fH {A B : Ll} (h : ∀r ∈ A,RS O El m B (λx=>nth r x)) : eA O El m A B:=λi hi=>h _ (fp hi)
theorem nJ {A B : Ll} (h : eA O El m A B) {r : LI} (Z : r ∈ A) : RS O El m B (λx=>nth r x):=by obtain ⟨i,hi,rfl⟩:=ga Z;exact h i hi
theorem gD (F : bI O El) {A : Ll} {r : LI} (Z : r ∈ A) : RS O El m A (λx=>nth r x):=by obtain ⟨i,hi,rfl⟩:=ga Z;exact N8 F hi
theorem eA.tr {A B C : Ll} (h : eA O El m A B) (h2 : eA O El m B C) : eA O El m A C:=λi hi=>h2.rs (h i hi)
theorem wT (F : bI O El) {X Y : Ll} (V : bs El m X) (Z : bs El m Y) (h1 : eA O El m X Y) (h2 : eA O El m Y X) : bH O m X=bH O m Y:=by obtain ⟨U,Q⟩:=dG F V;obtain ⟨N,S⟩:=dG F Z;exact xD F (bQ F V) (bQ F Z) (bS F V).1 (bS F Z).1 (bS F V).2 (bS F Z).2 (bY F V) (bY F Z) ((U.tr h1).tr S) ((N.tr h2).tr Q)
theorem lp {A B : Ll} (X : bs El m A) (Z : bs El m B) : bs El m (A ++ B):=λr Y=>by
 rcases List.mem_append.1 Y with h | h
 ·exact X r h
 ·exact Z r h
def rT (O : aM) (R : Ll) (P : LI) (B : Ll) : Ll:=B.map λv=>redTo O R P v R.length
def Jv (O : aM) (m : Nat) (R : Ll) (P : LI) (B : Ll) : Ll:=bH O m (bH O m (rT O R P B) ++ R)
theorem xu (F : bI O El) (hI : BS.Inv El m ⟨R,P⟩) {B : Ll} (Z : bs El m B) : bs El m (rT O R P B):=λr X=>by obtain ⟨v,Y,rfl⟩:=List.mem_map.1 X;exact Oj F hI.ok (Z v Y) R.length (JO _)
theorem It (F : bI O El) (V : bs El m R) (L : j5 R P m) (hlen : R.length=P.length) {B : Ll} (Y : bs El m B) : Jv O m R P B=bH O m (R ++ B):=by
 have hI:=mW V L hlen;have N:=xu F hI Y;have K:=bQ F N;obtain ⟨c1,c2⟩:=dG F N;have U:=lp K V;have S:=lp V Y;refine wT F U S (fH λr X=>?_) (fH λr X=>?_)
 ·rcases List.mem_append.1 X with h | h
  ·refine eA.rs (fH λd hd=>?_) (nJ c1 h);obtain ⟨v,Q,rfl⟩:=List.mem_map.1 hd;exact (uR F hI S (fH λy Z=>gD F (List.mem_append.2 (.inl Z))) (Y v Q) R.length (JO _)).2 (gD F (List.mem_append.2 (.inr Q)))
  ·exact gD F (List.mem_append.2 (.inl h))
 ·rcases List.mem_append.1 X with h | h
  ·exact gD F (List.mem_append.2 (.inr h))
  ·refine (uR F hI U (fH λy Z=>gD F (List.mem_append.2 (.inr Z))) (Y r h) R.length (JO _)).1 ?_;refine eA.rs (fH λy Z=>gD F (List.mem_append.2 (.inl Z))) (nJ c2 (List.mem_map.2 ⟨r,h,rfl⟩))
theorem GY (F : bI O El) {A B : Ll} (V : bs El m A) (Y : bs El m B) : bH O m (A ++ bH O m B)=bH O m (A ++ B):=by
 obtain ⟨U,S⟩:=dG F Y;refine wT F (lp V (bQ F Y)) (lp V Y) (fH λr X=>?_) (fH λr X=>?_)
 ·rcases List.mem_append.1 X with h | h
  ·exact gD F (List.mem_append.2 (.inl h))
  ·exact eA.rs (fH λy Z=>gD F (List.mem_append.2 (.inr Z))) (nJ U h)
 ·rcases List.mem_append.1 X with h | h
  ·exact gD F (List.mem_append.2 (.inl h))
  ·exact eA.rs (fH λy Z=>gD F (List.mem_append.2 (.inr Z))) (nJ S h)
end
section
variable {P M : Int} {mod : LI}
theorem jL {m : Nat} {L : Ll} (Z : aJ P M mod m L=0) : L.length<=m:=by have h:=(eB (aN Z).2.2.2).2;rw [JQ] at h;rw [<- h,dF];exact (dX _ L m).1
theorem tn {Z : Nat} {V : Ll} (Y : bq P M mod=true) (N : bs (ah P M.toNat mod).El Z V) (h1 : 1<=Z) (L : Z<=64) (I : V.length<=256) : aJ P M mod Z (bH (ah P M.toNat mod).ops Z V)=0:=by
 have F:=dH Y;have S:=bQ F N;have X:=oN F N;have U : (bH (ah P M.toNat mod).ops Z V).length<=256:=by unfold bH;rw [Ki,bL];omega
 generalize bH (ah P M.toNat mod).ops Z V=D at *;have K : dy P M mod Z D=0:=jI Y (by omega) U S;have Q : du P M mod Z D=0:=by unfold du;rw [JT K,JQ,JT];exact X
 have hle : ij (Z : Int)=0:=qb (by omega) (by omega);unfold aJ;rw [JT Y,JT hle];exact Q
end
theorem Cl {w : World} {b : Nat} {G : cX} (m : Nat) (a : OA) (n c : Nat) (R : Ll) (ap : OA) (cp : Nat) (Pv : LI) (a2 : OA) (Z c2 : Nat) (D : Ll)
  (h : ee w b G) (hi : bu w a n R) (hp : Ints w ap n Pv) (hD : bu w a2 Z D) (S : BS.Ok G.El m ⟨R,Pv⟩) (F : bs G.El m D) (hn : n<=1000000) (hm : m<=1000000) (hn2 : Z<=1000000) :
  Calls prog 230 #[.agg #[.pointer (some ⟨b,0,none⟩),.int .i64 m,.slice a n c,.slice ap n cp],.agg #[.int .i64 m,.slice a2 Z c2]] w
   λe w'=>∃a3 c3,e = .returned (.agg #[.int .i64 m,.slice a3 Z c3])/\b8 w.heap.size w' a3 Z (rT G.ops R Pv D)/\OC w w':=by
 have hrl : R.length=n:=hi.len;have hdl : D.length=Z:=hD.len;obtain ⟨N,H⟩ : ∃N,rT G.ops R Pv D=N:=⟨_,rfl⟩
 rw [H];have HRl : Hid (N.length=Z):=by show _=_;rw [<- H,rT,J5];exact hdl
 have HRd : Hid (∀V k ra rc,k<Z->OC w V->Ints V ra m (ai D k)->Calls prog 242 #[.agg #[.pointer (some ⟨b,0,none⟩),.int .i64 m,.slice a n c,.slice ap n cp],.slice ra m rc] V
   λe w'=>∃a1 c1 v2,e = .returned (.tuple #[.slice a1 m c1,v2])/\w'.ownsRow V.heap.size 3 1 (.slice a1 m c1) m ((ai N k).map (Value.int .i64))/\OC V w'):=λV k ra rc hk hV hr=>by have h1:=py m a n c R ap cp Pv ra rc (ai D k) (h.af hV) (hi.af hV) (hp.af hV) hr S (F.row (by omega)) hn hm;rw [<- H,rT,mN _ D (by omega),hrl];exact h1
 have HDr : Hid (∀k,k<Z->(ai D k).length=m):=λk hk=>(F.row (i:=k) (by omega)).1;have HRn : Hid (∀k,k<Z->(ai N k).length=m):=λk hk=>by have h1:=(la (Oq h) S.rws (Q:=Pv) S.plc (F.row (i:=k) (by omega)) R.length (JO _)).1;rw [<- H,rT,mN _ D (by omega)];exact h1
 have HTk : Hid (∀k,k<Z->N.take (k+1)=N.take k ++ [ai N k]):=λk hk=>by
  have hk' : k<N.length:=by rw [HRl.out];exact hk
  rw [JW hk',<- aE hk']
 have hpl:=hD.pl;clear h hi hp S F H hrl hdl;go_enter func230,ntmps230;go_upto_region 1 with fail;obtain ⟨W,z⟩ : ∃W : World,W=((w.alloc (.cells #[.pointer (some ⟨b,0,none⟩),.int .i64 m,.slice a n c,.slice ap n cp] 210)).alloc (.cells #[.int .i64 m,.slice a2 Z c2] 94)).alloc (.cells #[.int .i64 0,.slice none 0 0] 94):=⟨_,rfl⟩
 rw [<- z];have A : OC w W:=by rw [z];exact j8 _ _ _ _
 have hsW : W.heap.size=w.heap.size+3:=by rw [z];simp
 have x0 : aO W w.heap.size [.pointer (some ⟨b,0,none⟩),.int .i64 m,.slice a n c,.slice ap n cp]:=by rw [z];exact ((NY _ _ _ rfl).alloc _).alloc _
 have x1 : aO W (w.heap.size+1) [.int .i64 m,.slice a2 Z c2]:=by rw [z];exact (NY _ _ _ (by simp)).alloc _
 have x2 : aO W (w.heap.size+1+1) [.int .i64 0,.slice none 0 0]:=by rw [z];exact NY _ _ _ (by simp)
 clear z;have HX:=Z5 (JZ x0 (JZ x1 x2));have HbW:=Z5 A;have HsW:=Z5 hsW;obtain ⟨g,hg⟩ : ∃g,W.heap.size=g:=⟨_,rfl⟩
 have HG:=Z5 hg;clear hg;have m0:=x1.cell 0 rfl;have m1:=x1.cell 1 rfl;go_cut [5] (λv wx=>v = .pointer (some ⟨W.heap.size,0,none⟩)/\lN wx W.heap.size (.int .i64 m) none 0 0 [] []/\OC W wx);case first =>
  clear x0 x1 x2 A hsW
  go_wp2_with fail
  go_meet
  exact ⟨rfl,lN.start (NY W [.int .i64 m,.slice none 0 0] _ rfl),an _ _⟩
 obtain ⟨rfl,hO0,r⟩:=hcut;generalize wc=U at *;have hs3:=HG.out;rw [hs3] at hO0 ⊢;have HbU:=Z5 r;have r1:=x1.af r;clear m0 m1 x0 x1 x2 A;have m0:=r1.cell 0 rfl;have m1:=r1.cell 1 rfl;have hgW : W.heap.size<=g:=by omega
 have HD:=Z5 hD;clear r1 r hs3 hD hsW;go_wp2_with fail;clear m0 m1;go_loopw [16] (λiv wr=>∃(j : Nat) (a1 : OA) (c1 : Nat) (Rr : LA),j<=Z/\iv = .int .i64 j/\lN wr g (.int .i64 m) a1 j c1 Rr (N.take j)/\Below g U wr) (λiv _=>Z - (intOf iv).toNat);case atStart=>exact ⟨0,none,0,[],JU _,rfl,by simpa using hO0,JP _ _⟩
 case round =>
  clear hO0
  obtain ⟨j,a1,c1,Rr,hj,rfl,B,hbr⟩:=hrel
  have L:=KE HbU.out (hbr.mono hgW)
  have I:=NX HbW.out L
  by_cases Y : j<Z
  ·obtain ⟨ra,rn,rc,hcell,X⟩:=(HD.out.af I).cell j Y
   have hrn : rn=m:=by rw [<- X.len];exact HDr.out j Y
   rw [hrn] at hcell X
   have Htk:=Z5 (HTk.out j Y)
   have HR1:=Z5 (HRd.out wr j ra rc Y I X)
   obtain ⟨pk,hpk⟩ : ∃pk,ai N j=pk:=⟨_,rfl⟩
   have Hpl : Hid (pk.length=m):=by show _=_;rw [<- hpk];exact HRn.out j Y
   rw [hpk] at HR1 Htk
   have xr:=HX.out.1.af L
   have v0:=xr.cell 0 rfl
   have v1:=xr.cell 1 rfl
   have v2:=xr.cell 2 rfl
   have v3:=xr.cell 3 rfl
   have hgr:=B.lt
   have HO:=Z5 B
   clear hrn hpk X xr B
   go_wp2_with fail
   refine HR1.out.mono ?_
   rintro e w3 ⟨a5,c5,vv,rfl,E,hb3⟩
   clear v0 v1 v2 v3
   have C:=HO.out.af hb3
   have S:=C.om.af (an w3 (.cells #[.slice a5 m c5] 22))
   have hcp:=C.c1
   have hgs:=C.lt
   go_wp2_with (at_builtin;refine aS rfl _ _ 25 22 rfl (.slice none 0 0) 24 underlying25 dO rfl (g+1) a1 j c1 _ rfl S.own ⟨w3.heap.size,0,none⟩ 1 (.slice a5 m c5) rfl (bf w3 _ _) rfl (by omega) (by unfold maxLen;omega) (by simp;omega) ?_;intro a6 c6 w6 hown6 K hap6;have hk6:=(C.uv K).2.1;have hf6:=(C.uv K).2.2)
   go_roundw
   case rel =>
    have hra : a5 ≠ none->¬ bX a1 Rr (ablk a5):=λh0 hI=>by have h1:=(ba E h0).1;have h2:=(HO.out.om.lt _ hI).2;omega
    obtain ⟨hP,hbP⟩:=C.push Hpl.out (bd E (by omega)) hra hown6 K hap6
    exact ⟨j+1,a6,c6,_,by omega,by go_num,by rw [Htk.out];exact hP,KE hbr ((hb3.mono (by omega)).trans hbP)⟩
   case measure=>simp [intOf] <;> omega
  ·obtain rfl : j=Z:=by omega
   rw [JX (by rw [HRl.out];exact JO _)] at B
   have g0:=B.c0
   have g1:=B.c1
   have z6:=HX.out.2.2.af L
   have z0:=z6.cell 0 rfl
   have z1:=z6.cell 1 rfl
   have f0:=z6.frozen 0
   have f1:=z6.frozen 1
   have C:=HsW.out
   have hg2:=HG.out
   have hMN : b8 (g+1) wr a1 j N:=Ot B.om
   have HF:=Z5 (JZ (((hMN.setCell (p:=⟨w.heap.size+1+1,0,none⟩) (by simp;omega) (.int .i64 m)).setCell (p:=⟨w.heap.size+1+1,1,none⟩) (by simp;omega) (.slice a1 j c1)).mono (show w.heap.size<=g+1 by omega))
    ((I.setCell (p:=⟨w.heap.size+1+1,0,none⟩) (by simp;omega) (.int .i64 m)).setCell (p:=⟨w.heap.size+1+1,1,none⟩) (by simp;omega) (.slice a1 j c1)))
   clear hMN z6 B C hg2
   go_wp2_with fail
   exact bodyPost_ret (v:=.agg #[.int .i64 m,.slice a1 j c1]) (by simp [results,results230,go_sem,z0,z1]) rfl ⟨a1,c1,rfl,HF.out.1,HF.out.2⟩
theorem iV {X Z : World} {t : TypeId} (hb : Below (X.alloc (.cells #[.int .i64 0,.slice none 0 0] t)).heap.size (X.alloc (.cells #[.int .i64 0,.slice none 0 0] t)) Z) : aO Z X.heap.size [.int .i64 0,.slice none 0 0] :=
 (NY X [.int .i64 0,.slice none 0 0] t rfl).af hb
theorem jK {X Z : World} {t : TypeId} (hb : Below (X.alloc (.cells #[.int .i64 0,.slice none 0 0] t)).drew.heap.size (X.alloc (.cells #[.int .i64 0,.slice none 0 0] t)).drew Z) : aO Z X.heap.size [.int .i64 0,.slice none 0 0] :=
 (NY X [.int .i64 0,.slice none 0 0] t rfl).af (NX (JP _ _).drew hb)
def nX (S : Ll) (m : Nat) (w : World) (e : Ending) (w' : World) : Prop :=
 ∃a3 Z,e = .returned (.tuple #[.agg #[.int .i64 m,.slice a3 S.length Z],.int .i64 0])/\b8 w.heap.size w' a3 S.length S/\OC w w'
theorem uL (P M : Int) (am : OA) (B cm : Nat) (mod : LI) (m : Nat) (a : OA) (n c : Nat) (L : Ll) (a' : OA) (Y c' : Nat) (L' : Ll) (w : World)
  (E : Ints w am B mod) (hi : bu w a n L) (j : bu w a' Y L') (hE : aJ P M mod m L=0) (hE' : aJ P M mod m L'=0) :
  Calls prog 181 #[.agg #[.int .i64 P,.int .i64 M,.slice am B cm],.agg #[.int .i64 m,.slice a n c],.agg #[.int .i64 m,.slice a' Y c']] w (nX (bH (ah P M.toNat mod).ops m (L ++ L')) m w):=by
 obtain ⟨N',e,hm1,hm64,F,hR⟩:=aY hE;obtain rfl : m=N':=by omega
 obtain ⟨N',e',_,_,_,hR'⟩:=aY hE';obtain rfl : m=N':=by omega
 have hfB:=(aN hE).1;have hsp:=(aN hE).2.2.2;have hsp':=(aN hE').2.2.2;have H:=(eB hsp).2;rw [JQ] at H;have hln : L.length=n:=hi.len;have hln' : L'.length=Y:=j.len;have hn64 : n<=64:=by have:=jL hE;omega
 have hn64' : Y<=64:=by have:=jL hE';omega
 have hpl : (bh (ah P M.toNat mod) L m).length=n:=by rw [<- dF,H];exact hln
 have hPv : j5 L (bh (ah P M.toNat mod) L m) m:=by have h:=(bS F hR).1;rw [show bH (ah P M.toNat mod).ops m L=L from H] at h;exact h
 have hI:=mW hR hPv (by rw [hpl];exact hln);have hDr:=xu F hI hR';have hS : bH (ah P M.toNat mod).ops m (L ++ L')=bH (ah P M.toNat mod).ops m (bH (ah P M.toNat mod).ops m (rT (ah P M.toNat mod).ops L (bh (ah P M.toNat mod) L m) L') ++ L) :=
  (It F hR hPv (by rw [hpl];exact hln) hR').symm
 rw [hS];have HPair : Hid (∀V,OC w V->Calls prog 229 #[.agg #[.int .i64 P,.int .i64 M,.slice am B cm],.agg #[.int .i64 m,.slice a n c],.agg #[.int .i64 m,.slice a' Y c']] V λe w'=>∃b ap cp b2 m2 a2 n2 c2 ap2 k2 cp2,
   e = .returned (.tuple #[.agg #[.pointer (some ⟨b,0,none⟩),.int .i64 m,.slice a n c,.slice ap n cp],.agg #[.pointer (some ⟨b2,0,none⟩),.int .i64 m2,.slice a2 n2 c2,.slice ap2 k2 cp2],.int .i64 0])/\ee w' b (ah P M.toNat mod)/\Ints w' ap n (bh (ah P M.toNat mod) L m)/\OC V w'):=λV Z=>by refine (Fi P M am B cm mod m a n c L a' Y c' L' V (E.af Z) (hi.af Z) (j.af Z) hsp hsp').mono ?_;rintro e w' ⟨b,ap,cp,v2,rfl,⟨b2,m2,a2,n2,c2,ap2,k2,cp2,rfl⟩,h1,h2,h3⟩;rw [hpl] at h2 ⊢;exact ⟨b,ap,cp,b2,m2,a2,n2,c2,ap2,k2,cp2,rfl,h1,h2,h3⟩
 have HRe : Hid (∀V b ap cp,OC w V->ee V b (ah P M.toNat mod)->Ints V ap n (bh (ah P M.toNat mod) L m)->Calls prog 230 #[.agg #[.pointer (some ⟨b,0,none⟩),.int .i64 m,.slice a n c,.slice ap n cp],.agg #[.int .i64 m,.slice a' Y c']] V
   λe w'=>∃a3 c3,e = .returned (.agg #[.int .i64 m,.slice a3 Y c3])/\b8 V.heap.size w' a3 Y (rT (ah P M.toNat mod).ops L (bh (ah P M.toNat mod) L m) L')/\OC V w'):=λV b ap cp Z hG hp =>
  Cl m a n c L ap cp _ a' Y c' L' hG (hi.af Z) hp (j.af Z) hI.ok hR' (by omega) (by omega) (by omega)
 obtain ⟨D,hD⟩ : ∃D,rT (ah P M.toNat mod).ops L (bh (ah P M.toNat mod) L m) L'=D:=⟨_,rfl⟩
 rw [hD] at HRe hDr ⊢;have hDl : D.length=Y:=by rw [<- hD,rT,J5];exact hln'
 have hfD : dy P M mod m D=0:=jI hfB (by omega) (by omega) hDr;have HC1 : Hid (∀V a3 c3,OC w V->bu V a3 Y D->Calls prog 118 #[.agg #[.int .i64 P,.int .i64 M,.slice am B cm],.agg #[.int .i64 m,.slice a3 Y c3]] V λe w'=>∃a5 ap cp,
   e = .returned (.tuple #[.agg #[.int .i64 m,.slice a5 (bh (ah P M.toNat mod) D m).length (bh (ah P M.toNat mod) D m).length],.slice ap (bh (ah P M.toNat mod) D m).length cp,.int .i64 0])/\b8 V.heap.size w' a5 (bh (ah P M.toNat mod) D m).length (bH (ah P M.toNat mod).ops m D)/\OC V w'):=λV a3 c3 Z hM=>by
  refine (iU P M am B cm mod m a3 Y c3 D V (E.af Z) hM).mono ?_;rintro e w' ⟨hb,⟨h1,_⟩ | ⟨_,m',hm',a5,ap,cp,rfl,hN,_⟩⟩
  ·exact absurd hfD h1
  ·obtain rfl : m=m':=by omega
   exact ⟨a5,ap,cp,rfl,hN,hb⟩
 have hk64 : (bh (ah P M.toNat mod) D m).length<=64:=by have:=(dX (ah P M.toNat mod).ops D m).1;show (aC (ah P M.toNat mod).ops D m).2.length<=64;omega
 have hCl : (bH (ah P M.toNat mod).ops m D).length=(bh (ah P M.toNat mod) D m).length:=dF _ _ _;have hCr:=bQ F hDr;obtain ⟨k,hk⟩ : ∃k,(bh (ah P M.toNat mod) D m).length=k:=⟨_,rfl⟩
 obtain ⟨C,hC⟩ : ∃C,bH (ah P M.toNat mod).ops m D=C:=⟨_,rfl⟩
 rw [hk,hC] at HC1 hCl;rw [hk] at hk64;rw [hC] at hCr ⊢;have hfX : dy P M mod m (C ++ L)=0:=jI hfB (by omega) (by rw [J0];omega) (lp hCr hR);have HC2 : Hid (∀V a6 c6,OC w V->bu V a6 (k+n) (C ++ L)->Calls prog 118 #[.agg #[.int .i64 P,.int .i64 M,.slice am B cm],.agg #[.int .i64 m,.slice a6 (k+n : Nat) c6]] V λe w'=>∃a7 c7 ap q cp,
   e = .returned (.tuple #[.agg #[.int .i64 m,.slice a7 (bH (ah P M.toNat mod).ops m (C ++ L)).length c7],.slice ap q cp,.int .i64 0])/\b8 V.heap.size w' a7 (bH (ah P M.toNat mod).ops m (C ++ L)).length (bH (ah P M.toNat mod).ops m (C ++ L))/\OC V w'):=λV a6 c6 Z hM=>by
  refine (iU P M am B cm mod m a6 (k+n) c6 (C ++ L) V (E.af Z) hM).mono ?_;rintro e w' ⟨hb,⟨h1,_⟩ | ⟨_,m',hm',a5,ap,cp,rfl,hN,_⟩⟩
  ·exact absurd hfX h1
  ·obtain rfl : m=m':=by omega
   rw [<- dF] at hN ⊢;exact ⟨a5,_,ap,_,cp,rfl,hN,hb⟩
 have HI:=Z5 (JZ hi j);obtain ⟨S,hS2⟩ : ∃S,bH (ah P M.toNat mod).ops m (C ++ L)=S:=⟨_,rfl⟩
 rw [hS2] at HC2 ⊢;have z : Hid (∀a3 c3 V,b8 w.heap.size V a3 S.length S->OC w V->nX S m w (.returned (.tuple #[.agg #[.int .i64 m,.slice a3 S.length c3],.int .i64 0])) V):=λa3 c3 V h1 h2=>⟨a3,c3,rfl,h1,h2⟩
 generalize nX S m w=Post at *;obtain ⟨q,hq⟩ : ∃q,S.length=q:=⟨_,rfl⟩
 rw [hq] at HC2 z;generalize ah P M.toNat mod=G at *;generalize bh G L m=Pv at *;clear E hi j hE hE' hfB hsp hsp' H hpl hPv hI hDr hS hD hDl hfD hk hC hCl hCr hfX hS2 hq hR hR' F e e' hln hln';go_enter func181,ntmps181;go_upto_region 1 with fail;obtain ⟨W,hW⟩ : ∃W : World,W=(((w.alloc (.cells #[.int .i64 P,.int .i64 M,.slice am B cm] 24)).alloc (.cells #[.int .i64 m,.slice a n c] 94)).alloc (.cells #[.int .i64 m,.slice a' Y c'] 94)).alloc (.cells #[.int .i64 0,.slice none 0 0] 94):=⟨_,rfl⟩
 rw [<- hW];have hbW : OC w W:=by rw [hW];exact NX (j8 _ _ _ _) (an _ _)
 have hsW : W.heap.size=w.heap.size+4:=by rw [hW];simp
 have x0 : aO W w.heap.size [.int .i64 P,.int .i64 M,.slice am B cm]:=by rw [hW];exact (((NY _ _ _ rfl).alloc _).alloc _).alloc _
 have x1 : aO W (w.heap.size+1) [.int .i64 m,.slice a n c]:=by rw [hW];exact ((NY _ _ _ (by simp)).alloc _).alloc _
 have x2 : aO W (w.heap.size+1+1) [.int .i64 m,.slice a' Y c']:=by rw [hW];exact (NY _ _ _ (by simp)).alloc _
 have x3 : aO W (w.heap.size+1+1+1) [.int .i64 0,.slice none 0 0]:=by rw [hW];exact NY _ _ _ (by simp)
 clear hW;have HX : Hid (∀V,OC W V->V.cell? ⟨w.heap.size,0,none⟩=some (.int .i64 P)/\V.cell? ⟨w.heap.size,1,none⟩=some (.int .i64 M)/\V.cell? ⟨w.heap.size,2,none⟩=some (.slice am B cm)/\V.cell? ⟨w.heap.size+1,0,none⟩=some (.int .i64 m)/\V.cell? ⟨w.heap.size+1,1,none⟩=some (.slice a n c)/\V.cell? ⟨w.heap.size+1+1,0,none⟩=some (.int .i64 m)/\V.cell? ⟨w.heap.size+1+1,1,none⟩=some (.slice a' Y c')):=λV Z=>by have a0:=x0.af Z;have a1:=x1.af Z;have a2:=x2.af Z;exact ⟨a0.cell 0 rfl,a0.cell 1 rfl,a0.cell 2 rfl,a1.cell 0 rfl,a1.cell 1 rfl,a2.cell 0 rfl,a2.cell 1 rfl⟩
 have HX3:=Z5 x3;have HbW:=Z5 hbW;have HsW:=Z5 hsW;clear x0 x1 x2 x3 hbW hsW;go_cut [8,10] (λv8 v10 wx=>v10 = .int .i64 0/\∃g b ap cp,v8 = .pointer (some ⟨g,0,none⟩)/\Hid (aO wx g [.pointer (some ⟨b,0,none⟩),.int .i64 m,.slice a n c,.slice ap n cp])/\Hid (ee wx b G)/\Hid (Ints wx ap n Pv)/\OC W wx);case first =>
  obtain ⟨c0,c1,c2,d0,d1,e0,e1⟩:=HX.out W (JP _ _)
  go_wp2_with fail
  refine (HPair.out W HbW.out).mono ?_
  rintro e w1 ⟨b,ap,cp,b9,m9,a9,n9,d9,ap9,k9,cp9,rfl,hG,hP,K⟩
  have HG:=Z5 (JZ hG hP)
  clear c0 c1 c2 d0 d1 e0 e1 hG hP
  go_wp2_with fail
  go_meet
  have hbn:=bT w1 (.cells #[.pointer (some ⟨b,0,none⟩),.int .i64 m,.slice a n c,.slice ap n cp] 210) (.cells #[.pointer (some ⟨b9,0,none⟩),.int .i64 m9,.slice a9 n9 d9,.slice ap9 k9 cp9] 210)
  exact ⟨rfl,w1.heap.size,b,ap,cp,rfl,(NY w1 [.pointer (some ⟨b,0,none⟩),.int .i64 m,.slice a n c,.slice ap n cp] _ rfl).alloc _,HG.out.1.af hbn,HG.out.2.af hbn,NX K hbn⟩
 obtain ⟨rfl,g,b,ap,cp,rfl,HV,HG,HP,K⟩:=hcut;generalize wc=U at *;have A:=NX HbW.out K;have HS5 : Hid (∀V,OC U V->V.cell? ⟨w.heap.size,0,none⟩=some (.int .i64 P)/\V.cell? ⟨w.heap.size,1,none⟩=some (.int .i64 M)/\V.cell? ⟨w.heap.size,2,none⟩=some (.slice am B cm)/\V.cell? ⟨w.heap.size+1+1,0,none⟩=some (.int .i64 m)/\V.cell? ⟨w.heap.size+1+1,1,none⟩=some (.slice a' Y c') /\
   V.cell? ⟨g,0,none⟩=some (.pointer (some ⟨b,0,none⟩))/\V.cell? ⟨g,1,none⟩=some (.int .i64 m)/\V.cell? ⟨g,2,none⟩=some (.slice a n c)/\V.cell? ⟨g,3,none⟩=some (.slice ap n cp)/\OC U V):=λV Z=>by obtain ⟨q0,q1,q2,_,_,q5,q6⟩:=HX.out V (NX K Z);have y:=HV.out.af Z;exact ⟨q0,q1,q2,q5,q6,y.cell 0 rfl,y.cell 1 rfl,y.cell 2 rfl,y.cell 3 rfl,Z⟩
 have HR1:=Z5 (λV (Z : OC U V)=>HRe.out V b ap cp (NX A Z) (HG.out.af Z) (HP.out.af Z));have HK1:=Z5 (λV a3 c3 (Z : OC U V) h=>HC1.out V a3 c3 (NX A Z) h);obtain ⟨c0,c1,c2,e0,e1,g0,g1,g2,g3,_⟩:=HS5.out U (JP _ _);go_upto_region 4 with fail;go_cut [11,10] (λv11 v10 wx=>v10 = .int .i64 0/\∃h a5,v11 = .pointer (some ⟨h,0,none⟩)/\Hid (aO wx h [.int .i64 m,.slice a5 k k])/\Hid (U.heap.size<=h)/\Hid (gk (λb=>b=h) wx a5 k C)/\OC U wx);case first =>
  go_region_held3 (λV=>V.cell? ⟨w.heap.size,0,none⟩=some (.int .i64 P)/\V.cell? ⟨w.heap.size,1,none⟩=some (.int .i64 M)/\V.cell? ⟨w.heap.size,2,none⟩=some (.slice am B cm)/\V.cell? ⟨w.heap.size+1+1,0,none⟩=some (.int .i64 m)/\V.cell? ⟨w.heap.size+1+1,1,none⟩=some (.slice a' Y c') /\
   V.cell? ⟨g,0,none⟩=some (.pointer (some ⟨b,0,none⟩))/\V.cell? ⟨g,1,none⟩=some (.int .i64 m)/\V.cell? ⟨g,2,none⟩=some (.slice a n c)/\V.cell? ⟨g,3,none⟩=some (.slice ap n cp)/\OC U V)
   ((refine HS5.out _ ?_;first | exact (JP _ _).drew | assumption | (go_split_ands;first | assumption | exact NX (by assumption) (an _ _) | exact (NX (by assumption) (an _ _)).drew | exact NX (by assumption) (by assumption) | exact Mn (Mn (by assumption) (by first | exact hB2.size | exact hB3.size | simp) _) (by first | exact hB2.size | exact hB3.size | simp) _)))
   (first
    | (go_at_call 230;((with_reducible refine (HR1.out _ (by go_split_ands;assumption)).mono ?_);rintro e w2 ⟨a3,k3,rfl,hM3,hb2⟩;have hB2 : OC U w2:=(by go_split_ands;exact NX (by assumption) hb2);have HM3:=Z5 hM3.je;clear hM3;(first | (have HB2:=Z5 (jK hb2)) | (have HB2:=Z5 (iV hb2)) | skip)))
    | (go_at_call 118;((with_reducible refine (HK1.out _ a3 k3 (by go_split_ands;assumption) (by first | exact HM3.out | exact HM3.out.af (an _ _) | exact HM3.out.af (an _ _).drew | exact HM3.out.af (JP _ _).drew)).mono ?_);rintro e w3 ⟨a5,ap5,cp5,rfl,hM5,hb3⟩;have hB3 : OC U w3:=(by go_split_ands;exact NX (by assumption) hb3);have HM5:=Z5 hM5;clear hM5;(first | (have N:=Z5 (jK hb3)) | (have N:=Z5 (iV hb3)) | (have N:=Z5 (HB2.out.af hb3)) | skip);(first | (have z0:=N.out.cell 0 rfl;have z1:=N.out.cell 1 rfl;have f0:=N.out.frozen 0;have f1:=N.out.frozen 1) | skip))))
  all_goals (
   go_wp2_with fail
   go_meet
   first
    | exact ⟨rfl,_,a5,rfl,NY w3 [.int .i64 m,.slice a5 k k] _ rfl,hB3.size,(gk.Du HM5.out.je (λb hb=>by rw [show b=w3.heap.size from hb];exact JO _)).af (an _ _),by go_split_ands;assumption⟩
    | exact ⟨rfl,_,a5,rfl,(N.out.setCell 0 (.int .i64 m)).setCell 1 (.slice a5 k k),(by first | exact hB2.size | exact JO _),HM5.out.Jw (by first | exact HB2.out.1 | simp) _ _,by go_split_ands;assumption⟩)
 obtain ⟨rfl,h,a5,rfl,Q,HUh,HMA,hbV⟩:=hcut;generalize wc=V at *;have hF2:=NX A hbV;clear c0 c1 c2 e0 e1 g0 g1 g2 g3;have HXV : Hid (∀X,OC U X->X.cell? ⟨w.heap.size,0,none⟩=some (.int .i64 P)/\X.cell? ⟨w.heap.size,1,none⟩=some (.int .i64 M)/\X.cell? ⟨w.heap.size,2,none⟩=some (.slice am B cm)/\X.cell? ⟨w.heap.size+1,1,none⟩=some (.slice a n c)):=λX hX=>by obtain ⟨q0,q1,q2,_,q4,_⟩:=HX.out X (NX K hX);exact ⟨q0,q1,q2,q4⟩
 obtain ⟨c0,c1,c2,e1⟩:=HXV.out V hbV;have h0:=Q.out.cell 0 rfl;have h1:=Q.out.cell 1 rfl;have hwU:=A.size;have hLA : gk (λb=>b=h) V a n L:=(gk.Du HI.out.1 (λb hb=>by rw [show b=h from hb];exact J4 hwU HUh.out)).af hF2;have HLA:=Z5 hLA;have hhV:=Q.out.1;have HhV:=Z5 hhV;clear hLA hhV hwU;go_wp2_with (at_builtin;refine sG rfl _ _ 25 22 rfl 24 underlying25 dO (λb=>b=h) (λb hb=>by rw [show b=h from hb];exact HhV.out) a5 k C rfl HMA.out a n c L rfl HLA.out (by omega) (by unfold maxLen;omega) ?_;intro a6 c6 w6 hM6 r;have k1:=(Q.out.af r).cell 1 rfl;have k0:=(Q.out.af r).cell 0 rfl;have f1:=(Q.out.af r).frozen 1;have hbU6:=NX hbV r;have hM7:=(hM6.dQ (aD.qI (I:=λb=>b=h) (p:=⟨h,1,none⟩) w6 rfl (.slice a6 (k+n) c6))).je;have hb7 : OC U (w6.setCell ⟨h,1,none⟩ (.slice a6 (k+n) c6)):=hbU6.setCell (p:=⟨h,1,none⟩) HUh.out _;have hC7:=HC2.out _ a6 c6 (NX A hb7) hM7;obtain ⟨r0,r1,r2,_⟩:=HXV.out _ hb7;have y7:=(Q.out.af r).setCell 1 (.slice a6 (k+n) c6);have s0:=y7.cell 0 rfl;have s1:=y7.cell 1 rfl);refine hC7.mono ?_;rintro e w8 ⟨a7,c7,ap7,q7,cp7,rfl,hN7,hb8⟩;have hbU8:=NX hb7 hb8;have hF8:=NX A hbU8;have x3:=HX3.out.af (NX K hbU8);have z0:=x3.cell 0 rfl;have z1:=x3.cell 1 rfl;have g0:=x3.frozen 0;have g1:=x3.frozen 1;have hs:=HsW.out;have hs1:=K.size;have hs2:=hb7.size;rw [Ns] at hs2;have hz : w.heap.size+1+1+1<w8.heap.size:=x3.1;have HFin : Hid (b8 w.heap.size (((w8.setCell ⟨w.heap.size+1+1+1,0,none⟩ (.int .i64 m)).setCell ⟨w.heap.size+1+1+1,1,none⟩ (.slice a7 q c7)).alloc (.cells #[.int .i64 m,.slice a7 q c7] 94)) a7 q S /\
   OC w (((w8.setCell ⟨w.heap.size+1+1+1,0,none⟩ (.int .i64 m)).setCell ⟨w.heap.size+1+1+1,1,none⟩ (.slice a7 q c7)).alloc (.cells #[.int .i64 m,.slice a7 q c7] 94))) :=
  ⟨(((hN7.setCell (p:=⟨w.heap.size+1+1+1,0,none⟩) (by simp;omega) _).setCell (p:=⟨w.heap.size+1+1+1,1,none⟩) (by simp;omega) _).af (an _ _)).mono (by simp;omega),
   NX ((hF8.setCell (p:=⟨w.heap.size+1+1+1,0,none⟩) (by simp;omega) _).setCell (p:=⟨w.heap.size+1+1+1,1,none⟩) (by simp;omega) _) (an _ _)⟩
 clear r0 r1 r2 s0 s1 k0 k1 f1 hN7 hM6 hM7 y7 x3 c0 c1 c2 e1 h0 h1;go_wp2_with fail;exact bodyPost_ret (v:=.tuple #[.agg #[.int .i64 m,.slice a7 q c7],.int .i64 0]) (by simp [results,results181,go_sem,z0,z1,hz]) rfl (z.out a7 c7 _ HFin.out.1 HFin.out.2)
def rP (P M : Int) (mod : LI) (m : Nat) (S : Ll) (w : World) (e : Ending) (w' : World) : Prop :=
 ∃a1 c1 a2 c2,e = .returned (.tuple #[.agg #[.int .i64 P,.int .i64 M,.slice a1 mod.length c1,.int .i64 m,.slice a2 S.length c2],.int .i64 0])/\bJ w.heap.size w' a1 mod.length mod /\
  b8 w.heap.size w' a2 S.length S/\OC w w'
theorem yy (P M : Int) (am : OA) (G cm : Nat) (mod : LI) (m : Nat) (a : OA) (n c : Nat) (L : Ll) (X : OA) (Y Q : Nat) (a' : OA) (A c' : Nat) (L' : Ll) (w : World)
  (F : Ints w am G mod) (hi : bu w a n L) (j : Ints w X Y mod) (hi' : bu w a' A L') (hE : aJ P M mod m L=0) (hE' : aJ P M mod m L'=0) (hmn : G<=1000000) :
  Calls prog 126 #[.agg #[.int .i64 P,.int .i64 M,.slice am G cm,.int .i64 m,.slice a n c],.agg #[.int .i64 P,.int .i64 M,.slice X Y Q,.int .i64 m,.slice a' A c']] w (rP P M mod m (bH (ah P M.toNat mod).ops m (L ++ L')) w):=by
 have HTw : Hid (∀V,OC w V->Calls prog 180 #[.agg #[.int .i64 P,.int .i64 M,.slice am G cm,.int .i64 m,.slice a n c],.agg #[.int .i64 P,.int .i64 M,.slice X Y Q,.int .i64 m,.slice a' A c']] V λe w'=>e = .returned (.int .i64 0)/\OC V w'):=λV N =>
  GW P M am G cm mod m a n c L X Y Q a' A c' L' V (F.af N) (hi.af N) (j.af N) (hi'.af N) hE hE'
 have z : Hid (∀V,OC w V->Calls prog 181 #[.agg #[.int .i64 P,.int .i64 M,.slice am G cm],.agg #[.int .i64 m,.slice a n c],.agg #[.int .i64 m,.slice a' A c']] V (nX (bH (ah P M.toNat mod).ops m (L ++ L')) m V)):=λV N =>
  uL P M am G cm mod m a n c L a' A c' L' V (F.af N) (hi.af N) (hi'.af N) hE hE'
 have HOf : Hid (∀V a5 K c5,OC w V->Calls prog 120 #[.agg #[.int .i64 P,.int .i64 M,.slice am G cm],.agg #[.int .i64 m,.slice a5 K c5],.int .i64 0] V (ot P M mod m a5 K c5 V)):=λV a5 K c5 N =>
  Ac P M am G cm mod m a5 K c5 V (F.af N) hmn
 obtain ⟨S,hS⟩ : ∃S,bH (ah P M.toNat mod).ops m (L ++ L')=S:=⟨_,rfl⟩
 rw [hS] at z ⊢;have H : Hid (∀a1 c1 a2 c2 w',bJ w.heap.size w' a1 mod.length mod->b8 w.heap.size w' a2 S.length S->OC w w' ->
   rP P M mod m S w (.returned (.tuple #[.agg #[.int .i64 P,.int .i64 M,.slice a1 mod.length c1,.int .i64 m,.slice a2 S.length c2],.int .i64 0])) w'):=λa1 c1 a2 c2 w' h1 h2 h3=>⟨a1,c1,a2,c2,rfl,h1,h2,h3⟩
 generalize rP P M mod m S w=Post at *;unfold nX at z;unfold ot at HOf;obtain ⟨q,hq⟩ : ∃q,S.length=q:=⟨_,rfl⟩
 obtain ⟨nm,hnm⟩ : ∃nm,mod.length=nm:=⟨_,rfl⟩
 rw [hq] at z H;rw [hnm] at HOf H;clear F hi j hi' hE hE' hS hq hnm;go_enter func126,ntmps126;go_upto_region 1 with fail;obtain ⟨W,hW⟩ : ∃W : World,W=((w.alloc (.cells #[.int .i64 P,.int .i64 M,.slice am G cm,.int .i64 m,.slice a n c] 27)).alloc (.cells #[.int .i64 P,.int .i64 M,.slice X Y Q,.int .i64 m,.slice a' A c'] 27)).alloc (.cells #[.int .i64 0,.int .i64 0,.slice none 0 0,.int .i64 0,.slice none 0 0] 27):=⟨_,rfl⟩
 rw [<- hW];have hbW : OC w W:=by rw [hW];exact j8 _ _ _ _
 have hsW : W.heap.size=w.heap.size+3:=by rw [hW];simp
 have x0 : aO W w.heap.size [.int .i64 P,.int .i64 M,.slice am G cm,.int .i64 m,.slice a n c]:=by rw [hW];exact ((NY _ _ _ rfl).alloc _).alloc _
 have y0 : aO W (w.heap.size+1) [.int .i64 P,.int .i64 M,.slice X Y Q,.int .i64 m,.slice a' A c']:=by rw [hW];exact (NY _ _ _ (by simp)).alloc _
 have z0 : aO W (w.heap.size+1+1) [.int .i64 0,.int .i64 0,.slice none 0 0,.int .i64 0,.slice none 0 0]:=by rw [hW];exact NY _ _ _ (by simp)
 clear hW;have HX : Hid (∀V,OC W V->V.cell? ⟨w.heap.size,0,none⟩=some (.int .i64 P)/\V.cell? ⟨w.heap.size,1,none⟩=some (.int .i64 M)/\V.cell? ⟨w.heap.size,2,none⟩=some (.slice am G cm)/\V.cell? ⟨w.heap.size,3,none⟩=some (.int .i64 m)/\V.cell? ⟨w.heap.size,4,none⟩=some (.slice a n c) /\
   V.cell? ⟨w.heap.size+1,0,none⟩=some (.int .i64 P)/\V.cell? ⟨w.heap.size+1,1,none⟩=some (.int .i64 M)/\V.cell? ⟨w.heap.size+1,2,none⟩=some (.slice X Y Q)/\V.cell? ⟨w.heap.size+1,3,none⟩=some (.int .i64 m)/\V.cell? ⟨w.heap.size+1,4,none⟩=some (.slice a' A c')):=λV N=>by have x1:=x0.af N;have y1:=y0.af N;exact ⟨x1.cell 0 rfl,x1.cell 1 rfl,x1.cell 2 rfl,x1.cell 3 rfl,x1.cell 4 rfl,y1.cell 0 rfl,y1.cell 1 rfl,y1.cell 2 rfl,y1.cell 3 rfl,y1.cell 4 rfl⟩
 have HZ:=Z5 z0;have HbW:=Z5 hbW;have HsW:=Z5 hsW;clear x0 y0 z0 hbW hsW;obtain ⟨c0,c1,c2,c3,c4,d0,d1,d2,d3,d4⟩:=HX.out W (JP _ _);go_wp2_with fail;refine (HTw.out W HbW.out).mono ?_;rintro e U ⟨rfl,hb1⟩;have hF1:=NX HbW.out hb1;clear c0 c1 c2 c3 c4 d0 d1 d2 d3 d4;have HS5 : Hid (∀V,OC U V->V.cell? ⟨w.heap.size,0,none⟩=some (.int .i64 P)/\V.cell? ⟨w.heap.size,1,none⟩=some (.int .i64 M)/\V.cell? ⟨w.heap.size,2,none⟩=some (.slice am G cm)/\V.cell? ⟨w.heap.size,3,none⟩=some (.int .i64 m)/\V.cell? ⟨w.heap.size,4,none⟩=some (.slice a n c) /\
   V.cell? ⟨w.heap.size+1,0,none⟩=some (.int .i64 P)/\V.cell? ⟨w.heap.size+1,1,none⟩=some (.int .i64 M)/\V.cell? ⟨w.heap.size+1,2,none⟩=some (.slice X Y Q)/\V.cell? ⟨w.heap.size+1,3,none⟩=some (.int .i64 m)/\V.cell? ⟨w.heap.size+1,4,none⟩=some (.slice a' A c')/\OC U V):=λV N=>by obtain ⟨q0,q1,q2,q3,q4,r0,r1,r2,r3,r4⟩:=HX.out V (NX hb1 N);exact ⟨q0,q1,q2,q3,q4,r0,r1,r2,r3,r4,N⟩
 have HS1:=Z5 (λV (N : OC U V)=>z.out V (NX hF1 N));have HwU : Hid (w.heap.size<=U.heap.size):=hF1.size;obtain ⟨c0,c1,c2,c3,c4,d0,d1,d2,d3,d4,_⟩:=HS5.out U (JP _ _);go_upto_region 4 with fail;go_cut [7,8] (λv7 v8 wx=>v8 = .int .i64 0/\∃g a5 K,v7 = .pointer (some ⟨g,0,none⟩)/\Hid (aO wx g [.int .i64 m,.slice a5 q K])/\Hid (b8 U.heap.size wx a5 q S)/\OC U wx);case first =>
  go_region_held3 (λV=>V.cell? ⟨w.heap.size,0,none⟩=some (.int .i64 P)/\V.cell? ⟨w.heap.size,1,none⟩=some (.int .i64 M)/\V.cell? ⟨w.heap.size,2,none⟩=some (.slice am G cm)/\V.cell? ⟨w.heap.size,3,none⟩=some (.int .i64 m)/\V.cell? ⟨w.heap.size,4,none⟩=some (.slice a n c) /\
   V.cell? ⟨w.heap.size+1,0,none⟩=some (.int .i64 P)/\V.cell? ⟨w.heap.size+1,1,none⟩=some (.int .i64 M)/\V.cell? ⟨w.heap.size+1,2,none⟩=some (.slice X Y Q)/\V.cell? ⟨w.heap.size+1,3,none⟩=some (.int .i64 m)/\V.cell? ⟨w.heap.size+1,4,none⟩=some (.slice a' A c')/\OC U V)
   ((refine HS5.out _ ?_;first | exact (JP _ _).drew | assumption | (go_split_ands;first | assumption | exact NX (by assumption) (an _ _) | exact (NX (by assumption) (an _ _)).drew | exact NX (by assumption) (by assumption) | exact Mn (Mn (by assumption) (by first | exact hB5.size | exact B.size | exact D.size | simp) _) (by first | exact hB5.size | exact B.size | exact D.size | simp) _)))
   (first
    | (go_at_call 91;((with_reducible refine (mL P M am G cm m a n c _).mono ?_);rintro e w2 ⟨rfl,hb2⟩;have D : OC U w2:=(by go_split_ands;exact NX (by assumption) hb2);(first | (have C:=Z5 (jK hb2)) | (have C:=Z5 (iV hb2)) | (have C:=Z5 (E.out.af hb2)) | skip)))
    | (go_at_call 91;((with_reducible refine (mL P M X Y Q m a' A c' _).mono ?_);rintro e w3 ⟨rfl,hb3⟩;have B : OC U w3:=(by go_split_ands;exact NX (by assumption) hb3);(first | (have E:=Z5 (jK hb3)) | (have E:=Z5 (iV hb3)) | (have E:=Z5 (C.out.af hb3)) | skip)))
    | (go_at_call 181;((with_reducible refine (HS1.out _ (by go_split_ands;assumption)).mono ?_);rintro e w5 ⟨a5,K,rfl,hM5,r⟩;have hB5 : OC U w5:=(by go_split_ands;exact NX (by assumption) r);have HM5:=Z5 hM5;clear hM5;(first | (have I:=Z5 (jK r)) | (have I:=Z5 (iV r)) | (have I:=Z5 (E.out.af r)) | (have I:=Z5 (C.out.af r)) | skip);(first | (have z0:=I.out.cell 0 rfl;have z1:=I.out.cell 1 rfl;have f0:=I.out.frozen 0;have f1:=I.out.frozen 1) | skip))))
  all_goals (
   go_wp2_with fail
   go_meet
   first
    | exact ⟨rfl,_,a5,K,rfl,NY w5 [.int .i64 m,.slice a5 q K] _ rfl,(HM5.out.af (an _ _)).mono ((by first | exact B.size | exact D.size | exact (NX B (an _ _)).size | exact (NX D (an _ _)).size)),by go_split_ands;assumption⟩
    | exact ⟨rfl,_,a5,K,rfl,(I.out.setCell 0 (.int .i64 m)).setCell 1 (.slice a5 q K),((HM5.out.setCell (by first | exact E.out.1 | exact C.out.1 | simp) _).setCell (by first | exact E.out.1 | exact C.out.1 | simp) _).mono ((by first | exact B.size | exact D.size | exact (NX B (an _ _)).size | exact (NX D (an _ _)).size)),by go_split_ands;assumption⟩)
 obtain ⟨rfl,g,a5,K,rfl,HB,HM,hbV⟩:=hcut;generalize wc=V at *;have hF2:=NX hF1 hbV;clear c0 c1 c2 c3 c4 d0 d1 d2 d3 d4;obtain ⟨c0,c1,c2,_⟩:=HX.out V (NX hb1 hbV);have g0:=HB.out.cell 0 rfl;have g1:=HB.out.cell 1 rfl;have HOV:=Z5 (HOf.out V a5 q K hF2);clear HOf z HTw;go_wp2_with fail;refine HOV.out.mono ?_;rintro e w6 ⟨a6,c6,rfl,hN6,hb6⟩;have Z:=HZ.out.af (NX (NX hb1 hbV) hb6);have z0:=Z.cell 0 rfl;have z1:=Z.cell 1 rfl;have z2:=Z.cell 2 rfl;have z3:=Z.cell 3 rfl;have z4:=Z.cell 4 rfl;have f0:=Z.frozen 0;have f1:=Z.frozen 1;have f2:=Z.frozen 2;have f3:=Z.frozen 3;have f4:=Z.frozen 4;have hbF:=NX hF2 hb6;have hs:=HsW.out;have hs1:=hb1.size;have hs2:=hbV.size;have hM6 : b8 w.heap.size (((((w6.setCell ⟨w.heap.size+1+1,0,none⟩ (.int .i64 P)).setCell ⟨w.heap.size+1+1,1,none⟩ (.int .i64 M)).setCell ⟨w.heap.size+1+1,2,none⟩ (.slice a6 nm c6)).setCell ⟨w.heap.size+1+1,3,none⟩ (.int .i64 m)).setCell ⟨w.heap.size+1+1,4,none⟩ (.slice a5 q K)) a5 q S :=
  ((((((HM.out.af hb6).setCell (p:=⟨w.heap.size+1+1,0,none⟩) (by simp;omega) _).setCell (p:=⟨w.heap.size+1+1,1,none⟩) (by simp;omega) _).setCell (p:=⟨w.heap.size+1+1,2,none⟩) (by simp;omega) _).setCell (p:=⟨w.heap.size+1+1,3,none⟩) (by simp;omega) _).setCell (p:=⟨w.heap.size+1+1,4,none⟩) (by simp;omega) _).mono HwU.out
 have hFin:=H.out a6 c6 a5 K (((((w6.setCell ⟨w.heap.size+1+1,0,none⟩ (.int .i64 P)).setCell ⟨w.heap.size+1+1,1,none⟩ (.int .i64 M)).setCell ⟨w.heap.size+1+1,2,none⟩ (.slice a6 nm c6)).setCell ⟨w.heap.size+1+1,3,none⟩ (.int .i64 m)).setCell ⟨w.heap.size+1+1,4,none⟩ (.slice a5 q K))
  ((((((hN6.setCell (p:=⟨w.heap.size+1+1,0,none⟩) (by simp;omega) _).setCell (p:=⟨w.heap.size+1+1,1,none⟩) (by simp;omega) _).setCell (p:=⟨w.heap.size+1+1,2,none⟩) (by simp;omega) _).setCell (p:=⟨w.heap.size+1+1,3,none⟩) (by simp;omega) _).setCell (p:=⟨w.heap.size+1+1,4,none⟩) (by simp;omega) _).mono (by omega))
  hM6
  (((((hbF.setCell (p:=⟨w.heap.size+1+1,0,none⟩) (by simp;omega) _).setCell (p:=⟨w.heap.size+1+1,1,none⟩) (by simp;omega) _).setCell (p:=⟨w.heap.size+1+1,2,none⟩) (by simp;omega) _).setCell (p:=⟨w.heap.size+1+1,3,none⟩) (by simp;omega) _).setCell (p:=⟨w.heap.size+1+1,4,none⟩) (by simp;omega) _)
 have HFin:=Z5 hFin;clear hFin hM6 hN6 HOV Z g0 g1 c0 c1 c2;go_wp2_with fail;exact bodyPost_ret (v:=.tuple #[.agg #[.int .i64 P,.int .i64 M,.slice a6 nm c6,.int .i64 m,.slice a5 q K],.int .i64 0]) (by simp [results,results126,go_sem,z0,z1,z2,z3,z4]) rfl HFin.out
theorem sX (m : Nat) (a : OA) (n c : Nat) (L : Ll) (ao : OA) (no co : Nat) (Q : LI) (w : World) (hi : bu w a n L) (hq : Ints w ao no Q) (hL : ∀r ∈ L,r.length=m) (hQ : Ak m Q) (hn : n<=1000000) (hno : no<=1000000) :
  Calls prog 262 #[.slice a n c,.slice ao no co] w λe w'=>∃a1 c1 R,e = .returned (.slice a1 n c1)/\aT w' w.heap.size a1 n c1 R (L.map (bP Q))/\OC w w':=by
 have Z:=Z5 hi.len;have hpla:=hi.pl;have HLl:=Z5 hL;have HQ:=Z5 hQ;obtain ⟨E,S⟩ : ∃E,L.map (bP Q)=E:=⟨_,rfl⟩
 have hl2 : E.length=n:=by rw [<- S,J5];exact Z.out
 have F:=Z5 hl2;have HLk : Hid (∀k,k<n->ai E k=bP Q (ai L k)):=λk hk=>by rw [<- S];exact mN _ L (by rw [Z.out];exact hk)
 rw [S];clear S hl2 hL hQ;go_enter func262,ntmps262;go_wp2_with fail;go_loopw [5,6] (λsv iv wr=>∃(k : Nat) (a1 : OA) (c1 : Nat),k<=n/\iv = .int .i64 k/\sv = .slice a1 k c1/\(∃R,aT wr w.heap.size a1 k c1 R (E.take k))/\OC w wr) (λ_ iv _=>n - (intOf iv).toNat);case atStart=>exact ⟨0,none,0,JU _,rfl,rfl,⟨[],by simpa using Oe w w.heap.size⟩,JP _ _⟩
 case round =>
  obtain ⟨k,a1,c1,hk,rfl,rfl,⟨R,B⟩,Y⟩:=hrel
  by_cases X : k<n
  ·obtain ⟨ra,rn,rc,hcell,V⟩:=(hi.af Y).cell k X
   have A : k<L.length:=by rw [Z.out];exact X
   have C : rn=m:=by rw [<- V.len,aE A];exact HLl.out _ (Kp A)
   have Htk : Hid (E.take (k+1)=E.take k ++ [bP Q (ai L k)]):=by show _=_;rw [JW (by rw [F.out];exact X),<- HLk.out k X,aE (by rw [F.out];exact X)]
   obtain ⟨l,hl⟩ : ∃l,ai L k=l:=⟨_,rfl⟩
   rw [hl] at Htk V
   have j:=tz ra rn rc l ao no co Q wr V (hq.af Y) (by rw [C];exact HQ.out) hno
   have z:=Y.size
   clear hl C
   go_wp2_with fail
   refine j.mono ?_
   rintro e w3 ⟨a3,D,rfl,U,K⟩
   have I:=B.af (NX K (an w3 (.cells #[.slice a3 (bP Q l).length D] 22)))
   have hs3 : w.heap.size<=(w3.alloc (.cells #[.slice a3 (bP Q l).length D] 22)).heap.size:=by have h1:=K.size;simp;omega
   clear j
   go_wp2_with (at_builtin;refine aS rfl _ _ 25 22 rfl (.slice none 0 0) 24 underlying25 dO rfl w.heap.size a1 k c1 _ rfl I.own ⟨w3.heap.size,0,none⟩ 1 (.slice a3 (bP Q l).length D) rfl (bf w3 _ _) rfl (by omega) (by unfold maxLen;omega) hs3 ?_;intro a5 c5 w5 G N hap5)
   go_roundw
   case rel =>
    have hb4 : OC wr (w3.alloc (.cells #[.slice a3 (bP Q l).length D] 22)):=NX K (an _ _)
    have H : (w3.alloc (.cells #[.slice a3 (bP Q l).length D] 22)).ownsRow w.heap.size 3 1 (.slice a3 (bP Q l).length D) (bP Q l).length ((bP Q l).map (Value.int .i64)) :=
     bd (bp U (an _ _)) z
    have hra : a3 ≠ none->¬ bX a1 R (ablk a3):=λh0 hI=>by have h1:=(ba U h0).1;have h2:=(B.lt _ hI).2;omega
    have hP:=Ob I H hra G N hap5
    have hb5 : OC w w5:=N0 (NX Y hb4) I.own N (JO _) (J4 z hb4.size)
    exact ⟨k+1,a5,c5,by omega,by go_num,rfl,⟨_,by rw [Htk.out];exact hP⟩,hb5⟩
   case measure=>simp [intOf] <;> omega
  ·obtain rfl : k=n:=by omega
   rw [JX (by rw [F.out];exact JO _)] at B
   have HO:=Z5 B
   clear B
   go_wp2_with fail
   go_ret
   exact ⟨a1,c1,R,rfl,HO.out,Y⟩
theorem tY (P M : Int) (am : OA) (U cm : Nat) (mod : LI) (m : Nat) (a : OA) (n c : Nat) (L : Ll) (ao : OA) (no co : Nat) (Q : LI) (w : World) (S : Ints w am U mod) (hi : bu w a n L) (hq : Ints w ao no Q)
  (hE : aJ P M mod m L=0) (hQ : Ak m Q) (hno : no<=1000000) :
  Calls prog 235 #[.agg #[.int .i64 P,.int .i64 M,.slice am U cm],.slice a n c,.slice ao no co] w λe w'=>e = .returned (.int .i64 (lT (ah P M.toNat mod).ops L Q).length)/\OC w w':=by
 have D:=hq.len;obtain ⟨N',em,hm1,hm64,F,C⟩:=aY hE;obtain rfl : m=N':=by omega
 have hn : n<=256:=by rw [<- hi.len];exact (cZ hE).choose_spec.2.2.2.1
 have hB:=(aN hE).1;have hinv:=kT (P:=P) (M:=M) (mod:=mod) (by rw [bW];exact hB);have Y:=GB F C hQ;have Z:=wq C hQ;rw [D] at Y Z;obtain ⟨k,rfl,N,_,hF,hA,_⟩:=fE hB;obtain ⟨k',e2,A,X⟩:=dI (by rw [bW];exact hB);obtain rfl : k=k':=by omega
 rw [JQ] at Y Z hinv C ⊢;have j:=(gy hA hF.cl (by rw [N];exact Z) no (JO _)).1;rw [j] at Y;rw [<- N] at Z;have HKp : Hid (∀V,OC w V->Calls prog 262 #[.slice a n c,.slice ao no co] V λe w'=>OC V w'/\∃a1 c1,e = .returned (.slice a1 n c1)/\bu w' a1 n (L.map (bP Q))):=λV K=>by refine (sX m a n c L ao no co Q V (hi.af K) (hq.af K) (λr hr=>(C r hr).1) hQ (by omega) hno).mono ?_;rintro e w' ⟨a1,c1,R,rfl,hO,hb⟩;exact ⟨hb,a1,c1,rfl,hO.je⟩
 have G : Hid (∀V a1 c1,OC w V->bu V a1 n (L.map (bP Q))->∀H,OC V H->Calls prog 124 #[.agg #[.int .i64 P,.int .i64 k,.slice am U cm],.slice a1 n c1,.int .i64 no] H λe w' =>
   OC H w'/\∃v ap cp,e = .returned (.tuple #[v,.slice ap (lT (ah P k mod).ops L Q).length cp])):=λV a1 c1 K hM H z=>by refine (ma P k am U cm mod a1 n c1 no (L.map (bP Q)) H ⟨A,X H am U (S.af (NX K z))⟩ (hM.af z) Z hno (by omega) hinv).mono ?_;rintro e w' ⟨a4,c4,ap,cp,rfl,_,_,hb⟩;exact ⟨hb,_,ap,cp,by rw [<- Y]⟩
 obtain ⟨r,hr⟩ : ∃r,(lT (ah P k mod).ops L Q).length=r:=⟨_,rfl⟩
 rw [hr] at G ⊢;clear hE em F C hB hinv Y Z N hF hA e2 A X j hr hQ D S hi hq;go_enter func235,ntmps235;go_upto_region 1 with fail;obtain ⟨W,hW⟩ : ∃W : World,W=w.alloc (.cells #[.int .i64 P,.int .i64 k,.slice am U cm] 24):=⟨_,rfl⟩
 rw [<- hW];have E : OC w W:=by rw [hW];exact an _ _
 have x0 : aO W w.heap.size [.int .i64 P,.int .i64 k,.slice am U cm]:=by rw [hW];exact NY _ _ _ rfl
 have hS : ∀V,OC W V->V.cell? ⟨w.heap.size,0,none⟩=some (.int .i64 P)/\V.cell? ⟨w.heap.size,1,none⟩=some (.int .i64 k)/\V.cell? ⟨w.heap.size,2,none⟩=some (.slice am U cm)/\OC W V:=λV K=>by have x1:=x0.af K;exact ⟨x1.cell 0 rfl,x1.cell 1 rfl,x1.cell 2 rfl,K⟩
 have HS:=Z5 hS;have I:=Z5 E;clear hW x0 hS E;go_region_held3 (λV=>V.cell? ⟨w.heap.size,0,none⟩=some (.int .i64 P)/\V.cell? ⟨w.heap.size,1,none⟩=some (.int .i64 k)/\V.cell? ⟨w.heap.size,2,none⟩=some (.slice am U cm)/\OC W V)
  ((refine HS.out _ ?_;first | exact (JP _ _).drew | (go_split_ands;exact NX (by assumption) (by assumption))))
  (first
   | (go_at_call 262;((with_reducible refine (HKp.out _ (NX I.out (by go_split_ands;assumption))).mono ?_);rintro e w6 ⟨hb6,a6,c6,rfl,B⟩;have hb7 : OC W w6:=(by go_split_ands;exact NX (by assumption) hb6);have Hr2:=Z5 (G.out w6 a6 c6 (NX I.out hb7) B);clear B))
   | (go_at_call 124;((with_reducible refine (Hr2.out _ (by first | exact JP _ _ | exact hb4)).mono ?_);rintro e w8 ⟨hb8,v8,ap8,cp8,rfl⟩)))
 all_goals (
  go_wp2_with fail
  go_ret
  exact ⟨rfl,NX I.out (by go_split_ands;assumption)⟩)
section
open Go.RowKit
end
theorem FC {P M : Int} (am : OA) (Y cm : Nat) {mod : LI} (k : Nat) (a : OA) (n c : Nat) {D : Ll} {w : World} (Z : Ints w am Y mod) (hi : bu w a n D) (Q : bq P M mod=true) (S : bs (ah P M.toNat mod).El k D) (U : k<=256) (N : n<=256) :
  ∀V,OC w V->Calls prog 140 #[.agg #[.int .i64 P,.int .i64 M,.slice am Y cm],.agg #[.int .i64 k,.slice a n c]] V λe w'=>e = .returned (.int .i64 0)/\OC V w':=λV X=>by have h:=lP P M am Y cm mod k a n c D V (Z.af X) (hi.af X);rw [yr,jI Q U (by rw [hi.len];exact N) S] at h;exact h
section
open Go.RowKit
end
theorem DK {w : World} {B : Nat} {e : TypeId} {a : OA} {n c k : Nat} {xs : List Value} (h : w.ownsRow B e 1 (.slice a n c) n xs) (Q : k<=n) : w.ownsRow B e 1 (.slice a k c) k (xs.take k):=by
 have S:=jZ h;refine ⟨by rw [Ki];omega,?_⟩;rcases h.2 with ⟨Z,h0⟩ | ⟨g,cap,cur,Z,V,U,hle,hm,X,Y⟩
 ·cases Z
  obtain rfl : k=0:=by omega
  exact .inl ⟨rfl,rfl⟩
 ·cases Z
  refine .inr ⟨g,c,cur,rfl,V,U,by omega,hm,X,?_⟩;rw [<- Y,List.take_take];congr 1;omega
theorem aT.take {B : Nat} {w : World} {a : OA} {n c k : Nat} {R : LA} {L : Ll} (h : aT w B a n c R L) (V : k<=n) : aT w B a k c (R.take k) (L.take k):=by
 have S:=h.rl;have U:=h.ll;have Z : ∀ {i},i<k->aR (R.take k) i=aR R i:=λ{i} hi=>by rw [fw (show i<(R.take k).length by rw [Ki];omega),fw (by omega),MG]
 have Y : ∀ {i},i<k->ai (L.take k) i=ai L i:=λ{i} hi=>by rw [aE (show i<(L.take k).length by rw [Ki];omega),aE (by omega),MG]
 refine ⟨by rw [Ki];omega,by rw [Ki];omega,?_,λi hi=>?_,λi hi=>?_,λi j hi X=>?_⟩
 ·rw [<- NH];exact DK h.own V
 ·rw [Z hi,Y hi];exact h.row i (by omega)
 ·rw [Z hi];exact h.sP i (by omega)
 ·rw [Z hi,Z X];exact h.sep i j (by omega) (by omega)
def kL (G : cX) (L : Ll) (m : Nat) (w : World) (e : Ending) (w' : World) : Prop :=
 ∃a c R ap cp,e = .returned (.tuple #[.slice a (bh G L m).length c,.slice ap (bh G L m).length cp])/\aT w' w.heap.size a (bh G L m).length c R (bU G L m)/\bJ w.heap.size w' ap (bh G L m).length (bh G L m)/\OC w w'
def xW (O : aM) (L : Ll) (m : Nat) (w : World) (e : Ending) (w' : World) : Prop :=
 ∃a c R ap cp,e = .returned (.tuple #[.slice a (aC O L m).2.length c,.slice ap (aC O L m).2.length cp])/\aT w' w.heap.size a (aC O L m).2.length c R ((aC O L m).1.take (aC O L m).2.length)/\bJ w.heap.size w' ap (aC O L m).2.length (aC O L m).2/\OC w w'
theorem pA (P M : Int) (am : OA) (Q cm : Nat) (mod : LI) (a : OA) (n c Z : Nat) (L : Ll) (w : World) (N : Ints w am Q mod) (hi : bu w a n L)
  (C : bq P M mod=true) (D : bs (ah P M.toNat mod).El Z L) (hlen : Z<=1000000) (hn : n<=1000000) :
  Calls prog 124 #[.agg #[.int .i64 P,.int .i64 M,.slice am Q cm],.slice a n c,.int .i64 Z] w (kL (ah P M.toNat mod) L Z w):=by
 have hinv:=kT (P:=P) (M:=M) (mod:=mod) (by rw [bW];exact C);obtain ⟨k,rfl,I,_,hF,hA,_⟩:=fE C;obtain ⟨k',e2,K,Y⟩:=dI (by rw [bW];exact C);obtain rfl : k=k':=by omega
 rw [JQ] at D hinv ⊢;rw [<- I] at D;have hE:=(gy hA hF.cl D Z (JO _)).1;have z:=Z5 hi.len;have Hc : Hid (∀V,OC w V->Calls prog 179 #[.agg #[.int .i64 P,.int .i64 k,.slice am Q cm],.slice a n c,.int .i64 Z] V (jG (ah P k mod).ops L Z V)):=λV j=>by have h:=oM P k am Q cm mod a n c Z Z L V ⟨K,Y V am Q (N.af j)⟩ (hi.af j) D (JO _) hlen hn hinv;unfold jG at h ⊢;rw [hE];exact h
 show Calls prog 124 _ w (xW (ah P k mod).ops L Z w);obtain ⟨O,r⟩ : ∃O,(ah P k mod).ops=O:=⟨_,rfl⟩
 rw [r] at Hc ⊢;clear r hinv D I hF hA e2 K Y hE C;go_enter func124,ntmps124;go_wp2_with fail;obtain ⟨W,B⟩ : ∃W : World,W=w.alloc (.cells #[.int .i64 P,.int .i64 k,.slice am Q cm] 24):=⟨_,rfl⟩
 rw [<- B];have X : OC w W:=by rw [B];exact an _ _
 clear B;refine (Hc.out W X).mono ?_;rintro e w1 ⟨a1,c1,R1,ap,cp,rfl,H,G,A⟩;have S:=dX O L Z;have U:=lh H.own;have E:=(Ow G).mono X.size;have F:=(H.take (k:=(aC O L Z).2.length) S.2).mono X.size;have HF : Hid (xW O L Z w (.returned (.tuple #[.slice a1 (aC O L Z).2.length c1,.slice ap (aC O L Z).2.length cp])) w1):=⟨a1,c1,_,ap,cp,rfl,F,E,NX X A⟩
 have hle : (aC O L Z).2.length<=c1:=J4 S.2 U;clear E F G U S;generalize (aC O L Z).2.length=k at *;go_wp2_with fail;go_ret2;simpa using HF.out
def ldTo (P : LI) (m : Nat) : Nat->LI
 | 0=>(List.range m).map λ_=>-1
 | i+1=>(ldTo P m i).set (nth P i).toNat i
def oh (m k : Nat) : LI:=(List.range m).map λi=>if i<k then -1 else 0
theorem wJ (P : LI) (m : Nat) : ∀i,(ldTo P m i).length=m
 | 0=>by simp [ldTo]
 | i+1=>by rw [ldTo,KG];exact wJ P m i
theorem DV {P : LI} {m : Nat} (Z : ∀j,j<P.length->0<=nth P j/\nth P j<m) {c : Nat} (Y : c<m) : ∀i,i<=P.length->(0<=nth (ldTo P m i) c ↔ ∃j,j<i/\nth P j=c)
 | 0,_=>by
  rw [ldTo,dN _ _ _ Y];constructor
  ·intro h;omega
  ·rintro ⟨j,U,_⟩;omega
 | i+1,hi=>by
  have X:=DV Z Y i (by omega);have hb:=Z i (by omega);rw [ldTo,eh _ _ _ _ (by rw [wJ];omega)];by_cases e : c=(nth P i).toNat
  ·rw [JT e];exact ⟨λ_=>⟨i,by omega,by omega⟩,λ_=>by omega⟩
  ·rw [JR e,X];constructor
   ·rintro ⟨j,h1,h2⟩;exact ⟨j,by omega,h2⟩
   ·rintro ⟨j,h1,h2⟩;by_cases V : j=i
    ·subst V;omega
    ·exact ⟨j,by omega,h2⟩
theorem Ik {P : LI} {m : Nat} (Y : ∀j,j<P.length->0<=nth P j/\nth P j<m) {c : Nat} (X : c<m) : (0<=nth (ldTo P m P.length) c ↔ (c : Int) ∈ P):=by
 rw [DV Y X _ (JO _)];constructor
 ·rintro ⟨j,h1,h2⟩;rw [<- h2];exact aI h1
 ·intro h;obtain ⟨j,Z,e⟩:=List.mem_iff_getElem.1 h;exact ⟨j,Z,by rw [aj Z];exact e⟩
theorem I0 {m k : Nat} (Z : k<m) : (oh m k).set k (-1)=oh m (k+1):=by
 refine KW (by simp [oh]) λi h1 h2=>?_;simp only [oh,NK,KF,Lt];by_cases e : k=i
 ·subst e;rw [JT rfl,JT (by omega)]
 ·rw [JR e];by_cases h : i<k
  ·rw [JT h,JT (by omega)]
  ·rw [JR h,JR (by omega)]
def iw (G : cX) (L : Ll) (m : Nat) (w : World) (e : Ending) (w' : World) : Prop :=
 ∃a c R,e = .returned (.slice a (aQ G L m).length c)/\aT w' w.heap.size a (aQ G L m).length c R (aQ G L m)/\OC w w'
theorem oo (P M : Int) (am : OA) (mn cm : Nat) (mod : LI) (m : Nat) (a : OA) (n c : Nat) (L : Ll) (w : World) (hmod : Ints w am mn mod) (hi : bu w a n L)
  (hB : bq P M mod=true) (hR : bs (ah P M.toNat mod).El m L) (hm : m<=1000) (hn : n<=1000000) :
  Calls prog 157 #[.agg #[.int .i64 P,.int .i64 M,.slice am mn cm],.slice a n c,.int .i64 m] w (iw (ah P M.toNat mod) L m w):=by
 have F:=dH hB;have hmo:=hmod;have HC1 : Hid (∀V,OC w V->Calls prog 124 #[.agg #[.int .i64 P,.int .i64 M,.slice am mn cm],.slice a n c,.int .i64 m] V (kL (ah P M.toNat mod) L m V)):=λV hV =>
  pA P M am mn cm mod a n c m L V (hmod.af hV) (hi.af hV) hB hR (by omega) hn
 have HC2 : Hid (∀V a1 n1 c1 L1,OC w V->bu V a1 n1 L1->bs (ah P M.toNat mod).El m L1->n1<=1000000->Calls prog 124 #[.agg #[.int .i64 P,.int .i64 M,.slice am mn cm],.slice a1 n1 c1,.int .i64 m] V (kL (ah P M.toNat mod) L1 m V)):=λV a1 n1 c1 L1 hV h1 h2 h3 =>
  pA P M am mn cm mod a1 n1 c1 m L1 V (hmod.af hV) h1 hB h2 (by omega) h3
 obtain ⟨Q,rfl,hel,_,_,hA,_⟩:=fE hB;obtain ⟨k',e2,hrf,_⟩:=dI (by rw [bW];exact hB);obtain rfl : Q=k':=by omega
 rw [JQ] at hR F HC1 HC2 ⊢;have HNg : Hid (∀(V : World) (x : Int),(ah P Q mod).El x->Calls prog 107 #[.agg #[.int .i64 P,.int .i64 Q,.slice am mn cm],.int .i64 x] V λe w'=>e = .returned (.int .i64 ((ah P Q mod).ops.neg x))/\OC V w'):=λV x hx =>
  nP P Q am mn cm x V hrf (hrf.gV (by rw [hel];exact hx))
 obtain ⟨hPv,hLd⟩:=bS F hR;have hRc : bs (ah P Q mod).El m (bU (ah P Q mod) L m):=bQ F hR;have hcl : (bU (ah P Q mod) L m).length=(bh (ah P Q mod) L m).length:=dF _ L m;have HPv : Hid (j5 (bU (ah P Q mod) L m) (bh (ah P Q mod) L m) m):=hPv;have hrws : ∀k,k<=m->bs (ah P Q mod).El m (dc (ah P Q mod).ops m (bU (ah P Q mod) L m) (bh (ah P Q mod) L m) k):=by
  intro k;induction k with
  | zero=>intro _ r hr;simp [dc] at hr
  | succ k ih =>
   intro hk r hr
   rw [dc] at hr
   split at hr
   ·exact ih (by omega) r hr
   ·rw [KN,Kx] at hr
    rcases hr with hr | rfl
    ·exact ih (by omega) r hr
    ·exact jw F hRc hPv hcl (by omega) _ (JO _)
 have Hrws:=Z5 hrws;have Hdl : Hid (aQ (ah P Q mod) L m=bU (ah P Q mod) (dc (ah P Q mod).ops m (bU (ah P Q mod) L m) (bh (ah P Q mod) L m) m) m):=rfl;have Hcp : Hid (∀c,c<m->∀i,i<(bh (ah P Q mod) L m).length->(ah P Q mod).El (nth (ai (bU (ah P Q mod) L m) i) c)):=λc hc i hi=>N2 (hRc.row (by rw [hcl];exact hi)) hc;have Hrl : Hid (∀i,i<(bh (ah P Q mod) L m).length->(ai (bU (ah P Q mod) L m) i).length=m):=λi hi=>(hRc.row (by rw [hcl];exact hi)).1;have Hkp : Hid (∀c i,kerTo (ah P Q mod).ops m (bU (ah P Q mod) L m) (bh (ah P Q mod) L m) c (i+1)=(kerTo (ah P Q mod).ops m (bU (ah P Q mod) L m) (bh (ah P Q mod) L m) c i).set (nth (bh (ah P Q mod) L m) i).toNat ((ah P Q mod).ops.neg (nth (ai (bU (ah P Q mod) L m) i) c))):=λc i=>rfl;have Hk0 : Hid (∀c,kerTo (ah P Q mod).ops m (bU (ah P Q mod) L m) (bh (ah P Q mod) L m) c 0=(List.replicate m 0).set c 1):=λc=>rfl;have B : Hid (∀j,j<(bh (ah P Q mod) L m).length->0<=nth (bh (ah P Q mod) L m) j/\nth (bh (ah P Q mod) L m) j<m):=HPv.out.lt;have Hld : Hid (∀c,c<m->(0<=nth (ldTo (bh (ah P Q mod) L m) m (bh (ah P Q mod) L m).length) c ↔ (c : Int) ∈ bh (ah P Q mod) L m)):=λc hc=>Ik HPv.out.lt hc;unfold kL at HC1;unfold iw;obtain ⟨G,hGG⟩ : ∃G,ah P Q mod=G:=⟨_,rfl⟩
 rw [hGG] at HC1 HC2 HNg Hrws Hdl Hcp Hrl Hkp Hk0 B Hld hcl ⊢;obtain ⟨D,hD⟩ : ∃D,aQ G L m=D:=⟨_,rfl⟩
 rw [hD] at Hdl ⊢;obtain ⟨R,hRR⟩ : ∃R,bU G L m=R:=⟨_,rfl⟩
 obtain ⟨K,hPP⟩ : ∃K,bh G L m=K:=⟨_,rfl⟩
 rw [hRR,hPP] at HC1 Hrws Hdl Hcp Hkp Hk0 Hrl;rw [hPP] at B Hld hcl;rw [hRR] at hcl;obtain ⟨t,ht⟩ : ∃t,K.length=t:=⟨_,rfl⟩
 have Ht:=Z5 ht;rw [ht] at HC1 Hcp Hrl B Hld hcl;clear hB hel hA e2 hrf hPv hLd hRc HPv hrws hR F hGG hD hRR hPP hmod ht;go_enter func157,ntmps157;go_wp2_with fail;obtain ⟨W,hW⟩ : ∃W : World,W=w.alloc (.cells #[.int .i64 P,.int .i64 Q,.slice am mn cm] 24):=⟨_,rfl⟩
 rw [<- hW];have hbW : OC w W:=by rw [hW];exact an _ _
 have x0 : aO W w.heap.size [.int .i64 P,.int .i64 Q,.slice am mn cm]:=by rw [hW];exact NY _ _ _ rfl
 have HX:=Z5 x0;have HbW:=Z5 hbW;clear hW x0;refine (HC1.out W hbW).mono ?_;rintro e U ⟨a2,c2,R2,ap,cp,rfl,hO2,hp2,hbU⟩;have hMM:=hO2.je;have hII:=hp2.ints;have hplP:=hII.pl;have hplR:=hMM.pl;have hmaxP:=hII.max;have hmaxR:=hMM.max;unfold maxLen at hmaxP hmaxR;have hbwU:=NX hbW hbU;clear hO2 hp2 HC1 hbW;go_wp2_with (at_make;refine ch rfl _ _ 22 3 rfl (.int .i64 0) 8 underlying22 aV rfl m rfl rfl (by omega) (by unfold maxLen;omega) ?_;intro a4 w4 C hb4 hge4 hlt4);have hown4' : w4.ownsRow U.heap.size 3 1 (.slice a4 m m) m ((oh m 0).map (Value.int .i64)):=by
  have e : oh m 0=List.replicate m 0:=by refine KW (by simp [oh]) λi h1 h2=>?_;simp [oh]
  rw [e];simpa using C
 clear C;go_loopw [10] (λiv wr=>∃k : Nat,k<=m/\iv = .int .i64 k/\wr.ownsRow U.heap.size 3 1 (.slice a4 m m) m ((oh m k).map (Value.int .i64))/\OC U wr) (λiv _=>m - (intOf iv).toNat);case atStart=>exact ⟨0,JU _,rfl,hown4',hb4⟩
 case round =>
  clear hown4' hb4 hge4 hlt4
  obtain ⟨k,hk,rfl,S,N⟩:=hrel
  by_cases hlt : k<m
  ·obtain ⟨E,hm4⟩:=NZ S
   have hpl4:=E.pl
   have c4:=E.cell k hlt
   have f4:=(hm4 (by omega)).2 k hlt
   have hB4:=(hm4 (by omega)).1
   have Hown:=Z5 S
   clear S E hm4
   go_wp2_with fail
   go_roundw
   case rel =>
    have h1:=bC Hown.out k hlt (.int .i64 (-1))
    rw [<- Kh,I0 hlt] at h1
    exact ⟨k+1,by omega,by go_num,h1,N.setCell hB4 _⟩
   case measure=>simp [intOf] <;> omega
  ·obtain rfl : k=m:=by omega
   have hown0 : wr.ownsRow U.heap.size 3 1 (.slice a4 k k) k ((ldTo K k 0).map (Value.int .i64)):=by
    have e : oh k k=ldTo K k 0:=by refine KW (by simp [oh,ldTo]) λi h1 h2=>?_;simp only [oh,ldTo,KF,Lt];rw [JT (by simpa [oh] using h1)]
    rw [<- e];exact S
   clear S
   go_wp2_with fail
   go_loopw [11] (λiv wr=>∃i : Nat,i<=t/\iv = .int .i64 i/\wr.ownsRow U.heap.size 3 1 (.slice a4 k k) k ((ldTo K k i).map (Value.int .i64))/\OC U wr) (λiv _=>t - (intOf iv).toNat)
   case atStart=>exact ⟨0,JU _,rfl,hown0,N⟩
   case round =>
    clear hown0 N
    obtain ⟨i,hi',rfl,S,N⟩:=hrel
    by_cases hlt : i<t
    ·have cpi:=(hII.af N).cell i hlt
     have hpb:=B.out i hlt
     obtain ⟨z,hz⟩ : ∃z : Nat,nth K i=z:=⟨(nth K i).toNat,by omega⟩
     have hzm : z<k:=by omega
     have Hst : Hid (ldTo K k (i+1)=(ldTo K k i).set z i):=by show _=_;rw [ldTo,hz,JQ]
     rw [hz] at cpi
     obtain ⟨E,hm4⟩:=NZ S
     have hpl4:=E.pl
     have c4:=E.cell z hzm
     have f4:=(hm4 (by omega)).2 z hzm
     have hB4:=(hm4 (by omega)).1
     have Hown:=Z5 S
     clear S E hm4 hz hpb
     go_wp2_with fail
     go_roundw
     case rel =>
      have h1:=bC Hown.out z hzm (.int .i64 i)
      rw [<- Kh,<- Hst.out] at h1
      exact ⟨i+1,by omega,by go_num,h1,N.setCell hB4 _⟩
     case measure=>simp [intOf] <;> omega
    ·obtain rfl : i=t:=by omega
     obtain ⟨LD,hLD⟩ : ∃LD,ldTo K k i=LD:=⟨_,rfl⟩
     rw [hLD] at S Hld
     clear hLD
     obtain ⟨E,_⟩:=NZ S
     have hpl4:=E.pl
     have hU:=hMM.af N
     have hIU:=hII.af N
     have hbwr:=NX hbwU N
     have HY : Hid (∀V,OC wr V->V.cell? ⟨w.heap.size,0,none⟩=some (.int .i64 P)/\V.cell? ⟨w.heap.size,1,none⟩=some (.int .i64 Q)/\V.cell? ⟨w.heap.size,2,none⟩=some (.slice am mn cm)):=λV hV=>by have x1:=HX.out.af (NX (NX hbU N) hV);exact ⟨x1.cell 0 rfl,x1.cell 1 rfl,x1.cell 2 rfl⟩
     have hsW:=hbwr.size
     have Hbwr:=Z5 hbwr
     generalize wr=X at *
     clear S hMM hII N hbU hbwU hbwr
     go_wp2_with fail
     go_loopw [12,13] (λov iv wr=>∃(j : Nat) (a1 : OA) (c1 : Nat),j<=k/\iv = .int .i64 j/\ov = .slice a1 (eG K j).length c1/\(∃Rr,aT wr X.heap.size a1 (eG K j).length c1 Rr (dc G.ops k R K j))/\OC X wr) (λ_ iv _=>k - (intOf iv).toNat)
     case atStart=>exact ⟨0,none,0,JU _,rfl,rfl,⟨[],aT.D9 X X.heap.size⟩,JP _ _⟩
     case round =>
      obtain ⟨j,a1,c1,hj,rfl,rfl,⟨Rr,hO⟩,N⟩:=hrel
      have hnk:=vI K j
      by_cases H : j<k
      ·have cld:=(E.af N).cell j H
       have hiff:=Hld.out j H
       obtain ⟨v,hv⟩ : ∃v,nth LD j=v:=⟨_,rfl⟩
       rw [hv] at cld hiff
       clear hv
       by_cases I : (j : Int) ∈ K
       ·have hN : Hid (eG K (j+1)=eG K j):=by show _=_;rw [eG,JT I]
        have hKk : Hid (dc G.ops k R K (j+1)=dc G.ops k R K j):=by show _=_;rw [dc,JT I]
        have hv0 : decide (0<=v)=true:=by simpa using hiff.2 I
        clear I hiff
        go_wp2_with fail
        go_roundw
        case rel=>exact ⟨j+1,a1,c1,by omega,by go_num,by rw [hN.out],⟨Rr,by rw [hN.out,hKk.out];exact hO⟩,N⟩
        case measure=>simp [intOf] <;> omega
       ·have hN : Hid (eG K (j+1)=eG K j ++ [j]):=by show _=_;rw [eG,JR I]
        have hKk : Hid (dc G.ops k R K (j+1)=dc G.ops k R K j ++ [kerTo G.ops k R K j i]):=by show _=_;rw [dc,JR I,Ht.out]
        have hv0 : decide (0<=v)=false:=by simpa using λh=>I (hiff.1 h)
        clear I hiff
        generalize wr=Y at *
        go_wp2_with (at_make;refine ch rfl _ _ 22 3 rfl (.int .i64 0) 8 underlying22 aV rfl k rfl rfl (by omega) (by unfold maxLen;omega) ?_;intro a5 w5 hown5 hbel5 hge5 hlt5;obtain ⟨hi5,hm5⟩:=NZ (l:=List.replicate k 0) (by simpa using hown5);have hc5:=hi5.cell j H;have hf5:=(hm5 (by omega)).2 j H;have hpl5:=hi5.pl)
        have hB5:=(hm5 (by omega)).1
        have hx0:=bC hown5 j H (.int .i64 1)
        have hx0' : (w5.setCell ⟨ablk a5,aL a5+j,none⟩ (.int .i64 1)).ownsRow Y.heap.size 3 1 (.slice a5 k k) k ((kerTo G.ops k R K j 0).map (Value.int .i64)):=by rw [Hk0.out,Kh,Lr];exact hx0
        have hbx0:=hbel5.setCell (p:=⟨ablk a5,aL a5+j,none⟩) hB5 (.int .i64 1)
        clear hx0 hown5 hbel5 hge5 hlt5 hi5 hm5 hc5 hf5
        go_loopw [15] (λiv wx=>∃q : Nat,q<=i/\iv = .int .i64 q/\wx.ownsRow Y.heap.size 3 1 (.slice a5 k k) k ((kerTo G.ops k R K j q).map (Value.int .i64))/\OC Y wx) (λiv _=>i - (intOf iv).toNat)
        case atStart=>exact ⟨0,JU _,rfl,hx0',hbx0⟩
        case round =>
         clear hx0' hbx0
         obtain ⟨q,hq',rfl,S,hbx⟩:=hrel
         by_cases hlq : q<i
         ·have hpb:=B.out q hlq
          obtain ⟨z,hz⟩ : ∃z : Nat,nth K q=z:=⟨(nth K q).toNat,by omega⟩
          have hzm : z<k:=by omega
          obtain ⟨ra,rn,rc,hcell,hrow⟩:=(hU.af N).cell q hlq
          have hrn : rn=k:=by rw [<- hrow.len];exact Hrl.out q hlq
          subst hrn
          have hpr:=hrow.pl
          have hel:=Hcp.out j H q hlq
          have Hst : Hid (kerTo G.ops rn R K j (q+1)=(kerTo G.ops rn R K j q).set z (G.ops.neg (nth (ai R q) j))):=by show _=_;rw [Hkp.out,hz,JQ]
          obtain ⟨x9,hx9⟩ : ∃x,nth (ai R q) j=x:=⟨_,rfl⟩
          rw [hx9] at hel Hst
          have Hng : Hid (∀V,Calls prog 107 #[.agg #[.int .i64 P,.int .i64 Q,.slice am mn cm],.int .i64 x9] V λe w'=>e = .returned (.int .i64 (G.ops.neg x9))/\OC V w'):=λV=>HNg.out V x9 hel
          have HS : Hid (∀V,OC Y V->V.cell? ⟨w.heap.size,0,none⟩=some (.int .i64 P)/\V.cell? ⟨w.heap.size,1,none⟩=some (.int .i64 Q)/\V.cell? ⟨w.heap.size,2,none⟩=some (.slice am mn cm)/\V.cell? ⟨ablk ap,aL ap+q,none⟩=some (.int .i64 z)/\V.cell? ⟨ablk a2,aL a2+q,none⟩=some (.slice ra rn rc)/\V.cell? ⟨ablk ra,aL ra+j,none⟩=some (.int .i64 x9)):=λV hV=>by
           obtain ⟨y1,y2,y3⟩:=HY.out V (NX N hV);refine ⟨y1,y2,y3,?_,?_,?_⟩
           ·have h:=(hIU.af (NX N hV)).cell q hlq;rwa [hz] at h
           ·exact aB hV hcell
           ·have h:=(hrow.af hV).cell j H;rwa [hx9] at h
          obtain ⟨hi6,hm6⟩:=NZ S
          have hpl6:=hi6.pl
          have HB6:=Z5 (hm6 (by omega)).1
          have HK : Hid (∀V,OC wr V->(∃u,V.cell? ⟨ablk a5,aL a5+z,none⟩=some u)/\V.frozen? ⟨ablk a5,aL a5+z,none⟩=false/\V.ownsRow Y.heap.size 3 1 (.slice a5 rn rn) rn ((kerTo G.ops rn R K j q).map (Value.int .i64))):=λV hV=>by have o:=bp S hV;obtain ⟨h1,h2⟩:=NZ o;exact ⟨⟨_,h1.cell z hzm⟩,(h2 (by omega)).2 z hzm,o⟩
          have Hbx:=Z5 hbx
          clear hz hpb hx9 hel S hi6 hm6 hrow hcell hbx
          go_wp2_with fail
          go_region_held3 (λV=>V.cell? ⟨w.heap.size,0,none⟩=some (.int .i64 P)/\V.cell? ⟨w.heap.size,1,none⟩=some (.int .i64 Q)/\V.cell? ⟨w.heap.size,2,none⟩=some (.slice am mn cm)/\V.cell? ⟨ablk ap,aL ap+q,none⟩=some (.int .i64 z)/\V.cell? ⟨ablk a2,aL a2+q,none⟩=some (.slice ra rn rc)/\V.cell? ⟨ablk ra,aL ra+j,none⟩=some (.int .i64 x9))
           ((refine HS.out _ ?_;first | exact Hbx.out.drew | exact NX Hbx.out hb7 | exact (NX Hbx.out hb7).setCell HB6.out _))
           (first
            | (go_at_call 107;((with_reducible refine (Hng.out _).mono ?_);rintro e w6 ⟨rfl,hb6⟩;have hb7 : OC wr w6:=NX (JP _ _).drew hb6;obtain ⟨⟨v9,k9⟩,f9,o9⟩:=HK.out w6 hb7)))
          clear k9 f9
          go_wp2_with fail
          go_roundw
          case rel =>
           have h:=bC o9 z hzm (.int .i64 (G.ops.neg x9))
           rw [<- Kh,<- Hst.out] at h
           exact ⟨q+1,by omega,by go_num,h,(NX Hbx.out hb7).setCell HB6.out _⟩
          case measure=>simp [intOf] <;> omega
         ·obtain rfl : q=i:=by omega
          obtain ⟨Z,hZ⟩ : ∃Z,kerTo G.ops k R K j q=Z:=⟨_,rfl⟩
          have hZl : Z.length=k:=by rw [<- hZ];exact fS _ _ _ _ _ _
          rw [hZ] at S hKk
          have HZl:=Z5 hZl
          have hO3:=hO.af (NX hbx (an wr (.cells #[.slice a5 k k] 22)))
          have hsz:=N.size
          have hsx:=hbx.size
          have hs3 : X.heap.size<=(wr.alloc (.cells #[.slice a5 k k] 22)).heap.size:=by simp;omega
          have hcn:=bf wr (.slice a5 k k) 22
          clear hZ hZl
          go_wp2_with (at_builtin;refine aS rfl _ _ 25 22 rfl (.slice none 0 0) 24 underlying25 dO rfl X.heap.size a1 (eG K j).length c1 _ rfl hO3.own ⟨wr.heap.size,0,none⟩ 1 (.slice a5 k k) rfl hcn rfl (by omega) (by unfold maxLen;omega) hs3 ?_;intro a7 c7 w7 hown7 hgr7 hap7)
          go_roundw
          case rel =>
           have hb4' : OC Y (wr.alloc (.cells #[.slice a5 k k] 22)):=NX hbx (an _ _)
           have C : (wr.alloc (.cells #[.slice a5 k k] 22)).ownsRow X.heap.size 3 1 (.slice a5 Z.length k) Z.length (Z.map (Value.int .i64)):=by rw [HZl.out];exact bd (bp S (an _ _)) hsz
           have hra : a5 ≠ none->¬ bX a1 Rr (ablk a5):=λh0 hI=>by have h1:=(ba S h0).1;have h2:=(hO.lt _ hI).2;omega
           have hP:=Ob hO3 C hra (by rw [HZl.out];exact hown7) hgr7 hap7
           have hb5 : OC X w7:=N0 (NX N hb4') hO3.own hgr7 (JO _) (J4 hsz hb4'.size)
           exact ⟨j+1,a7,c7,by omega,by go_num,by rw [hN.out];simp,⟨_,by rw [hN.out,hKk.out,J0];exact hP⟩,hb5⟩
          case measure=>simp [intOf] <;> omega
      ·obtain rfl : j=k:=by omega
       obtain ⟨y1,y2,y3⟩:=HY.out wr N
       have A:=HC2.out wr a1 (eG K j).length c1 (dc G.ops j R K j) (NX Hbwr.out N) hO.je (Hrws.out j (JO _)) (by omega)
       unfold kL at A
       have hlen8 : (bh G (dc G.ops j R K j) j).length=D.length:=by rw [Hdl.out,dF]
       rw [hlen8,<- Hdl.out] at A
       obtain ⟨d,hd⟩ : ∃d,D.length=d:=⟨_,rfl⟩
       rw [hd] at A
       have Hd:=Z5 hd
       have Hcan:=Z5 A
       have hbF:=NX Hbwr.out N
       clear A hlen8 hd
       go_wp2_with fail
       refine Hcan.out.mono ?_
       rintro e w8 ⟨a8,c8,R8,ap8,cp8,rfl,hO8,hp8,hb8⟩
       have HF : Hid (aT w8 w.heap.size a8 d c8 R8 D/\OC w w8):=⟨hO8.mono hbF.size,NX hbF hb8⟩
       clear hO8 hp8 Hcan
       go_wp2_with fail
       go_ret
       rw [Hd.out]
       exact ⟨a8,c8,R8,rfl,HF.out.1,HF.out.2⟩
section
open Go.RowKit
end
theorem D2 {m : Nat} {Q : LI} (h : fF m Q=true) : Ak m Q:=λj Z=>⟨(gQ h Z).1,(gQ h Z).2.1⟩
section
open Go.RowKit
end
def mX (l : LI) (v : Int) (k : Nat) : Bool:=decide (v ∈ l.take k)
theorem sT {l : LI} {k : Nat} (v : Int) (h : k<l.length) : mX l v (k+1)=(mX l v k || decide (nth l k=v)):=by unfold mX;rw [JW h,aj h];simp only [KN,Kx,Bool.decide_or];congr 1;simp [eq_comm]
theorem wo {l : LI} {n : Nat} (v : Int) (h : l.length=n) : mX l v n=decide (v ∈ l):=by unfold mX;rw [JX (by omega)]
theorem jr (a : OA) (n c : Nat) (l : LI) (m : Nat) (w : World) (h : Ints w a n l) (hm : m<=1000) :
  Calls prog 132 #[.slice a n c,.int .i64 m] w λe w'=>∃a1 c1,e = .returned (.slice a1 (frTo false l m).length c1) /\
   w'.ownsRow w.heap.size 3 1 (.slice a1 (frTo false l m).length c1) (frTo false l m).length ((frTo false l m).map (Value.int .i64))/\OC w w':=by
 have Hl:=Z5 h.len;have hpl:=h.pl;have L:=h.max;unfold maxLen at L;obtain ⟨G,N⟩ : ∃G,frTo false l=G:=⟨_,rfl⟩
 have B : Hid (∀k : Nat,decide ((k : Int) ∈ l)=false->G (k+1)=G k ++ [(k : Int)]):=λk h=>by rw [<- N,frTo,JT h]
 have E : Hid (∀k : Nat,decide ((k : Int) ∈ l)=true->G (k+1)=G k):=λk h=>by rw [<- N,frTo,JR (by rw [h];decide)]
 have D : Hid (∀k,(G k).length<=k):=λk=>by rw [<- N];exact jA _ _ _
 have I : Hid (G 0=[]):=by rw [<- N];rfl
 rw [N];clear N;go_enter func132,ntmps132;go_wp2_with fail;go_loopw [5,6] (λov C wr=>∃(i g : Nat) (a1 : OA) (c1 : Nat),i<=m/\C = .int .i64 i/\Hid ((G i).length=g)/\ov = .slice a1 g c1/\wr.ownsRow w.heap.size 3 1 (.slice a1 g c1) g ((G i).map (Value.int .i64))/\OC w wr) (λ_ C _=>m - (intOf C).toNat);case atStart=>exact ⟨0,0,none,0,JU _,rfl,by show _=_;rw [I.out];rfl,rfl,by rw [I.out];exact cF,JP _ _⟩
 case round =>
  obtain ⟨i,g,a1,c1,hi,rfl,H,rfl,Z,Y⟩:=hrel
  by_cases hlt : i<m
  ·have r:=h.af Y
   have hgi : g<=1000:=by have h1:=D.out i;rw [H.out] at h1;omega
   generalize wr=X1 at *
   go_wp2_with fail
   go_loopw [7,8] (λbv z ws=>∃k : Nat,k<=n/\z = .int .i64 k/\bv = .bool (mX l i k)/\ws=X1) (λ_ z _=>n - (intOf z).toNat)
   case atStart=>exact ⟨0,JU _,rfl,by simp [mX],rfl⟩
   case round =>
    obtain ⟨k,hk,rfl,rfl,rfl⟩:=hrel
    by_cases S : k<n
    ·have ck:=r.cell k S
     have F:=Z5 (sT (l:=l) (i : Int) (show k<l.length by rw [Hl.out];exact S))
     obtain ⟨b,hb⟩ : ∃b,mX l i k=b:=⟨_,rfl⟩
     rw [hb] at F ⊢
     clear hb
     cases b
     ·by_cases he : nth l k=i
      ·have j : (nth l k == (i : Int))=true:=by rw [he];simp
       have X : Hid (mX l i (k+1)=true):=by show _=_;rw [F.out,Kc he];rfl
       clear he
       go_wp2_with fail
       go_roundw
       case rel=>exact ⟨k+1,by omega,by go_num,by rw [X.out],by simp⟩
       case measure=>simp [intOf] <;> omega
      ·have j : (nth l k == (i : Int))=false:=by simpa using he
       have X : Hid (mX l i (k+1)=false):=by show _=_;rw [F.out,Kb he];rfl
       clear he
       go_wp2_with fail
       go_roundw
       case rel=>exact ⟨k+1,by omega,by go_num,by rw [X.out],by simp⟩
       case measure=>simp [intOf] <;> omega
     ·have X : Hid (mX l i (k+1)=true):=by show _=_;rw [F.out];rfl
      go_wp2_with fail
      go_roundw
      case rel=>exact ⟨k+1,by omega,by go_num,by rw [X.out],by simp⟩
      case measure=>simp [intOf] <;> omega
    ·obtain rfl : k=n:=by omega
     rw [wo (i : Int) Hl.out]
     have U:=B.out i
     have V:=E.out i
     obtain ⟨b,hb⟩ : ∃b,decide ((i : Int) ∈ l)=b:=⟨_,rfl⟩
     rw [hb] at U V ⊢
     clear hb
     cases b
     ·have X:=Z5 (U rfl)
      clear U V
      have hsz:=Y.size
      have A:=bf wr (.int .i64 i) 3
      have hbn:=an wr (.cells #[.int .i64 i] 3)
      go_wp2_with (at_builtin;refine aS rfl _ _ 22 3 rfl (.int .i64 0) 8 underlying22 aV rfl w.heap.size a1 g c1 _ rfl (Z.alloc _) ⟨wr.heap.size,0,none⟩ 1 (.int .i64 i) rfl A rfl (by omega) (by unfold maxLen;omega) (by simp;omega) ?_;intro a5 c5 w5 Q K hap5)
      go_roundw
      case rel =>
       refine ⟨i+1,g+1,a5,c5,by omega,by go_num,by show _=_;rw [X.out,J0,H.out];rfl,rfl,by rw [X.out];simpa using Q,N0 (N1 Y _) (Z.alloc _) K (JO _) (N1 Y _).size⟩
      case measure=>simp [intOf] <;> omega
     ·have X:=Z5 (V rfl)
      clear U V
      go_wp2_with fail
      go_roundw
      case rel=>exact ⟨i+1,g,a1,c1,by omega,by go_num,by show _=_;rw [X.out];exact H.out,rfl,by rw [X.out];exact Z,Y⟩
      case measure=>simp [intOf] <;> omega
  ·obtain rfl : i=m:=by omega
   have HF:=Z5 (JZ Z Y)
   clear Z Y
   go_wp2_with fail
   go_ret
   rw [H.out]
   exact ⟨a1,c1,rfl,HF.out.1,HF.out.2⟩
theorem Dl (a : OA) (n c : Nat) (L : Ll) (Z mm : Nat) (w : World) (hi : bu w a n L) (hl : ∀i,i<n->(ai L i).length=mm) (hc : Z<=mm) (hn : n<=1000000) (hcols : Z<=1000000) :
  Calls prog 263 #[.slice a n c,.int .i64 Z] w λe w'=>∃a1 c1 R,e = .returned (.slice a1 Z c1)/\aT w' w.heap.size a1 Z c1 R ((List.range Z).map (aX L))/\OC w w':=by
 have G:=Z5 hi.len;have hpla:=hi.pl;have HLl:=Z5 hl;obtain ⟨T,hT⟩ : ∃T,(List.range Z).map (aX L)=T:=⟨_,rfl⟩
 have HTl : Hid (T.length=Z):=by show _=_;rw [<- hT];simp
 have HTk : Hid (∀k,k<Z->T.take (k+1)=T.take k ++ [aX L k]):=λk hk=>by rw [JW (by rw [HTl.out];exact hk)];congr 1;simp [<- hT]
 have HCl : Hid (∀k,(aX L k).length=n):=λk=>by rw [dt];exact G.out
 have HCt : Hid (∀k i,i<n->(aX L k).take (i+1)=(aX L k).take i ++ [nth (ai L i) k]):=λk i j=>by rw [JW (by rw [HCl.out];exact j),<- da L k i (by rw [G.out];exact j),aj (by rw [HCl.out];exact j)]
 rw [hT];clear hT hl;go_enter func263,ntmps263;go_wp2_with fail;go_loopw [5,6] (λsv A wr=>∃(k : Nat) (a1 : OA) (c1 : Nat),k<=Z/\A = .int .i64 k/\sv = .slice a1 k c1/\(∃R,aT wr w.heap.size a1 k c1 R (T.take k))/\OC w wr) (λ_ A _=>Z - (intOf A).toNat);case atStart=>exact ⟨0,none,0,JU _,rfl,rfl,⟨[],by simpa using Oe w w.heap.size⟩,JP _ _⟩
 case round =>
  obtain ⟨k,a1,c1,hk,rfl,rfl,⟨R,hO⟩,K⟩:=hrel
  generalize wr=X at *
  by_cases hlt : k<Z
  ·have hiX:=hi.af K
   have HO:=Z5 hO
   have Hsz:=Z5 K
   have E:=K.size
   clear hO K
   go_wp2_with fail
   go_loopw [7,8] (λcv A ws=>∃(i : Nat) (ar : OA) (cr : Nat),i<=n/\A = .int .i64 i/\cv = .slice ar i cr/\ws.ownsRow X.heap.size 3 1 (.slice ar i cr) i (((aX L k).take i).map (Value.int .i64))/\OC X ws) (λ_ A _=>n - (intOf A).toNat)
   case atStart=>exact ⟨0,none,0,JU _,rfl,rfl,by simpa using cF,JP _ _⟩
   case round =>
    obtain ⟨i,ar,cr,hin,rfl,rfl,V,N⟩:=hrel
    generalize wr=Y at *
    by_cases I : i<n
    ·obtain ⟨ra,rn,rc,hcell,Q⟩:=(hiX.af N).cell i I
     have hrn : rn=mm:=by rw [<- Q.len];exact HLl.out i I
     have hkr : k<rn:=by omega
     have hplr:=Q.pl
     have ck:=Q.cell k hkr
     have Hct:=Z5 (HCt.out k i I)
     obtain ⟨x,hx⟩ : ∃x,nth (ai L i) k=x:=⟨_,rfl⟩
     rw [hx] at ck Hct
     have hcn:=bf Y (.int .i64 x) 3
     have hbn:=an Y (.cells #[.int .i64 x] 3)
     have H:=N.size
     have hkr2 : (k : Int)<rn:=by omega
     have hi2 : (i : Int)<n:=by omega
     clear hx Q hrn
     go_wp2_with (at_builtin;refine aS rfl _ _ 22 3 rfl (.int .i64 0) 8 underlying22 aV rfl X.heap.size ar i cr _ rfl (V.alloc _) ⟨Y.heap.size,0,none⟩ 1 (.int .i64 x) rfl hcn rfl (by omega) (by unfold maxLen;omega) (by simp;omega) ?_;intro a5 c5 w5 U S D)
     go_roundw
     case rel =>
      have B : OC X w5:=N0 (KE N (hbn.mono H)) (V.alloc _) S (JO _) (J4 H hbn.size)
      exact ⟨i+1,a5,c5,by omega,by go_num,rfl,by rw [Hct.out,Ko];exact U,B⟩
     case measure=>simp [intOf] <;> omega
    ·obtain rfl : i=n:=by omega
     have C:=HCl.out k
     rw [JX (by rw [C];exact JO _)] at V
     have Hbs:=Z5 N
     have z:=HO.out.af (NX N (an Y (.cells #[.slice ar i cr] 22)))
     have hs3 : w.heap.size<=(Y.alloc (.cells #[.slice ar i cr] 22)).heap.size:=by have h1:=N.size;simp;omega
     have F:=Z5 C
     clear C
     go_wp2_with (at_builtin;refine aS rfl _ _ 25 22 rfl (.slice none 0 0) 24 underlying25 dO rfl w.heap.size a1 k c1 _ rfl z.own ⟨Y.heap.size,0,none⟩ 1 (.slice ar i cr) rfl (bf Y _ _) rfl (by omega) (by unfold maxLen;omega) hs3 ?_;intro a5 c5 w5 U S D)
     go_roundw
     case rel =>
      have hb4 : OC X (Y.alloc (.cells #[.slice ar i cr] 22)):=NX Hbs.out (an _ _)
      have r : (Y.alloc (.cells #[.slice ar i cr] 22)).ownsRow w.heap.size 3 1 (.slice ar (aX L k).length cr) (aX L k).length ((aX L k).map (Value.int .i64)):=by rw [F.out];exact bd (bp V (an _ _)) E
      have hra : ar ≠ none->¬ bX a1 R (ablk ar):=λh0 hI=>by have h1:=(ba V h0).1;have h2:=(HO.out.lt _ hI).2;omega
      have hP:=Ob z r hra (by rw [F.out];exact U) S D
      have B : OC w w5:=N0 (NX Hsz.out hb4) z.own S (JO _) (J4 E hb4.size)
      exact ⟨k+1,a5,c5,by omega,by go_num,rfl,⟨_,by rw [HTk.out k hlt];exact hP⟩,B⟩
     case measure=>simp [intOf] <;> omega
  ·obtain rfl : k=Z:=by omega
   rw [JX (by rw [HTl.out];exact JO _)] at hO
   have HO:=Z5 hO
   clear hO
   go_wp2_with fail
   go_ret
   exact ⟨a1,c1,R,rfl,HO.out,K⟩
theorem tk (a : OA) (n c : Nat) (l : LI) (v : Int) (w : World) (h : Ints w a n l) :
  Calls prog 236 #[.slice a n c,.int .i64 v] w λe w'=>e = .returned (.bool (decide (v ∈ l)))/\w'=w:=by
 have U:=Z5 h.len;have L:=h.pl;have Y:=h.max;unfold maxLen at Y;go_enter func236,ntmps236;go_wp2_with fail;go_loopw [5] (λN wr=>∃k : Nat,k<=n/\N = .int .i64 k/\Hid (mX l v k=false)/\wr=w) (λi _=>n - (intOf i).toNat);case atStart=>exact ⟨0,JU _,rfl,by show _=_;simp [mX],rfl⟩
 case round =>
  obtain ⟨k,I,rfl,X,rfl⟩:=hrel
  by_cases Z : k<n
  ·have c1:=h.cell k Z
   have K:=Z5 (sT (l:=l) v (show k<l.length by rw [U.out];exact Z))
   by_cases he : nth l k=v
   ·have Q : (nth l k == v)=true:=by rw [he];simp
    have S : Hid (decide (v ∈ l)=true):=by show _=_;rw [<- he];simpa using aI (show k<l.length by rw [U.out];exact Z)
    clear he
    go_wp2_with fail
    go_ret
    exact ⟨aU S.out.symm,rfl⟩
   ·have Q : (nth l k == v)=false:=by simpa using he
    have V : Hid (mX l v (k+1)=false):=by show _=_;rw [K.out,X.out,Kb he];rfl
    clear he
    go_wp2_with fail
    go_roundw
    case rel=>exact ⟨k+1,by omega,by go_num,V.out,by simp⟩
    case measure=>simp [intOf] <;> omega
  ·obtain rfl : k=n:=by omega
   have S : Hid (decide (v ∈ l)=false):=by show _=_;rw [<- wo v U.out];exact X.out
   go_wp2_with fail
   go_ret
   exact ⟨aU S.out.symm,rfl⟩
theorem yg (l : LI) : ∀u ∈ l.map (Value.int .i64),u.oneCell'=true:=λu hu=>by obtain ⟨x,_,rfl⟩:=List.mem_map.1 hu;rfl
theorem oZ (a : OA) (n c : Nat) (l : LI) (b : OA) (m G : Nat) (L : LI) (w : World) (ha : Ints w a n l) (hb : Ints w b m L) (B : n<=1000000) (hm : m<=1000000) :
  Calls prog 185 #[.slice a n c,.slice b m G] w λe w'=>∃a2 c2,e = .returned (.slice a2 (n+m) c2)/\w'.ownsRow w.heap.size 3 1 (.slice a2 (n+m) c2) (n+m) ((l ++ L).map (Value.int .i64))/\OC w w':=by
 have X:=an w (.cells #[] 3);have U:=ha.af X;have D:=hb.af X;have K:=ha.len;have I:=hb.len;have H:=gg w 3;go_enter func185,ntmps185;go_wp2_with (at_builtin;first
  | (refine dY rfl _ _ 22 3 rfl (.int .i64 0) 8 underlying22 aV rfl w.heap.size _ 0 0 [] rfl H a n c (l.map (Value.int .i64)) rfl U.pl (by simp [K]) (N7 U) (yg l) (by omega) (by unfold maxLen;omega) X.size ?_;intro a1 c1 C Z S F;rw [LJ] at Z ⊢;rw [KL] at Z;have Y : OC w C:=N0 X H S (JO _) X.size;have N:=hb.af Y)
  | (refine dY rfl _ _ 22 3 rfl (.int .i64 0) 8 underlying22 aV rfl w.heap.size a1 n c1 (l.map (Value.int .i64)) rfl Z b m G (L.map (Value.int .i64)) rfl N.pl (by simp [I]) (N7 N) (yg L) (by omega) (by unfold maxLen;omega) Y.size ?_;intro a2 c2 A V Q E))
 go_ret;exact ⟨a2,c2,rfl,by rw [Ko];exact V,N0 Y Z Q (JO _) Y.size⟩
def kQ (P M : Int) (am : OA) (Z cm : Nat) (m : Nat) (a : OA) (n c : Nat) (X : OA) (Y cy : Nat) (C : iz) : Value :=
 .agg #[.int .i64 P,.int .i64 M,.slice am Z cm,.int .i64 m,.slice a n c,.int .i64 C.M,.int .i64 C.W,.slice X Y cy,.bool C.cos]
theorem xx (P M : Int) (am : OA) (mn cm : Nat) (m : Nat) (a : OA) (n c : Nat) (ay : OA) (ny cy : Nat) (C : iz) (sa : OA) (ns cs : Nat) (s : LI) (az : OA) (nz cz : Nat) (z : LI) (at' : OA) (E ct : Nat) (t : LI) (w : World)
  (hs : Ints w sa ns s) (hz : Ints w az nz z) (ht : Ints w at' E t) (hnt : E<=1000000) :
  Calls prog 188 #[kQ P M am mn cm m a n c ay ny cy C,.slice sa ns cs,.slice az nz cz,.slice at' E ct] w (db w (iW C s z t)):=by
 have Htl:=Z5 ht.len;have r:=Z5 hs.len;have hplt:=ht.pl;obtain ⟨K,hK⟩ : ∃K,iW C s z t=K:=⟨_,rfl⟩
 rw [hK];have HK:=Z5 hK;unfold kQ;clear hK;go_enter func188,ntmps188;go_wp2_with fail;obtain ⟨U,hU⟩ : ∃U : World,U=w.alloc (.cells #[.int .i64 P,.int .i64 M,.slice am mn cm,.int .i64 m,.slice a n c,.int .i64 C.M,.int .i64 C.W,.slice ay ny cy,.bool C.cos] 149):=⟨_,rfl⟩
 rw [<- hU];have X : OC w U:=by rw [hU];exact an _ _
 have x0 : aO U w.heap.size [.int .i64 P,.int .i64 M,.slice am mn cm,.int .i64 m,.slice a n c,.int .i64 C.M,.int .i64 C.W,.slice ay ny cy,.bool C.cos]:=by rw [hU];exact NY _ _ _ rfl
 have HX:=Z5 x0;have hsU : w.heap.size<U.heap.size:=x0.1;clear hU x0;go_loopw [9,10] (λqv iv wr=>∃(k : Nat) (D : OA) (cq : Nat) (out : LI),k<=E/\iv = .int .i64 k/\qv = .slice D out.length cq/\Hid (K=out ++ (if s.length<C.W then (t.drop k).filter (λx=>decide (¬ x ∈ z)) else []))/\out.length<=k /\
   wr.ownsRow U.heap.size 3 1 (.slice D out.length cq) out.length (out.map (Value.int .i64))/\OC U wr)
  (λ_ iv _=>E - (intOf iv).toNat)
 case atStart=>exact ⟨0,none,0,[],JU _,rfl,rfl,(show _=_ by rw [<- HK.out,iW,Ls,KL]),JU _,cF,JP _ _⟩
 case round =>
  obtain ⟨k,D,cq,out,hk,rfl,rfl,I,hln,N,Y⟩:=hrel
  generalize wr=V at *
  have c6:=(HX.out.af Y).cell 6 rfl
  by_cases hlt : k<E
  ·by_cases hW : ns<C.W
   ·have d1 : decide ((ns : Int)<(C.W : Int))=true:=by simp;omega
    have ck:=(ht.af (NX X Y)).cell k hlt
    have G : k<t.length:=by rw [Htl.out];exact hlt
    have Hdk:=Z5 (show t.drop k=nth t k :: t.drop (k+1) by rw [aj G];exact KA G)
    have j:=Z5 (tk az nz cz z (nth t k) V (hz.af (NX X Y)))
    have Z : s.length<C.W:=by rw [r.out];exact hW
    by_cases S : nth t k ∈ z
    ·have Q : decide (nth t k ∈ z)=true:=by simpa using S
     rw [Q] at j
     have H : Hid (K=out ++ (if s.length<C.W then (t.drop (k+1)).filter (λx=>decide (¬ x ∈ z)) else [])):=by show _=_;rw [I.out,Hdk.out,JT Z,JT Z,Lc (by simpa using S)]
     clear S Q Z
     go_wp2_with fail
     refine j.out.mono ?_
     rintro e w6 ⟨rfl,rfl⟩
     go_wp2_with fail
     go_roundw
     case rel=>exact ⟨k+1,D,cq,out,by omega,by go_num,rfl,H.out,by omega,N,Y⟩
     case measure=>simp [intOf] <;> omega
    ·have Q : decide (nth t k ∈ z)=false:=by simpa using S
     rw [Q] at j
     have H : Hid (K=(out ++ [nth t k]) ++ (if s.length<C.W then (t.drop (k+1)).filter (λx=>decide (¬ x ∈ z)) else [])):=by show _=_;rw [I.out,Hdk.out,JT Z,JT Z,Ld (by simpa using S),KI];rfl
     obtain ⟨x,hx⟩ : ∃x,nth t k=x:=⟨_,rfl⟩
     rw [hx] at ck H j
     have hcn:=bf V (.int .i64 x) 3
     have hbn:=an V (.cells #[.int .i64 x] 3)
     have F:=Y.size
     clear S Q Z hx
     go_wp2_with fail
     refine j.out.mono ?_
     rintro e w6 ⟨rfl,rfl⟩
     go_wp2_with (at_builtin;refine aS rfl _ _ 22 3 rfl (.int .i64 0) 8 underlying22 aV rfl U.heap.size D out.length cq _ rfl (N.alloc _) ⟨w6.heap.size,0,none⟩ 1 (.int .i64 x) rfl hcn rfl (by omega) (by unfold maxLen;omega) (by simp;omega) ?_;intro a5 c5 w5 B A hap5)
     go_roundw
     case rel =>
      have hb5 : OC U w5:=N0 (KE Y (hbn.mono F)) (N.alloc _) A (JO _) (J4 F hbn.size)
      exact ⟨k+1,a5,c5,out ++ [x],by omega,by go_num,by simp,H.out,by simp;omega,by simpa using B,hb5⟩
     case measure=>simp [intOf] <;> omega
   ·have d1 : decide ((ns : Int)<(C.W : Int))=false:=by simp;omega
    have Ho : Hid (K=out):=by show _=_;rw [I.out,JR (by rw [r.out];exact hW),K7]
    have L:=bd N X.size
    have hF:=NX X Y
    go_wp2_with fail
    go_ret
    exact ⟨D,cq,by rw [Ho.out];rfl,by rw [Ho.out];exact L,hF⟩
  ·obtain rfl : k=E:=by omega
   have Ho : Hid (K=out):=by show _=_;rw [I.out,KD (by rw [Htl.out];exact JO _)];split <;> simp
   have L:=bd N X.size
   have hF:=NX X Y
   go_wp2_with fail
   go_ret
   exact ⟨D,cq,by rw [Ho.out];rfl,by rw [Ho.out];exact L,hF⟩
def zw (P M : Int) (am : OA) (U cm : Nat) (mod : LI) (m : Nat) (a : OA) (n c : Nat) (L : Ll) (N : OA) (S cy : Nat) (C : iz) (Q : World) : Prop :=
 ∀(V : World) (X : OA) (ns cs : Nat) (s : LI) (Z : OA) (Y ct : Nat) (t : LI),ns<=64->OC Q V->Ints V X ns s->Ints V Z Y t ->
  Calls prog 187 #[kQ P M am U cm m a n c N S cy C,.slice X ns cs,.slice Z Y ct] V λe w'=>e = .returned (.bool (dm (ah P M.toNat mod).ops L m C s t))/\OC V w'
theorem aD.IE {U w w' : World} {I : Nat->Prop} {a : OA} {n c : Nat} (h : aD U w I I) (Z : w.grownBy w' (Value.slice a n c).ownBlock) (hI : a ≠ none->I (ablk a)\/U.heap.size<=ablk a) : aD U w' I I :=
 ⟨Z.os.trans h.os,Z.tape.trans h.tape,Z.output.trans h.output,J4 h.size Z.size,λb hb hIb=>(Z.block b (Kl hb h.size) (λe=>by
  by_cases ha : eX a b
  ·exact ha.own n c e.symm
  ·have h1 : a ≠ none:=λh=>ha (.inl h);have h2 : ablk a=b:=Kg λh=>ha (.inr h);rw [h2] at hI;rcases hI h1 with h3 | h3
   ·exact hIb h3
   ·omega)).trans (h.block b hb hIb),λb hb=>.inl hb⟩
def uP (m : Nat) (Z : LI) (i : Nat) : Ll:=(Z.take i).map (bM m)
theorem CX (m : Nat) {Z : LI} {i : Nat} (h : i<Z.length) : uP m Z (i+1)=uP m Z i ++ [bM m (nth Z i)]:=by unfold uP;rw [JW h,Ko,aj h];rfl
def yP (G : cX) (m : Nat) (L : Ll) (S : LI) : Ll:=aQ G (aQ G L m ++ (frTo false S m).map (bM m)) m
theorem Gh (G : cX) (m : Nat) (L : Ll) (S : LI) : yP G m L S=A1 G.ops m L (frTo false S m):=rfl
def vq (G : cX) (L : Ll) (m : Nat) (S : LI) (w : World) (e : Ending) (w' : World) : Prop :=
 ∃a c R,e = .returned (.slice a (yP G m L S).length c)/\aT w' w.heap.size a (yP G m L S).length c R (yP G m L S)/\OC w w'
theorem vS (P M : Int) (am : OA) (mn cm : Nat) (mod : LI) (m : Nat) (a : OA) (n c : Nat) (L : Ll) (as' : OA) (ns cs : Nat) (S : LI) (w : World) (C : Ints w am mn mod) (hi : bu w a n L) (hs : Ints w as' ns S)
  (hB : bq P M mod=true) (hR : bs (ah P M.toNat mod).El m L) (hm : m<=1000) (hn : n<=1000000) :
  Calls prog 131 #[.agg #[.int .i64 P,.int .i64 M,.slice am mn cm],.slice a n c,.int .i64 m,.slice as' ns cs] w (vq (ah P M.toNat mod) L m S w):=by
 have F:=dH hB;have H : Hid (∀V,OC w V->Calls prog 157 #[.agg #[.int .i64 P,.int .i64 M,.slice am mn cm],.slice a n c,.int .i64 m] V (iw (ah P M.toNat mod) L m V)):=λV A =>
  oo P M am mn cm mod m a n c L V (C.af A) (hi.af A) hB hR hm hn
 have HN2 : Hid (∀V a1 n1 c1 L1,OC w V->bu V a1 n1 L1->bs (ah P M.toNat mod).El m L1->n1<=1000000->Calls prog 157 #[.agg #[.int .i64 P,.int .i64 M,.slice am mn cm],.slice a1 n1 c1,.int .i64 m] V (iw (ah P M.toNat mod) L1 m V)):=λV a1 n1 c1 L1 A h1 h2 h3 =>
  oo P M am mn cm mod m a1 n1 c1 L1 V (C.af A) h1 hB h2 hm h3
 have HO : Hid (∀V,OC w V->Calls prog 132 #[.slice as' ns cs,.int .i64 m] V λe w'=>∃a1 c1,e = .returned (.slice a1 (frTo false S m).length c1) /\
   w'.ownsRow V.heap.size 3 1 (.slice a1 (frTo false S m).length c1) (frTo false S m).length ((frTo false S m).map (Value.int .i64))/\OC V w'):=λV A=>jr as' ns cs S m V (hs.af A) hm
 have HZm : Hid (∀j,j<(frTo false S m).length->0<=nth (frTo false S m) j/\nth (frTo false S m) j<m):=λj hj=>by obtain ⟨i,h1,h2,_⟩:=(eo m).1 (aI hj);omega
 have hZl : (frTo false S m).length<=m:=jA _ _ _;have hdr : bs (ah P M.toNat mod).El m (aQ (ah P M.toNat mod) L m):=lz F hR;have hdn : (aQ (ah P M.toNat mod) L m).length<=m:=by
  have h1:=(bS F (fI F (bQ F hR) (bS F hR).1 (bY F hR)))
  have h2:=fK (ah P M.toNat mod).ops m (bU (ah P M.toNat mod) L m) (bh (ah P M.toNat mod) L m) m;have h3:=vI (bh (ah P M.toNat mod) L m) m;have h4:=(dX (ah P M.toNat mod).ops (dc (ah P M.toNat mod).ops m (bU (ah P M.toNat mod) L m) (bh (ah P M.toNat mod) L m) m) m).2;have h5 : (aQ (ah P M.toNat mod) L m).length=(aC (ah P M.toNat mod).ops (dc (ah P M.toNat mod).ops m (bU (ah P M.toNat mod) L m) (bh (ah P M.toNat mod) L m) m) m).2.length:=dF _ _ _;omega
 have HU : Hid (bs (ah P M.toNat mod).El m (aQ (ah P M.toNat mod) L m ++ (frTo false S m).map (bM m))):=λr hr=>by
  rcases List.mem_append.1 hr with h | h
  ·exact hdr r h
  ·obtain ⟨z,_,rfl⟩:=List.mem_map.1 h;exact kD F m z
 unfold iw at H;have HW : Hid (yP (ah P M.toNat mod) m L S=aQ (ah P M.toNat mod) (aQ (ah P M.toNat mod) L m ++ (frTo false S m).map (bM m)) m):=rfl;unfold vq;obtain ⟨W,hW⟩ : ∃W,yP (ah P M.toNat mod) m L S=W:=⟨_,rfl⟩
 rw [hW] at HW ⊢;obtain ⟨D,hD⟩ : ∃D,aQ (ah P M.toNat mod) L m=D:=⟨_,rfl⟩
 rw [hD] at H HU hdn HW;obtain ⟨Z,hZ⟩ : ∃Z,frTo false S m=Z:=⟨_,rfl⟩
 rw [hZ] at HO HZm hZl HU HW;obtain ⟨z,hz⟩ : ∃z,Z.length=z:=⟨_,rfl⟩
 obtain ⟨d,hd⟩ : ∃d,D.length=d:=⟨_,rfl⟩
 rw [hz] at HO HZm hZl;rw [hd] at H hdn;have Hz:=Z5 hz;have Hd:=Z5 hd;clear F hdr hW hD hZ hz hd C hi hs hB hR;go_enter func131,ntmps131;go_wp2_with fail;obtain ⟨X,hX⟩ : ∃X : World,X=w.alloc (.cells #[.int .i64 P,.int .i64 M,.slice am mn cm] 24):=⟨_,rfl⟩
 rw [<- hX];have hbX : OC w X:=by rw [hX];exact an _ _
 have x0 : aO X w.heap.size [.int .i64 P,.int .i64 M,.slice am mn cm]:=by rw [hX];exact NY _ _ _ rfl
 have HX:=Z5 x0;clear hX x0;refine (H.out X hbX).mono ?_;rintro e U ⟨a2,c2,R2,rfl,hO2,hbU⟩;have hbwU:=NX hbX hbU;have HOU:=Z5 (HO.out U hbwU);clear HO H;go_wp2_with fail;refine HOU.out.mono ?_;rintro e U2 ⟨a3,c3,rfl,N,hb3⟩;have hO3:=(hO2.af hb3)
 obtain ⟨hi3,_⟩:=NZ N;have hpl3:=hi3.pl;have hbX2:=NX hbU hb3;have hlo3 : a3 ≠ none->U.heap.size<=ablk a3/\ablk a3<U2.heap.size:=λh=>ba N h;have hlo2 : a2 ≠ none->ablk a2<U.heap.size:=λh=>(ba hO2.own h).2;have hsU : U.heap.size<=U2.heap.size:=hb3.size;have hN3 : bJ U.heap.size U2 a3 z Z:=⟨hi3,λh=>(hlo3 (by intro h0;have:=hpl3 h;rw [h0] at this;cases this)).1⟩
 have hsX:=hbX.size;have hszX : X.heap.size<=U.heap.size:=hbU.size;have hxlt : w.heap.size<X.heap.size:=HX.out.1;clear hO2 N hi3 HOU;go_wp2_with fail;go_loopw [9,11] (λov iv wr=>∃(i : Nat) (a1 : OA) (c1 : Nat),i<=z/\iv = .int .i64 i/\ov = .slice a1 (d+i) c1/\(∃R,aT wr X.heap.size a1 (d+i) c1 R (D ++ uP m Z i))/\OC X wr/\aD U2 wr (λb=>b<U.heap.size) (λb=>b<U.heap.size)/\Hid (a1 ≠ none->ablk a1<U.heap.size\/U2.heap.size<=ablk a1)) (λ_ iv _=>z - (intOf iv).toNat);case atStart=>exact ⟨0,a2,c2,JU _,rfl,rfl,⟨R2,by simpa [uP] using hO3⟩,hbX2,N9 _ _,λh=>.inl (hlo2 h)⟩
 case round =>
  clear hO3
  obtain ⟨i,a1,c1,hi',rfl,rfl,⟨R1,hO⟩,E,hMv,Ha1⟩:=hrel
  by_cases hlt : i<z
  ·have hIr : Ints wr a3 z Z:=hN3.ints.dQ hMv (λhm hc=>by have:=hN3.lo hm;omega)
   have ci:=hIr.cell i hlt
   have hb:=HZm.out i hlt
   obtain ⟨v,hv⟩ : ∃v : Nat,nth Z i=v:=⟨(nth Z i).toNat,by omega⟩
   have hvm : v<m:=by omega
   have Hun : Hid (uP m Z (i+1)=uP m Z i ++ [bM m v]):=by show _=_;rw [<- hv];exact CX m (by rw [Hz.out];exact hlt)
   have Hux : Hid ((List.replicate m (0 : Int)).set v 1=bM m v):=by show _=_;rw [bM,JQ]
   rw [hv] at ci
   clear hv hb
   generalize wr=Y at *
   go_upto_region 8 with (at_make;refine ch rfl _ _ 22 3 rfl (.int .i64 0) 8 underlying22 aV rfl m rfl rfl (by omega) (by unfold maxLen;omega) ?_;intro a5 w5 K Q hge5 hlt5;obtain ⟨hi5,hm5⟩:=NZ (l:=List.replicate m 0) (by simpa using K);have hc5:=hi5.cell v hvm;have hf5:=(hm5 (by omega)).2 v hvm;have hpl5:=hi5.pl;have ci5:=aB Q ci)
   have B:=bC K v hvm (.int .i64 1)
   rw [<- Lr (f:=Value.int .i64) (a:=0),<- Kh,Hux.out] at B
   have hbx0:=Q.setCell (p:=⟨ablk a5,aL a5+v,none⟩) (hm5 (by omega)).1 (.int .i64 1)
   clear K Q hge5 hlt5 hi5 hm5 hc5 hf5 ci5 ci
   obtain ⟨V,A⟩ : ∃V,w5.setCell ⟨ablk a5,aL a5+v,none⟩ (.int .i64 1)=V:=⟨_,rfl⟩
   rw [A] at B hbx0 ⊢
   clear A
   have G : OC Y (V.alloc (.cells #[.slice a5 m m] 22)):=NX hbx0 (an _ _)
   have hO6:=hO.af G
   have hs6 : X.heap.size<=(V.alloc (.cells #[.slice a5 m m] 22)).heap.size:=J4 E.size G.size
   have hcn:=bf V (.slice a5 m m) 22
   have Hx0:=Z5 B
   clear B
   go_wp2_with (at_builtin;refine aS rfl _ _ 25 22 rfl (.slice none 0 0) 24 underlying25 dO rfl X.heap.size a1 (d+i) c1 _ rfl hO6.own ⟨V.heap.size,0,none⟩ 1 (.slice a5 m m) rfl hcn rfl (by omega) (by unfold maxLen;omega) hs6 ?_;intro a7 c7 w7 hown7 I hap7)
   go_roundw
   case rel =>
    have hul : (bM m (v : Int)).length=m:=by simp [bM]
    have hr : (V.alloc (.cells #[.slice a5 m m] 22)).ownsRow X.heap.size 3 1 (.slice a5 (bM m (v : Int)).length m) (bM m (v : Int)).length ((bM m (v : Int)).map (Value.int .i64)):=by rw [hul];exact bd (bp Hx0.out (an _ _)) E.size
    have hra : a5 ≠ none->¬ bX a1 R1 (ablk a5):=λh0 hI=>by have h1:=(ba Hx0.out h0).1;have h2:=(hO.lt _ hI).2;omega
    have hP:=Ob hO6 hr hra (by rw [hul];exact hown7) I hap7
    have hb7 : OC X w7:=N0 (NX E G) hO6.own I (JO _) hs6
    have hM7 : aD U2 w7 (λb=>b<U.heap.size) (λb=>b<U.heap.size):=(hMv.trans (N3 G _)).IE I Ha1.out
    refine ⟨i+1,a7,c7,by omega,by go_num,by rw [Nat.add_assoc],⟨_,by rw [Hun.out,<- KI];exact hP⟩,hb7,hM7,λh0=>?_⟩
    rcases Kz (ablk a7) U.heap.size with h1 | h1
    ·exact .inl h1
    ·rcases Kz (ablk a7) U2.heap.size with h2 | h2
     ·have h3 : eX a1 (ablk a7):=by
       by_cases ha : a1=none
       ·exact .inl ha
       ·refine .inr λe=>?_;rcases Ha1.out ha with h4 | h4 <;> omega
      have h5:=hMv.size
      have h6:=G.size
      rcases hap7 _ (by omega) h3 with h4 | h4
      ·exact absurd h4 h0
      ·exact absurd rfl h4
     ·exact .inr h2
   case measure=>simp [intOf] <;> omega
  ·obtain rfl : i=z:=by omega
   have hall : uP m Z i=Z.map (bM m):=by unfold uP;rw [JX (by rw [Hz.out];exact JO _)]
   rw [hall] at hO
   have hbF:=NX hbX E
   have hN:=HN2.out wr a1 (d+i) c1 _ hbF hO.je HU.out (by omega)
   unfold iw at hN
   rw [<- HW.out] at hN
   obtain ⟨q,hq⟩ : ∃q,W.length=q:=⟨_,rfl⟩
   rw [hq] at hN
   have Hq:=Z5 hq
   have HN:=Z5 hN
   have x1:=HX.out.af E
   have y0:=x1.cell 0 rfl
   have y1:=x1.cell 1 rfl
   have y2:=x1.cell 2 rfl
   clear hN hall hO x1 hq
   go_wp2_with fail
   refine HN.out.mono ?_
   rintro e w8 ⟨a8,c8,R8,rfl,hO8,hb8⟩
   have HF : Hid (aT w8 w.heap.size a8 q c8 R8 W/\OC w w8):=⟨hO8.mono hbF.size,NX hbF hb8⟩
   clear hO8 HN
   go_wp2_with fail
   go_ret
   rw [Hq.out]
   exact ⟨a8,c8,R8,rfl,HF.out.1,HF.out.2⟩
end Go.Proofs.YthglbncgemdcbaaGreat
