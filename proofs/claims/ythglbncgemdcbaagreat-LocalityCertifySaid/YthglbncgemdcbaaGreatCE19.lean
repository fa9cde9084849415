import Derived.RangeFuncNested
import Derived.Test.YthglbncgemdcbaaGreatCE14
import Derived.Test.YthglbncgemdcbaaGreatCE17
import Derived.Test.YthglbncgemdcbaaGreatCE16
namespace Go.Proofs.YthglbncgemdcbaaGreat
set_option linter.all false
set_option maxRecDepth 100000
set_option maxHeartbeats 8000000
open Go.RowKit Go.Proofs.Tryz
section
open Go.RowKit Go.Shelf
theorem aC.putAt (w:World) {I:Nat->Prop} {B:Nat} (Y:I B) (o:Obj):aC w (w.putObj B o) I I:=by have Z:=grownBy_putObj' w B o;exact ⟨Z.os,Z.tape,Z.output,Z.size,λb hb hI=>Z.block b hb (λe=>by cases e;exact hI Y),λb hb=>.inl hb⟩
theorem Ints.put {w:World} {a:OA} {n:Nat} {l:LI} (h:Ints w a n l) (B:Nat) (o:Obj) (Z:0<n->ablk a ≠ B):Ints (w.putObj B o) a n l :=
 h.of_block λY=>World.putObj_heap_other (λe=>Z Y e)
theorem tM {g:Operand} {ps:Array Tmp} {assign body:Code} {Q:Exit->Act->World->Prop} {a:Act} {w:World} {m n N:Nat} {lb:Array Value} {R:Ll}
  (hg:a.eval g = .func (.func 250) #[] lb) (eg:∀args w,(callFunc 250 args).run prog w = .ok (.enter 250 args) w) (hps:ps.size=2) (hm:1<=m) (hn1:1<=n)
  (X:Nat->Prop) (r:∀x,X x->x<w.heap.size)
  (hseq:∀(l:Nat) (J:List WX->World->Prop) (MM:Nat->Prop) (W:World),PY w W->W.heap.size=w.heap.size+2->(∀x,MM x->X x\/x=w.heap.size+1) ->
   (∀pre V z,J pre V->PY V z->J pre z)->(∀B pre V v,W.heap.size<=B->(∀x ∈ pre,ablk x.a ≠ B)->J pre V->J pre (V.setCell ⟨B,0,none⟩ v)) ->
   (∀m pre x V,J pre V->pre.length<N->Ints V x.a n x.l->(∀j,MM j->j ≠ ablk x.a)->Ka l n J MM m pre x V)->J [] W ->
   Calls prog 250 (#[.func (.yield l) #[] #[]] ++ lb) W λe V=>e = .returned (.tuple #[])/\∃xs:List WX,xs.map WX.l=R/\J xs V/\aC W V MM MM)
  (I:List WX->World->Prop) (hIa:∀pre V z,I pre V->PY V z->I pre z)
  (hIb:∀B pre V v,w.heap.size<=B->(∀x ∈ pre,ablk x.a ≠ B)->I pre V->I pre (V.setCell ⟨B,0,none⟩ v))
  (hIp:∀B pre V o,w.heap.size<=B->(∀x ∈ pre,ablk x.a ≠ B)->I pre V->I pre (V.putObj B o)) (h0:I [] w)
  (G:List WX->WX->Act)
  (S:∀(l m:Nat) (pre:List WX) (x:WX) (W:World) (K:Act->World->Prop),K (G pre x) W ->
   assign.wpIn (Fence.wide.inRound l) m prog (Exit.then K (λ_ _ _=>False)) { tmps:=(ps.zip #[cG (pre.length:Nat),.slice x.a n x.c]).foldl (λt (p,v)=>t.setIfInBounds p v) a.tmps,defers:=[] } W)
  (C:∀(l m:Nat) (pre:List WX) (x:WX) (W:World),I pre W->pre.length<N->Ints W x.a n x.l->(∀j,X j->j ≠ ablk x.a) ->
   body.wpIn (Fence.wide.inRound l) m prog (λe _ W'=>e = .normal/\I (pre ++ [x]) W'/\aC W W' X X) (G pre x) W)
  (D:∀(xs:List WX) (W:World),xs.map WX.l=R->I xs W->aC w W (λx=>X x\/w.heap.size<=x) (λx=>X x\/w.heap.size<=x)->W.heap[w.heap.size]? = some (.deferred (some []))->Q .normal { a with defers:={ target:=.collected w.heap.size,args:=#[] } :: a.defers } W) :
  (Code.rangeFunc g ps assign body).wpIn Fence.wide m prog Q a w:=by
 refine wpIn_rangeFunc ?_;intro fn hfn;obtain ⟨rec,Z⟩:∃rec:LoopState->Option Code->Loop,rec=λst pe=>{ state:=st,pending:=pe,fn,tmps:=a.tmps,params:=ps,assign,body,defers:=w.heap.size }:=⟨_,rfl⟩
 obtain ⟨H,L⟩:∃H,(w.alloc (.deferred (some []))).alloc (.loop (rec .ready none))=H:=⟨_,rfl⟩
 have hL1:H.heap[w.heap.size+1]? = some (.loop (rec .ready none)):=by rw [<- L];have:=World.alloc_heap_new (w.alloc (.deferred (some []))) (.loop (rec .ready none));rwa [MZ] at this
 have hK1:H.heap[w.heap.size]? = some (.deferred (some [])):=by rw [<- L];exact (Oa _ _ _ (by simp)).trans (World.alloc_heap_new w _)
 have E:PY w H:=by rw [<- L];exact bY _ _ _
 have hs1:H.heap.size=w.heap.size+2:=by rw [<- L];simp
 refine ⟨w.heap.size+1,[{ target:=.collected w.heap.size,args:=#[] }],H,{ target:=.fn (.func 250) lb,args:=#[.func (.yield (w.heap.size+1)) #[] #[]] },H,250,
  #[.func (.yield (w.heap.size+1)) #[] #[]] ++ lb,H,?_,?_,?_,?_,λ_=>hm,?_⟩
 ·rw [<- L,Z];exact run_enterLoop_outer _ _ _ _ _
 ·simp only [resolve,hg];simp [go_sem]
 ·intro f' hf';trivial
 ·simp [invoke,go_sem,eg]
 ·refine callsIn_wide.2 ((hseq (w.heap.size+1)
   (λpre W=>I pre W/\W.heap[w.heap.size+1]? = some (.loop (rec .ready none))/\W.heap[w.heap.size]? = some (.deferred (some []))/\∀x ∈ pre,ablk x.a ≠ w.heap.size+1)
   (λx=>X x\/x=w.heap.size+1) H E hs1 (λx h=>h) ?_ ?_ ?_ ⟨hIa _ _ _ h0 E,hL1,hK1,λx hx=>by simp at hx⟩).mono ?_)
  ·rintro pre V z ⟨h1,h2,h3,h4⟩ hb;exact ⟨hIa _ _ _ h1 hb,(hb.block _ (Array.getElem?_eq_some_iff.1 h2).1).trans h2,(hb.block _ (Array.getElem?_eq_some_iff.1 h3).1).trans h3,h4⟩
  ·rintro B pre V v hB hx ⟨h1,h2,h3,h4⟩;exact ⟨hIb B _ _ _ (by omega) hx h1,(Lf _ _ _ _ (by show w.heap.size+1 ≠ B;omega)).trans h2,(Lf _ _ _ _ (by show w.heap.size ≠ B;omega)).trans h3,h4⟩
  ·rintro k pre x V ⟨hi,hl,hd,U⟩ hlen hix hxM;have hlt:w.heap.size+1<V.heap.size:=(Array.getElem?_eq_some_iff.1 hl).1;have A:ablk x.a ≠ w.heap.size+1:=λe=>hxM _ (.inr rfl) e.symm;have Y:=run_yield (P:=prog) (args:=#[cG (pre.length:Nat),.slice x.a n x.c]) hl (by rw [Z];exact hps.symm ▸ rfl);rw [Z] at Y;refine ⟨fn,_,assign,body,Y,roundIn_of_wpIn hfn (S _ _ pre x V _ ⟨_,run_beginRound hl (by rw [Z]),?_⟩)⟩;have hl2:(V.putObj (w.heap.size+1) (.loop { rec .ready none with state:=.busy })).heap[w.heap.size+1]? = some (.loop { rec .ready none with state:=.busy }):=World.putObj_heap_same hlt;have hd2:(V.putObj (w.heap.size+1) (.loop { rec .ready none with state:=.busy })).heap[w.heap.size]? = some (.deferred (some [])):=(World.putObj_heap_other (by omega)).trans hd;have hm2:aC V (V.putObj (w.heap.size+1) (.loop { rec .ready none with state:=.busy })) (λx=>X x\/x=w.heap.size+1) (λx=>X x\/x=w.heap.size+1):=aC.putAt _ (.inr rfl) _;refine wpIn_mono (C _ _ pre x _ (hIp _ _ _ _ (by omega) U hi) hlen (hix.put _ _ (λ_=>A)) (λj hj=>hxM j (.inl hj))) ?_;rintro e a3 W3 ⟨rfl,hi3,F⟩;have hnl:¬ X (w.heap.size+1):=λh=>by have:=r _ h;omega
   have hnd:¬ X w.heap.size:=λh=>by have:=r _ h;omega
   have hl3:=(F.block _ (Array.getElem?_eq_some_iff.1 hl2).1 hnl).trans hl2;have hd3:=(F.block _ (Array.getElem?_eq_some_iff.1 hd2).1 hnd).trans hd2;have hr:=run_endRound (P:=prog) none hl3;rw [Z] at hr;refine ⟨_,_,hr,rfl,⟨hIp _ _ _ _ (by omega) ?_ hi3,?_,?_,?_⟩,?_⟩
   ·intro y Y;rcases List.mem_append.1 Y with Y | Y
    ·exact U y Y
    ·rw [List.mem_singleton.1 Y];exact A
   ·rw [Z];exact World.putObj_heap_same (Array.getElem?_eq_some_iff.1 hl3).1
   ·exact (World.putObj_heap_other (by omega)).trans hd3
   ·intro y Y;rcases List.mem_append.1 Y with Y | Y
    ·exact U y Y
    ·rw [List.mem_singleton.1 Y];exact A
   ·exact (hm2.trans (F.wide (λx h=>.inl h))).trans (aC.putAt _ (.inr rfl) _)
  ·rintro e W2 ⟨rfl,xs,hx,⟨hi,hl,hd,U⟩,hmv⟩;refine ⟨none,_,by have:=run_endLoop (P:=prog) hl (by rw [Z];simp);rw [Z] at this;exact this,D xs _ hx (hIp _ _ _ _ (by omega) U hi) ?_ ((World.putObj_heap_other (by omega)).trans hd)⟩;have hw:aC w W2 (λx=>X x\/w.heap.size<=x) (λx=>X x\/w.heap.size<=x):=(Pr E _).trans (hmv.wide (λx h=>h.elim .inl (λe=>.inr (by omega))));exact hw.trans (aC.putAt _ (.inr (by omega)) _)
end
theorem oW (x:Int) (w:World):Calls prog 221 #[cG x] w λe w'=>e = .returned (.bool false)/\w=w':=by go_enter func221,ntmps221;go_wp2;go_ret;exact ⟨by simp,rfl⟩
def tV (x y:Int):Int:=if x<y then -1 else if y<x then 1 else 0
theorem sG (x y:Int) (w:World):Calls prog 212 #[cG x,cG y] w λe w'=>e = .returned (cG (tV x y))/\w=w':=by
 obtain ⟨r,Z⟩:∃r,tV x y=r:=⟨_,rfl⟩
 rw [Z];go_enter func212,ntmps212;unfold tV at Z;by_cases h1:x<y
 ·have d1:decide (x<y)=true:=by simpa using h1
  rw [KX h1] at Z;clear h1;go_wp2_with (go_at_call 221;refine (oW _ _).mono ?_;rintro e w' ⟨rfl,rfl⟩);go_ret;exact ⟨by rw [<- Z];rfl,rfl⟩
 ·have d1:decide (x<y)=false:=by simpa using h1
  rw [KY h1] at Z;by_cases h2:y<x
  ·have d2:decide (y<x)=true:=by simpa using h2
   rw [KX h2] at Z;clear h1 h2;go_wp2_with (go_at_call 221;refine (oW _ _).mono ?_;rintro e w' ⟨rfl,rfl⟩);go_ret;exact ⟨by rw [<- Z];rfl,rfl⟩
  ·have d2:decide (y<x)=false:=by simpa using h2
   rw [KY h2] at Z;clear h1 h2;go_wp2_with (go_at_call 221;refine (oW _ _).mono ?_;rintro e w' ⟨rfl,rfl⟩);go_ret;exact ⟨by rw [<- Z];rfl,rfl⟩
theorem CL:∀ {a b:LI} {k:Nat},(∀j,j<k->nth a j=nth b j)->k<a.length->k<b.length->tV (nth a k) (nth b k) ≠ 0->cmpL a b=tV (nth a k) (nth b k)
 | [],_,k,_,h,_,_=>by simp at h
 | x :: a,[],k,_,_,h,_=>by simp at h
 | x :: a,y :: b,0,_,_,_,hne=>by
  have e1:nth (x :: a) 0=x:=rfl;have Z:nth (y :: b) 0=y:=rfl;rw [e1,Z] at hne ⊢;rw [cmpL];unfold tV at hne ⊢;split
  ·rfl
  ·split
   ·rfl
   ·rename_i h1 h2;rw [KY h1,KY h2] at hne;exact absurd rfl hne
 | x :: a,y :: b,k+1,h0,ha,hb,hne=>by
  have e:x=y:=by simpa [nth] using h0 0 (by omega)
  rw [cmpL,KY (by omega),KY (by omega)];have h1:=CL (a:=a) (b:=b) (k:=k) (λj Y=>by simpa [nth] using h0 (j+1) (by omega)) (by simpa using ha) (by simpa using hb) (by simpa [nth] using hne);simpa [nth] using h1
theorem qZ:∀ {a b:LI} {k:Nat},(∀j,j<k->nth a j=nth b j)->(k=a.length\/k=b.length)->k<=a.length->k<=b.length->cmpL a b=if a.length<b.length then -1 else if b.length<a.length then 1 else 0
 | [],[],_,_,_,_,_=>by simp [cmpL]
 | [],y :: b,_,_,_,_,_=>by simp [cmpL]
 | x :: a,[],_,_,_,_,_=>by simp [cmpL]
 | x :: a,y :: b,0,_,h,_,_=>by simp at h
 | x :: a,y :: b,k+1,h0,h,ha,hb=>by
  have e:x=y:=by simpa [nth] using h0 0 (by omega)
  rw [cmpL,KY (by omega),KY (by omega)];have h1:=qZ (a:=a) (b:=b) (k:=k) (λj Z=>by simpa [nth] using h0 (j+1) (by omega)) (by simpa using h) (by simpa using ha) (by simpa using hb);rw [h1];simp
theorem xE (a:OA) (n c:Nat) (l:LI) (a2:OA) (V c2:Nat) (X:LI) (w:World) (hi:Ints w a n l) (U:Ints w a2 V X) :
  Calls prog 159 #[.slice a n c,.slice a2 V c2] w λe w'=>e = .returned (cG (cmpL l X))/\w=w':=by
 have L:=Z5 hi.len;have Y:=Z5 U.len;have hpl:=hi.pl;have A:=U.pl;have G:=hi.max;have N:=U.max;unfold maxLen at G N;go_enter func159,ntmps159;go_wp2_with fail;go_loop [11] (λC=>∃k:Nat,k<=n/\k<=V/\C = cG k/\Hid (∀j,j<k->nth l j=nth X j)) (λC=>n - (intOf C).toNat);case atStart=>exact ⟨0,K0 _,K0 _,rfl,λj hj=>by omega⟩
 case round =>
  obtain ⟨k,z,K,rfl,Z⟩:=hrel
  by_cases H:k<n
  ·have ck:=hi.cell k H
   by_cases S:k<V
   ·have ck2:=U.cell k S
    have D:decide ((V:Int)<=(k:Int))=false:=by simp;omega
    by_cases he:tV (nth l k) (nth X k)=0
    ·have B:Hid (nth l k=nth X k):=by
      show _=_;unfold tV at he;split at he
      ·omega
      ·split at he
       ·omega
       ·omega
     have F:=sG (nth l k) (nth X k)
     rw [he] at F
     have E:=Z5 F
     clear he F
     go_wp2_with (go_at_call 212;refine (E _).mono ?_;rintro e w' ⟨rfl,rfl⟩)
     go_round
     case rel=>exact ⟨k+1,by omega,by omega,by go_num,λj hj=>by
      rcases LP j k with h | h
      ·exact Z j h
      ·rw [show j=k by omega];exact B⟩
     case measure=>simp [intOf] <;> omega
    ·have Q:=Z5 (CL Z.out (by rw [L.out];exact H) (by rw [Y.out];exact S) he)
     have E:=Z5 (sG (nth l k) (nth X k))
     have hne:(tV (nth l k) (nth X k) != 0)=true:=by simpa using he
     clear he
     generalize tV (nth l k) (nth X k)=r at *
     go_wp2_with (go_at_call 212;refine (E _).mono ?_;rintro e w' ⟨rfl,rfl⟩)
     go_ret
     exact ⟨aN Q.symm,rfl⟩
   ·have D:decide ((V:Int)<=(k:Int))=true:=by simp;omega
    have Q:Hid (cmpL l X=1):=by show _=_;rw [qZ Z.out (.inr (by rw [Y.out];omega)) (by rw [L.out];exact z) (by rw [Y.out];exact K),L.out,Y.out,KY (by omega),KX (by omega)]
    go_wp2_with fail
    go_ret
    exact ⟨aN Q.symm,rfl⟩
  ·have Q:Hid (cmpL l X=if n<V then -1 else 0):=by show _=_;rw [qZ Z.out (.inl (by rw [L.out];omega)) (by rw [L.out];exact z) (by rw [Y.out];exact K),L.out,Y.out,KY (show ¬ V<n by omega)]
   obtain rfl:k=n:=by omega
   by_cases h2:k<V
   ·rw [KX h2] at Q
    go_wp2_with fail
    go_ret
    exact ⟨aN Q.symm,rfl⟩
   ·rw [KY h2] at Q
    go_wp2_with fail
    go_ret
    exact ⟨aN Q.symm,rfl⟩
section
open Go.RowKit Go.Shelf
theorem zJ:(prog.info? 22).map (λi=>(i.zero,i.size,i.bytes))=some (some ds,1,24):=by kernel_rfl
theorem IC (n:Nat) (V:n<=1000000) (w:World) :
  (Instr.makeSlice 25 (cG 0) (cG n)).run prog w = .ok (.slice (some ⟨w.heap.size,0,none⟩) 0 n) (w.alloc (.cells (List.replicate n (Value.slice none 0 0)).toArray 22)):=by
 obtain ⟨i,hi,Y,X,Z⟩:=info_parts zJ;have h:=run_make (P:=prog) w 25 22 i ds underlying25 hi Y .i64 .i64 0 n (by omega) (by omega) (by rw [Z];omega) (by omega);rw [X,Nat.mul_one,show (Value.slice none 0 0).cells = #[Value.slice none 0 0] from rfl,KV] at h;have e:madeCells #[Value.slice none 0 0] n=(List.replicate n (Value.slice none 0 0)).toArray:=by rw [<- toList_madeCells_one]
 rw [h,e];rfl
def B5 (B X Z n Y:Nat) (pre:List WX) (V:World):Prop :=
 (aQ V X [.slice (some ⟨Z,0,none⟩) pre.length Y]/\V.ownsRow B 22 1 (.slice (some ⟨Z,0,none⟩) pre.length Y) pre.length (pre.map λx=>.slice x.a n x.c)) /\
  ∀x ∈ pre,Ints V x.a n x.l/\ablk x.a ≠ X/\ablk x.a ≠ Z
theorem B5.bp {B Y U n Q:Nat} {pre:List WX} {V X:World} (h:B5 B Y U n Q pre V) (S:X.heap[Y]? = V.heap[Y]?) (N:X.heap[U]? = V.heap[U]?) (L:∀x ∈ pre,X.heap[ablk x.a]? = V.heap[ablk x.a]?) (H:V.heap.size<=X.heap.size):B5 B Y U n Q pre X :=
 ⟨⟨⟨Lx h.1.1.1 H,λi v K=>(Lu (w:=V) (a:=⟨Y,i,none⟩) S).trans (h.1.1.2.1 i v K),λi=>(LK (w:=V) (a:=⟨Y,i,none⟩) S).trans (h.1.1.2.2 i)⟩,
  fg h.1.2 N⟩,λx Z=>⟨(h.2 x Z).1.of_block λ_=>L x Z,(h.2 x Z).2⟩⟩
theorem B5.Kc {B X Z n Y:Nat} {pre:List WX} {V:World} (h:B5 B X Z n Y pre V):B<=Z/\Z<V.heap.size:=aT h.1.2 (by simp)
theorem aQ.Kx {w:World} {b:Nat} {v:Value} (h:aQ w b [v]) (u:Value):aQ (w.setCell ⟨b,0,none⟩ u) b [u] :=
 ⟨by have:=((KU 0 w).setCell (p:=⟨b,0,none⟩) (K0 _) u).size;exact Lx h.1 this,λi x Z=>by
  cases i with
  | zero=>simp at Z;subst Z;exact Nl _ _ _ (by rw [h.2.1 0 v rfl];rfl)
  | succ i=>simp at Z,λi=>by rw [L7];exact h.2.2 i⟩
theorem aQ.of_block {w w':World} {b:Nat} {cs:List Value} (h:aQ w b cs) (hb:w'.heap[b]? = w.heap[b]?) (Y:w.heap.size<=w'.heap.size):aQ w' b cs :=
 ⟨Lx h.1 Y,λi v Z=>(Lu (w:=w) (a:=⟨b,i,none⟩) hb).trans (h.2.1 i v Z),λi=>(LK (w:=w) (a:=⟨b,i,none⟩) hb).trans (h.2.2 i)⟩
theorem aC.JL {w w':World} {I:Nat->Prop} {B:Nat} (Z:w.grownBy w' (some B)) (Y:I B):aC w w' I I :=
 ⟨Z.os,Z.tape,Z.output,Z.size,λb hb hI=>Z.block b hb (λe=>by cases e;exact hI Y),λb hb=>.inl hb⟩
theorem B5.step {B Z n S:Nat} {pre:List WX} {x:WX} {W X:World} {o:Obj} (h:B5 B (Z+1) Z n S pre W) (H:Ints W x.a n x.l) (E:1<=n) (G:ablk x.a ≠ Z+1) (N:ablk x.a ≠ Z)
  (L:(W.alloc o).grownBy X (some Z)) (Q:X.ownsRow B 22 1 (.slice (some ⟨Z,0,none⟩) (pre.length+1) S) (pre.length+1) (pre.map (λx=>.slice x.a n x.c) ++ [.slice x.a n x.c])) :
  B5 B (Z+1) Z n S (pre ++ [x]) (X.setCell ⟨Z+1,0,none⟩ (.slice (some ⟨Z,0,none⟩) (pre.length+1) S)) /\
   aC W (X.setCell ⟨Z+1,0,none⟩ (.slice (some ⟨Z,0,none⟩) (pre.length+1) S)) (λy=>y=Z+1\/y=Z) (λy=>y=Z+1\/y=Z):=by
 have V:∀y,y<W.heap.size->y ≠ Z->X.heap[y]? = W.heap[y]?:=λy U h2=>(L.block y (by simp;omega) (λe=>by cases e;exact h2 rfl)).trans (Oa _ _ _ U);have F:W.heap.size<=X.heap.size:=by have:=L.size;simp at this;omega
 have K:aQ X (Z+1) [.slice (some ⟨Z,0,none⟩) pre.length S]:=h.1.1.of_block (V _ h.1.1.1 (by omega)) F;refine ⟨⟨⟨by rw [K6];exact K.Kx _,?_⟩,?_⟩,((Pr (an W o) _).trans (aC.JL L (.inr rfl))).trans (aC.setAt _ (.inl rfl) _)⟩
 ·have h2:=fg Q (w':=X.setCell ⟨Z+1,0,none⟩ (.slice (some ⟨Z,0,none⟩) (pre.length+1) S)) (Lf _ _ _ _ (by show Z ≠ Z+1;omega));rw [K6,LJ];exact h2
 ·intro y U;have Y:Ints W y.a n y.l/\ablk y.a ≠ Z+1/\ablk y.a ≠ Z:=by
   rcases List.mem_append.1 U with U | U
   ·exact h.2 y U
   ·rw [List.mem_singleton.1 U];exact ⟨H,G,N⟩
  refine ⟨Y.1.of_block λh0=>?_,Y.2⟩;exact (Lf _ _ _ _ (by show ablk y.a ≠ Z+1;exact Y.2.1)).trans (V _ (Y.1.lt h0) Y.2.2)
attribute [local go_sem] Ol
theorem FZ (P M:Int) (am:OA) (Z cm:Nat) (N:Int) (a:OA) (k c:Nat) (w:World) :
  Calls prog 211 #[.agg #[cG P,cG M,.slice am Z cm,cG N,.slice a k c]] w λe w' =>
   e = .returned (.func (.func 250) #[] #[.pointer (some ⟨w.heap.size,0,none⟩)])/\w'=w.alloc (.cells #[cG P,cG M,.slice am Z cm,cG N,.slice a k c] 27):=by have Y:∀(fn:Fn) (first cap:Array Value) (w:World),(Instr.makeFunc fn first cap).run prog w = .ok (.func fn first cap) w:=λ_ _ _ _=>rfl;go_enter func211,ntmps211;go_wp2;go_ret;exact ⟨rfl,rfl⟩
theorem DN (P M:Int) (am:OA) (D cm:Nat) (mod:LI) (n:Nat) (a:OA) (k c:Nat) (L:Ll) (w:World) (Y:Nat) (hE:aI P M mod n L=0) (hmod:Ints w am D mod) (hi:bw w a k L)
  (r:(ah P M.toNat mod).q ^ k=Y) (hN6:Y<=65536) :
  Calls prog 158 #[.agg #[cG P,cG M,.slice am D cm,cG n,.slice a k c]] w λe w' =>
   ∃ao co,e = .returned (.tuple #[.slice ao Y co,cG 0])/\bw w' ao Y (wlkS (ah P M.toNat mod).ops (ah P M.toNat mod).q L (List.replicate n 0))/\PY w w':=by
 obtain ⟨N',em,hm1,hm64,F,hR⟩:=aZ hE;obtain rfl:n=N':=by omega
 have HSz:Hid (∀V,PY w V->Calls prog 210 #[.agg #[cG P,cG M,.slice am D cm,cG n,.slice a k c]] V λe w'=>e = .returned (.tuple #[cG (Y:Nat),cG 0])/\PY V w'):=λV hV=>by
  refine (zL P M am D cm mod n a k c L V hE (hmod.af hV) (hi.af hV)).mono ?_;rintro e w' ⟨rfl,h2⟩;have h3:((ah P M.toNat mod).q:Int) ^ k=(Y:Nat):=by rw [<- r];simp
  have h4:=ob (q:=(ah P M.toNat mod).q) (k:=k) (by rw [h3];omega);rw [h4.1,h4.2,h3];exact ⟨rfl,h2⟩
 have HWk:Hid (∀(W:World) (Bc l:Nat),PY w W->aQ W Bc [cG P,cG M,.slice am D cm,cG n,.slice a k c]->∀(J:List WX->World->Prop) (MM:Nat->Prop),(∀x,MM x->x<W.heap.size) ->
   (∀V,(∀x,x<W.heap.size->¬ MM x->V.heap[x]? = W.heap[x]?)->bw V a k L/\V.cell? ⟨Bc,4,none⟩=some (.slice a k c)) ->
   (∀pre V V',J pre V->PY V V'->J pre V')->(∀B pre V v,W.heap.size<=B->(∀x ∈ pre,ablk x.a ≠ B)->J pre V->J pre (V.setCell ⟨B,0,none⟩ v)) ->
   (∀m pre x V,J pre V->pre.length<Y->Ints V x.a n x.l->(∀j,MM j->j ≠ ablk x.a)->Ka l n J MM m pre x V)->J [] W ->
   Calls prog 250 #[.func (.yield l) #[] #[],.pointer (some ⟨Bc,0,none⟩)] W λe V=>e = .returned (.tuple #[]) /\
    ∃xs:List WX,xs.map WX.l=wlkS (ah P M.toNat mod).ops (ah P M.toNat mod).q L (List.replicate n 0)/\J xs V/\aC W V MM MM):=by intro W Bc l hb X J MM h1 h2 h3 h4 h5 h6;refine DS P M am D cm mod n a k c L W Bc l hE X (hmod.af hb) (hi.af hb) J MM h1 h2 h3 h4 ?_ (by rw [r];omega) h6;intro m pre x V hj hl;rw [r] at hl;exact h5 m pre x V hj hl
 have Hmat:Hid (∀V,(∀x,x<w.heap.size->V.heap[x]? = w.heap[x]?)->bw V a k L):=λV hV=>⟨hi.len,hi.pl,hi.max,λi hik=>by obtain ⟨b,m,c',h1,h2⟩:=hi.cell i hik;exact ⟨b,m,c',(Lu (w:=w) (hV _ (Lb _ _ h1))).trans h1,h2.of_block λh0=>hV _ (h2.lt h0)⟩⟩
 have Hlen:Hid ((wlkS (ah P M.toNat mod).ops (ah P M.toNat mod).q L (List.replicate n 0)).length=Y):=by show _=_;rw [jy,hi.len,r]
 generalize wlkS (ah P M.toNat mod).ops (ah P M.toNat mod).q L (List.replicate n 0)=R at *;clear r hR F em hE hmod hi;refine (callsIn_wide (n:=8)).1 ?_;refine callsIn_of_wp_marks func158 rfl trivial ?_ rfl;simp only [ntmps158,MV,LB,M9,Nat.reduceAdd,Nat.reduceSub,My,Mz,MW,ME,L3,MG];refine wpIn_wide.2 ?_;go_upto_region 1 with fail;obtain ⟨W1,hW1⟩:∃W1:World,W1=w.alloc (.cells #[cG P,cG M,.slice am D cm,cG n,.slice a k c] 27):=⟨_,rfl⟩
 rw [<- hW1];have hb1:PY w W1:=by rw [hW1];exact an _ _
 have x1:aQ W1 w.heap.size [cG P,cG M,.slice am D cm,cG n,.slice a k c]:=by rw [hW1];exact Po _ _ _ rfl
 have X1:=Z5 x1;have c0:=x1.cell 0 rfl;have c1:=x1.cell 1 rfl;have c2:=x1.cell 2 rfl;have c3:=x1.cell 3 rfl;have c4:=x1.cell 4 rfl;clear hW1 x1;go_upto_region 4 with (go_at_call 210;refine (HSz _ hb1).mono ?_;rintro e w2 ⟨rfl,hb2⟩;clear c0 c1 c2 c3 c4)
 have hmk:=λV=>IC Y (by omega) V;go_upto_region 5 with fail;obtain ⟨Z,C⟩:∃Z,Z=w2.heap.size:=⟨_,rfl⟩
 rw [<- C];obtain ⟨Q,E⟩:∃Q:World,Q=((w2.alloc (.cells (Array.replicate Y (Value.slice none 0 0)) 22)).alloc (.cells #[.slice (some ⟨Z,0,none⟩) 0 Y] 25)):=⟨_,rfl⟩
 rw [<- E];have hb3:PY w2 Q:=by rw [E];exact bY _ _ _
 have S:Q.heap.size=Z+2:=by rw [E,C];simp
 have hwB:w.heap.size<Z:=by have h1:=X1.1;have h2:=hb2.size;omega
 have hwi:B5 w.heap.size (Z+1) Z n Y [] Q:=by
  refine ⟨⟨?_,?_⟩,λx X=>by simp at X⟩
  ·rw [E];exact Po _ _ _ (by rw [C];simp)
  ·refine ⟨rfl,.inr ⟨Z,Y,Array.replicate Y (Value.slice none 0 0),rfl,by omega,?_,by simp,by unfold maxLen;omega,by simp,by simp⟩⟩;rw [E,C];exact (Oa _ _ _ (by simp)).trans (World.alloc_heap_new w2 _)
 have Hwi:=Z5 hwi;have HBr:=Z5 C;have hb13:=Pm (Pm hb1 hb2) hb3;have x3:=(X1.af hb2).af hb3;have c0:=x3.cell 0 rfl;have c1:=x3.cell 1 rfl;have c2:=x3.cell 2 rfl;have c3:=x3.cell 3 rfl;have c4:=x3.cell 4 rfl;have Hs3:=Z5 S;clear E hwi C x3 hmk;go_wp2_with (go_at_call 211;refine (FZ P M am D cm n a k c Q).mono ?_;rintro e z ⟨rfl,H⟩;have Hw4:=Z5 H;clear H S);have H:=Hw4.out;have S:=Hs3.out;have hb4:PY Q z:=by rw [H];exact an _ _
 have A:z.heap.size=Q.heap.size+1:=by rw [H];simp
 have x4:aQ z Q.heap.size [cG P,cG M,.slice am D cm,cG n,.slice a k c]:=by rw [H];exact Po _ _ _ rfl
 clear H c0 c1 c2 c3 c4;have hi4:B5 w.heap.size (Z+1) Z n Y [] z:=B5.bp Hwi.out (hb4.block _ (by omega)) (hb4.block _ (by omega)) (λx X=>by simp at X) hb4.size;have Hs4:=Z5 A;obtain ⟨i0,hi,hz0,hz1,hz2⟩:=info_parts zJ;have hMB4:∀x,(x=Z+1\/x=Z)->x<z.heap.size:=λx X=>by omega
 clear S A;refine (wpIn_wide (n:=8)).1 ?_;refine tM (n:=n) (N:=Y) (lb:=#[.pointer (some ⟨Q.heap.size,0,none⟩)]) (R:=R) rfl (enters_of func250 (by kernel_rfl) rfl) rfl (by omega) hm1
  (λx=>x=Z+1\/x=Z) hMB4 ?hseq (B5 w.heap.size (Z+1) Z n Y) ?hIa ?hIb ?hIp hi4
  (λpre x=>{ tmps:=#[.agg #[cG P,cG M,.slice am D cm,cG n,.slice a k c],.pointer (some ⟨w.heap.size,0,none⟩),ds,cG 0,cG Y,cG 0,.pointer (some ⟨Z+1,0,none⟩),undef,.slice x.a n x.c,
   .tuple #[cG Y,cG 0],.agg #[cG P,cG M,.slice am D cm,cG n,.slice a k c],.tuple #[cG Y,cG 0],cG Y,cG 0,cG 0,.bool false,undef,cG Y,.slice (some ⟨Z,0,none⟩) 0 Y,
   .agg #[cG P,cG M,.slice am D cm,cG n,.slice a k c],.func (.func 250) #[] #[.pointer (some ⟨Q.heap.size,0,none⟩)],cG (pre.length:Nat),.slice x.a n x.c,undef,undef,undef,undef,undef],defers:=[] })
  ?assign ?body ?done
 case hseq =>
  intro l J MM W hb hs hMM hJa hJb hY h0
  have S:=Hs3.out
  have A:=Hs4.out
  have hbw:PY w W:=Pm (Pm hb13 hb4) hb
  refine HWk W Q.heap.size l hbw (x4.af hb) J MM (λx X=>by have:=hMM x X;omega) (λV hV=>?_) hJa hJb hY h0
  have hwV:∀x,x<w.heap.size->V.heap[x]? = w.heap[x]?:=λx X=>(hV x (by have:=hbw.size;omega) (λh=>by have:=hMM x h;have:=hb4.size;omega)).trans (hbw.block x X)
  refine ⟨Hmat V hwV,?_⟩
  ·refine (Lu (w:=W) (a:=⟨Q.heap.size,4,none⟩) (hV _ ?_ ?_)).trans ((x4.af hb).cell 4 rfl)
   ·have:=(x4.af hb).1;exact this
   ·intro h
    have h2:(Q.heap.size=Z+1\/Q.heap.size=Z)\/Q.heap.size=z.heap.size+1:=hMM _ h
    omega
 case hIa =>
  intro pre V V' h hb
  exact h.bp (hb.block _ h.1.1.1) (hb.block _ h.Kc.2) (λx X=>hb.block _ ((h.2 x X).1.lt hm1)) hb.size
 case hIb =>
  intro B pre V v hB X h
  have S:=Hs3.out
  have A:=Hs4.out
  refine h.bp (Lf _ _ _ _ ?_) (Lf _ _ _ _ ?_) (λx hxp=>Lf _ _ _ _ (X x hxp)) (((KU 0 V).setCell (p:=⟨B,0,none⟩) (K0 _) v).size)
  ·show Z+1 ≠ B;omega
  ·show Z ≠ B;omega
 case hIp =>
  intro B pre V o hB X h
  have S:=Hs3.out
  have A:=Hs4.out
  refine h.bp (World.putObj_heap_other ?_) (World.putObj_heap_other ?_) (λx hxp=>World.putObj_heap_other (X x hxp)) (grownBy_putObj' V B o).size
  ·omega
  ·omega
 case assign =>
  intro l m pre x W K hK
  gi_wp2
  exact hK
 case body =>
  rintro l m pre x W h hlt hix hxM
  have hcv:=h.1.1.cell 0 rfl
  have hrow:=h.1.2
  obtain ⟨v,hv⟩:∃v,v=Value.slice (some ⟨Z,0,none⟩) pre.length Y:=⟨_,rfl⟩
  rw [<- hv] at hcv
  have Hv:=Z5 hv
  have Hh:=Z5 h
  clear hv h
  gi_wp2_with (gi_at_builtin;refine wpListIn_append_fits _ rfl _ _ 25 rfl w.heap.size 22 i0 1 underlying25 hi hz1 Z pre.length Y (pre.map λx=>.slice x.a n x.c) Hv.out (hrow.alloc _) ⟨W.heap.size,0,none⟩ 1 1 [.slice x.a n x.c] rfl rfl (cell_one_new _ _ _) (by simp [Value.oneCell']) (by omega) ?_;intro w1 hown1 U;have hbo:aQ w1 (Z+1) [.slice (some ⟨Z,0,none⟩) pre.length Y]:=(Hh.1.1.alloc _).of_block (U.block _ (Hh.1.1.alloc _).1 (λe=>by injection e with e;omega)) U.size;have hc1:=hbo.cell 0 rfl;have hf1:=hbo.frozen 0)
  have hst:=B5.step Hh.out hix hm1 (λe=>hxM _ (.inl rfl) e.symm) (λe=>hxM _ (.inr rfl) e.symm) U hown1
  exact ⟨hst.1,hst.2⟩
 case done =>
  intro xs V X hI hm hK
  have hcv:=hI.1.1.cell 0 rfl
  have HI:=Z5 hI
  have Hm:=Z5 hm
  have Hx:=Z5 X
  clear hI hm X
  go_wp2_with fail
  refine ⟨by simp,.inl ⟨_,_,rfl,run_takeDeferred hK,?_⟩⟩
  have hxl:xs.length=Y:=by rw [<- Hlen.out,<- Hx.out,Lc]
  have hIV:B5 w.heap.size (Z+1) Z n Y xs (V.putObj z.heap.size (.deferred none)):=by
   have S:=Hs3.out;have A:=Hs4.out;have hlo:∀x ∈ xs,ablk x.a ≠ z.heap.size:=λx X e=>by obtain ⟨_,ix⟩:=(HI.2 x X).1.cell 0 hm1 |> λh=>K3 h (Array.getElem?_eq_some_iff.1 hK).1;have h1:=(HI.2 x X).1.cell 0 hm1;rw [e] at h1;simp [World.cell?,hK] at h1
   exact HI.bp (World.putObj_heap_other (by omega)) (World.putObj_heap_other (by omega)) (λx X=>World.putObj_heap_other (hlo x X)) (grownBy_putObj' V _ _).size
  have G:PY w z:=Pm hb13 hb4
  have hbV:Below w.heap.size z V:=Hm.below (λb hb=>by have:=G.size;omega) G.size
  refine ⟨_,results_tmp2 rfl _ _ _,some ⟨Z,0,none⟩,Y,?_,?_,?_⟩
  ·simp [hxl]
  ·refine ⟨Hlen,λ_=>rfl,by unfold maxLen;omega,λi hi=>?_⟩
   obtain ⟨y,hy⟩:∃y,xs[i]? = some y:=⟨xs[i],LC (by omega)⟩
   have hrow:=hIV.1.2
   have hc:=hrow.cellAt i (by omega)
   rw [MS,hy] at hc
   refine ⟨y.a,n,y.c,?_,?_⟩
   ·have e:aJ (some ⟨Z,0,none⟩:OA)+i=i:=by simp [aJ]
    rw [e];exact hc
   ·have h2:=(hIV.2 y (List.mem_of_getElem? hy)).1
    have e:ai R i=y.l:=by
     rw [<- Hx.out,aE (by rw [Lc];omega),LU];rw [LC (by omega)] at hy;injection hy with hy
     rw [hy]
    rw [e];exact h2
  ·exact (G.trans hbV).trans (belowK_b (w:=z) G.size V z.heap.size _ _ (KT _) hK rfl rfl)
end
section
variable {O:aP} {El:Int->Prop} {m:Nat} {R:Ll} {P:LI}
theorem ec (F:bK O El) (hI:BS.Inv El m ⟨R,P⟩) {S:Ll} (hS:bt El m S) (X:eF O El m R S) {v:LI} (Q:Vc El m v):∀k,k<=R.length->(RS O El m S (λx=>nth (redTo O R P v k) x) ↔ RS O El m S (λx=>nth v x))
 | 0,_=>Iff.rfl
 | k+1,N=>by
  have hu:Vc El m (redTo O R P v k):=PK F hI.ok Q k (show k<=R.length by omega);have Y:(nth P k).toNat<m:=hI.ok.pl (show k<R.length by omega);have V:Vc El m (ai R k):=hI.ok.row (show k<R.length by omega);refine Iff.trans ?_ (ec F hI hS X Q k (by omega));constructor
  ·intro h;refine (RS.add F hS h (X k (by omega)) (hu.at Y)).congr λx Z=>?_;have e1:=hu.at Z;have U:=F.cl.mul _ _ (hu.at Y) (V.at Z);rw [redTo,fG F hu V Y Z,F.mul_comm _ _ (V.at Z) (hu.at Y),F.add_assoc _ _ _ e1 (F.cl.neg _ U) U,F.lL U,F.add_zero _ e1]
  ·intro h;refine (h.comb F (X k (by omega)) (hu.at Y)).congr λx Z=>?_;rw [redTo,fG F hu V Y Z,F.mul_comm _ _ (hu.at Y) (V.at Z)]
theorem fU {A B:Ll} (h:∀r ∈ A,RS O El m B (λx=>nth r x)):eF O El m A B:=λi hi=>h _ (eZ hi)
theorem nS {A B:Ll} (h:eF O El m A B) {r:LI} (Z:r ∈ A):RS O El m B (λx=>nth r x):=by obtain ⟨i,hi,rfl⟩:=fZ Z;exact h i hi
theorem gY (F:bK O El) {A:Ll} {r:LI} (Z:r ∈ A):RS O El m A (λx=>nth r x):=by obtain ⟨i,hi,rfl⟩:=fZ Z;exact PB F hi
theorem eF.tr {A B C:Ll} (h:eF O El m A B) (h2:eF O El m B C):eF O El m A C:=λi hi=>h2.rs (h i hi)
theorem xP (F:bK O El) {X Y:Ll} (Z:bt El m X) (V:bt El m Y) (h1:eF O El m X Y) (h2:eF O El m Y X):bI O m X=bI O m Y:=by obtain ⟨U,Q⟩:=dN F Z;obtain ⟨S,N⟩:=dN F V;exact yR F (bS F Z) (bS F V) (bU F Z).1 (bU F V).1 (bU F Z).2 (bU F V).2 (cI F Z) (cI F V) ((U.tr h1).tr N) ((S.tr h2).tr Q)
theorem mi {A B:Ll} (Y:bt El m A) (X:bt El m B):bt El m (A ++ B):=λr Z=>by
 rcases List.mem_append.1 Z with h | h
 ·exact Y r h
 ·exact X r h
def sy (O:aP) (R:Ll) (P:LI) (B:Ll):Ll:=B.map λv=>redTo O R P v R.length
def Kw (O:aP) (m:Nat) (R:Ll) (P:LI) (B:Ll):Ll:=bI O m (bI O m (sy O R P B) ++ R)
theorem zu (F:bK O El) (hI:BS.Inv El m ⟨R,P⟩) {B:Ll} (X:bt El m B):bt El m (sy O R P B):=λr Z=>by obtain ⟨v,Y,rfl⟩:=List.mem_map.1 Z;exact PK F hI.ok (X v Y) R.length (KT _)
theorem JU (F:bK O El) (V:bt El m R) (K:lh R P m) (hlen:R.length=P.length) {B:Ll} (Y:bt El m B):Kw O m R P B=bI O m (R ++ B):=by
 have hI:=nK V K hlen;have N:=zu F hI Y;have L:=bS F N;obtain ⟨c1,c2⟩:=dN F N;have S:=mi L V;have Q:=mi V Y;refine xP F S Q (fU λr X=>?_) (fU λr X=>?_)
 ·rcases List.mem_append.1 X with h | h
  ·refine eF.rs (fU λd hd=>?_) (nS c1 h);obtain ⟨v,U,rfl⟩:=List.mem_map.1 hd;exact (ec F hI Q (fU λy Z=>gY F (List.mem_append.2 (.inl Z))) (Y v U) R.length (KT _)).2 (gY F (List.mem_append.2 (.inr U)))
  ·exact gY F (List.mem_append.2 (.inl h))
 ·rcases List.mem_append.1 X with h | h
  ·exact gY F (List.mem_append.2 (.inr h))
  ·refine (ec F hI S (fU λy Z=>gY F (List.mem_append.2 (.inr Z))) (Y r h) R.length (KT _)).1 ?_;refine eF.rs (fU λy Z=>gY F (List.mem_append.2 (.inl Z))) (nS c2 (List.mem_map.2 ⟨r,h,rfl⟩))
theorem GJ (F:bK O El) {A B:Ll} (V:bt El m A) (X:bt El m B):bI O m (A ++ bI O m B)=bI O m (A ++ B):=by
 obtain ⟨U,S⟩:=dN F X;refine xP F (mi V (bS F X)) (mi V X) (fU λr Z=>?_) (fU λr Z=>?_)
 ·rcases List.mem_append.1 Z with h | h
  ·exact gY F (List.mem_append.2 (.inl h))
  ·exact eF.rs (fU λy Y=>gY F (List.mem_append.2 (.inr Y))) (nS U h)
 ·rcases List.mem_append.1 Z with h | h
  ·exact gY F (List.mem_append.2 (.inl h))
  ·exact eF.rs (fU λy Y=>gY F (List.mem_append.2 (.inr Y))) (nS S h)
end
section
variable {P M:Int} {mod:LI}
theorem j6 {m:Nat} {L:Ll} (Z:aI P M mod m L=0):L.length<=m:=by have h:=(eJ (aL Z).2.2.2).2;rw [KV] at h;rw [<- h,dM];exact (ei _ L m).1
theorem uV {Z:Nat} {V:Ll} (X:bs P M mod=true) (N:bt (ah P M.toNat mod).El Z V) (h1:1<=Z) (K:Z<=64) (H:V.length<=256):aI P M mod Z (bI (ah P M.toNat mod).ops Z V)=0:=by
 have F:=dO X;have U:=bS F N;have Y:=py F N;have S:(bI (ah P M.toNat mod).ops Z V).length<=256:=by unfold bI;rw [Lt,bN];omega
 generalize bI (ah P M.toNat mod).ops Z V=D at *;have L:dE P M mod Z D=0:=ki X (by omega) S U;have Q:dD P M mod Z D=0:=by unfold dD;rw [KX L,KV,KX];exact Y
 have hle:i7 (Z:Int)=0:=qN (by omega) (by omega);unfold aI;rw [KX X,KX hle];exact Q
end
theorem Eh {w:World} {b:Nat} {G:cZ} (m:Nat) (a:OA) (n c:Nat) (R:Ll) (ap:OA) (cp:Nat) (Pv:LI) (a2:OA) (Z c2:Nat) (D:Ll)
  (h:dU w b G) (hi:bw w a n R) (hp:Ints w ap n Pv) (hD:bw w a2 Z D) (S:BS.Ok G.El m ⟨R,Pv⟩) (E:bt G.El m D) (hn:n<=1000000) (hm:m<=1000000) (hn2:Z<=1000000) :
  Calls prog 230 #[.agg #[.pointer (some ⟨b,0,none⟩),cG m,.slice a n c,.slice ap n cp],.agg #[cG m,.slice a2 Z c2]] w
   λe w'=>∃a3 c3,e = .returned (.agg #[cG m,.slice a3 Z c3])/\cF w.heap.size w' a3 Z (sy G.ops R Pv D)/\PY w w':=by
 have hrl:R.length=n:=hi.len;have hdl:D.length=Z:=hD.len;obtain ⟨N,K⟩:∃N,sy G.ops R Pv D=N:=⟨_,rfl⟩
 rw [K];have HRl:Hid (N.length=Z):=by show _=_;rw [<- K,sy,Lc];exact hdl
 have HRd:Hid (∀V k ra rc,k<Z->PY w V->Ints V ra m (ai D k)->Calls prog 242 #[.agg #[.pointer (some ⟨b,0,none⟩),cG m,.slice a n c,.slice ap n cp],.slice ra m rc] V
   λe w'=>∃a1 c1 v2,e = .returned (.tuple #[.slice a1 m c1,v2])/\w'.ownsRow V.heap.size 3 1 (.slice a1 m c1) m ((ai N k).map (Value.int .i64))/\PY V w'):=λV k ra rc hk hV hr=>by have h1:=qn m a n c R ap cp Pv ra rc (ai D k) (h.af hV) (hi.af hV) (hp.af hV) hr S (E.row (by omega)) hn hm;rw [<- K,sy,ox _ D (by omega),hrl];exact h1
 have HDr:Hid (∀k,k<Z->(ai D k).length=m):=λk hk=>(E.row (i:=k) (by omega)).1;have HRn:Hid (∀k,k<Z->(ai N k).length=m):=λk hk=>by have h1:=(lH (PL h) S.rws (Q:=Pv) S.plc (E.row (i:=k) (by omega)) R.length (KT _)).1;rw [<- K,sy,ox _ D (by omega)];exact h1
 have HTk:Hid (∀k,k<Z->N.take (k+1)=N.take k ++ [ai N k]):=λk hk=>by
  have hk':k<N.length:=by rw [HRl.out];exact hk
  rw [K4 hk',<- aE hk']
 have hpl:=hD.pl;clear h hi hp S E K hrl hdl;go_enter func230,ntmps230;go_upto_region 1 with fail;obtain ⟨W,hW⟩:∃W:World,W=((w.alloc (.cells #[.pointer (some ⟨b,0,none⟩),cG m,.slice a n c,.slice ap n cp] 210)).alloc (.cells #[cG m,.slice a2 Z c2] 94)).alloc (.cells #[cG 0,ds] 94):=⟨_,rfl⟩
 rw [<- hW];have hbW:PY w W:=by rw [hW];exact kS _ _ _ _
 have hsW:W.heap.size=w.heap.size+3:=by rw [hW];simp
 have x0:aQ W w.heap.size [.pointer (some ⟨b,0,none⟩),cG m,.slice a n c,.slice ap n cp]:=by rw [hW];exact ((Po _ _ _ rfl).alloc _).alloc _
 have x1:aQ W (w.heap.size+1) [cG m,.slice a2 Z c2]:=by rw [hW];exact (Po _ _ _ (by simp)).alloc _
 have x2:aQ W (w.heap.size+1+1) [cG 0,ds]:=by rw [hW];exact Po _ _ _ (by simp)
 clear hW;have HX:=Z5 (K3 x0 (K3 x1 x2));have HbW:=Z5 hbW;have HsW:=Z5 hsW;obtain ⟨g,hg⟩:∃g,W.heap.size=g:=⟨_,rfl⟩
 have HG:=Z5 hg;clear hg;have m0:=x1.cell 0 rfl;have m1:=x1.cell 1 rfl;go_cut [5] (λv wx=>v = .pointer (some ⟨W.heap.size,0,none⟩)/\mC wx W.heap.size (cG m) none 0 0 [] []/\PY W wx);case first =>
  clear x0 x1 x2 hbW hsW
  go_wp2_with fail
  go_meet
  exact ⟨rfl,mC.start (Po W [cG m,ds] _ rfl),an _ _⟩
 obtain ⟨rfl,hO0,z⟩:=hcut;generalize wc=U at *;have hs3:=HG.out;rw [hs3] at hO0 ⊢;have HbU:=Z5 z;have r1:=x1.af z;clear m0 m1 x0 x1 x2 hbW;have m0:=r1.cell 0 rfl;have m1:=r1.cell 1 rfl;have hgW:W.heap.size<=g:=by omega
 have HD:=Z5 hD;clear r1 z hs3 hD hsW;go_wp2_with fail;clear m0 m1;go_loopw [16] (λiv wr=>∃(j:Nat) (a1:OA) (c1:Nat) (Rr:LA),j<=Z/\iv = cG j/\mC wr g (cG m) a1 j c1 Rr (N.take j)/\Below g U wr) (λiv _=>Z - (intOf iv).toNat);case atStart=>exact ⟨0,none,0,[],K0 _,rfl,by simpa using hO0,KU _ _⟩
 case round =>
  clear hO0
  obtain ⟨j,a1,c1,Rr,hj,rfl,A,hbr⟩:=hrel
  have F:=L5 HbU.out (hbr.mono hgW)
  have H:=Pm HbW.out F
  by_cases Y:j<Z
  ·obtain ⟨ra,rn,rc,hcell,X⟩:=(HD.af H).cell j Y
   have hrn:rn=m:=by rw [<- X.len];exact HDr j Y
   rw [hrn] at hcell X
   have Htk:=Z5 (HTk j Y)
   have HR1:=Z5 (HRd wr j ra rc Y H X)
   obtain ⟨pk,r⟩:∃pk,ai N j=pk:=⟨_,rfl⟩
   have Hpl:Hid (pk.length=m):=by show _=_;rw [<- r];exact HRn j Y
   rw [r] at HR1 Htk
   have xr:=HX.1.af F
   have v0:=xr.cell 0 rfl
   have v1:=xr.cell 1 rfl
   have v2:=xr.cell 2 rfl
   have v3:=xr.cell 3 rfl
   have hgr:=A.lt
   have HO:=Z5 A
   clear hrn r X xr A
   go_wp2_with fail
   refine HR1.mono ?_
   rintro e w3 ⟨a5,c5,vv,rfl,B,hb3⟩
   clear v0 v1 v2 v3
   have C:=HO.af hb3
   have S:=C.om.af (an w3 (.cells #[.slice a5 m c5] 22))
   have hcp:=C.c1
   have hgs:=C.lt
   go_wp2_with (at_builtin;refine aS rfl _ _ 25 22 rfl ds 24 underlying25 dw rfl (g+1) a1 j c1 _ rfl S.own ⟨w3.heap.size,0,none⟩ 1 (.slice a5 m c5) rfl (bm w3 _ _) rfl (by omega) (by unfold maxLen;omega) (by simp;omega) ?_;intro a6 c6 w6 hown6 L hap6;have hk6:=(C.vd L).2.1;have hf6:=(C.vd L).2.2)
   go_roundw
   case rel =>
    have hra:a5 ≠ none->¬ bQ a1 Rr (ablk a5):=λh0 hI=>by have h1:=(aT B h0).1;have h2:=(HO.om.lt _ hI).2;omega
    obtain ⟨hP,hbP⟩:=C.push Hpl.out (aY B (by omega)) hra hown6 L hap6
    exact ⟨j+1,a6,c6,_,by omega,by go_num,by rw [Htk.out];exact hP,L5 hbr ((hb3.mono (by omega)).trans hbP)⟩
   case measure=>simp [intOf] <;> omega
  ·obtain rfl:j=Z:=by omega
   rw [K5 (by rw [HRl.out];exact KT _)] at A
   have g0:=A.c0
   have g1:=A.c1
   have z6:=HX.2.2.af F
   have z0:=z6.cell 0 rfl
   have z1:=z6.cell 1 rfl
   have f0:=z6.frozen 0
   have f1:=z6.frozen 1
   have C:=HsW.out
   have hg2:=HG.out
   have hMN:cF (g+1) wr a1 j N:=PT A.om
   have HF:=Z5 (K3 (((hMN.setCell (p:=⟨w.heap.size+1+1,0,none⟩) (by simp;omega) (cG m)).setCell (p:=⟨w.heap.size+1+1,1,none⟩) (by simp;omega) (.slice a1 j c1)).mono (show w.heap.size<=g+1 by omega))
    ((H.setCell (p:=⟨w.heap.size+1+1,0,none⟩) (by simp;omega) (cG m)).setCell (p:=⟨w.heap.size+1+1,1,none⟩) (by simp;omega) (.slice a1 j c1)))
   clear hMN z6 A C hg2
   go_wp2_with fail
   exact bodyPost_ret (v:=.agg #[cG m,.slice a1 j c1]) (by simp [results,results230,go_sem,z0,z1]) rfl ⟨a1,c1,rfl,HF.1,HF.2⟩
theorem jg {X Z:World} {t:TypeId} (hb:Below (X.alloc (.cells #[cG 0,ds] t)).heap.size (X.alloc (.cells #[cG 0,ds] t)) Z):aQ Z X.heap.size [cG 0,ds] :=
 (Po X [cG 0,ds] t rfl).af hb
theorem j5 {X Z:World} {t:TypeId} (hb:Below (X.alloc (.cells #[cG 0,ds] t)).drew.heap.size (X.alloc (.cells #[cG 0,ds] t)).drew Z):aQ Z X.heap.size [cG 0,ds] :=
 (Po X [cG 0,ds] t rfl).af (Pm (KU _ _).drew hb)
def oy (S:Ll) (m:Nat) (w:World) (e:Ending) (w':World):Prop :=
 ∃a3 Z,e = .returned (.tuple #[.agg #[cG m,.slice a3 S.length Z],cG 0])/\cF w.heap.size w' a3 S.length S/\PY w w'
theorem wo (P M:Int) (am:OA) (E cm:Nat) (mod:LI) (m:Nat) (a:OA) (n c:Nat) (L:Ll) (a':OA) (Y c':Nat) (L':Ll) (w:World)
  (B:Ints w am E mod) (hi:bw w a n L) (hi':bw w a' Y L') (hE:aI P M mod m L=0) (hE':aI P M mod m L'=0) :
  Calls prog 181 #[.agg #[cG P,cG M,.slice am E cm],.agg #[cG m,.slice a n c],.agg #[cG m,.slice a' Y c']] w (oy (bI (ah P M.toNat mod).ops m (L ++ L')) m w):=by
 obtain ⟨N',e,hm1,hm64,F,hR⟩:=aZ hE;obtain rfl:m=N':=by omega
 obtain ⟨N',e',_,_,_,hR'⟩:=aZ hE';obtain rfl:m=N':=by omega
 have hfB:=(aL hE).1;have hsp:=(aL hE).2.2.2;have hsp':=(aL hE').2.2.2;have H:=(eJ hsp).2;rw [KV] at H;have hln:L.length=n:=hi.len;have hln':L'.length=Y:=hi'.len;have hn64:n<=64:=by have:=j6 hE;omega
 have hn64':Y<=64:=by have:=j6 hE';omega
 have hpl:(bq (ah P M.toNat mod) L m).length=n:=by rw [<- dM,H];exact hln
 have hPv:lh L (bq (ah P M.toNat mod) L m) m:=by have h:=(bU F hR).1;rw [show bI (ah P M.toNat mod).ops m L=L from H] at h;exact h
 have hI:=nK hR hPv (by rw [hpl];exact hln);have hDr:=zu F hI hR';have hS:bI (ah P M.toNat mod).ops m (L ++ L')=bI (ah P M.toNat mod).ops m (bI (ah P M.toNat mod).ops m (sy (ah P M.toNat mod).ops L (bq (ah P M.toNat mod) L m) L') ++ L) :=
  (JU F hR hPv (by rw [hpl];exact hln) hR').symm
 rw [hS];have HPair:Hid (∀V,PY w V->Calls prog 229 #[.agg #[cG P,cG M,.slice am E cm],.agg #[cG m,.slice a n c],.agg #[cG m,.slice a' Y c']] V λe w'=>∃b ap cp b2 m2 a2 n2 c2 ap2 k2 cp2,
   e = .returned (.tuple #[.agg #[.pointer (some ⟨b,0,none⟩),cG m,.slice a n c,.slice ap n cp],.agg #[.pointer (some ⟨b2,0,none⟩),cG m2,.slice a2 n2 c2,.slice ap2 k2 cp2],cG 0])/\dU w' b (ah P M.toNat mod)/\Ints w' ap n (bq (ah P M.toNat mod) L m)/\PY V w'):=λV Z=>by refine (E0 P M am E cm mod m a n c L a' Y c' L' V (B.af Z) (hi.af Z) (hi'.af Z) hsp hsp').mono ?_;rintro e w' ⟨b,ap,cp,v2,rfl,⟨b2,m2,a2,n2,c2,ap2,k2,cp2,rfl⟩,h1,h2,h3⟩;rw [hpl] at h2 ⊢;exact ⟨b,ap,cp,b2,m2,a2,n2,c2,ap2,k2,cp2,rfl,h1,h2,h3⟩
 have HRe:Hid (∀V b ap cp,PY w V->dU V b (ah P M.toNat mod)->Ints V ap n (bq (ah P M.toNat mod) L m)->Calls prog 230 #[.agg #[.pointer (some ⟨b,0,none⟩),cG m,.slice a n c,.slice ap n cp],.agg #[cG m,.slice a' Y c']] V
   λe w'=>∃a3 z,e = .returned (.agg #[cG m,.slice a3 Y z])/\cF V.heap.size w' a3 Y (sy (ah P M.toNat mod).ops L (bq (ah P M.toNat mod) L m) L')/\PY V w'):=λV b ap cp Z hG hp =>
  Eh m a n c L ap cp _ a' Y c' L' hG (hi.af Z) hp (hi'.af Z) hI.ok hR' (by omega) (by omega) (by omega)
 obtain ⟨D,hD⟩:∃D,sy (ah P M.toNat mod).ops L (bq (ah P M.toNat mod) L m) L'=D:=⟨_,rfl⟩
 rw [hD] at HRe hDr ⊢;have hDl:D.length=Y:=by rw [<- hD,sy,Lc];exact hln'
 have hfD:dE P M mod m D=0:=ki hfB (by omega) (by omega) hDr;have HC1:Hid (∀V a3 z,PY w V->bw V a3 Y D->Calls prog 118 #[.agg #[cG P,cG M,.slice am E cm],.agg #[cG m,.slice a3 Y z]] V λe w'=>∃a5 ap cp,
   e = .returned (.tuple #[.agg #[cG m,.slice a5 (bq (ah P M.toNat mod) D m).length (bq (ah P M.toNat mod) D m).length],.slice ap (bq (ah P M.toNat mod) D m).length cp,cG 0])/\cF V.heap.size w' a5 (bq (ah P M.toNat mod) D m).length (bI (ah P M.toNat mod).ops m D)/\PY V w'):=λV a3 z Z hM=>by
  refine (jq P M am E cm mod m a3 Y z D V (B.af Z) hM).mono ?_;rintro e w' ⟨hb,⟨h1,_⟩ | ⟨_,m',hm',a5,ap,cp,rfl,hN,_⟩⟩
  ·exact absurd hfD h1
  ·obtain rfl:m=m':=by omega
   exact ⟨a5,ap,cp,rfl,hN,hb⟩
 have hk64:(bq (ah P M.toNat mod) D m).length<=64:=by have:=(ei (ah P M.toNat mod).ops D m).1;show (aD (ah P M.toNat mod).ops D m).2.length<=64;omega
 have hCl:(bI (ah P M.toNat mod).ops m D).length=(bq (ah P M.toNat mod) D m).length:=dM _ _ _;have hCr:=bS F hDr;obtain ⟨k,hk⟩:∃k,(bq (ah P M.toNat mod) D m).length=k:=⟨_,rfl⟩
 obtain ⟨C,hC⟩:∃C,bI (ah P M.toNat mod).ops m D=C:=⟨_,rfl⟩
 rw [hk,hC] at HC1 hCl;rw [hk] at hk64;rw [hC] at hCr ⊢;have hfX:dE P M mod m (C ++ L)=0:=ki hfB (by omega) (by rw [K6];omega) (mi hCr hR);have HC2:Hid (∀V a6 c6,PY w V->bw V a6 (k+n) (C ++ L)->Calls prog 118 #[.agg #[cG P,cG M,.slice am E cm],.agg #[cG m,.slice a6 (k+n:Nat) c6]] V λe w'=>∃a7 c7 ap q cp,
   e = .returned (.tuple #[.agg #[cG m,.slice a7 (bI (ah P M.toNat mod).ops m (C ++ L)).length c7],.slice ap q cp,cG 0])/\cF V.heap.size w' a7 (bI (ah P M.toNat mod).ops m (C ++ L)).length (bI (ah P M.toNat mod).ops m (C ++ L))/\PY V w'):=λV a6 c6 Z hM=>by
  refine (jq P M am E cm mod m a6 (k+n) c6 (C ++ L) V (B.af Z) hM).mono ?_;rintro e w' ⟨hb,⟨h1,_⟩ | ⟨_,m',hm',a5,ap,cp,rfl,hN,_⟩⟩
  ·exact absurd hfX h1
  ·obtain rfl:m=m':=by omega
   rw [<- dM] at hN ⊢;exact ⟨a5,_,ap,_,cp,rfl,hN,hb⟩
 have HI:=Z5 (K3 hi hi');obtain ⟨S,hS2⟩:∃S,bI (ah P M.toNat mod).ops m (C ++ L)=S:=⟨_,rfl⟩
 rw [hS2] at HC2 ⊢;have j:Hid (∀a3 z V,cF w.heap.size V a3 S.length S->PY w V->oy S m w (.returned (.tuple #[.agg #[cG m,.slice a3 S.length z],cG 0])) V):=λa3 z V h1 h2=>⟨a3,z,rfl,h1,h2⟩
 generalize oy S m w=Post at *;obtain ⟨q,hq⟩:∃q,S.length=q:=⟨_,rfl⟩
 rw [hq] at HC2 j;generalize ah P M.toNat mod=G at *;generalize bq G L m=Pv at *;clear B hi hi' hE hE' hfB hsp hsp' H hpl hPv hI hDr hS hD hDl hfD hk hC hCl hCr hfX hS2 hq hR hR' F e e' hln hln';go_enter func181,ntmps181;go_upto_region 1 with fail;obtain ⟨W,hW⟩:∃W:World,W=(((w.alloc (.cells #[cG P,cG M,.slice am E cm] 24)).alloc (.cells #[cG m,.slice a n c] 94)).alloc (.cells #[cG m,.slice a' Y c'] 94)).alloc (.cells #[cG 0,ds] 94):=⟨_,rfl⟩
 rw [<- hW];have hbW:PY w W:=by rw [hW];exact Pm (kS _ _ _ _) (an _ _)
 have hsW:W.heap.size=w.heap.size+4:=by rw [hW];simp
 have x0:aQ W w.heap.size [cG P,cG M,.slice am E cm]:=by rw [hW];exact (((Po _ _ _ rfl).alloc _).alloc _).alloc _
 have x1:aQ W (w.heap.size+1) [cG m,.slice a n c]:=by rw [hW];exact ((Po _ _ _ (by simp)).alloc _).alloc _
 have x2:aQ W (w.heap.size+1+1) [cG m,.slice a' Y c']:=by rw [hW];exact (Po _ _ _ (by simp)).alloc _
 have x3:aQ W (w.heap.size+1+1+1) [cG 0,ds]:=by rw [hW];exact Po _ _ _ (by simp)
 clear hW;have HX:Hid (∀V,PY W V->V.cell? ⟨w.heap.size,0,none⟩=some (cG P)/\V.cell? ⟨w.heap.size,1,none⟩=some (cG M)/\V.cell? ⟨w.heap.size,2,none⟩=some (.slice am E cm)/\V.cell? ⟨w.heap.size+1,0,none⟩=some (cG m)/\V.cell? ⟨w.heap.size+1,1,none⟩=some (.slice a n c)/\V.cell? ⟨w.heap.size+1+1,0,none⟩=some (cG m)/\V.cell? ⟨w.heap.size+1+1,1,none⟩=some (.slice a' Y c')):=λV Z=>by have a0:=x0.af Z;have a1:=x1.af Z;have a2:=x2.af Z;exact ⟨a0.cell 0 rfl,a0.cell 1 rfl,a0.cell 2 rfl,a1.cell 0 rfl,a1.cell 1 rfl,a2.cell 0 rfl,a2.cell 1 rfl⟩
 have HX3:=Z5 x3;have HbW:=Z5 hbW;have HsW:=Z5 hsW;clear x0 x1 x2 x3 hbW hsW;go_cut [8,10] (λv8 v10 wx=>v10 = cG 0/\∃g b ap cp,v8 = .pointer (some ⟨g,0,none⟩)/\Hid (aQ wx g [.pointer (some ⟨b,0,none⟩),cG m,.slice a n c,.slice ap n cp])/\Hid (dU wx b G)/\Hid (Ints wx ap n Pv)/\PY W wx);case first =>
  obtain ⟨c0,c1,c2,d0,d1,e0,e1⟩:=HX W (KU _ _)
  go_wp2_with fail
  refine (HPair W HbW.out).mono ?_
  rintro e w1 ⟨b,ap,cp,b9,m9,a9,n9,d9,ap9,k9,cp9,rfl,hG,hP,N⟩
  have HG:=Z5 (K3 hG hP)
  clear c0 c1 c2 d0 d1 e0 e1 hG hP
  go_wp2_with fail
  go_meet
  have hbn:=bY w1 (.cells #[.pointer (some ⟨b,0,none⟩),cG m,.slice a n c,.slice ap n cp] 210) (.cells #[.pointer (some ⟨b9,0,none⟩),cG m9,.slice a9 n9 d9,.slice ap9 k9 cp9] 210)
  exact ⟨rfl,w1.heap.size,b,ap,cp,rfl,(Po w1 [.pointer (some ⟨b,0,none⟩),cG m,.slice a n c,.slice ap n cp] _ rfl).alloc _,HG.1.af hbn,HG.2.af hbn,Pm N hbn⟩
 obtain ⟨rfl,g,b,ap,cp,rfl,HV,HG,HP,N⟩:=hcut;generalize wc=U at *;have A:=Pm HbW.out N;have HS5:Hid (∀V,PY U V->V.cell? ⟨w.heap.size,0,none⟩=some (cG P)/\V.cell? ⟨w.heap.size,1,none⟩=some (cG M)/\V.cell? ⟨w.heap.size,2,none⟩=some (.slice am E cm)/\V.cell? ⟨w.heap.size+1+1,0,none⟩=some (cG m)/\V.cell? ⟨w.heap.size+1+1,1,none⟩=some (.slice a' Y c') /\
   V.cell? ⟨g,0,none⟩=some (.pointer (some ⟨b,0,none⟩))/\V.cell? ⟨g,1,none⟩=some (cG m)/\V.cell? ⟨g,2,none⟩=some (.slice a n c)/\V.cell? ⟨g,3,none⟩=some (.slice ap n cp)/\PY U V):=λV Z=>by obtain ⟨q0,q1,q2,_,_,q5,q6⟩:=HX V (Pm N Z);have y:=HV.af Z;exact ⟨q0,q1,q2,q5,q6,y.cell 0 rfl,y.cell 1 rfl,y.cell 2 rfl,y.cell 3 rfl,Z⟩
 have HR1:=Z5 (λV (Z:PY U V)=>HRe V b ap cp (Pm A Z) (HG.af Z) (HP.af Z));have HK1:=Z5 (λV a3 z (Z:PY U V) h=>HC1 V a3 z (Pm A Z) h);obtain ⟨c0,c1,c2,e0,e1,g0,g1,g2,g3,_⟩:=HS5 U (KU _ _);go_upto_region 4 with fail;go_cut [11,10] (λv11 v10 wx=>v10 = cG 0/\∃h a5,v11 = .pointer (some ⟨h,0,none⟩)/\Hid (aQ wx h [cG m,.slice a5 k k])/\Hid (U.heap.size<=h)/\Hid (gB (λb=>b=h) wx a5 k C)/\PY U wx);case first =>
  go_region_held3 (λV=>V.cell? ⟨w.heap.size,0,none⟩=some (cG P)/\V.cell? ⟨w.heap.size,1,none⟩=some (cG M)/\V.cell? ⟨w.heap.size,2,none⟩=some (.slice am E cm)/\V.cell? ⟨w.heap.size+1+1,0,none⟩=some (cG m)/\V.cell? ⟨w.heap.size+1+1,1,none⟩=some (.slice a' Y c') /\
   V.cell? ⟨g,0,none⟩=some (.pointer (some ⟨b,0,none⟩))/\V.cell? ⟨g,1,none⟩=some (cG m)/\V.cell? ⟨g,2,none⟩=some (.slice a n c)/\V.cell? ⟨g,3,none⟩=some (.slice ap n cp)/\PY U V)
   ((refine HS5 _ ?_;first | exact (KU _ _).drew | assumption | (go_split_ands;first | assumption | exact Pm (by assumption) (an _ _) | exact (Pm (by assumption) (an _ _)).drew | exact Pm (by assumption) (by assumption) | exact Np (Np (by assumption) (by first | exact hB2.size | exact hB3.size | simp) _) (by first | exact hB2.size | exact hB3.size | simp) _)))
   (first
    | (go_at_call 230;((with_reducible refine (HR1.out _ (by go_split_ands;assumption)).mono ?_);rintro e w2 ⟨a3,k3,rfl,hM3,hb2⟩;have hB2:PY U w2:=(by go_split_ands;exact Pm (by assumption) hb2);have HM3:=Z5 hM3.iZ;clear hM3;(first | (have HB2:=Z5 (j5 hb2)) | (have HB2:=Z5 (jg hb2)) | skip)))
    | (go_at_call 118;((with_reducible refine (HK1.out _ a3 k3 (by go_split_ands;assumption) (by first | exact HM3.out | exact HM3.out.af (an _ _) | exact HM3.out.af (an _ _).drew | exact HM3.out.af (KU _ _).drew)).mono ?_);rintro e w3 ⟨a5,ap5,cp5,rfl,hM5,hb3⟩;have hB3:PY U w3:=(by go_split_ands;exact Pm (by assumption) hb3);have HM5:=Z5 hM5;clear hM5;(first | (have Q:=Z5 (j5 hb3)) | (have Q:=Z5 (jg hb3)) | (have Q:=Z5 (HB2.out.af hb3)) | skip);(first | (have z0:=Q.out.cell 0 rfl;have z1:=Q.out.cell 1 rfl;have f0:=Q.out.frozen 0;have f1:=Q.out.frozen 1) | skip))))
  all_goals (
   go_wp2_with fail
   go_meet
   first
    | exact ⟨rfl,_,a5,rfl,Po w3 [cG m,.slice a5 k k] _ rfl,hB3.size,(gB.FX HM5.iZ (λb hb=>by rw [show b=w3.heap.size from hb];exact KT _)).af (an _ _),by go_split_ands;assumption⟩
    | exact ⟨rfl,_,a5,rfl,(Q.setCell 0 (cG m)).setCell 1 (.slice a5 k k),(by first | exact hB2.size | exact KT _),HM5.KH (by first | exact HB2.1 | simp) _ _,by go_split_ands;assumption⟩)
 obtain ⟨rfl,h,a5,rfl,K,HUh,HMA,hbV⟩:=hcut;generalize wc=V at *;have hF2:=Pm A hbV;clear c0 c1 c2 e0 e1 g0 g1 g2 g3;have HXV:Hid (∀X,PY U X->X.cell? ⟨w.heap.size,0,none⟩=some (cG P)/\X.cell? ⟨w.heap.size,1,none⟩=some (cG M)/\X.cell? ⟨w.heap.size,2,none⟩=some (.slice am E cm)/\X.cell? ⟨w.heap.size+1,1,none⟩=some (.slice a n c)):=λX hX=>by obtain ⟨q0,q1,q2,_,q4,_⟩:=HX X (Pm N hX);exact ⟨q0,q1,q2,q4⟩
 obtain ⟨c0,c1,c2,e1⟩:=HXV V hbV;have h0:=K.cell 0 rfl;have h1:=K.cell 1 rfl;have hwU:=A.size;have hLA:gB (λb=>b=h) V a n L:=(gB.FX HI.1 (λb hb=>by rw [show b=h from hb];exact K9 hwU HUh.out)).af hF2;have HLA:=Z5 hLA;have hhV:=K.1;have HhV:=Z5 hhV;clear hLA hhV hwU;go_wp2_with (at_builtin;refine tR rfl _ _ 25 22 rfl 24 underlying25 dw (λb=>b=h) (λb hb=>by rw [show b=h from hb];exact HhV) a5 k C rfl HMA.out a n c L rfl HLA.out (by omega) (by unfold maxLen;omega) ?_;intro a6 c6 w6 hM6 r;have k1:=(K.af r).cell 1 rfl;have k0:=(K.af r).cell 0 rfl;have f1:=(K.af r).frozen 1;have hbU6:=Pm hbV r;have hM7:=(hM6.dc (aC.rp (I:=λb=>b=h) (p:=⟨h,1,none⟩) w6 rfl (.slice a6 (k+n) c6))).iZ;have hb7:PY U (w6.setCell ⟨h,1,none⟩ (.slice a6 (k+n) c6)):=hbU6.setCell (p:=⟨h,1,none⟩) HUh.out _;have hC7:=HC2 _ a6 c6 (Pm A hb7) hM7;obtain ⟨r0,r1,r2,_⟩:=HXV _ hb7;have y7:=(K.af r).setCell 1 (.slice a6 (k+n) c6);have s0:=y7.cell 0 rfl;have s1:=y7.cell 1 rfl);refine hC7.mono ?_;rintro e w8 ⟨a7,c7,ap7,q7,cp7,rfl,hN7,hb8⟩;have hbU8:=Pm hb7 hb8;have hF8:=Pm A hbU8;have x3:=HX3.af (Pm N hbU8);have z0:=x3.cell 0 rfl;have z1:=x3.cell 1 rfl;have g0:=x3.frozen 0;have g1:=x3.frozen 1;have hs:=HsW.out;have hs1:=N.size;have hs2:=hb7.size;rw [OP] at hs2;have hz:w.heap.size+1+1+1<w8.heap.size:=x3.1;have HFin:Hid (cF w.heap.size (((w8.setCell ⟨w.heap.size+1+1+1,0,none⟩ (cG m)).setCell ⟨w.heap.size+1+1+1,1,none⟩ (.slice a7 q c7)).alloc (.cells #[cG m,.slice a7 q c7] 94)) a7 q S /\
   PY w (((w8.setCell ⟨w.heap.size+1+1+1,0,none⟩ (cG m)).setCell ⟨w.heap.size+1+1+1,1,none⟩ (.slice a7 q c7)).alloc (.cells #[cG m,.slice a7 q c7] 94))) :=
  ⟨(((hN7.setCell (p:=⟨w.heap.size+1+1+1,0,none⟩) (by simp;omega) _).setCell (p:=⟨w.heap.size+1+1+1,1,none⟩) (by simp;omega) _).af (an _ _)).mono (by simp;omega),
   Pm ((hF8.setCell (p:=⟨w.heap.size+1+1+1,0,none⟩) (by simp;omega) _).setCell (p:=⟨w.heap.size+1+1+1,1,none⟩) (by simp;omega) _) (an _ _)⟩
 clear r0 r1 r2 s0 s1 k0 k1 f1 hN7 hM6 hM7 y7 x3 c0 c1 c2 e1 h0 h1;go_wp2_with fail;exact bodyPost_ret (v:=.tuple #[.agg #[cG m,.slice a7 q c7],cG 0]) (by simp [results,results181,go_sem,z0,z1,hz]) rfl (j a7 c7 _ HFin.1 HFin.2)
theorem uB (m:Nat) (a:OA) (n c:Nat) (L:Ll) (ao:OA) (no co:Nat) (Q:LI) (w:World) (hi:bw w a n L) (hq:Ints w ao no Q) (hL:∀r ∈ L,r.length=m) (hQ:tu m Q) (hn:n<=1000000) (hno:no<=1000000) :
  Calls prog 262 #[.slice a n c,.slice ao no co] w λe w'=>∃a1 c1 R,e = .returned (.slice a1 n c1)/\aO w' w.heap.size a1 n c1 R (L.map (bR Q))/\PY w w':=by
 have Z:=Z5 hi.len;have hpla:=hi.pl;have HLl:=Z5 hL;have HQ:=Z5 hQ;obtain ⟨F,S⟩:∃F,L.map (bR Q)=F:=⟨_,rfl⟩
 have hl2:F.length=n:=by rw [<- S,Lc];exact Z
 have E:=Z5 hl2;have HLk:Hid (∀k,k<n->ai F k=bR Q (ai L k)):=λk hk=>by rw [<- S];exact ox _ L (by rw [Z.out];exact hk)
 rw [S];clear S hl2 hL hQ;go_enter func262,ntmps262;go_wp2_with fail;go_loopw [5,6] (λsv iv wr=>∃(k:Nat) (a1:OA) (c1:Nat),k<=n/\iv = cG k/\sv = .slice a1 k c1/\(∃R,aO wr w.heap.size a1 k c1 R (F.take k))/\PY w wr) (λ_ iv _=>n - (intOf iv).toNat);case atStart=>exact ⟨0,none,0,K0 _,rfl,rfl,⟨[],by simpa using PE w w.heap.size⟩,KU _ _⟩
 case round =>
  obtain ⟨k,a1,c1,hk,rfl,rfl,⟨R,hO⟩,X⟩:=hrel
  by_cases V:k<n
  ·obtain ⟨ra,rn,rc,hcell,U⟩:=(hi.af X).cell k V
   have B:k<L.length:=by rw [Z.out];exact V
   have hrl:rn=m:=by rw [<- U.len,aE B];exact HLl _ (Ly B)
   have j:Hid (F.take (k+1)=F.take k ++ [bR Q (ai L k)]):=by show _=_;rw [K4 (by rw [E.out];exact V),<- HLk k V,aE (by rw [E.out];exact V)]
   obtain ⟨l,hl⟩:∃l,ai L k=l:=⟨_,rfl⟩
   rw [hl] at j U
   have z:=uD ra rn rc l ao no co Q wr U (hq.af X) (by rw [hrl];exact HQ) hno
   have A:=X.size
   clear hl hrl
   go_wp2_with fail
   refine z.mono ?_
   rintro e w3 ⟨a3,C,rfl,Y,H⟩
   have D:=hO.af (Pm H (an w3 (.cells #[.slice a3 (bR Q l).length C] 22)))
   have hs3:w.heap.size<=(w3.alloc (.cells #[.slice a3 (bR Q l).length C] 22)).heap.size:=by have h1:=H.size;simp;omega
   clear z
   go_wp2_with (at_builtin;refine aS rfl _ _ 25 22 rfl ds 24 underlying25 dw rfl w.heap.size a1 k c1 _ rfl D.own ⟨w3.heap.size,0,none⟩ 1 (.slice a3 (bR Q l).length C) rfl (bm w3 _ _) rfl (by omega) (by unfold maxLen;omega) hs3 ?_;intro a5 c5 w5 G N hap5)
   go_roundw
   case rel =>
    have hb4:PY wr (w3.alloc (.cells #[.slice a3 (bR Q l).length C] 22)):=Pm H (an _ _)
    have K:(w3.alloc (.cells #[.slice a3 (bR Q l).length C] 22)).ownsRow w.heap.size 3 1 (.slice a3 (bR Q l).length C) (bR Q l).length ((bR Q l).map (Value.int .i64)) :=
     aY (bf Y (an _ _)) A
    have hra:a3 ≠ none->¬ bQ a1 R (ablk a3):=λh0 hI=>by have h1:=(aT Y h0).1;have h2:=(hO.lt _ hI).2;omega
    have hP:=Py D K hra G N hap5
    have hb5:PY w w5:=Pp (Pm X hb4) D.own N (KT _) (K9 A hb4.size)
    exact ⟨k+1,a5,c5,by omega,by go_num,rfl,⟨_,by rw [j.out];exact hP⟩,hb5⟩
   case measure=>simp [intOf] <;> omega
  ·obtain rfl:k=n:=by omega
   rw [K5 (by rw [E.out];exact KT _)] at hO
   have HO:=Z5 hO
   clear hO
   go_wp2_with fail
   go_ret
   exact ⟨a1,c1,R,rfl,HO,X⟩
theorem oX (P M:Int) (am:OA) (U cm:Nat) (mod:LI) (m:Nat) (a:OA) (n c:Nat) (L:Ll) (ao:OA) (no co:Nat) (Q:LI) (w:World) (S:Ints w am U mod) (hi:bw w a n L) (hq:Ints w ao no Q)
  (hE:aI P M mod m L=0) (hQ:tu m Q) (C:no<=1000000) :
  Calls prog 235 #[.agg #[cG P,cG M,.slice am U cm],.slice a n c,.slice ao no co] w λe w'=>e = .returned (cG (mE (ah P M.toNat mod).ops L Q).length)/\PY w w':=by
 have B:=hq.len;obtain ⟨N',em,hm1,hm64,F,A⟩:=aZ hE;obtain rfl:m=N':=by omega
 have hn:n<=256:=by rw [<- hi.len];exact (di hE).choose_spec.2.2.2.1
 have hB:=(aL hE).1;have hinv:=kd (P:=P) (M:=M) (mod:=mod) (by rw [cB];exact hB);have Y:=Ik F A hQ;have Z:=zl A hQ;rw [B] at Y Z;obtain ⟨k,rfl,H,_,hF,hA,_⟩:=eQ hB;obtain ⟨k',e2,hrf,X⟩:=dQ (by rw [cB];exact hB);obtain rfl:k=k':=by omega
 rw [KV] at Y Z hinv A ⊢;have D:=(gQ hA hF.cl (by rw [H];exact Z) no (KT _)).1;rw [D] at Y;rw [<- H] at Z;have HKp:Hid (∀V,PY w V->Calls prog 262 #[.slice a n c,.slice ao no co] V λe w'=>PY V w'/\∃a1 c1,e = .returned (.slice a1 n c1)/\bw w' a1 n (L.map (bR Q))):=λV K=>by refine (uB m a n c L ao no co Q V (hi.af K) (hq.af K) (λr hr=>(A r hr).1) hQ (by omega) C).mono ?_;rintro e w' ⟨a1,c1,R,rfl,hO,hb⟩;exact ⟨hb,a1,c1,rfl,hO.iZ⟩
 have E:Hid (∀V a1 c1,PY w V->bw V a1 n (L.map (bR Q))->∀G,PY V G->Calls prog 124 #[.agg #[cG P,cG k,.slice am U cm],.slice a1 n c1,cG no] G λe w' =>
   PY G w'/\∃v ap cp,e = .returned (.tuple #[v,.slice ap (mE (ah P k mod).ops L Q).length cp])):=λV a1 c1 K hM G z=>by refine (mY P k am U cm mod a1 n c1 no (L.map (bR Q)) G ⟨hrf,X G am U (S.af (Pm K z))⟩ (hM.af z) Z C (by omega) hinv).mono ?_;rintro e w' ⟨a4,c4,ap,cp,rfl,_,_,hb⟩;exact ⟨hb,_,ap,cp,by rw [<- Y]⟩
 obtain ⟨r,hr⟩:∃r,(mE (ah P k mod).ops L Q).length=r:=⟨_,rfl⟩
 rw [hr] at E ⊢;clear hE em F A hB hinv Y Z H hF hA e2 hrf X D hr hQ B S hi hq;go_enter func235,ntmps235;go_upto_region 1 with fail;obtain ⟨W,hW⟩:∃W:World,W=w.alloc (.cells #[cG P,cG k,.slice am U cm] 24):=⟨_,rfl⟩
 rw [<- hW];have j:PY w W:=by rw [hW];exact an _ _
 have x0:aQ W w.heap.size [cG P,cG k,.slice am U cm]:=by rw [hW];exact Po _ _ _ rfl
 have hS:∀V,PY W V->V.cell? ⟨w.heap.size,0,none⟩=some (cG P)/\V.cell? ⟨w.heap.size,1,none⟩=some (cG k)/\V.cell? ⟨w.heap.size,2,none⟩=some (.slice am U cm)/\PY W V:=λV K=>by have x1:=x0.af K;exact ⟨x1.cell 0 rfl,x1.cell 1 rfl,x1.cell 2 rfl,K⟩
 have HS:=Z5 hS;have N:=Z5 j;clear hW x0 hS j;go_region_held3 (λV=>V.cell? ⟨w.heap.size,0,none⟩=some (cG P)/\V.cell? ⟨w.heap.size,1,none⟩=some (cG k)/\V.cell? ⟨w.heap.size,2,none⟩=some (.slice am U cm)/\PY W V)
  ((refine HS _ ?_;first | exact (KU _ _).drew | (go_split_ands;exact Pm (by assumption) (by assumption))))
  (first
   | (go_at_call 262;((with_reducible refine (HKp.out _ (Pm N.out (by go_split_ands;assumption))).mono ?_);rintro e w6 ⟨hb6,a6,c6,rfl,hM6⟩;have hb7:PY W w6:=(by go_split_ands;exact Pm (by assumption) hb6);have Hr2:=Z5 (E.out w6 a6 c6 (Pm N.out hb7) hM6);clear hM6))
   | (go_at_call 124;((with_reducible refine (Hr2.out _ (by first | exact KU _ _ | exact hb4)).mono ?_);rintro e w8 ⟨hb8,v8,ap8,cp8,rfl⟩)))
 all_goals (
  go_wp2_with fail
  go_ret
  exact ⟨rfl,Pm N.out (by go_split_ands;assumption)⟩)
theorem ot (a:OA) (n c:Nat) (Q:LI) (w:World) (hi:Ints w a n Q) (hn:n<=1000000) :
  Calls prog 122 #[.slice a n c] w λe w'=>∃a1 c1,e = .returned (.slice a1 n c1)/\w'.ownsRow w.heap.size 3 1 (.slice a1 n c1) n ((cO Q).map (Value.int .i64))/\PY w w':=by
 have Hlen:=Z5 hi.len;have hO:=fK w 3;have hal:=Z5 ((KU w.heap.size w).alloc (KT _) (.cells #[] 3));go_enter func122,ntmps122;go_upto_region 1 with fail;iterate 7 go_step
 have K:=hal.out;generalize w.alloc (.cells #[] 3)=W0 at *;have C:=hi.af K;refine en (by rfl) (.tmp 6) (.tmp 7) 22 3 (by rfl) (cG 0) 8 underlying22 bh (by rfl) w.heap.size _ 0 0 [] (by rfl) hO a n c (Q.map (Value.int .i64)) (by rfl) C.pl (by simp [Hlen.out]) (Px C) (ints_oneCell _ _) (by omega) (by unfold maxLen;omega) (Ml K) ?_;intro a3 c3 w3 U F hap3;have hb3:PY w w3:=Pp (B:=w.heap.size) (e:=3) (xs:=[]) K hO F (KT _) (Ml K);rw [MR] at U ⊢;rw [L3] at U;clear F hap3 C K hO hal hi;have H3:=Z5 U;clear U;go_wp2_with fail;go_loopw [4] (λiv wr=>∃(i:Nat) (X:LI),1<=i/\i<=n+1/\iv = cG i/\Hid (X.Perm Q/\y5 X i)/\wr.ownsRow w.heap.size 3 1 (.slice a3 n c3) n (X.map (Value.int .i64))/\PY w wr) (λiv _=>n+1 - (intOf iv).toNat);case atStart=>exact ⟨1,Q,KT _,by omega,rfl,⟨NW _,λp q h1 h2=>by omega⟩,H3,hb3⟩
 case round =>
  clear H3 hb3
  obtain ⟨i,X,hi1,hin,rfl,r,S,L⟩:=hrel
  have hi1':(1:Int)<=i:=by omega
  by_cases hlt:i<n
  ·have hlt':(i:Int)<n:=by omega
   go_wp2_with fail
   go_loopw [5] (λjv wr2=>∃(j:Nat) (Y:LI),j<=i/\jv = cG j/\Hid (Y.Perm Q/\xC Y i j)/\wr2.ownsRow w.heap.size 3 1 (.slice a3 n c3) n (Y.map (Value.int .i64))/\PY w wr2) (λjv _=>(intOf jv).toNat)
   case atStart=>exact ⟨i,X,KT _,rfl,⟨r.1,r.2.start⟩,S,L⟩
   case round =>
    clear S L r
    obtain ⟨j,Y,D,rfl,z,S,L⟩:=hrel
    obtain ⟨hints,V⟩:=Pn S
    have hpl:=hints.pl
    have HYl:=Z5 hints.len
    by_cases G:j=0
    ·have d3:decide (0<j)=false:=by simp;omega
     have Hd:Hid (Y.Perm Q/\y5 Y (i+1)):=⟨z.1,z.2.done D (.inl G)⟩
     clear G hints V
     have Z:=λm=>bf S (Pw (PN (Pt wr) m))
     have N:=λm=>Pm L (Pw (PN (Pt wr) m))
     have H:=Z5 (K3 Z N)
     clear Z N
     go_wp2_with fail
     go_quiet (fail)
     go_wp2
     go_roundw
     case rel=>exact ⟨i+1,Y,by omega,by omega,by go_num,Hd,H.1 _,H.2 _⟩
     case measure=>simp [intOf] <;> omega
    ·have d3:decide (0<j)=true:=by simp;omega
     have d4:(0:Int)<=(j:Int) - 1:=by omega
     have d5:(1:Int)<=(j:Int):=by omega
     have d6:(j:Int) - 1<n:=by omega
     have d7:(j:Int)<n:=by omega
     have e1:((j:Int) - 1).toNat=j - 1:=by omega
     have kw:IntKind.i64.wrap ((j:Int) - 1)=(j:Int) - 1:=La _ (by omega)
     have cj:=hints.cell j (by omega)
     have cp:=hints.cell (j - 1) (by omega)
     have Z:=λm=>bf S (Pw (PN (Pt wr) m))
     have N:=λm=>Pm L (Pw (PN (Pt wr) m))
     have H:=Z5 (K3 Z N)
     clear Z N
     by_cases h2:nth Y j<nth Y (j - 1)
     ·have h2':decide (nth Y j<nth Y (j - 1))=true:=by simpa using h2
      have A:j<Y.length:=by rw [HYl.out];omega
      have Hd:Hid ((swp Y j).Perm Q/\xC (swp Y j) i (j - 1)):=⟨(E3 (by omega) A).trans z.1,z.2.step (by omega) D A h2⟩
      clear G hints V h2 A
      go_wp2_with fail
      go_quiet (fail)
      have Z:=H.1 nq
      have N:=H.2 nq
      clear H S L cj cp h2'
      generalize wr.drewN nq=W2 at *
      obtain ⟨hints,V⟩:=Pn Z
      have cj:=hints.cell j (by omega)
      have cp:=hints.cell (j - 1) (by omega)
      have fj:=(V (by omega)).2 j (by omega)
      have fp:=(V (by omega)).2 (j - 1) (by omega)
      have hB:=(V (by omega)).1
      have k3:(W2.setCell ⟨ablk a3,aJ a3+j,none⟩ (cG (nth Y (j - 1)))).cell? ⟨ablk a3,aJ a3+(j - 1),none⟩=some (cG (nth Y (j - 1))):=by rw [Le _ _ _ _ (by simp <;> omega)];exact cp
      have U:=bA (bA Z j (by omega) (cG (nth Y (j - 1)))) (j - 1) (by omega) (cG (nth Y j))
      rw [<- Lq,<- Lq] at U
      have E:=(N.setCell (p:=⟨ablk a3,aJ a3+j,none⟩) hB (cG (nth Y (j - 1)))).setCell (p:=⟨ablk a3,aJ a3+(j - 1),none⟩) hB (cG (nth Y j))
      have H:=Z5 (K3 U E)
      clear U E hints V Z N
      go_wp2_with fail
      go_region
      go_wp2_with fail
      go_roundw
      case rel=>exact ⟨j - 1,swp Y j,by omega,by go_num,Hd,bf H.1 (KU _ _).drew,Pm H.2 (KU _ _).drew⟩
      case measure=>simp [intOf] <;> omega
     ·have h2':decide (nth Y j<nth Y (j - 1))=false:=by simpa using h2
      have Hd:Hid (Y.Perm Q/\y5 Y (i+1)):=⟨z.1,z.2.done D (.inr (by omega))⟩
      clear G hints V h2
      go_wp2_with fail
      go_quiet (fail)
      go_wp2
      go_roundw
      case rel=>exact ⟨i+1,Y,by omega,by omega,by go_num,Hd,H.1 _,H.2 _⟩
      case measure=>simp [intOf] <;> omega
  ·have hXl:=(Pn S).1.len
   have He:Hid (X=cO Q):=r.2.sort (by omega) r.1
   have hF:=Z5 (K3 S L)
   clear hXl S L
   go_wp2_with fail
   go_ret
   exact ⟨a3,c3,rfl,by rw [<- He.out];exact hF.1,hF.2⟩
def sr (P M:Int) (mod:LI) (m:Nat) (S:Ll) (w:World) (e:Ending) (w':World):Prop :=
 ∃a1 c1 a2 c2,e = .returned (.tuple #[.agg #[cG P,cG M,.slice a1 mod.length c1,cG m,.slice a2 S.length c2],cG 0])/\bL w.heap.size w' a1 mod.length mod /\
  cF w.heap.size w' a2 S.length S/\PY w w'
theorem yZ (P M:Int) (am:OA) (F cm:Nat) (mod:LI) (m:Nat) (a:OA) (n c:Nat) (L:Ll) (Y:OA) (X Q:Nat) (a':OA) (z c':Nat) (L':Ll) (w:World)
  (E:Ints w am F mod) (hi:bw w a n L) (hmod':Ints w Y X mod) (hi':bw w a' z L') (hE:aI P M mod m L=0) (hE':aI P M mod m L'=0) (hmn:F<=1000000) :
  Calls prog 126 #[.agg #[cG P,cG M,.slice am F cm,cG m,.slice a n c],.agg #[cG P,cG M,.slice Y X Q,cG m,.slice a' z c']] w (sr P M mod m (bI (ah P M.toNat mod).ops m (L ++ L')) w):=by
 have HTw:Hid (∀V,PY w V->Calls prog 180 #[.agg #[cG P,cG M,.slice am F cm,cG m,.slice a n c],.agg #[cG P,cG M,.slice Y X Q,cG m,.slice a' z c']] V λe w'=>e = .returned (cG 0)/\PY V w'):=λV N =>
  Ie P M am F cm mod m a n c L Y X Q a' z c' L' V (E.af N) (hi.af N) (hmod'.af N) (hi'.af N) hE hE'
 have j:Hid (∀V,PY w V->Calls prog 181 #[.agg #[cG P,cG M,.slice am F cm],.agg #[cG m,.slice a n c],.agg #[cG m,.slice a' z c']] V (oy (bI (ah P M.toNat mod).ops m (L ++ L')) m V)):=λV N =>
  wo P M am F cm mod m a n c L a' z c' L' V (E.af N) (hi.af N) (hi'.af N) hE hE'
 have HOf:Hid (∀V a5 H c5,PY w V->Calls prog 120 #[.agg #[cG P,cG M,.slice am F cm],.agg #[cG m,.slice a5 H c5],cG 0] V (pz P M mod m a5 H c5 V)):=λV a5 H c5 N =>
  Bw P M am F cm mod m a5 H c5 V (E.af N) hmn
 obtain ⟨S,hS⟩:∃S,bI (ah P M.toNat mod).ops m (L ++ L')=S:=⟨_,rfl⟩
 rw [hS] at j ⊢;have G:Hid (∀a1 c1 a2 c2 w',bL w.heap.size w' a1 mod.length mod->cF w.heap.size w' a2 S.length S->PY w w' ->
   sr P M mod m S w (.returned (.tuple #[.agg #[cG P,cG M,.slice a1 mod.length c1,cG m,.slice a2 S.length c2],cG 0])) w'):=λa1 c1 a2 c2 w' h1 h2 h3=>⟨a1,c1,a2,c2,rfl,h1,h2,h3⟩
 generalize sr P M mod m S w=Post at *;unfold oy at j;unfold pz at HOf;obtain ⟨q,hq⟩:∃q,S.length=q:=⟨_,rfl⟩
 obtain ⟨nm,hnm⟩:∃nm,mod.length=nm:=⟨_,rfl⟩
 rw [hq] at j G;rw [hnm] at HOf G;clear E hi hmod' hi' hE hE' hS hq hnm;go_enter func126,ntmps126;go_upto_region 1 with fail;obtain ⟨W,hW⟩:∃W:World,W=((w.alloc (.cells #[cG P,cG M,.slice am F cm,cG m,.slice a n c] 27)).alloc (.cells #[cG P,cG M,.slice Y X Q,cG m,.slice a' z c'] 27)).alloc (.cells #[cG 0,cG 0,ds,cG 0,ds] 27):=⟨_,rfl⟩
 rw [<- hW];have hbW:PY w W:=by rw [hW];exact kS _ _ _ _
 have hsW:W.heap.size=w.heap.size+3:=by rw [hW];simp
 have x0:aQ W w.heap.size [cG P,cG M,.slice am F cm,cG m,.slice a n c]:=by rw [hW];exact ((Po _ _ _ rfl).alloc _).alloc _
 have y0:aQ W (w.heap.size+1) [cG P,cG M,.slice Y X Q,cG m,.slice a' z c']:=by rw [hW];exact (Po _ _ _ (by simp)).alloc _
 have z0:aQ W (w.heap.size+1+1) [cG 0,cG 0,ds,cG 0,ds]:=by rw [hW];exact Po _ _ _ (by simp)
 clear hW;have HX:Hid (∀V,PY W V->V.cell? ⟨w.heap.size,0,none⟩=some (cG P)/\V.cell? ⟨w.heap.size,1,none⟩=some (cG M)/\V.cell? ⟨w.heap.size,2,none⟩=some (.slice am F cm)/\V.cell? ⟨w.heap.size,3,none⟩=some (cG m)/\V.cell? ⟨w.heap.size,4,none⟩=some (.slice a n c) /\
   V.cell? ⟨w.heap.size+1,0,none⟩=some (cG P)/\V.cell? ⟨w.heap.size+1,1,none⟩=some (cG M)/\V.cell? ⟨w.heap.size+1,2,none⟩=some (.slice Y X Q)/\V.cell? ⟨w.heap.size+1,3,none⟩=some (cG m)/\V.cell? ⟨w.heap.size+1,4,none⟩=some (.slice a' z c')):=λV N=>by have x1:=x0.af N;have y1:=y0.af N;exact ⟨x1.cell 0 rfl,x1.cell 1 rfl,x1.cell 2 rfl,x1.cell 3 rfl,x1.cell 4 rfl,y1.cell 0 rfl,y1.cell 1 rfl,y1.cell 2 rfl,y1.cell 3 rfl,y1.cell 4 rfl⟩
 have HZ:=Z5 z0;have HbW:=Z5 hbW;have HsW:=Z5 hsW;clear x0 y0 z0 hbW hsW;obtain ⟨c0,c1,c2,c3,c4,d0,d1,d2,d3,d4⟩:=HX W (KU _ _);go_wp2_with fail;refine (HTw W HbW.out).mono ?_;rintro e U ⟨rfl,r⟩;have hF1:=Pm HbW.out r;clear c0 c1 c2 c3 c4 d0 d1 d2 d3 d4;have HS5:Hid (∀V,PY U V->V.cell? ⟨w.heap.size,0,none⟩=some (cG P)/\V.cell? ⟨w.heap.size,1,none⟩=some (cG M)/\V.cell? ⟨w.heap.size,2,none⟩=some (.slice am F cm)/\V.cell? ⟨w.heap.size,3,none⟩=some (cG m)/\V.cell? ⟨w.heap.size,4,none⟩=some (.slice a n c) /\
   V.cell? ⟨w.heap.size+1,0,none⟩=some (cG P)/\V.cell? ⟨w.heap.size+1,1,none⟩=some (cG M)/\V.cell? ⟨w.heap.size+1,2,none⟩=some (.slice Y X Q)/\V.cell? ⟨w.heap.size+1,3,none⟩=some (cG m)/\V.cell? ⟨w.heap.size+1,4,none⟩=some (.slice a' z c')/\PY U V):=λV N=>by obtain ⟨q0,q1,q2,q3,q4,r0,r1,r2,r3,r4⟩:=HX V (Pm r N);exact ⟨q0,q1,q2,q3,q4,r0,r1,r2,r3,r4,N⟩
 have HS1:=Z5 (λV (N:PY U V)=>j V (Pm hF1 N));have HwU:Hid (w.heap.size<=U.heap.size):=hF1.size;obtain ⟨c0,c1,c2,c3,c4,d0,d1,d2,d3,d4,_⟩:=HS5 U (KU _ _);go_upto_region 4 with fail;go_cut [7,8] (λv7 v8 wx=>v8 = cG 0/\∃g a5 H,v7 = .pointer (some ⟨g,0,none⟩)/\Hid (aQ wx g [cG m,.slice a5 q H])/\Hid (cF U.heap.size wx a5 q S)/\PY U wx);case first =>
  go_region_held3 (λV=>V.cell? ⟨w.heap.size,0,none⟩=some (cG P)/\V.cell? ⟨w.heap.size,1,none⟩=some (cG M)/\V.cell? ⟨w.heap.size,2,none⟩=some (.slice am F cm)/\V.cell? ⟨w.heap.size,3,none⟩=some (cG m)/\V.cell? ⟨w.heap.size,4,none⟩=some (.slice a n c) /\
   V.cell? ⟨w.heap.size+1,0,none⟩=some (cG P)/\V.cell? ⟨w.heap.size+1,1,none⟩=some (cG M)/\V.cell? ⟨w.heap.size+1,2,none⟩=some (.slice Y X Q)/\V.cell? ⟨w.heap.size+1,3,none⟩=some (cG m)/\V.cell? ⟨w.heap.size+1,4,none⟩=some (.slice a' z c')/\PY U V)
   ((refine HS5 _ ?_;first | exact (KU _ _).drew | assumption | (go_split_ands;first | assumption | exact Pm (by assumption) (an _ _) | exact (Pm (by assumption) (an _ _)).drew | exact Pm (by assumption) (by assumption) | exact Np (Np (by assumption) (by first | exact hB5.size | exact A.size | exact C.size | simp) _) (by first | exact hB5.size | exact A.size | exact C.size | simp) _)))
   (first
    | (go_at_call 91;((with_reducible refine (nJ P M am F cm m a n c _).mono ?_);rintro e w2 ⟨rfl,hb2⟩;have C:PY U w2:=(by go_split_ands;exact Pm (by assumption) hb2);(first | (have B:=Z5 (j5 hb2)) | (have B:=Z5 (jg hb2)) | (have B:=Z5 (D.out.af hb2)) | skip)))
    | (go_at_call 91;((with_reducible refine (nJ P M Y X Q m a' z c' _).mono ?_);rintro e w3 ⟨rfl,hb3⟩;have A:PY U w3:=(by go_split_ands;exact Pm (by assumption) hb3);(first | (have D:=Z5 (j5 hb3)) | (have D:=Z5 (jg hb3)) | (have D:=Z5 (B.out.af hb3)) | skip)))
    | (go_at_call 181;((with_reducible refine (HS1.out _ (by go_split_ands;assumption)).mono ?_);rintro e w5 ⟨a5,H,rfl,hM5,hb5⟩;have hB5:PY U w5:=(by go_split_ands;exact Pm (by assumption) hb5);have HM5:=Z5 hM5;clear hM5;(first | (have K:=Z5 (j5 hb5)) | (have K:=Z5 (jg hb5)) | (have K:=Z5 (D.out.af hb5)) | (have K:=Z5 (B.out.af hb5)) | skip);(first | (have z0:=K.out.cell 0 rfl;have z1:=K.out.cell 1 rfl;have f0:=K.out.frozen 0;have f1:=K.out.frozen 1) | skip))))
  all_goals (
   go_wp2_with fail
   go_meet
   first
    | exact ⟨rfl,_,a5,H,rfl,Po w5 [cG m,.slice a5 q H] _ rfl,(HM5.af (an _ _)).mono ((by first | exact A.size | exact C.size | exact (Pm A (an _ _)).size | exact (Pm C (an _ _)).size)),by go_split_ands;assumption⟩
    | exact ⟨rfl,_,a5,H,rfl,(K.setCell 0 (cG m)).setCell 1 (.slice a5 q H),((HM5.setCell (by first | exact D.1 | exact B.1 | simp) _).setCell (by first | exact D.1 | exact B.1 | simp) _).mono ((by first | exact A.size | exact C.size | exact (Pm A (an _ _)).size | exact (Pm C (an _ _)).size)),by go_split_ands;assumption⟩)
 obtain ⟨rfl,g,a5,H,rfl,HB,HM,hbV⟩:=hcut;generalize wc=V at *;have hF2:=Pm hF1 hbV;clear c0 c1 c2 c3 c4 d0 d1 d2 d3 d4;obtain ⟨c0,c1,c2,_⟩:=HX V (Pm r hbV);have g0:=HB.cell 0 rfl;have g1:=HB.cell 1 rfl;have HOV:=Z5 (HOf V a5 q H hF2);clear HOf j HTw;go_wp2_with fail;refine HOV.mono ?_;rintro e w6 ⟨a6,c6,rfl,hN6,hb6⟩;have Z:=HZ.af (Pm (Pm r hbV) hb6);have z0:=Z.cell 0 rfl;have z1:=Z.cell 1 rfl;have z2:=Z.cell 2 rfl;have z3:=Z.cell 3 rfl;have z4:=Z.cell 4 rfl;have f0:=Z.frozen 0;have f1:=Z.frozen 1;have f2:=Z.frozen 2;have f3:=Z.frozen 3;have f4:=Z.frozen 4;have hbF:=Pm hF2 hb6;have hs:=HsW.out;have hs1:=r.size;have hs2:=hbV.size;have hM6:cF w.heap.size (((((w6.setCell ⟨w.heap.size+1+1,0,none⟩ (cG P)).setCell ⟨w.heap.size+1+1,1,none⟩ (cG M)).setCell ⟨w.heap.size+1+1,2,none⟩ (.slice a6 nm c6)).setCell ⟨w.heap.size+1+1,3,none⟩ (cG m)).setCell ⟨w.heap.size+1+1,4,none⟩ (.slice a5 q H)) a5 q S :=
  ((((((HM.af hb6).setCell (p:=⟨w.heap.size+1+1,0,none⟩) (by simp;omega) _).setCell (p:=⟨w.heap.size+1+1,1,none⟩) (by simp;omega) _).setCell (p:=⟨w.heap.size+1+1,2,none⟩) (by simp;omega) _).setCell (p:=⟨w.heap.size+1+1,3,none⟩) (by simp;omega) _).setCell (p:=⟨w.heap.size+1+1,4,none⟩) (by simp;omega) _).mono HwU.out
 have hFin:=G a6 c6 a5 H (((((w6.setCell ⟨w.heap.size+1+1,0,none⟩ (cG P)).setCell ⟨w.heap.size+1+1,1,none⟩ (cG M)).setCell ⟨w.heap.size+1+1,2,none⟩ (.slice a6 nm c6)).setCell ⟨w.heap.size+1+1,3,none⟩ (cG m)).setCell ⟨w.heap.size+1+1,4,none⟩ (.slice a5 q H))
  ((((((hN6.setCell (p:=⟨w.heap.size+1+1,0,none⟩) (by simp;omega) _).setCell (p:=⟨w.heap.size+1+1,1,none⟩) (by simp;omega) _).setCell (p:=⟨w.heap.size+1+1,2,none⟩) (by simp;omega) _).setCell (p:=⟨w.heap.size+1+1,3,none⟩) (by simp;omega) _).setCell (p:=⟨w.heap.size+1+1,4,none⟩) (by simp;omega) _).mono (by omega))
  hM6
  (((((hbF.setCell (p:=⟨w.heap.size+1+1,0,none⟩) (by simp;omega) _).setCell (p:=⟨w.heap.size+1+1,1,none⟩) (by simp;omega) _).setCell (p:=⟨w.heap.size+1+1,2,none⟩) (by simp;omega) _).setCell (p:=⟨w.heap.size+1+1,3,none⟩) (by simp;omega) _).setCell (p:=⟨w.heap.size+1+1,4,none⟩) (by simp;omega) _)
 have HFin:=Z5 hFin;clear hFin hM6 hN6 HOV Z g0 g1 c0 c1 c2;go_wp2_with fail;exact bodyPost_ret (v:=.tuple #[.agg #[cG P,cG M,.slice a6 nm c6,cG m,.slice a5 q H],cG 0]) (by simp [results,results126,go_sem,z0,z1,z2,z3,z4]) rfl HFin.out
theorem E8 {m:Nat} {Q:LI} (h:fP m Q=true):tu m Q:=λj Z=>⟨(ie h Z).1,(ie h Z).2.1⟩
theorem yg (Z:LI->Nat) (Q:LI) (most:Nat):∀k,(iA Z Q most k).length<=k
 | 0=>KT _
 | k+1=>by
  have Y:=yg Z Q most k;rw [iA];split
  ·rw [K6];simp;omega
  ·omega
theorem s9 (Y:LI->Nat) (Q:LI) (most:Nat):∀k,k<=Q.length->∀x ∈ iA Y Q most k,x ∈ Q
 | 0,_,x,Z=>by simp [iA] at Z
 | k+1,X,x,Z=>by
  rw [iA] at Z;split at Z
  ·rcases List.mem_append.1 Z with h | h
   ·exact s9 Y Q most k (by omega) x h
   ·rw [List.mem_singleton.1 h];exact aG (by omega)
  ·exact s9 Y Q most k (by omega) x Z
theorem BW {m:Nat} {Q:LI} (h:tu m Q) {x:Int} (Y:x ∈ Q):0<=x/\x<m:=by obtain ⟨j,Z,rfl⟩:=List.mem_iff_getElem.1 Y;rw [<- aj Z];exact h j Z
theorem FM {m:Nat} {Q:LI} (h:∀x ∈ Q,0<=x/\x<(m:Int)):tu m Q:=λj Z=>h _ (aG Z)
theorem zP (P M:Int) (am:OA) (mn cm:Nat) (mod:LI) (m:Nat) (a:OA) (n c:Nat) (L:Ll) (ao:OA) (no co:Nat) (Q:LI) (most:Nat) (w:World) (hmod:Ints w am mn mod) (hi:bw w a n L) (hq:Ints w ao no Q)
  (hE:aI P M mod m L=0) (hQ:tu m Q) (hno:no<=1000) :
  Calls prog 186 #[.agg #[cG P,cG M,.slice am mn cm],.slice a n c,.slice ao no co,cG most] w λe w' =>
   ∃a1 c1,e = .returned (.slice a1 (iA (kC (ah P M.toNat mod).ops L) Q most no).length c1)/\w'.ownsRow w.heap.size 3 1 (.slice a1 (iA (kC (ah P M.toNat mod).ops L) Q most no).length c1) (iA (kC (ah P M.toNat mod).ops L) Q most no).length ((cO (iA (kC (ah P M.toNat mod).ops L) Q most no)).map (Value.int .i64))/\PY w w':=by
 have Hql:=Z5 hq.len;have hplo:=hq.pl;obtain ⟨rk,hrk⟩:∃rk,kC (ah P M.toNat mod).ops L=rk:=⟨_,rfl⟩
 have HO:Hid (∀V a5 E l,PY w V->V.ownsRow w.heap.size 3 1 (.slice a5 l.length E) l.length (l.map (Value.int .i64))->l.length<=2000->tu m l ->
   Calls prog 235 #[.agg #[cG P,cG M,.slice am mn cm],.slice a n c,.slice a5 l.length E] V λe w'=>e = .returned (cG (rk l))/\PY V w'):=λV a5 E l A ho hl hil=>by have h:=oX P M am mn cm mod m a n c L a5 l.length E l V (hmod.af A) (hi.af A) (Pn ho).1 hE hil (by omega);rw [<- hrk];exact h
 rw [hrk];obtain ⟨G,hG⟩:∃G,iA rk Q most=G:=⟨_,rfl⟩
 have Hgm:Hid (∀k,k<=no->tu m (G k)/\(G k).length<=k):=λk hk=>by rw [<- hG];exact ⟨FM λx hx=>BW hQ (s9 rk Q most k (by rw [Hql.out];exact hk) x hx),yg rk Q most k⟩
 have HG1:Hid (∀k,(G k).length<most->rk (G k ++ [nth Q k])=(G k).length+1->G (k+1)=G k ++ [nth Q k]):=λk h1 h2=>by rw [<- hG] at h1 h2 ⊢;rw [iA,KX ⟨h1,h2⟩]
 have HG2:Hid (∀k,rk (G k ++ [nth Q k]) ≠ (G k).length+1->G (k+1)=G k):=λk h2=>by rw [<- hG] at h2 ⊢;rw [iA,KY λh=>h2 h.2]
 have HG3:Hid (∀k,k<=no->most<=(G k).length->G no=G k):=λk h1 h2=>by rw [<- hG] at h2 ⊢;exact uX h1 h2
 have HG0:Hid (G 0=[]):=by rw [<- hG];rfl
 have HQ:=Z5 hQ;rw [hG];clear hG hrk hmod hi hE hQ;go_enter func186,ntmps186;go_wp2_with fail;obtain ⟨W,hW⟩:∃W:World,W=w.alloc (.cells #[cG P,cG M,.slice am mn cm] 24):=⟨_,rfl⟩
 rw [<- hW];have hbW:PY w W:=by rw [hW];exact an _ _
 have x0:aQ W w.heap.size [cG P,cG M,.slice am mn cm]:=by rw [hW];exact Po _ _ _ rfl
 have hqW:=hq.af hbW;have HS:Hid (∀V,PY W V->V.cell? ⟨w.heap.size,0,none⟩=some (cG P)/\V.cell? ⟨w.heap.size,1,none⟩=some (cG M)/\V.cell? ⟨w.heap.size,2,none⟩=some (.slice am mn cm)):=λV A=>by have x1:=x0.af A;exact ⟨x1.cell 0 rfl,x1.cell 1 rfl,x1.cell 2 rfl⟩
 have HbW:=Z5 hbW;clear hW x0 hbW hq;go_loopw [9,10] (λov iv wr=>∃(k g:Nat) (a1:OA) (c1:Nat),k<=no/\Hid ((G k).length=g)/\iv = cG k/\ov = .slice a1 g c1/\wr.ownsRow W.heap.size 3 1 (.slice a1 g c1) g ((G k).map (Value.int .i64))/\PY W wr) (λ_ iv _=>no - (intOf iv).toNat);case atStart=>exact ⟨0,0,none,0,K0 _,by show _=_;rw [HG0.out];rfl,rfl,rfl,by rw [HG0.out];exact ⟨rfl,.inl ⟨rfl,rfl⟩⟩,KU _ _⟩
 case round =>
  obtain ⟨k,g,a1,c1,hk,H,rfl,rfl,N,F⟩:=hrel
  by_cases K:k<no/\g<most
  ·obtain ⟨C,hgm⟩:=K
   have hgk:g<=1000:=by have h:=(Hgm k hk).2;rw [H.out] at h;omega
   have hcx:=(hqW.af F).cell k C
   obtain ⟨z,hz⟩:∃z,nth Q k=z:=⟨_,rfl⟩
   have hzm:0<=z/\z<m:=by rw [<- hz];exact HQ k (by rw [Hql.out];exact C)
   have hg1:=HG1 k
   have hg2:=HG2 k
   rw [hz] at hcx hg1 hg2
   rw [H.out] at hg1 hg2
   have hin:=(Hgm k hk).1
   have hinz:tu m (G k ++ [z]):=FM λx hx=>by
    rcases List.mem_append.1 hx with h | h
    ·exact BW hin h
    ·rw [List.mem_singleton.1 h];exact hzm
   have hpl1:=(Pn N).1.pl
   have U:=Pm HbW.out F
   have HOf:Hid (∀V a5 E,PY wr V->V.ownsRow wr.heap.size 3 1 (.slice a5 (g+1) E) (g+1) ((G k).map (Value.int .i64) ++ [cG z]) ->
     Calls prog 235 #[.agg #[cG P,cG M,.slice am mn cm],.slice a n c,.slice a5 (g+1) E] V λe w'=>e = .returned (cG (rk (G k ++ [z])))/\PY V w'):=λV a5 E A ho=>by
    have hl:(G k ++ [z]).length=g+1:=by rw [K6,H.out];rfl
    have h1:=HO V a5 E (G k ++ [z]) (Pm U A) (by rw [hl];exact aY (by simpa using ho) (by have:=U.size;omega)) (by omega) hinz;rw [hl] at h1;exact h1
   have HS2:Hid (∀V,PY wr V->V.cell? ⟨w.heap.size,0,none⟩=some (cG P)/\V.cell? ⟨w.heap.size,1,none⟩=some (cG M)/\V.cell? ⟨w.heap.size,2,none⟩=some (.slice am mn cm)):=λV A=>HS V (Pm F A)
   have HS4:Hid (∀V,PY wr V->V.cell? ⟨ablk ao,aJ ao+k,none⟩=some (cG z)/\Ints V a1 g (G k)/\PY wr V):=λV A=>by refine ⟨?_,(Pn (bf N A)).1,A⟩;have h:=((hqW.af F).af A).cell k C;rwa [hz] at h
   have Hbr:=Z5 F
   have Hown:=Z5 N
   have hGl:=H.out
   have Hg1:=Z5 hg1
   have Hg2:=Z5 hg2
   obtain ⟨Gk,hGk⟩:∃Gk,G k=Gk:=⟨_,rfl⟩
   rw [hGk] at HOf HS4 Hown hGl Hg1 Hg2 hinz hin H
   obtain ⟨r,hr⟩:∃r,rk (Gk ++ [z])=r:=⟨_,rfl⟩
   rw [hr] at HOf Hg1 Hg2
   have HGk:=Z5 hGk
   clear hr hz hcx N F hg1 hg2 hin hinz hGk U hzm
   go_wp2_with fail
   go_cut [11] (λv wx=>∃a5 E,v = .slice a5 (g+1) E/\wx.ownsRow wr.heap.size 3 1 (.slice a5 (g+1) E) (g+1) (Gk.map (Value.int .i64) ++ [cG z])/\PY wr wx)
   case first =>
    have hO:=fK wr 3
    have hO2:((wr.alloc (.cells #[cG z] 3)).alloc (.cells #[] 3)).ownsRow wr.heap.size 3 1 (.slice (some ⟨wr.heap.size+1,0,none⟩) 0 0) 0 []:=by have h:=aY (fK (wr.alloc (.cells #[cG z] 3)) 3) (B':=wr.heap.size) (by simp);rwa [MZ] at h
    go_region_held3 (λV=>V.cell? ⟨ablk ao,aJ ao+k,none⟩=some (cG z)/\Ints V a1 g Gk/\PY wr V)
     ((refine HS4 _ ?_;first | exact (KU _ _).drew | exact D | exact Pm D hb6 | exact hb4 | exact Pq hb4 _ | exact ((KU _ _).alloc (KT _) _).drew | (go_split_ands;exact Pq (by assumption) _)))
     (first
      | (obtain ⟨_,hI9,hB9⟩:=(by assumption:_/\Ints _ a1 g Gk/\PY wr _);refine eh (by rfl) (.tmp 24) (.tmp 25) 22 3 (by rfl) (cG 0) 8 underlying22 bh (by rfl) wr.heap.size _ 0 0 [] (by rfl) (by first | exact hO | exact hO.alloc _ | exact hO2) a1 g c1 (Gk.map (Value.int .i64)) (by rfl) hpl1 (by simp [hGl]) (Px hI9) (ints_oneCell _ _) (by omega) (by unfold maxLen;omega) (Ml hB9) ?_;intro a4 c4 w4 Z hgr4 hap4;have hb4:PY wr w4:=Pp (B:=wr.heap.size) (e:=3) (xs:=[]) hB9 (by first | exact hO | exact hO.alloc _ | exact hO2) hgr4 (KT _) (Ml hB9);rw [MR] at Z ⊢;rw [L3] at Z;(first | (have hc4:=bP (ad:=⟨wr.heap.size+1,0,none⟩) (v:=cG z) hgr4 (dB _ _ _ (by simp)) (.inr (by simp))) | (have hc4:=bP (ad:=⟨wr.heap.size,0,none⟩) (v:=cG z) hgr4 (br (dB _ _ _ rfl) _) (.inr (by simp))) | skip))
      | (refine eh (by rfl) (.tmp 26) (.tmp 31) 22 3 (by rfl) (cG 0) 8 underlying22 bh (by rfl) wr.heap.size a4 g c4 (Gk.map (Value.int .i64)) (by rfl) (by first | exact Z | exact Z.alloc _) _ 1 1 [cG z] (by rfl) (λ_=>rfl) rfl (by intro j hj;obtain rfl:j=0:=(by omega);first | exact dB _ _ _ rfl | exact hc4) (by intro y hy;simp at hy;subst hy;rfl) (by omega) (by unfold maxLen;omega) (by first | exact hb4.size | exact (Pq hb4 _).size) ?_;intro a5 E w5 X hgr5 hap5;have D:PY wr w5:=(by first | exact Pp (Pq hb4 _) (Z.alloc _) hgr5 (KT _) (Pq hb4 _).size | exact Pp hb4 Z hgr5 (KT _) hb4.size)))
    all_goals (go_wp2_with fail;go_meet;exact ⟨a5,E,rfl,X,D⟩)
   obtain ⟨a5,E,rfl,X,D⟩:=hcut
   generalize wc=V at *
   obtain ⟨q0,q1,q2⟩:=HS2 V D
   have HOf2:=Z5 (HOf V a5 E D X)
   have H5:=Z5 (K3 X D)
   clear X D HOf
   go_wp2_with fail
   refine HOf2.mono ?_
   rintro e w6 ⟨rfl,hb6⟩
   clear q0 q1 q2 HOf2
   have hbw6:=Pm Hbr.out (Pm H5.2 hb6)
   by_cases hr:r=g+1
   ·have hrr:((r:Int) == (g:Int)+1)=true:=by rw [hr];simp
    have HGn:Hid (G (k+1)=Gk ++ [z]):=Hg1 hgm hr
    clear hr
    go_wp2_with fail
    go_roundw
    case rel=>exact ⟨k+1,g+1,a5,E,by omega,by show _=_;rw [HGn.out,K6,hGl];rfl,by go_num,rfl,by rw [HGn.out];exact aY (bf (by simpa using H5.1) hb6) (Hbr.size),hbw6⟩
    case measure=>simp [intOf] <;> omega
   ·have hrr:((r:Int) == (g:Int)+1)=false:=by simp;omega
    have HGn:Hid (G (k+1)=Gk):=Hg2 hr
    clear hr
    go_wp2_with fail
    go_roundw
    case rel=>exact ⟨k+1,g,a1,c1,by omega,by show _=_;rw [HGn.out];exact hGl,by go_num,rfl,by rw [HGn.out];exact bf Hown.out (Pm H5.2 hb6),hbw6⟩
    case measure=>simp [intOf] <;> omega
  ·have HGe:Hid (G no=G k):=by
    show _=_;by_cases C:k<no
    ·exact HG3 k hk (by rw [H.out];omega)
    ·obtain rfl:k=no:=by omega
     rfl
   have hgk:g<=1000:=by have h:=(Hgm k hk).2;rw [H.out] at h;omega
   have U:=Pm HbW.out F
   have Hso:=Z5 (ot a1 g c1 (G k) wr (Pn N).1 (by omega))
   have hsz:=U.size
   have Hbr:=Z5 U
   clear N F U
   by_cases C:k<no
   ·have hgm:¬ g<most:=λh=>K ⟨C,h⟩
    clear K
    go_wp2_with fail
    refine Hso.mono ?_
    rintro e w7 ⟨a7,c7,rfl,S,hb7⟩
    have hF:=Pm Hbr.out hb7
    have Y:=aY S hsz
    clear S
    have HF:=Z5 (K3 Y hF)
    clear Y hF
    go_wp2_with fail
    go_ret
    rw [HGe.out,H.out]
    exact ⟨a7,c7,rfl,HF.1,HF.2⟩
   ·obtain rfl:k=no:=by omega
    clear K
    go_wp2_with fail
    refine Hso.mono ?_
    rintro e w7 ⟨a7,c7,rfl,S,hb7⟩
    have hF:=Pm Hbr.out hb7
    have Y:=aY S hsz
    clear S
    have HF:=Z5 (K3 Y hF)
    clear Y hF
    go_wp2_with fail
    go_ret
    rw [H.out]
    exact ⟨a7,c7,rfl,HF.1,HF.2⟩
theorem FJ {w:World} {B:Nat} {e:TypeId} {a:OA} {n c k:Nat} {xs:List Value} (h:w.ownsRow B e 1 (.slice a n c) n xs) (S:k<=n):w.ownsRow B e 1 (.slice a k c) k (xs.take k):=by
 have Q:=jB h;refine ⟨by rw [Lt];omega,?_⟩;rcases h.2 with ⟨Z,h0⟩ | ⟨g,cap,cur,Z,V,U,hle,hm,Y,X⟩
 ·cases Z
  obtain rfl:k=0:=by omega
  exact .inl ⟨rfl,rfl⟩
 ·cases Z
  refine .inr ⟨g,c,cur,rfl,V,U,by omega,hm,Y,?_⟩;rw [<- X,List.take_take];congr 1;omega
theorem aO.take {B:Nat} {w:World} {a:OA} {n c k:Nat} {R:LA} {L:Ll} (h:aO w B a n c R L) (V:k<=n):aO w B a k c (R.take k) (L.take k):=by
 have U:=h.rl;have S:=h.ll;have Z:∀ {i},i<k->aM (R.take k) i=aM R i:=λ{i} hi=>by rw [fJ (show i<(R.take k).length by rw [Lt];omega),fJ (by omega),N1]
 have Y:∀ {i},i<k->ai (L.take k) i=ai L i:=λ{i} hi=>by rw [aE (show i<(L.take k).length by rw [Lt];omega),aE (by omega),N1]
 refine ⟨by rw [Lt];omega,by rw [Lt];omega,?_,λi hi=>?_,λi hi=>?_,λi j hi X=>?_⟩
 ·rw [<- O2];exact FJ h.own V
 ·rw [Z hi,Y hi];exact h.row i (by omega)
 ·rw [Z hi];exact h.tq i (by omega)
 ·rw [Z hi,Z X];exact h.sep i j (by omega) (by omega)
def lQ (G:cZ) (L:Ll) (m:Nat) (w:World) (e:Ending) (w':World):Prop :=
 ∃a c R ap cp,e = .returned (.tuple #[.slice a (bq G L m).length c,.slice ap (bq G L m).length cp])/\aO w' w.heap.size a (bq G L m).length c R (bZ G L m)/\bL w.heap.size w' ap (bq G L m).length (bq G L m)/\PY w w'
def zh (O:aP) (L:Ll) (m:Nat) (w:World) (e:Ending) (w':World):Prop :=
 ∃a c R ap cp,e = .returned (.tuple #[.slice a (aD O L m).2.length c,.slice ap (aD O L m).2.length cp])/\aO w' w.heap.size a (aD O L m).2.length c R ((aD O L m).1.take (aD O L m).2.length)/\bL w.heap.size w' ap (aD O L m).2.length (aD O L m).2/\PY w w'
theorem qe (P M:Int) (am:OA) (Q cm:Nat) (mod:LI) (a:OA) (n c Z:Nat) (L:Ll) (w:World) (D:Ints w am Q mod) (hi:bw w a n L)
  (B:bs P M mod=true) (E:bt (ah P M.toNat mod).El Z L) (hlen:Z<=1000000) (hn:n<=1000000) :
  Calls prog 124 #[.agg #[cG P,cG M,.slice am Q cm],.slice a n c,cG Z] w (lQ (ah P M.toNat mod) L Z w):=by
 have hinv:=kd (P:=P) (M:=M) (mod:=mod) (by rw [cB];exact B);obtain ⟨k,rfl,F,_,hF,hA,_⟩:=eQ B;obtain ⟨k',e2,K,Y⟩:=dQ (by rw [cB];exact B);obtain rfl:k=k':=by omega
 rw [KV] at E hinv ⊢;rw [<- F] at E;have r:=(gQ hA hF.cl E Z (KT _)).1;have Hlen:=Z5 hi.len;have j:Hid (∀V,PY w V->Calls prog 179 #[.agg #[cG P,cG k,.slice am Q cm],.slice a n c,cG Z] V (j7 (ah P k mod).ops L Z V)):=λV hV=>by have h:=pF P k am Q cm mod a n c Z Z L V ⟨K,Y V am Q (D.af hV)⟩ (hi.af hV) E (KT _) hlen hn hinv;unfold j7 at h ⊢;rw [r];exact h
 show Calls prog 124 _ w (zh (ah P k mod).ops L Z w);obtain ⟨O,hO⟩:∃O,(ah P k mod).ops=O:=⟨_,rfl⟩
 rw [hO] at j ⊢;clear hO hinv E F hF hA e2 K Y r B;go_enter func124,ntmps124;go_wp2_with fail;obtain ⟨W,z⟩:∃W:World,W=w.alloc (.cells #[cG P,cG k,.slice am Q cm] 24):=⟨_,rfl⟩
 rw [<- z];have X:PY w W:=by rw [z];exact an _ _
 clear z;refine (j W X).mono ?_;rintro e w1 ⟨a1,c1,R1,ap,cp,rfl,C,G,A⟩;have S:=ei O L Z;have U:=mz C.own;have H:=(PW G).mono X.size;have N:=(C.take (k:=(aD O L Z).2.length) S.2).mono X.size;have HF:Hid (zh O L Z w (.returned (.tuple #[.slice a1 (aD O L Z).2.length c1,.slice ap (aD O L Z).2.length cp])) w1):=⟨a1,c1,_,ap,cp,rfl,N,H,Pm X A⟩
 have hle:(aD O L Z).2.length<=c1:=K9 S.2 U;clear H N G U S;generalize (aD O L Z).2.length=k at *;go_wp2_with fail;go_ret2;simpa using HF.out
def ldTo (P:LI) (m:Nat):Nat->LI
 | 0=>(List.range m).map λ_=>-1
 | i+1=>(ldTo P m i).set (nth P i).toNat i
def pH (m k:Nat):LI:=(List.range m).map λi=>if i<k then -1 else 0
theorem y6 (P:LI) (m:Nat):∀i,(ldTo P m i).length=m
 | 0=>by simp [ldTo]
 | i+1=>by rw [ldTo,LZ];exact y6 P m i
theorem FN {P:LI} {m:Nat} (Z:∀j,j<P.length->0<=nth P j/\nth P j<m) {c:Nat} (Y:c<m):∀i,i<=P.length->(0<=nth (ldTo P m i) c ↔ ∃j,j<i/\nth P j=c)
 | 0,_=>by
  rw [ldTo,ed _ _ _ Y];constructor
  ·intro h;omega
  ·rintro ⟨j,U,_⟩;omega
 | i+1,hi=>by
  have V:=FN Z Y i (by omega);have hb:=Z i (by omega);rw [ldTo,dS _ _ _ _ (by rw [y6];omega)];by_cases e:c=(nth P i).toNat
  ·rw [KX e];exact ⟨λ_=>⟨i,by omega,by omega⟩,λ_=>by omega⟩
  ·rw [KY e,V];constructor
   ·rintro ⟨j,h1,h2⟩;exact ⟨j,by omega,h2⟩
   ·rintro ⟨j,h1,h2⟩;by_cases X:j=i
    ·subst X;omega
    ·exact ⟨j,by omega,h2⟩
theorem JS {P:LI} {m:Nat} (Y:∀j,j<P.length->0<=nth P j/\nth P j<m) {c:Nat} (X:c<m):(0<=nth (ldTo P m P.length) c ↔ (c:Int) ∈ P):=by
 rw [FN Y X _ (KT _)];constructor
 ·rintro ⟨j,h1,h2⟩;rw [<- h2];exact aG h1
 ·intro h;obtain ⟨j,Z,e⟩:=List.mem_iff_getElem.1 h;exact ⟨j,Z,by rw [aj Z];exact e⟩
theorem Jk {m k:Nat} (Z:k<m):(pH m k).set k (-1)=pH m (k+1):=by
 refine Mi (by simp [pH]) λi h1 h2=>?_;simp only [pH,O6,LU,ML];by_cases e:k=i
 ·subst e;rw [KX rfl,KX (by omega)]
 ·rw [KY e];by_cases h:i<k
  ·rw [KX h,KX (by omega)]
  ·rw [KY h,KY (by omega)]
def iW (G:cZ) (L:Ll) (m:Nat) (w:World) (e:Ending) (w':World):Prop :=
 ∃a c R,e = .returned (.slice a (aU G L m).length c)/\aO w' w.heap.size a (aU G L m).length c R (aU G L m)/\PY w w'
theorem po (P M:Int) (am:OA) (mn cm:Nat) (mod:LI) (m:Nat) (a:OA) (n c:Nat) (L:Ll) (w:World) (hmod:Ints w am mn mod) (hi:bw w a n L)
  (hB:bs P M mod=true) (hR:bt (ah P M.toNat mod).El m L) (hm:m<=1000) (hn:n<=1000000) :
  Calls prog 157 #[.agg #[cG P,cG M,.slice am mn cm],.slice a n c,cG m] w (iW (ah P M.toNat mod) L m w):=by
 have F:=dO hB;have hmo:=hmod;have HC1:Hid (∀V,PY w V->Calls prog 124 #[.agg #[cG P,cG M,.slice am mn cm],.slice a n c,cG m] V (lQ (ah P M.toNat mod) L m V)):=λV hV =>
  qe P M am mn cm mod a n c m L V (hmod.af hV) (hi.af hV) hB hR (by omega) hn
 have HC2:Hid (∀V a1 n1 c1 L1,PY w V->bw V a1 n1 L1->bt (ah P M.toNat mod).El m L1->n1<=1000000->Calls prog 124 #[.agg #[cG P,cG M,.slice am mn cm],.slice a1 n1 c1,cG m] V (lQ (ah P M.toNat mod) L1 m V)):=λV a1 n1 c1 L1 hV h1 h2 h3 =>
  qe P M am mn cm mod a1 n1 c1 m L1 V (hmod.af hV) h1 hB h2 (by omega) h3
 obtain ⟨Q,rfl,hel,_,_,hA,_⟩:=eQ hB;obtain ⟨k',e2,hrf,_⟩:=dQ (by rw [cB];exact hB);obtain rfl:Q=k':=by omega
 rw [KV] at hR F HC1 HC2 ⊢;have HNg:Hid (∀(V:World) (x:Int),(ah P Q mod).El x->Calls prog 107 #[.agg #[cG P,cG Q,.slice am mn cm],cG x] V λe w'=>e = .returned (cG ((ah P Q mod).ops.neg x))/\PY V w'):=λV x hx =>
  rj P Q am mn cm x V hrf (hrf.iQ (by rw [hel];exact hx))
 obtain ⟨hPv,hLd⟩:=bU F hR;have hRc:bt (ah P Q mod).El m (bZ (ah P Q mod) L m):=bS F hR;have hcl:(bZ (ah P Q mod) L m).length=(bq (ah P Q mod) L m).length:=dM _ L m;have HPv:Hid (lh (bZ (ah P Q mod) L m) (bq (ah P Q mod) L m) m):=hPv;have hrws:∀k,k<=m->bt (ah P Q mod).El m (dk (ah P Q mod).ops m (bZ (ah P Q mod) L m) (bq (ah P Q mod) L m) k):=by
  intro k;induction k with
  | zero=>intro _ r hr;simp [dk] at hr
  | succ k ih =>
   intro hk r hr
   rw [dk] at hr
   split at hr
   ·exact ih (by omega) r hr
   ·rw [L8,LQ] at hr
    rcases hr with hr | rfl
    ·exact ih (by omega) r hr
    ·exact kq F hRc hPv hcl (by omega) _ (KT _)
 have Hrws:=Z5 hrws;have Hdl:Hid (aU (ah P Q mod) L m=bZ (ah P Q mod) (dk (ah P Q mod).ops m (bZ (ah P Q mod) L m) (bq (ah P Q mod) L m) m) m):=rfl;have Hcp:Hid (∀c,c<m->∀i,i<(bq (ah P Q mod) L m).length->(ah P Q mod).El (nth (ai (bZ (ah P Q mod) L m) i) c)):=λc hc i hi=>Ps (hRc.row (by rw [hcl];exact hi)) hc;have Hrl:Hid (∀i,i<(bq (ah P Q mod) L m).length->(ai (bZ (ah P Q mod) L m) i).length=m):=λi hi=>(hRc.row (by rw [hcl];exact hi)).1;have Hkp:Hid (∀c i,kerTo (ah P Q mod).ops m (bZ (ah P Q mod) L m) (bq (ah P Q mod) L m) c (i+1)=(kerTo (ah P Q mod).ops m (bZ (ah P Q mod) L m) (bq (ah P Q mod) L m) c i).set (nth (bq (ah P Q mod) L m) i).toNat ((ah P Q mod).ops.neg (nth (ai (bZ (ah P Q mod) L m) i) c))):=λc i=>rfl;have Hk0:Hid (∀c,kerTo (ah P Q mod).ops m (bZ (ah P Q mod) L m) (bq (ah P Q mod) L m) c 0=(List.replicate m 0).set c 1):=λc=>rfl;have A:Hid (∀j,j<(bq (ah P Q mod) L m).length->0<=nth (bq (ah P Q mod) L m) j/\nth (bq (ah P Q mod) L m) j<m):=HPv.lt;have Hld:Hid (∀c,c<m->(0<=nth (ldTo (bq (ah P Q mod) L m) m (bq (ah P Q mod) L m).length) c ↔ (c:Int) ∈ bq (ah P Q mod) L m)):=λc hc=>JS HPv.lt hc;unfold lQ at HC1;unfold iW;obtain ⟨G,hGG⟩:∃G,ah P Q mod=G:=⟨_,rfl⟩
 rw [hGG] at HC1 HC2 HNg Hrws Hdl Hcp Hrl Hkp Hk0 A Hld hcl ⊢;obtain ⟨D,hD⟩:∃D,aU G L m=D:=⟨_,rfl⟩
 rw [hD] at Hdl ⊢;obtain ⟨R,hRR⟩:∃R,bZ G L m=R:=⟨_,rfl⟩
 obtain ⟨K,hPP⟩:∃K,bq G L m=K:=⟨_,rfl⟩
 rw [hRR,hPP] at HC1 Hrws Hdl Hcp Hkp Hk0 Hrl;rw [hPP] at A Hld hcl;rw [hRR] at hcl;obtain ⟨t,ht⟩:∃t,K.length=t:=⟨_,rfl⟩
 have Ht:=Z5 ht;rw [ht] at HC1 Hcp Hrl A Hld hcl;clear hB hel hA e2 hrf hPv hLd hRc HPv hrws hR F hGG hD hRR hPP hmod ht;go_enter func157,ntmps157;go_wp2_with fail;obtain ⟨W,hW⟩:∃W:World,W=w.alloc (.cells #[cG P,cG Q,.slice am mn cm] 24):=⟨_,rfl⟩
 rw [<- hW];have hbW:PY w W:=by rw [hW];exact an _ _
 have x0:aQ W w.heap.size [cG P,cG Q,.slice am mn cm]:=by rw [hW];exact Po _ _ _ rfl
 have HX:=Z5 x0;have HbW:=Z5 hbW;clear hW x0;refine (HC1 W hbW).mono ?_;rintro e U ⟨a2,c2,R2,ap,cp,rfl,hO2,hp2,hbU⟩;have hMM:=hO2.iZ;have hII:=hp2.ints;have hplP:=hII.pl;have hplR:=hMM.pl;have hmaxP:=hII.max;have hmaxR:=hMM.max;unfold maxLen at hmaxP hmaxR;have hbwU:=Pm hbW hbU;clear hO2 hp2 HC1 hbW;go_wp2_with (at_make;refine bV rfl _ _ 22 3 rfl (cG 0) 8 underlying22 bh rfl m rfl rfl (by omega) (by unfold maxLen;omega) ?_;intro a4 w4 B hb4 hge4 hlt4);have hown4':w4.ownsRow U.heap.size 3 1 (.slice a4 m m) m ((pH m 0).map (Value.int .i64)):=by
  have e:pH m 0=List.replicate m 0:=by refine Mi (by simp [pH]) λi h1 h2=>?_;simp [pH]
  rw [e];simpa using B
 clear B;go_loopw [10] (λiv wr=>∃k:Nat,k<=m/\iv = cG k/\wr.ownsRow U.heap.size 3 1 (.slice a4 m m) m ((pH m k).map (Value.int .i64))/\PY U wr) (λiv _=>m - (intOf iv).toNat);case atStart=>exact ⟨0,K0 _,rfl,hown4',hb4⟩
 case round =>
  clear hown4' hb4 hge4 hlt4
  obtain ⟨k,hk,rfl,S,N⟩:=hrel
  by_cases hlt:k<m
  ·obtain ⟨C,hm4⟩:=Pn S
   have hpl4:=C.pl
   have c4:=C.cell k hlt
   have f4:=(hm4 (by omega)).2 k hlt
   have hB4:=(hm4 (by omega)).1
   have Hown:=Z5 S
   clear S C hm4
   go_wp2_with fail
   go_roundw
   case rel =>
    have h1:=bA Hown.out k hlt (cG (-1))
    rw [<- Lq,Jk hlt] at h1
    exact ⟨k+1,by omega,by go_num,h1,N.setCell hB4 _⟩
   case measure=>simp [intOf] <;> omega
  ·obtain rfl:k=m:=by omega
   have hown0:wr.ownsRow U.heap.size 3 1 (.slice a4 k k) k ((ldTo K k 0).map (Value.int .i64)):=by
    have e:pH k k=ldTo K k 0:=by refine Mi (by simp [pH,ldTo]) λi h1 h2=>?_;simp only [pH,ldTo,LU,ML];rw [KX (by simpa [pH] using h1)]
    rw [<- e];exact S
   clear S
   go_wp2_with fail
   go_loopw [11] (λiv wr=>∃i:Nat,i<=t/\iv = cG i/\wr.ownsRow U.heap.size 3 1 (.slice a4 k k) k ((ldTo K k i).map (Value.int .i64))/\PY U wr) (λiv _=>t - (intOf iv).toNat)
   case atStart=>exact ⟨0,K0 _,rfl,hown0,N⟩
   case round =>
    clear hown0 N
    obtain ⟨i,hi',rfl,S,N⟩:=hrel
    by_cases hlt:i<t
    ·have cpi:=(hII.af N).cell i hlt
     have hpb:=A i hlt
     obtain ⟨z,hz⟩:∃z:Nat,nth K i=z:=⟨(nth K i).toNat,by omega⟩
     have hzm:z<k:=by omega
     have Hst:Hid (ldTo K k (i+1)=(ldTo K k i).set z i):=by show _=_;rw [ldTo,hz,KV]
     rw [hz] at cpi
     obtain ⟨C,hm4⟩:=Pn S
     have hpl4:=C.pl
     have c4:=C.cell z hzm
     have f4:=(hm4 (by omega)).2 z hzm
     have hB4:=(hm4 (by omega)).1
     have Hown:=Z5 S
     clear S C hm4 hz hpb
     go_wp2_with fail
     go_roundw
     case rel =>
      have h1:=bA Hown.out z hzm (cG i)
      rw [<- Lq,<- Hst.out] at h1
      exact ⟨i+1,by omega,by go_num,h1,N.setCell hB4 _⟩
     case measure=>simp [intOf] <;> omega
    ·obtain rfl:i=t:=by omega
     obtain ⟨LD,hLD⟩:∃LD,ldTo K k i=LD:=⟨_,rfl⟩
     rw [hLD] at S Hld
     clear hLD
     obtain ⟨C,_⟩:=Pn S
     have hpl4:=C.pl
     have hU:=hMM.af N
     have hIU:=hII.af N
     have hbwr:=Pm hbwU N
     have HY:Hid (∀V,PY wr V->V.cell? ⟨w.heap.size,0,none⟩=some (cG P)/\V.cell? ⟨w.heap.size,1,none⟩=some (cG Q)/\V.cell? ⟨w.heap.size,2,none⟩=some (.slice am mn cm)):=λV hV=>by have x1:=HX.af (Pm (Pm hbU N) hV);exact ⟨x1.cell 0 rfl,x1.cell 1 rfl,x1.cell 2 rfl⟩
     have hsW:=hbwr.size
     have Hbwr:=Z5 hbwr
     generalize wr=X at *
     clear S hMM hII N hbU hbwU hbwr
     go_wp2_with fail
     go_loopw [12,13] (λov iv wr=>∃(j:Nat) (a1:OA) (c1:Nat),j<=k/\iv = cG j/\ov = .slice a1 (eX K j).length c1/\(∃Rr,aO wr X.heap.size a1 (eX K j).length c1 Rr (dk G.ops k R K j))/\PY X wr) (λ_ iv _=>k - (intOf iv).toNat)
     case atStart=>exact ⟨0,none,0,K0 _,rfl,rfl,⟨[],aO.Gb X X.heap.size⟩,KU _ _⟩
     case round =>
      obtain ⟨j,a1,c1,hj,rfl,rfl,⟨Rr,hO⟩,N⟩:=hrel
      have hnk:=wz K j
      by_cases E:j<k
      ·have cld:=(C.af N).cell j E
       have hiff:=Hld j E
       obtain ⟨v,hv⟩:∃v,nth LD j=v:=⟨_,rfl⟩
       rw [hv] at cld hiff
       clear hv
       by_cases H:(j:Int) ∈ K
       ·have hN:Hid (eX K (j+1)=eX K j):=by show _=_;rw [eX,KX H]
        have hKk:Hid (dk G.ops k R K (j+1)=dk G.ops k R K j):=by show _=_;rw [dk,KX H]
        have hv0:decide (0<=v)=true:=by simpa using hiff.2 H
        clear H hiff
        go_wp2_with fail
        go_roundw
        case rel=>exact ⟨j+1,a1,c1,by omega,by go_num,by rw [hN.out],⟨Rr,by rw [hN.out,hKk.out];exact hO⟩,N⟩
        case measure=>simp [intOf] <;> omega
       ·have hN:Hid (eX K (j+1)=eX K j ++ [j]):=by show _=_;rw [eX,KY H]
        have hKk:Hid (dk G.ops k R K (j+1)=dk G.ops k R K j ++ [kerTo G.ops k R K j i]):=by show _=_;rw [dk,KY H,Ht.out]
        have hv0:decide (0<=v)=false:=by simpa using λh=>H (hiff.1 h)
        clear H hiff
        generalize wr=Y at *
        go_wp2_with (at_make;refine bV rfl _ _ 22 3 rfl (cG 0) 8 underlying22 bh rfl k rfl rfl (by omega) (by unfold maxLen;omega) ?_;intro a5 w5 hown5 hbel5 hge5 hlt5;obtain ⟨hi5,hm5⟩:=Pn (l:=List.replicate k 0) (by simpa using hown5);have hc5:=hi5.cell j E;have hf5:=(hm5 (by omega)).2 j E;have hpl5:=hi5.pl)
        have hB5:=(hm5 (by omega)).1
        have hx0:=bA hown5 j E (cG 1)
        have hx0':(w5.setCell ⟨ablk a5,aJ a5+j,none⟩ (cG 1)).ownsRow Y.heap.size 3 1 (.slice a5 k k) k ((kerTo G.ops k R K j 0).map (Value.int .i64)):=by rw [Hk0.out,Lq,Mv];exact hx0
        have hbx0:=hbel5.setCell (p:=⟨ablk a5,aJ a5+j,none⟩) hB5 (cG 1)
        clear hx0 hown5 hbel5 hge5 hlt5 hi5 hm5 hc5 hf5
        go_loopw [15] (λiv wx=>∃q:Nat,q<=i/\iv = cG q/\wx.ownsRow Y.heap.size 3 1 (.slice a5 k k) k ((kerTo G.ops k R K j q).map (Value.int .i64))/\PY Y wx) (λiv _=>i - (intOf iv).toNat)
        case atStart=>exact ⟨0,K0 _,rfl,hx0',hbx0⟩
        case round =>
         clear hx0' hbx0
         obtain ⟨q,hq',rfl,S,hbx⟩:=hrel
         by_cases hlq:q<i
         ·have hpb:=A q hlq
          obtain ⟨z,hz⟩:∃z:Nat,nth K q=z:=⟨(nth K q).toNat,by omega⟩
          have hzm:z<k:=by omega
          obtain ⟨ra,rn,rc,hcell,hrow⟩:=(hU.af N).cell q hlq
          have hrn:rn=k:=by rw [<- hrow.len];exact Hrl q hlq
          subst hrn
          have hpr:=hrow.pl
          have hel:=Hcp j E q hlq
          have Hst:Hid (kerTo G.ops rn R K j (q+1)=(kerTo G.ops rn R K j q).set z (G.ops.neg (nth (ai R q) j))):=by show _=_;rw [Hkp.out,hz,KV]
          obtain ⟨x9,hx9⟩:∃x,nth (ai R q) j=x:=⟨_,rfl⟩
          rw [hx9] at hel Hst
          have Hng:Hid (∀V,Calls prog 107 #[.agg #[cG P,cG Q,.slice am mn cm],cG x9] V λe w'=>e = .returned (cG (G.ops.neg x9))/\PY V w'):=λV=>HNg V x9 hel
          have HS:Hid (∀V,PY Y V->V.cell? ⟨w.heap.size,0,none⟩=some (cG P)/\V.cell? ⟨w.heap.size,1,none⟩=some (cG Q)/\V.cell? ⟨w.heap.size,2,none⟩=some (.slice am mn cm)/\V.cell? ⟨ablk ap,aJ ap+q,none⟩=some (cG z)/\V.cell? ⟨ablk a2,aJ a2+q,none⟩=some (.slice ra rn rc)/\V.cell? ⟨ablk ra,aJ ra+j,none⟩=some (cG x9)):=λV hV=>by
           obtain ⟨y1,y2,y3⟩:=HY V (Pm N hV);refine ⟨y1,y2,y3,?_,?_,?_⟩
           ·have h:=(hIU.af (Pm N hV)).cell q hlq;rwa [hz] at h
           ·exact aB hV hcell
           ·have h:=(hrow.af hV).cell j E;rwa [hx9] at h
          obtain ⟨hi6,hm6⟩:=Pn S
          have hpl6:=hi6.pl
          have HB6:=Z5 (hm6 (by omega)).1
          have HK:Hid (∀V,PY wr V->(∃u,V.cell? ⟨ablk a5,aJ a5+z,none⟩=some u)/\V.frozen? ⟨ablk a5,aJ a5+z,none⟩=false/\V.ownsRow Y.heap.size 3 1 (.slice a5 rn rn) rn ((kerTo G.ops rn R K j q).map (Value.int .i64))):=λV hV=>by have o:=bf S hV;obtain ⟨h1,h2⟩:=Pn o;exact ⟨⟨_,h1.cell z hzm⟩,(h2 (by omega)).2 z hzm,o⟩
          have Hbx:=Z5 hbx
          clear hz hpb hx9 hel S hi6 hm6 hrow hcell hbx
          go_wp2_with fail
          go_region_held3 (λV=>V.cell? ⟨w.heap.size,0,none⟩=some (cG P)/\V.cell? ⟨w.heap.size,1,none⟩=some (cG Q)/\V.cell? ⟨w.heap.size,2,none⟩=some (.slice am mn cm)/\V.cell? ⟨ablk ap,aJ ap+q,none⟩=some (cG z)/\V.cell? ⟨ablk a2,aJ a2+q,none⟩=some (.slice ra rn rc)/\V.cell? ⟨ablk ra,aJ ra+j,none⟩=some (cG x9))
           ((refine HS _ ?_;first | exact Hbx.drew | exact Pm Hbx.out hb7 | exact (Pm Hbx.out hb7).setCell HB6.out _))
           (first
            | (go_at_call 107;((with_reducible refine (Hng.out _).mono ?_);rintro e w6 ⟨rfl,hb6⟩;have hb7:PY wr w6:=Pm (KU _ _).drew hb6;obtain ⟨⟨v9,k9⟩,f9,o9⟩:=HK.out w6 hb7)))
          clear k9 f9
          go_wp2_with fail
          go_roundw
          case rel =>
           have h:=bA o9 z hzm (cG (G.ops.neg x9))
           rw [<- Lq,<- Hst.out] at h
           exact ⟨q+1,by omega,by go_num,h,(Pm Hbx.out hb7).setCell HB6.out _⟩
          case measure=>simp [intOf] <;> omega
         ·obtain rfl:q=i:=by omega
          obtain ⟨Z,hZ⟩:∃Z,kerTo G.ops k R K j q=Z:=⟨_,rfl⟩
          have hZl:Z.length=k:=by rw [<- hZ];exact gy _ _ _ _ _ _
          rw [hZ] at S hKk
          have HZl:=Z5 hZl
          have hO3:=hO.af (Pm hbx (an wr (.cells #[.slice a5 k k] 22)))
          have hsz:=N.size
          have hsx:=hbx.size
          have hs3:X.heap.size<=(wr.alloc (.cells #[.slice a5 k k] 22)).heap.size:=by simp;omega
          have hcn:=bm wr (.slice a5 k k) 22
          clear hZ hZl
          go_wp2_with (at_builtin;refine aS rfl _ _ 25 22 rfl ds 24 underlying25 dw rfl X.heap.size a1 (eX K j).length c1 _ rfl hO3.own ⟨wr.heap.size,0,none⟩ 1 (.slice a5 k k) rfl hcn rfl (by omega) (by unfold maxLen;omega) hs3 ?_;intro a7 c7 w7 hown7 hgr7 hap7)
          go_roundw
          case rel =>
           have hb4':PY Y (wr.alloc (.cells #[.slice a5 k k] 22)):=Pm hbx (an _ _)
           have B:(wr.alloc (.cells #[.slice a5 k k] 22)).ownsRow X.heap.size 3 1 (.slice a5 Z.length k) Z.length (Z.map (Value.int .i64)):=by rw [HZl.out];exact aY (bf S (an _ _)) hsz
           have hra:a5 ≠ none->¬ bQ a1 Rr (ablk a5):=λh0 hI=>by have h1:=(aT S h0).1;have h2:=(hO.lt _ hI).2;omega
           have hP:=Py hO3 B hra (by rw [HZl.out];exact hown7) hgr7 hap7
           have hb5:PY X w7:=Pp (Pm N hb4') hO3.own hgr7 (KT _) (K9 hsz hb4'.size)
           exact ⟨j+1,a7,c7,by omega,by go_num,by rw [hN.out];simp,⟨_,by rw [hN.out,hKk.out,K6];exact hP⟩,hb5⟩
          case measure=>simp [intOf] <;> omega
      ·obtain rfl:j=k:=by omega
       obtain ⟨y1,y2,y3⟩:=HY wr N
       have hcan:=HC2 wr a1 (eX K j).length c1 (dk G.ops j R K j) (Pm Hbwr.out N) hO.iZ (Hrws j (KT _)) (by omega)
       unfold lQ at hcan
       have hlen8:(bq G (dk G.ops j R K j) j).length=D.length:=by rw [Hdl.out,dM]
       rw [hlen8,<- Hdl.out] at hcan
       obtain ⟨d,hd⟩:∃d,D.length=d:=⟨_,rfl⟩
       rw [hd] at hcan
       have Hd:=Z5 hd
       have Hcan:=Z5 hcan
       have hbF:=Pm Hbwr.out N
       clear hcan hlen8 hd
       go_wp2_with fail
       refine Hcan.mono ?_
       rintro e w8 ⟨a8,c8,R8,ap8,cp8,rfl,hO8,hp8,hb8⟩
       have HF:Hid (aO w8 w.heap.size a8 d c8 R8 D/\PY w w8):=⟨hO8.mono hbF.size,Pm hbF hb8⟩
       clear hO8 hp8 Hcan
       go_wp2_with fail
       go_ret
       rw [Hd.out]
       exact ⟨a8,c8,R8,rfl,HF.1,HF.2⟩
section
open Go.RowKit
end
theorem Iq {P M:Int} (am:OA) (Y cm:Nat) {mod:LI} (k:Nat) (a:OA) (n c:Nat) {D:Ll} {w:World} (Z:Ints w am Y mod) (hi:bw w a n D) (N:bs P M mod=true) (Q:bt (ah P M.toNat mod).El k D) (S:k<=256) (U:n<=256) :
  ∀V,PY w V->Calls prog 140 #[.agg #[cG P,cG M,.slice am Y cm],.agg #[cG k,.slice a n c]] V λe w'=>e = .returned (cG 0)/\PY V w':=λV X=>by have h:=mM P M am Y cm mod k a n c D V (Z.af X) (hi.af X);rw [yH,ki N S (by rw [hi.len];exact U) Q] at h;exact h
section
open Go.RowKit
end
def oz (l:LI) (v:Int) (k:Nat):Bool:=decide (v ∈ l.take k)
theorem ui {l:LI} {k:Nat} (v:Int) (h:k<l.length):oz l v (k+1)=(oz l v k || decide (nth l k=v)):=by unfold oz;rw [K4 h,aj h];simp only [L8,LQ,Bool.decide_or];congr 1;simp [eq_comm]
theorem zf {l:LI} {n:Nat} (v:Int) (h:l.length=n):oz l v n=decide (v ∈ l):=by unfold oz;rw [K5 (by omega)]
theorem gX (a:OA) (n c:Nat) (l:LI) (m:Nat) (w:World) (h:Ints w a n l) (hm:m<=1000) :
  Calls prog 132 #[.slice a n c,cG m] w λe w'=>∃a1 c1,e = .returned (.slice a1 (frTo false l m).length c1) /\
   w'.ownsRow w.heap.size 3 1 (.slice a1 (frTo false l m).length c1) (frTo false l m).length ((frTo false l m).map (Value.int .i64))/\PY w w':=by
 have Hl:=Z5 h.len;have hpl:=h.pl;have K:=h.max;unfold maxLen at K;obtain ⟨G,N⟩:∃G,frTo false l=G:=⟨_,rfl⟩
 have B:Hid (∀k:Nat,decide ((k:Int) ∈ l)=false->G (k+1)=G k ++ [(k:Int)]):=λk h=>by rw [<- N,frTo,KX h]
 have j:Hid (∀k:Nat,decide ((k:Int) ∈ l)=true->G (k+1)=G k):=λk h=>by rw [<- N,frTo,KY (by rw [h];decide)]
 have D:Hid (∀k,(G k).length<=k):=λk=>by rw [<- N];exact jn _ _ _
 have H:Hid (G 0=[]):=by rw [<- N];rfl
 rw [N];clear N;go_enter func132,ntmps132;go_wp2_with fail;go_loopw [5,6] (λov z wr=>∃(i g:Nat) (a1:OA) (c1:Nat),i<=m/\z = cG i/\Hid ((G i).length=g)/\ov = .slice a1 g c1/\wr.ownsRow w.heap.size 3 1 (.slice a1 g c1) g ((G i).map (Value.int .i64))/\PY w wr) (λ_ z _=>m - (intOf z).toNat);case atStart=>exact ⟨0,0,none,0,K0 _,rfl,by show _=_;rw [H.out];rfl,rfl,by rw [H.out];exact cU,KU _ _⟩
 case round =>
  obtain ⟨i,g,a1,c1,hi,rfl,F,rfl,Z,Y⟩:=hrel
  by_cases hlt:i<m
  ·have C:=h.af Y
   have hgi:g<=1000:=by have h1:=D i;rw [F.out] at h1;omega
   generalize wr=X1 at *
   go_wp2_with fail
   go_loopw [7,8] (λbv r ws=>∃k:Nat,k<=n/\r = cG k/\bv = .bool (oz l i k)/\ws=X1) (λ_ r _=>n - (intOf r).toNat)
   case atStart=>exact ⟨0,K0 _,rfl,by simp [oz],rfl⟩
   case round =>
    obtain ⟨k,hk,rfl,rfl,rfl⟩:=hrel
    by_cases S:k<n
    ·have ck:=C.cell k S
     have E:=Z5 (ui (l:=l) (i:Int) (show k<l.length by rw [Hl.out];exact S))
     obtain ⟨b,hb⟩:∃b,oz l i k=b:=⟨_,rfl⟩
     rw [hb] at E ⊢
     clear hb
     cases b
     ·by_cases he:nth l k=i
      ·have he':(nth l k == (i:Int))=true:=by rw [he];simp
       have X:Hid (oz l i (k+1)=true):=by show _=_;rw [E.out,Lj he];rfl
       clear he
       go_wp2_with fail
       go_roundw
       case rel=>exact ⟨k+1,by omega,by go_num,by rw [X.out],by simp⟩
       case measure=>simp [intOf] <;> omega
      ·have he':(nth l k == (i:Int))=false:=by simpa using he
       have X:Hid (oz l i (k+1)=false):=by show _=_;rw [E.out,Lp he];rfl
       clear he
       go_wp2_with fail
       go_roundw
       case rel=>exact ⟨k+1,by omega,by go_num,by rw [X.out],by simp⟩
       case measure=>simp [intOf] <;> omega
     ·have X:Hid (oz l i (k+1)=true):=by show _=_;rw [E.out];rfl
      go_wp2_with fail
      go_roundw
      case rel=>exact ⟨k+1,by omega,by go_num,by rw [X.out],by simp⟩
      case measure=>simp [intOf] <;> omega
    ·obtain rfl:k=n:=by omega
     rw [zf (i:Int) Hl.out]
     have V:=B i
     have U:=j i
     obtain ⟨b,hb⟩:∃b,decide ((i:Int) ∈ l)=b:=⟨_,rfl⟩
     rw [hb] at V U ⊢
     clear hb
     cases b
     ·have X:=Z5 (V rfl)
      clear V U
      have hsz:=Y.size
      have A:=bm wr (cG i) 3
      have hbn:=an wr (.cells #[cG i] 3)
      go_wp2_with (at_builtin;refine aS rfl _ _ 22 3 rfl (cG 0) 8 underlying22 bh rfl w.heap.size a1 g c1 _ rfl (Z.alloc _) ⟨wr.heap.size,0,none⟩ 1 (cG i) rfl A rfl (by omega) (by unfold maxLen;omega) (by simp;omega) ?_;intro a5 c5 w5 Q L hap5)
      go_roundw
      case rel =>
       refine ⟨i+1,g+1,a5,c5,by omega,by go_num,by show _=_;rw [X.out,K6,F.out];rfl,rfl,by rw [X.out];simpa using Q,Pp (Pq Y _) (Z.alloc _) L (KT _) (Pq Y _).size⟩
      case measure=>simp [intOf] <;> omega
     ·have X:=Z5 (U rfl)
      clear V U
      go_wp2_with fail
      go_roundw
      case rel=>exact ⟨i+1,g,a1,c1,by omega,by go_num,by show _=_;rw [X.out];exact F.out,rfl,by rw [X.out];exact Z,Y⟩
      case measure=>simp [intOf] <;> omega
  ·obtain rfl:i=m:=by omega
   have HF:=Z5 (K3 Z Y)
   clear Z Y
   go_wp2_with fail
   go_ret
   rw [F.out]
   exact ⟨a1,c1,rfl,HF.1,HF.2⟩
theorem Dz (a:OA) (n c:Nat) (L:Ll) (Z mm:Nat) (w:World) (hi:bw w a n L) (hl:∀i,i<n->(ai L i).length=mm) (hc:Z<=mm) (hn:n<=1000000) (hcols:Z<=1000000) :
  Calls prog 263 #[.slice a n c,cG Z] w λe w'=>∃a1 c1 R,e = .returned (.slice a1 Z c1)/\aO w' w.heap.size a1 Z c1 R ((List.range Z).map (ba L))/\PY w w':=by
 have F:=Z5 hi.len;have hpla:=hi.pl;have HLl:=Z5 hl;obtain ⟨T,hT⟩:∃T,(List.range Z).map (ba L)=T:=⟨_,rfl⟩
 have HTl:Hid (T.length=Z):=by show _=_;rw [<- hT];simp
 have HTk:Hid (∀k,k<Z->T.take (k+1)=T.take k ++ [ba L k]):=λk hk=>by rw [K4 (by rw [HTl.out];exact hk)];congr 1;simp [<- hT]
 have z:Hid (∀k,(ba L k).length=n):=λk=>by rw [dz];exact F
 have HCt:Hid (∀k i,i<n->(ba L k).take (i+1)=(ba L k).take i ++ [nth (ai L i) k]):=λk i hi'=>by rw [K4 (by rw [z.out];exact hi'),<- dj L k i (by rw [F.out];exact hi'),aj (by rw [z.out];exact hi')]
 rw [hT];clear hT hl;go_enter func263,ntmps263;go_wp2_with fail;go_loopw [5,6] (λsv r wr=>∃(k:Nat) (a1:OA) (c1:Nat),k<=Z/\r = cG k/\sv = .slice a1 k c1/\(∃R,aO wr w.heap.size a1 k c1 R (T.take k))/\PY w wr) (λ_ r _=>Z - (intOf r).toNat);case atStart=>exact ⟨0,none,0,K0 _,rfl,rfl,⟨[],by simpa using PE w w.heap.size⟩,KU _ _⟩
 case round =>
  obtain ⟨k,a1,c1,hk,rfl,rfl,⟨R,hO⟩,H⟩:=hrel
  generalize wr=X at *
  by_cases hlt:k<Z
  ·have hiX:=hi.af H
   have HO:=Z5 hO
   have Hsz:=Z5 H
   have C:=H.size
   clear hO H
   go_wp2_with fail
   go_loopw [7,8] (λcv r ws=>∃(i:Nat) (ar:OA) (cr:Nat),i<=n/\r = cG i/\cv = .slice ar i cr/\ws.ownsRow X.heap.size 3 1 (.slice ar i cr) i (((ba L k).take i).map (Value.int .i64))/\PY X ws) (λ_ r _=>n - (intOf r).toNat)
   case atStart=>exact ⟨0,none,0,K0 _,rfl,rfl,by simpa using cU,KU _ _⟩
   case round =>
    obtain ⟨i,ar,cr,hin,rfl,rfl,V,N⟩:=hrel
    generalize wr=Y at *
    by_cases K:i<n
    ·obtain ⟨ra,rn,rc,hcell,Q⟩:=(hiX.af N).cell i K
     have hrn:rn=mm:=by rw [<- Q.len];exact HLl i K
     have hkr:k<rn:=by omega
     have hplr:=Q.pl
     have ck:=Q.cell k hkr
     have Hct:=Z5 (HCt k i K)
     obtain ⟨x,hx⟩:∃x,nth (ai L i) k=x:=⟨_,rfl⟩
     rw [hx] at ck Hct
     have hcn:=bm Y (cG x) 3
     have hbn:=an Y (.cells #[cG x] 3)
     have G:=N.size
     have hkr2:(k:Int)<rn:=by omega
     have hi2:(i:Int)<n:=by omega
     clear hx Q hrn
     go_wp2_with (at_builtin;refine aS rfl _ _ 22 3 rfl (cG 0) 8 underlying22 bh rfl X.heap.size ar i cr _ rfl (V.alloc _) ⟨Y.heap.size,0,none⟩ 1 (cG x) rfl hcn rfl (by omega) (by unfold maxLen;omega) (by simp;omega) ?_;intro a5 c5 w5 U S D)
     go_roundw
     case rel =>
      have j:PY X w5:=Pp (L5 N (hbn.mono G)) (V.alloc _) S (KT _) (K9 G hbn.size)
      exact ⟨i+1,a5,c5,by omega,by go_num,rfl,by rw [Hct.out,LJ];exact U,j⟩
     case measure=>simp [intOf] <;> omega
    ·obtain rfl:i=n:=by omega
     have A:=z k
     rw [K5 (by rw [A];exact KT _)] at V
     have Hbs:=Z5 N
     have hO3:=HO.af (Pm N (an Y (.cells #[.slice ar i cr] 22)))
     have hs3:w.heap.size<=(Y.alloc (.cells #[.slice ar i cr] 22)).heap.size:=by have h1:=N.size;simp;omega
     have E:=Z5 A
     clear A
     go_wp2_with (at_builtin;refine aS rfl _ _ 25 22 rfl ds 24 underlying25 dw rfl w.heap.size a1 k c1 _ rfl hO3.own ⟨Y.heap.size,0,none⟩ 1 (.slice ar i cr) rfl (bm Y _ _) rfl (by omega) (by unfold maxLen;omega) hs3 ?_;intro a5 c5 w5 U S D)
     go_roundw
     case rel =>
      have hb4:PY X (Y.alloc (.cells #[.slice ar i cr] 22)):=Pm Hbs.out (an _ _)
      have B:(Y.alloc (.cells #[.slice ar i cr] 22)).ownsRow w.heap.size 3 1 (.slice ar (ba L k).length cr) (ba L k).length ((ba L k).map (Value.int .i64)):=by rw [E.out];exact aY (bf V (an _ _)) C
      have hra:ar ≠ none->¬ bQ a1 R (ablk ar):=λh0 hI=>by have h1:=(aT V h0).1;have h2:=(HO.lt _ hI).2;omega
      have hP:=Py hO3 B hra (by rw [E.out];exact U) S D
      have j:PY w w5:=Pp (Pm Hsz.out hb4) hO3.own S (KT _) (K9 C hb4.size)
      exact ⟨k+1,a5,c5,by omega,by go_num,rfl,⟨_,by rw [HTk k hlt];exact hP⟩,j⟩
     case measure=>simp [intOf] <;> omega
  ·obtain rfl:k=Z:=by omega
   rw [K5 (by rw [HTl.out];exact KT _)] at hO
   have HO:=Z5 hO
   clear hO
   go_wp2_with fail
   go_ret
   exact ⟨a1,c1,R,rfl,HO,H⟩
end Go.Proofs.YthglbncgemdcbaaGreat
