/-  -/
import Derived.RangeFuncNested
import Derived.Test.YtcfmiocdlcapoaaGreatMEN5
import Derived.Test.YtcfmiocdlcapoaaGreatK33
import Derived.Test.YtcfmiocdlcapoaaGreatMEN4
import Derived.Test.YtcfmiocdlcapoaaGreatMEN2
import Derived.Test.YtcfmiocdlcapoaaGreatMEN1
import Derived.Test.YtcfmiocdlcapoaaGreatMEN3
import Derived.Test.YtcfmiocdlcapoaaGreatK19
import Derived.Test.YtcfmiocdlcapoaaGreatK21
import Derived.Test.YtcfmiocdlcapoaaGreatK31
import Derived.Test.YtcfmiocdlcapoaaGreatK28
import Derived.Test.YtcfmiocdlcapoaaGreatK22
import Derived.Test.YtcfmiocdlcapoaaGreatK29
import Derived.Test.YtcfmiocdlcapoaaGreatK34
import Derived.Test.YtcfmiocdlcapoaaGreatMEN6
import Derived.Test.YtcfmiocdlcapoaaGreatK12
namespace Go.Proofs.YtcfmiocdlcapoaaGreat
set_option linter.unusedVariables false
set_option linter.unusedSimpArgs false
set_option linter.unusedSectionVars false

section
set_option maxHeartbeats 1000000

open Go.RowKit Go.Shelf
theorem Moves.putAt (w : World) {I : Nat->Prop} {B : Nat} (hB : I B) (o : Obj) : Moves w (w.putObj B o) I I:=by
 have hg:=grownBy_putObj' w B o
 exact ⟨hg.os,hg.tape,hg.output,hg.size,λb hb hI=>hg.block b hb (λe=>by cases e;exact hI hB),λb hb=>.inl hb⟩
theorem Ints.put {w : World} {a : Option Addr} {n : Nat} {l : List Int} (h : Ints w a n l) (B : Nat) (o : Obj) (hB : 0<n->ablk a ≠ B) : Ints (w.putObj B o) a n l :=
 h.of_block λhn=>World.putObj_heap_other (λe=>hB hn e)
theorem wp_range_walk {g : Operand} {ps : Array Tmp} {assign body : Code} {Q : Exit->Act->World->Prop} {a : Act} {w : World} {m n N : Nat} {lb : Array Value} {R : List (List Int)}
  (hg : a.eval g = .func (.func 150) #[] lb) (eg : ∀args w,(callFunc 150 args).run Tryz.prog w = .ok (.enter 150 args) w) (hps : ps.size=2) (hm : 1<=m) (hn1 : 1<=n)
  (MB : Nat->Prop) (hMB : ∀x,MB x->x<w.heap.size)
  (hseq : ∀(l : Nat) (J : List WX->World->Prop) (MM : Nat->Prop) (W : World),Below w.heap.size w W->W.heap.size=w.heap.size+2->(∀x,MM x->MB x\/x=w.heap.size+1) ->
   (∀pre V V',J pre V->Below V.heap.size V V'->J pre V')->(∀B pre V v,W.heap.size<=B->(∀x ∈ pre,ablk x.a ≠ B)->J pre V->J pre (V.setCell ⟨B,0,none⟩ v)) ->
   (∀m pre x V,J pre V->pre.length<N->Ints V x.a n x.l->(∀j,MM j->j ≠ ablk x.a)->YOk l n J MM m pre x V)->J [] W ->
   Calls Tryz.prog 150 (#[.func (.yield l) #[] #[]] ++ lb) W λe V=>e = .returned (.tuple #[])/\∃xs : List WX,xs.map WX.l=R/\J xs V/\Moves W V MM MM)
  (I : List WX->World->Prop) (hIa : ∀pre V V',I pre V->Below V.heap.size V V'->I pre V')
  (hIb : ∀B pre V v,w.heap.size<=B->(∀x ∈ pre,ablk x.a ≠ B)->I pre V->I pre (V.setCell ⟨B,0,none⟩ v))
  (hIp : ∀B pre V o,w.heap.size<=B->(∀x ∈ pre,ablk x.a ≠ B)->I pre V->I pre (V.putObj B o)) (h0 : I [] w)
  (a₁ : List WX->WX->Act)
  (hassign : ∀(l m : Nat) (pre : List WX) (x : WX) (W : World) (K : Act->World->Prop),K (a₁ pre x) W ->
   assign.wpIn (Fence.wide.inRound l) m Tryz.prog (Exit.then K (λ_ _ _=>False)) { tmps:=(ps.zip #[.int .i64 (pre.length : Nat),.slice x.a n x.c]).foldl (λt (p,v)=>t.setIfInBounds p v) a.tmps,defers:=[] } W)
  (hbody : ∀(l m : Nat) (pre : List WX) (x : WX) (W : World),I pre W->pre.length<N->Ints W x.a n x.l->(∀j,MB j->j ≠ ablk x.a) ->
   body.wpIn (Fence.wide.inRound l) m Tryz.prog (λe _ W'=>e = .normal/\I (pre ++ [x]) W'/\Moves W W' MB MB) (a₁ pre x) W)
  (hdone : ∀(xs : List WX) (W : World),xs.map WX.l=R->I xs W->Moves w W (λx=>MB x\/w.heap.size<=x) (λx=>MB x\/w.heap.size<=x)->W.heap[w.heap.size]? = some (.deferred (some []))->Q .normal { a with defers:={ target:=.collected w.heap.size,args:=#[] } :: a.defers } W) :
  (Code.rangeFunc g ps assign body).wpIn Fence.wide m Tryz.prog Q a w:=by
 refine wpIn_rangeFunc ?_
 intro fn hfn
 obtain ⟨rec,hrec⟩ : ∃rec : LoopState->Option Code->Loop,rec=λst pe=>{ state:=st,pending:=pe,fn,tmps:=a.tmps,params:=ps,assign,body,defers:=w.heap.size }:=⟨_,rfl⟩
 obtain ⟨W1,hW1⟩ : ∃W1,(w.alloc (.deferred (some []))).alloc (.loop (rec .ready none))=W1:=⟨_,rfl⟩
 have hL1 : W1.heap[w.heap.size+1]? = some (.loop (rec .ready none)):=by
  rw [<- hW1];have:=World.alloc_heap_new (w.alloc (.deferred (some []))) (.loop (rec .ready none));rwa [World.size_alloc] at this
 have hK1 : W1.heap[w.heap.size]? = some (.deferred (some [])):=by
  rw [<- hW1];exact (Below.heap_alloc _ _ _ (by simp)).trans (World.alloc_heap_new w _)
 have hb1 : Below w.heap.size w W1:=by rw [<- hW1];exact below2 _ _ _
 have hs1 : W1.heap.size=w.heap.size+2:=by rw [<- hW1];simp
 refine ⟨w.heap.size+1,[{ target:=.collected w.heap.size,args:=#[] }],W1,{ target:=.fn (.func 150) lb,args:=#[.func (.yield (w.heap.size+1)) #[] #[]] },W1,150,
  #[.func (.yield (w.heap.size+1)) #[] #[]] ++ lb,W1,?_,?_,?_,?_,λ_=>hm,?_⟩
 ·rw [<- hW1,hrec];exact run_enterLoop_outer _ _ _ _ _
 ·simp only [resolve,hg]
  simp [go_sem]
 ·intro f' hf';trivial
 ·simp [invoke,go_sem,eg]
 ·refine callsIn_wide.2 ((hseq (w.heap.size+1)
   (λpre W=>I pre W/\W.heap[w.heap.size+1]? = some (.loop (rec .ready none))/\W.heap[w.heap.size]? = some (.deferred (some []))/\∀x ∈ pre,ablk x.a ≠ w.heap.size+1)
   (λx=>MB x\/x=w.heap.size+1) W1 hb1 hs1 (λx h=>h) ?_ ?_ ?_ ⟨hIa _ _ _ h0 hb1,hL1,hK1,λx hx=>by simp at hx⟩).mono ?_)
  ·rintro pre V V' ⟨h1,h2,h3,h4⟩ hb
   exact ⟨hIa _ _ _ h1 hb,(hb.block _ (Array.getElem?_eq_some_iff.1 h2).1).trans h2,(hb.block _ (Array.getElem?_eq_some_iff.1 h3).1).trans h3,h4⟩
  ·rintro B pre V v hB hx ⟨h1,h2,h3,h4⟩
   exact ⟨hIb B _ _ _ (by omega) hx h1,(Below.heap_setCell _ _ _ _ (by show w.heap.size+1 ≠ B;omega)).trans h2,(Below.heap_setCell _ _ _ _ (by show w.heap.size ≠ B;omega)).trans h3,h4⟩
  ·rintro k pre x V ⟨hi,hl,hd,hpx⟩ hlen hix hxM
   have hlt : w.heap.size+1<V.heap.size:=(Array.getElem?_eq_some_iff.1 hl).1
   have hxl : ablk x.a ≠ w.heap.size+1:=λe=>hxM _ (.inr rfl) e.symm
   have hy:=run_yield (P:=Tryz.prog) (args:=#[.int .i64 (pre.length : Nat),.slice x.a n x.c]) hl (by rw [hrec];exact hps.symm ▸ rfl)
   rw [hrec] at hy
   refine ⟨fn,_,assign,body,hy,roundIn_of_wpIn hfn (hassign _ _ pre x V _ ⟨_,run_beginRound hl (by rw [hrec]),?_⟩)⟩
   have hl2 : (V.putObj (w.heap.size+1) (.loop { rec .ready none with state:=.busy })).heap[w.heap.size+1]? = some (.loop { rec .ready none with state:=.busy }):=World.putObj_heap_same hlt
   have hd2 : (V.putObj (w.heap.size+1) (.loop { rec .ready none with state:=.busy })).heap[w.heap.size]? = some (.deferred (some [])):=(World.putObj_heap_other (by omega)).trans hd
   have hm2 : Moves V (V.putObj (w.heap.size+1) (.loop { rec .ready none with state:=.busy })) (λx=>MB x\/x=w.heap.size+1) (λx=>MB x\/x=w.heap.size+1):=Moves.putAt _ (.inr rfl) _
   refine wpIn_mono (hbody _ _ pre x _ (hIp _ _ _ _ (by omega) hpx hi) hlen (hix.put _ _ (λ_=>hxl)) (λj hj=>hxM j (.inl hj))) ?_
   rintro e a3 W3 ⟨rfl,hi3,hm3⟩
   have hnl : ¬ MB (w.heap.size+1):=λh=>by have:=hMB _ h;omega
   have hnd : ¬ MB w.heap.size:=λh=>by have:=hMB _ h;omega
   have hl3:=(hm3.block _ (Array.getElem?_eq_some_iff.1 hl2).1 hnl).trans hl2
   have hd3:=(hm3.block _ (Array.getElem?_eq_some_iff.1 hd2).1 hnd).trans hd2
   have hr:=run_endRound (P:=Tryz.prog) none hl3
   rw [hrec] at hr
   refine ⟨_,_,hr,rfl,⟨hIp _ _ _ _ (by omega) ?_ hi3,?_,?_,?_⟩,?_⟩
   ·intro y hy
    rcases List.mem_append.1 hy with hy | hy
    ·exact hpx y hy
    ·rw [List.mem_singleton.1 hy];exact hxl
   ·rw [hrec];exact World.putObj_heap_same (Array.getElem?_eq_some_iff.1 hl3).1
   ·exact (World.putObj_heap_other (by omega)).trans hd3
   ·intro y hy
    rcases List.mem_append.1 hy with hy | hy
    ·exact hpx y hy
    ·rw [List.mem_singleton.1 hy];exact hxl
   ·exact (hm2.trans (hm3.wide (λx h=>.inl h))).trans (Moves.putAt _ (.inr rfl) _)
  ·rintro e W2 ⟨rfl,xs,hx,⟨hi,hl,hd,hpx⟩,hmv⟩
   refine ⟨none,_,by have:=run_endLoop (P:=Tryz.prog) hl (by rw [hrec];simp);rw [hrec] at this;exact this,hdone xs _ hx (hIp _ _ _ _ (by omega) hpx hi) ?_ ((World.putObj_heap_other (by omega)).trans hd)⟩
   have hw : Moves w W2 (λx=>MB x\/w.heap.size<=x) (λx=>MB x\/w.heap.size<=x):=(Moves.of_below hb1 _).trans (hmv.wide (λx h=>h.elim .inl (λe=>.inr (by omega))))
   exact hw.trans (Moves.putAt _ (.inr (by omega)) _)
end

section
open Go.RowKit
def bsN (x k : Nat) : Nat->Nat
 | 0=>0
 | w+1=>bsN x k w+chN k w * x ^ w
theorem bsN_succ (x k : Nat) : ∀w,bsN x (k+1) (w+1)=bsN x k (w+1)+x * bsN x k w
 | 0=>by simp [bsN,chN_one]
 | w+1=>by
  show bsN x (k+1) (w+1)+chN (k+1) (w+1) * x ^ (w+1)=(bsN x k (w+1)+chN k (w+1) * x ^ (w+1))+x * (bsN x k w+chN k w * x ^ w)
  have e : chN k w * x ^ (w+1)=x * (chN k w * x ^ w):=by rw [Nat.pow_succ];ac_rfl
  rw [bsN_succ x k w,chN_succ,Nat.add_mul,Nat.mul_add,e]
  omega
theorem bsN_le (x : Nat) : ∀k w,bsN x k w<=(x+1) ^ k
 | 0,0=>by simp [bsN]
 | 0,1=>by simp [bsN,chN_one]
 | 0,w+2=>by
  have h:=bsN_le x 0 (w+1)
  show bsN x 0 (w+1)+chN 0 (w+1) * x ^ (w+1)<=_
  rw [chN_zero 0 (w+1) (by omega),Nat.zero_mul]
  exact h
 | k+1,0=>by simp [bsN]
 | k+1,w+1=>by
  rw [bsN_succ,Nat.pow_succ,Nat.mul_add,Nat.mul_one]
  have h1:=bsN_le x k (w+1)
  have h2:=Nat.mul_le_mul_left x (bsN_le x k w)
  rw [Nat.mul_comm x ((x+1) ^ k)] at h2
  omega
theorem srS_fits (O : FOps) {q m k : Nat} {sys : List (List (List Int))} (rks : List Int) (hq : 2<=q) (hs : sys.length * q ^ k<=65536) (hs1 : 1<=sys.length) : ∀(f w : Nat) (b : List Int) (n : Nat) (o : List (List Int)),w+f=k->n<=sys.length * bsN (q - 1) k (w+1) ->
  (srS O q m k sys rks f (w+1) b n o).2.2=0
 | 0,_,_,_,_,_,_=>rfl
 | f+1,w,b,n,o,hw,hn=>by
  obtain ⟨x,hx⟩ : ∃x,q - 1=x+1:=⟨q - 2,by omega⟩
  have hle : bsN (q - 1) k (w+2)<=q ^ k:=by
   have h:=bsN_le (q - 1) k (w+2)
   rwa [show q - 1+1=q by omega] at h
  have hbs : bsN (q - 1) k (w+2)=bsN (q - 1) k (w+1)+chN k (w+1) * (q - 1) ^ (w+1):=rfl
  have hC:=chN_pos k (w+1) (by omega)
  have hX : 1<=(q - 1) ^ (w+1):=Nat.pow_pos (by omega)
  have h1 : chN k (w+1)<=chN k (w+1) * (q - 1) ^ (w+1):=Nat.le_mul_of_pos_right _ hX
  have h2 : (q - 1) ^ (w+1)<=chN k (w+1) * (q - 1) ^ (w+1):=Nat.le_mul_of_pos_left _ hC
  have h3 : (q - 1) ^ w<=(q - 1) ^ (w+1):=Nat.pow_le_pow_right (by omega) (by omega)
  have h4 : q ^ k<=sys.length * q ^ k:=Nat.le_mul_of_pos_left _ hs1
  have h5 : rndN q k sys.length (w+1)<=sys.length * (chN k (w+1) * (q - 1) ^ (w+1)):=by
   unfold rndN
   rw [Nat.add_sub_cancel]
   exact Nat.mul_le_mul_left _ (Nat.mul_le_mul_left _ h3)
  have h6 : sys.length * bsN (q - 1) k (w+2)<=sys.length * q ^ k:=Nat.mul_le_mul_left _ hle
  have h7 : sys.length * bsN (q - 1) k (w+2)=sys.length * bsN (q - 1) k (w+1)+sys.length * (chN k (w+1) * (q - 1) ^ (w+1)):=by rw [hbs,Nat.mul_add]
  have hm : moreB q k sys.length n (w+1)=true:=by
   unfold moreB
   simp only [Bool.and_eq_true,decide_eq_true_eq]
   rw [Nat.add_sub_cancel]
   refine ⟨⟨?_,?_⟩,?_⟩ <;> omega
  rw [srS,if_pos hm]
  split
  ·rfl
  ·exact srS_fits O rks hq hs hs1 f (w+1) _ _ _ (by omega) (by rw [h7];omega)
section
variable {P M : Int} {mod : List Int} {m : Nat} {L : List (List Int)}
theorem fam_len1 (hE : codeE P M mod m L=0) (hk : 1<=L.length) : 1<=(famM P M mod m L).length/\(famM P M mod m L).length<=m:=by
 unfold famM
 rw [List.length_map]
 refine ⟨?_,(fam_all hE).2⟩
 exact List.length_pos_iff.2 (fam_ne hE hk)
theorem run_law (hE : codeE P M mod m L=0) (hk : 1<=L.length) : runR P M mod m L=([],[],8)\/∃o b,runR P M mod m L=(o,b,0)/\BestOk P M mod m L b/\(∀x,CW P M mod m L x->leK b (monS (tblOf P M.toNat mod).ops x))/\(∀r ∈ o,RndOk P M mod m L r)/\1<=o.length:=by
 obtain ⟨N',e,hm1,hm64,F,hR⟩:=codeE_fld hE
 obtain rfl : m=N':=by omega
 have hkm:=code_le hE
 obtain ⟨⟨o,b,er⟩,hr⟩ : ∃r,runR P M mod m L=r:=⟨_,rfl⟩
 have hr2:=hr
 unfold runR at hr2
 rw [if_neg (by rw [hE];decide),if_neg (by omega),Int.toNat_natCast] at hr2
 rcases sr_law hE hk (by omega) L.length 0 [] 0 [] (by omega) (.inl ⟨rfl,rfl⟩) (λx hx ht=>by
  obtain ⟨t,ht,h0⟩:=ht
  have hc:=chain_mem (fam_all hE).1 t ht
  exact absurd (Nat.le_zero.1 h0) (pick_ne hE hc.1 hc.2.1 hx)) (by simp) hr2 with ⟨rfl,rfl,rfl⟩ | ⟨rfl,h2,h3,h4,h5⟩
 ·exact .inl hr
 ·refine .inr ⟨o,b,hr,h2,h3,h4,?_⟩
  rw [if_neg (by omega)] at h5
  simpa using h5
theorem run_good (hE : codeE P M mod m L=0) (hk : 1<=L.length) (hf : m * (tblOf P M.toNat mod).q ^ L.length<=65536) : ∃o b,runR P M mod m L=(o,b,0)/\BestOk P M mod m L b/\(∀x,CW P M mod m L x->leK b (monS (tblOf P M.toNat mod).ops x))/\(∀r ∈ o,RndOk P M mod m L r)/\1<=o.length:=by
 obtain ⟨N',e,hm1,hm64,F,hR⟩:=codeE_fld hE
 obtain rfl : m=N':=by omega
 obtain ⟨h1,h2⟩:=fam_len1 hE hk
 have h0 : (runR P M mod m L).2.2=0:=by
  unfold runR
  rw [if_neg (by rw [hE];decide),if_neg (by omega),Int.toNat_natCast]
  have hq : (1 : Int)<(tblOf P M.toNat mod).q:=F.one.2
  exact srS_fits _ _ (by omega) (Nat.le_trans (Nat.mul_le_mul_right _ h2) hf) h1 L.length 0 [] 0 [] (by omega) (Nat.zero_le _)
 rcases run_law hE hk with h | h
 ·rw [h] at h0;cases h0
 ·exact h
theorem best_min (hE : codeE P M mod m L=0) {b : List Int} (h : ∀x,CW P M mod m L x->leK b (monS (tblOf P M.toNat mod).ops x)) {x : List Int} (hx : CW P M mod m L x) : wtL b<=wtL x:=by
 obtain ⟨N',e,hm1,hm64,F,hR⟩:=codeE_fld hE
 obtain rfl : m=N':=by omega
 have h1:=(h x hx).wt
 rwa [monS_wt F hx.1 hx.2.2] at h1
end
end

section
set_option maxRecDepth 100000
set_option maxHeartbeats 8000000

open Go.RowKit Go.Shelf
theorem infoRows : (Tryz.prog.info? 22).map (λi=>(i.zero,i.size,i.bytes))=some (some (.slice none 0 0),1,24):=by kernel_rfl
theorem run_mk0 (n : Nat) (b2 : n<=1000000) (w : World) :
  (Instr.makeSlice 25 (.int .i64 0) (.int .i64 n)).run Tryz.prog w = .ok (.slice (some ⟨w.heap.size,0,none⟩) 0 n) (w.alloc (.cells (List.replicate n (Value.slice none 0 0)).toArray 22)):=by
 obtain ⟨i,hi,hz0,hz1,hz2⟩:=info_parts infoRows
 have h:=run_make (P:=Tryz.prog) w 25 22 i (.slice none 0 0) Tryz.underlying25 hi hz0 .i64 .i64 0 n (by omega) (by omega) (by rw [hz2];omega) (by omega)
 rw [hz1,Nat.mul_one,show (Value.slice none 0 0).cells = #[Value.slice none 0 0] from rfl,Int.toNat_natCast] at h
 have e : madeCells #[Value.slice none 0 0] n=(List.replicate n (Value.slice none 0 0)).toArray:=by rw [<- toList_madeCells_one]
 rw [h,e]
 rfl
def WrI (B Bo Br n NN : Nat) (pre : List WX) (V : World) : Prop :=
 (Box V Bo [.slice (some ⟨Br,0,none⟩) pre.length NN]/\V.ownsRow B 22 1 (.slice (some ⟨Br,0,none⟩) pre.length NN) pre.length (pre.map λx=>.slice x.a n x.c)) /\
  ∀x ∈ pre,Ints V x.a n x.l/\ablk x.a ≠ Bo/\ablk x.a ≠ Br
theorem WrI.of_blocks {B Bo Br n NN : Nat} {pre : List WX} {V V' : World} (h : WrI B Bo Br n NN pre V) (ho : V'.heap[Bo]? = V.heap[Bo]?) (hr : V'.heap[Br]? = V.heap[Br]?) (hx : ∀x ∈ pre,V'.heap[ablk x.a]? = V.heap[ablk x.a]?) (hs : V.heap.size<=V'.heap.size) : WrI B Bo Br n NN pre V' :=
 ⟨⟨⟨Nat.lt_of_lt_of_le h.1.1.1 hs,λi v hv=>(World.cell?_of_block (w:=V) (a:=⟨Bo,i,none⟩) ho).trans (h.1.1.2.1 i v hv),λi=>(World.frozen?_of_block (w:=V) (a:=⟨Bo,i,none⟩) ho).trans (h.1.1.2.2 i)⟩,
  own_block h.1.2 hr⟩,λx hxp=>⟨(h.2 x hxp).1.of_block λ_=>hx x hxp,(h.2 x hxp).2⟩⟩
theorem WrI.rowlt {B Bo Br n NN : Nat} {pre : List WX} {V : World} (h : WrI B Bo Br n NN pre V) : B<=Br/\Br<V.heap.size:=own_ne h.1.2 (by simp)
theorem Box.set0 {w : World} {b : Nat} {v : Value} (h : Box w b [v]) (u : Value) : Box (w.setCell ⟨b,0,none⟩ u) b [u] :=
 ⟨by have:=((Below.refl 0 w).setCell (p:=⟨b,0,none⟩) (Nat.zero_le _) u).size;exact Nat.lt_of_lt_of_le h.1 this,λi x hx=>by
  cases i with
  | zero=>simp at hx;subst hx;exact World.cell?_setCell_same' _ _ _ (by rw [h.2.1 0 v rfl];rfl)
  | succ i=>simp at hx,λi=>by rw [World.frozen?_setCell];exact h.2.2 i⟩
theorem Box.of_block {w w' : World} {b : Nat} {cs : List Value} (h : Box w b cs) (hb : w'.heap[b]? = w.heap[b]?) (hs : w.heap.size<=w'.heap.size) : Box w' b cs :=
 ⟨Nat.lt_of_lt_of_le h.1 hs,λi v hv=>(World.cell?_of_block (w:=w) (a:=⟨b,i,none⟩) hb).trans (h.2.1 i v hv),λi=>(World.frozen?_of_block (w:=w) (a:=⟨b,i,none⟩) hb).trans (h.2.2 i)⟩
theorem Moves.grownB {w w' : World} {I : Nat->Prop} {B : Nat} (hg : w.grownBy w' (some B)) (hB : I B) : Moves w w' I I :=
 ⟨hg.os,hg.tape,hg.output,hg.size,λb hb hI=>hg.block b hb (λe=>by cases e;exact hI hB),λb hb=>.inl hb⟩
theorem WrI.step {B Br n NN : Nat} {pre : List WX} {x : WX} {W W1 : World} {o : Obj} (h : WrI B (Br+1) Br n NN pre W) (hix : Ints W x.a n x.l) (hn : 1<=n) (hx1 : ablk x.a ≠ Br+1) (hx2 : ablk x.a ≠ Br)
  (hg : (W.alloc o).grownBy W1 (some Br)) (hown : W1.ownsRow B 22 1 (.slice (some ⟨Br,0,none⟩) (pre.length+1) NN) (pre.length+1) (pre.map (λx=>.slice x.a n x.c) ++ [.slice x.a n x.c])) :
  WrI B (Br+1) Br n NN (pre ++ [x]) (W1.setCell ⟨Br+1,0,none⟩ (.slice (some ⟨Br,0,none⟩) (pre.length+1) NN)) /\
   Moves W (W1.setCell ⟨Br+1,0,none⟩ (.slice (some ⟨Br,0,none⟩) (pre.length+1) NN)) (λy=>y=Br+1\/y=Br) (λy=>y=Br+1\/y=Br):=by
 have hblk : ∀y,y<W.heap.size->y ≠ Br->W1.heap[y]? = W.heap[y]?:=λy hy h2=>(hg.block y (by simp;omega) (λe=>by cases e;exact h2 rfl)).trans (Below.heap_alloc _ _ _ hy)
 have hsz : W.heap.size<=W1.heap.size:=by have:=hg.size;simp at this;omega
 have hbx : Box W1 (Br+1) [.slice (some ⟨Br,0,none⟩) pre.length NN]:=h.1.1.of_block (hblk _ h.1.1.1 (by omega)) hsz
 refine ⟨⟨⟨by rw [List.length_append];exact hbx.set0 _,?_⟩,?_⟩,((Moves.of_below (below1 W o) _).trans (Moves.grownB hg (.inr rfl))).trans (Moves.setAt _ (.inl rfl) _)⟩
 ·have h2:=own_block hown (w':=W1.setCell ⟨Br+1,0,none⟩ (.slice (some ⟨Br,0,none⟩) (pre.length+1) NN)) (Below.heap_setCell _ _ _ _ (by show Br ≠ Br+1;omega))
  rw [List.length_append,List.map_append]
  exact h2
 ·intro y hy
  have hy' : Ints W y.a n y.l/\ablk y.a ≠ Br+1/\ablk y.a ≠ Br:=by
   rcases List.mem_append.1 hy with hy | hy
   ·exact h.2 y hy
   ·rw [List.mem_singleton.1 hy];exact ⟨hix,hx1,hx2⟩
  refine ⟨hy'.1.of_block λh0=>?_,hy'.2⟩
  exact (Below.heap_setCell _ _ _ _ (by show ablk y.a ≠ Br+1;exact hy'.2.1)).trans (hblk _ (hy'.1.lt h0) hy'.2.2)
attribute [local go_sem] Oper.semAt_some
theorem walk_any (P M : Int) (am : Option Addr) (mn cm : Nat) (N : Int) (a : Option Addr) (k c : Nat) (w : World) :
  Calls Tryz.prog 80 #[.agg #[.int .i64 P,.int .i64 M,.slice am mn cm,.int .i64 N,.slice a k c]] w λe w' =>
   e = .returned (.func (.func 150) #[] #[.pointer (some ⟨w.heap.size,0,none⟩)])/\w'=w.alloc (.cells #[.int .i64 P,.int .i64 M,.slice am mn cm,.int .i64 N,.slice a k c] 27):=by
 have hmf : ∀(fn : Fn) (first cap : Array Value) (w : World),(Instr.makeFunc fn first cap).run Tryz.prog w = .ok (.func fn first cap) w:=λ_ _ _ _=>rfl
 go_enter Tryz.func80,Tryz.ntmps80
 go_wp2
 go_ret
 exact ⟨rfl,rfl⟩
theorem words_any (P M : Int) (am : Option Addr) (mn cm : Nat) (mod : List Int) (n : Nat) (a : Option Addr) (k c : Nat) (L : List (List Int)) (w : World) (NN : Nat) (hE : codeE P M mod n L=0) (hmod : Ints w am mn mod) (hi : Mat w a k L)
  (hNN : (tblOf P M.toNat mod).q ^ k=NN) (hN6 : NN<=65536) :
  Calls Tryz.prog 38 #[.agg #[.int .i64 P,.int .i64 M,.slice am mn cm,.int .i64 n,.slice a k c]] w λe w' =>
   ∃ao co,e = .returned (.tuple #[.slice ao NN co,.int .i64 0])/\Mat w' ao NN (wlkS (tblOf P M.toNat mod).ops (tblOf P M.toNat mod).q L (List.replicate n 0))/\Below w.heap.size w w':=by
 obtain ⟨N',em,hm1,hm64,F,hR⟩:=codeE_fld hE
 obtain rfl : n=N':=by omega
 have HSz : Hid (∀V,Below w.heap.size w V->Calls Tryz.prog 79 #[.agg #[.int .i64 P,.int .i64 M,.slice am mn cm,.int .i64 n,.slice a k c]] V λe w'=>e = .returned (.tuple #[.int .i64 (NN : Nat),.int .i64 0])/\Below V.heap.size V w'):=λV hV=>by
  refine (size_any P M am mn cm mod n a k c L V hE (hmod.keep hV) (hi.keep hV)).mono ?_
  rintro e w' ⟨rfl,h2⟩
  have h3 : ((tblOf P M.toNat mod).q : Int) ^ k=(NN : Nat):=by rw [<- hNN];simp
  have h4:=expV_in (q:=(tblOf P M.toNat mod).q) (k:=k) (by rw [h3];omega)
  rw [h4.1,h4.2,h3]
  exact ⟨rfl,h2⟩
 have HWk : Hid (∀(W : World) (Bc l : Nat),Below w.heap.size w W->Box W Bc [.int .i64 P,.int .i64 M,.slice am mn cm,.int .i64 n,.slice a k c]->∀(J : List WX->World->Prop) (MM : Nat->Prop),(∀x,MM x->x<W.heap.size) ->
   (∀V,(∀x,x<W.heap.size->¬ MM x->V.heap[x]? = W.heap[x]?)->Mat V a k L/\V.cell? ⟨Bc,4,none⟩=some (.slice a k c)) ->
   (∀pre V V',J pre V->Below V.heap.size V V'->J pre V')->(∀B pre V v,W.heap.size<=B->(∀x ∈ pre,ablk x.a ≠ B)->J pre V->J pre (V.setCell ⟨B,0,none⟩ v)) ->
   (∀m pre x V,J pre V->pre.length<NN->Ints V x.a n x.l->(∀j,MM j->j ≠ ablk x.a)->YOk l n J MM m pre x V)->J [] W ->
   Calls Tryz.prog 150 #[.func (.yield l) #[] #[],.pointer (some ⟨Bc,0,none⟩)] W λe V=>e = .returned (.tuple #[]) /\
    ∃xs : List WX,xs.map WX.l=wlkS (tblOf P M.toNat mod).ops (tblOf P M.toNat mod).q L (List.replicate n 0)/\J xs V/\Moves W V MM MM):=by
  intro W Bc l hb hx J MM h1 h2 h3 h4 h5 h6
  refine walk1_any P M am mn cm mod n a k c L W Bc l hE hx (hmod.keep hb) (hi.keep hb) J MM h1 h2 h3 h4 ?_ (by rw [hNN];omega) h6
  intro m pre x V hj hl;rw [hNN] at hl;exact h5 m pre x V hj hl
 have Hmat : Hid (∀V,(∀x,x<w.heap.size->V.heap[x]? = w.heap[x]?)->Mat V a k L):=λV hV=>⟨hi.len,hi.pl,hi.max,λi hik=>by
  obtain ⟨b,m,c',h1,h2⟩:=hi.cell i hik
  exact ⟨b,m,c',(World.cell?_of_block (w:=w) (hV _ (World.block_lt_of_cell? _ _ h1))).trans h1,h2.of_block λh0=>hV _ (h2.lt h0)⟩⟩
 have Hlen : Hid ((wlkS (tblOf P M.toNat mod).ops (tblOf P M.toNat mod).q L (List.replicate n 0)).length=NN):=by
  show _=_
  rw [wlkS_length,hi.len,hNN]
 generalize wlkS (tblOf P M.toNat mod).ops (tblOf P M.toNat mod).q L (List.replicate n 0)=R at *
 clear hNN hR F em hE hmod hi
 refine (callsIn_wide (n:=8)).1 ?_
 refine callsIn_of_wp_marks Tryz.func38 rfl trivial ?_ rfl
 simp only [Tryz.ntmps38,List.size_toArray,List.length_cons,List.length_nil,Nat.reduceAdd,Nat.reduceSub,Array.replicate_succ,Array.replicate_zero,List.push_toArray,List.append_toArray,List.nil_append,List.cons_append]
 refine wpIn_wide.2 ?_
 go_upto_region 1 with fail
 obtain ⟨W1,hW1⟩ : ∃W1 : World,W1=w.alloc (.cells #[.int .i64 P,.int .i64 M,.slice am mn cm,.int .i64 n,.slice a k c] 27):=⟨_,rfl⟩
 rw [<- hW1]
 have hb1 : Below w.heap.size w W1:=by rw [hW1];exact below1 _ _
 have x1 : Box W1 w.heap.size [.int .i64 P,.int .i64 M,.slice am mn cm,.int .i64 n,.slice a k c]:=by rw [hW1];exact Box.new _ _ _ rfl
 have X1:=Lib.hid x1
 have c0:=x1.cell 0 rfl
 have c1:=x1.cell 1 rfl
 have c2:=x1.cell 2 rfl
 have c3:=x1.cell 3 rfl
 have c4:=x1.cell 4 rfl
 clear hW1 x1
 go_upto_region 4 with (go_at_call 79;refine (HSz.out _ hb1).mono ?_;rintro e w2 ⟨rfl,hb2⟩;clear c0 c1 c2 c3 c4)
 have hmk:=λV=>run_mk0 NN (by omega) V
 go_upto_region 5 with fail
 obtain ⟨Br,hBr⟩ : ∃Br,Br=w2.heap.size:=⟨_,rfl⟩
 rw [<- hBr]
 obtain ⟨W3,hW3⟩ : ∃W3 : World,W3=((w2.alloc (.cells (Array.replicate NN (Value.slice none 0 0)) 22)).alloc (.cells #[.slice (some ⟨Br,0,none⟩) 0 NN] 25)):=⟨_,rfl⟩
 rw [<- hW3]
 have hb3 : Below w2.heap.size w2 W3:=by rw [hW3];exact below2 _ _ _
 have hs3 : W3.heap.size=Br+2:=by rw [hW3,hBr];simp
 have hwB : w.heap.size<Br:=by have h1:=X1.out.1;have h2:=hb2.size;omega
 have hwi : WrI w.heap.size (Br+1) Br n NN [] W3:=by
  refine ⟨⟨?_,?_⟩,λx hx=>by simp at hx⟩
  ·rw [hW3];exact Box.new _ _ _ (by rw [hBr];simp)
  ·refine ⟨rfl,.inr ⟨Br,NN,Array.replicate NN (Value.slice none 0 0),rfl,by omega,?_,by simp,by unfold maxLen;omega,by simp,by simp⟩⟩
   rw [hW3,hBr]
   exact (Below.heap_alloc _ _ _ (by simp)).trans (World.alloc_heap_new w2 _)
 have Hwi:=Lib.hid hwi
 have HBr:=Lib.hid hBr
 have hb13:=Below.next (Below.next hb1 hb2) hb3
 have x3:=(X1.out.keep hb2).keep hb3
 have c0:=x3.cell 0 rfl
 have c1:=x3.cell 1 rfl
 have c2:=x3.cell 2 rfl
 have c3:=x3.cell 3 rfl
 have c4:=x3.cell 4 rfl
 have Hs3:=Lib.hid hs3
 clear hW3 hwi hBr x3 hmk
 go_wp2_with (go_at_call 80;refine (walk_any P M am mn cm n a k c W3).mono ?_;rintro e w4 ⟨rfl,hw4⟩;have Hw4:=Lib.hid hw4;clear hw4 hs3)
 have hw4:=Hw4.out
 have hs3:=Hs3.out
 have hb4 : Below W3.heap.size W3 w4:=by rw [hw4];exact below1 _ _
 have hs4 : w4.heap.size=W3.heap.size+1:=by rw [hw4];simp
 have x4 : Box w4 W3.heap.size [.int .i64 P,.int .i64 M,.slice am mn cm,.int .i64 n,.slice a k c]:=by rw [hw4];exact Box.new _ _ _ rfl
 clear hw4 c0 c1 c2 c3 c4
 have hi4 : WrI w.heap.size (Br+1) Br n NN [] w4:=WrI.of_blocks Hwi.out (hb4.block _ (by omega)) (hb4.block _ (by omega)) (λx hx=>by simp at hx) hb4.size
 have Hs4:=Lib.hid hs4
 obtain ⟨i0,hi,hz0,hz1,hz2⟩:=info_parts infoRows
 have hMB4 : ∀x,(x=Br+1\/x=Br)->x<w4.heap.size:=λx hx=>by omega
 clear hs3 hs4
 refine (wpIn_wide (n:=8)).1 ?_
 refine wp_range_walk (n:=n) (N:=NN) (lb:=#[.pointer (some ⟨W3.heap.size,0,none⟩)]) (R:=R) rfl (enters_of Tryz.func150 (by kernel_rfl) rfl) rfl (by omega) hm1
  (λx=>x=Br+1\/x=Br) hMB4 ?hseq (WrI w.heap.size (Br+1) Br n NN) ?hIa ?hIb ?hIp hi4
  (λpre x=>{ tmps:=#[.agg #[.int .i64 P,.int .i64 M,.slice am mn cm,.int .i64 n,.slice a k c],.pointer (some ⟨w.heap.size,0,none⟩),.slice none 0 0,.int .i64 0,.int .i64 NN,.int .i64 0,.pointer (some ⟨Br+1,0,none⟩),undef,.slice x.a n x.c,
   .tuple #[.int .i64 NN,.int .i64 0],.agg #[.int .i64 P,.int .i64 M,.slice am mn cm,.int .i64 n,.slice a k c],.tuple #[.int .i64 NN,.int .i64 0],.int .i64 NN,.int .i64 0,.int .i64 0,.bool false,undef,.int .i64 NN,.slice (some ⟨Br,0,none⟩) 0 NN,
   .agg #[.int .i64 P,.int .i64 M,.slice am mn cm,.int .i64 n,.slice a k c],.func (.func 150) #[] #[.pointer (some ⟨W3.heap.size,0,none⟩)],.int .i64 (pre.length : Nat),.slice x.a n x.c,undef,undef,undef,undef,undef],defers:=[] })
  ?assign ?body ?done
 case hseq =>
  intro l J MM W hb hs hMM hJa hJb hY h0
  have hs3:=Hs3.out
  have hs4:=Hs4.out
  have hbw : Below w.heap.size w W:=Below.next (Below.next hb13 hb4) hb
  refine HWk.out W W3.heap.size l hbw (x4.keep hb) J MM (λx hx=>by have:=hMM x hx;omega) (λV hV=>?_) hJa hJb hY h0
  have hwV : ∀x,x<w.heap.size->V.heap[x]? = w.heap[x]?:=λx hx=>(hV x (by have:=hbw.size;omega) (λh=>by have:=hMM x h;have:=hb4.size;omega)).trans (hbw.block x hx)
  refine ⟨Hmat.out V hwV,?_⟩
  ·refine (World.cell?_of_block (w:=W) (a:=⟨W3.heap.size,4,none⟩) (hV _ ?_ ?_)).trans ((x4.keep hb).cell 4 rfl)
   ·have:=(x4.keep hb).1;exact this
   ·intro h
    have h2 : (W3.heap.size=Br+1\/W3.heap.size=Br)\/W3.heap.size=w4.heap.size+1:=hMM _ h
    omega
 case hIa =>
  intro pre V V' h hb
  exact h.of_blocks (hb.block _ h.1.1.1) (hb.block _ h.rowlt.2) (λx hx=>hb.block _ ((h.2 x hx).1.lt hm1)) hb.size
 case hIb =>
  intro B pre V v hB hx h
  have hs3:=Hs3.out
  have hs4:=Hs4.out
  refine h.of_blocks (Below.heap_setCell _ _ _ _ ?_) (Below.heap_setCell _ _ _ _ ?_) (λx hxp=>Below.heap_setCell _ _ _ _ (hx x hxp)) (((Below.refl 0 V).setCell (p:=⟨B,0,none⟩) (Nat.zero_le _) v).size)
  ·show Br+1 ≠ B;omega
  ·show Br ≠ B;omega
 case hIp =>
  intro B pre V o hB hx h
  have hs3:=Hs3.out
  have hs4:=Hs4.out
  refine h.of_blocks (World.putObj_heap_other ?_) (World.putObj_heap_other ?_) (λx hxp=>World.putObj_heap_other (hx x hxp)) (grownBy_putObj' V B o).size
  ·omega
  ·omega
 case assign =>
  intro l m pre x W K hK
  gi_wp2
  exact hK
 case body =>
  rintro l m pre x W h hlt hix hxM
  have hcv:=h.1.1.cell 0 rfl
  have hrow:=h.1.2
  obtain ⟨v,hv⟩ : ∃v,v=Value.slice (some ⟨Br,0,none⟩) pre.length NN:=⟨_,rfl⟩
  rw [<- hv] at hcv
  have Hv:=Lib.hid hv
  have Hh:=Lib.hid h
  clear hv h
  gi_wp2_with (gi_at_builtin;refine wpListIn_append_fits _ rfl _ _ 25 rfl w.heap.size 22 i0 1 Tryz.underlying25 hi hz1 Br pre.length NN (pre.map λx=>.slice x.a n x.c) Hv.out (hrow.alloc _) ⟨W.heap.size,0,none⟩ 1 1 [.slice x.a n x.c] rfl rfl (cell_one_new _ _ _) (by simp [Value.oneCell']) (by omega) ?_;intro w1 hown1 hgrow1;have hbo : Box w1 (Br+1) [.slice (some ⟨Br,0,none⟩) pre.length NN]:=(Hh.out.1.1.alloc _).of_block (hgrow1.block _ (Hh.out.1.1.alloc _).1 (λe=>by injection e with e;omega)) hgrow1.size;have hc1:=hbo.cell 0 rfl;have hf1:=hbo.frozen 0)
  have hst:=WrI.step Hh.out hix hm1 (λe=>hxM _ (.inl rfl) e.symm) (λe=>hxM _ (.inr rfl) e.symm) hgrow1 hown1
  exact ⟨hst.1,hst.2⟩
 case done =>
  intro xs V hx hI hm hK
  have hcv:=hI.1.1.cell 0 rfl
  have HI:=Lib.hid hI
  have Hm:=Lib.hid hm
  have Hx:=Lib.hid hx
  clear hI hm hx
  go_wp2_with fail
  refine ⟨by simp,.inl ⟨_,_,rfl,run_takeDeferred hK,?_⟩⟩
  have hxl : xs.length=NN:=by rw [<- Hlen.out,<- Hx.out,List.length_map]
  have hIV : WrI w.heap.size (Br+1) Br n NN xs (V.putObj w4.heap.size (.deferred none)):=by
   have hs3:=Hs3.out
   have hs4:=Hs4.out
   have hlo : ∀x ∈ xs,ablk x.a ≠ w4.heap.size:=λx hx e=>by
    obtain ⟨_,ix⟩:=(HI.out.2 x hx).1.cell 0 hm1 |> λh=>And.intro h (Array.getElem?_eq_some_iff.1 hK).1
    have h1:=(HI.out.2 x hx).1.cell 0 hm1
    rw [e] at h1
    simp [World.cell?,hK] at h1
   exact HI.out.of_blocks (World.putObj_heap_other (by omega)) (World.putObj_heap_other (by omega)) (λx hx=>World.putObj_heap_other (hlo x hx)) (grownBy_putObj' V _ _).size
  have hbw4 : Below w.heap.size w w4:=Below.next hb13 hb4
  have hbV : Below w.heap.size w4 V:=Hm.out.below (λb hb=>by have:=hbw4.size;omega) hbw4.size
  refine ⟨_,results_tmp2 rfl _ _ _,some ⟨Br,0,none⟩,NN,?_,?_,?_⟩
  ·simp [hxl]
  ·refine ⟨Hlen.out,λ_=>rfl,by unfold maxLen;omega,λi hi=>?_⟩
   obtain ⟨y,hy⟩ : ∃y,xs[i]? = some y:=⟨xs[i],List.getElem?_eq_getElem (by omega)⟩
   have hrow:=hIV.1.2
   have hc:=hrow.cellAt i (by omega)
   rw [List.getElem?_map,hy] at hc
   refine ⟨y.a,n,y.c,?_,?_⟩
   ·have e : aoff (some ⟨Br,0,none⟩ : Option Addr)+i=i:=by simp [aoff]
    rw [e];exact hc
   ·have h2:=(hIV.2 y (List.mem_of_getElem? hy)).1
    have e : nthR R i=y.l:=by
     rw [<- Hx.out,nthR_getElem (by rw [List.length_map];omega),List.getElem_map]
     rw [List.getElem?_eq_getElem (by omega)] at hy
     injection hy with hy
     rw [hy]
    rw [e];exact h2
  ·exact (hbw4.trans hbV).trans (belowK_b (w:=w4) hbw4.size V w4.heap.size _ _ (Nat.le_refl _) hK rfl rfl)
end

section
open Go.RowKit
section
variable {P M : Int} {mod : List Int} {m : Nat} {L : List (List Int)}
theorem cw_msg (hE : codeE P M mod m L=0) {v : List Int} (hl : v.length=L.length) (hv : ∀k,k<L.length->(tblOf P M.toNat mod).El (nth v k)) (h0 : wtL v ≠ 0) : CW P M mod m L (cmbTo (tblOf P M.toNat mod).ops m v L L.length):=by
 obtain ⟨N',e,hm1,hm64,F,hR⟩:=codeE_fld hE
 obtain rfl : m=N':=by omega
 obtain ⟨c1,c2⟩:=cmb_rs F hR hv L.length (Nat.le_refl _)
 refine ⟨c1,c2,λhz=>h0 (wtL_zero.2 λk hk=>?_)⟩
 obtain ⟨p,hp,hpl⟩:=code_piv hE
 have hpk:=hp.lt k (by omega)
 rw [<- cmb_piv hE hp hpl hv (by omega : k<L.length)]
 exact wtL_zero.1 hz _ (by rw [c1.1];omega)
theorem msg_cw (hE : codeE P M mod m L=0) {x : List Int} (hx : CW P M mod m L x) : ∃v : List Int,v.length=L.length/\(∀k,k<L.length->(tblOf P M.toNat mod).El (nth v k))/\x=cmbTo (tblOf P M.toNat mod).ops m v L L.length/\wtL v ≠ 0:=by
 obtain ⟨N',e,hm1,hm64,F,hR⟩:=codeE_fld hE
 obtain rfl : m=N':=by omega
 obtain ⟨v,hv,h2⟩:=RS.cmb F hR hx.2.1
 have hve : ∀k,k<L.length->(tblOf P M.toNat mod).El (nth v k):=λk hk=>hv.at hk
 have c1:=(cmb_rs F hR hve L.length (Nat.le_refl _)).1
 have hxe : x=cmbTo (tblOf P M.toNat mod).ops m v L L.length:=nth_ext (by rw [hx.1.1,c1.1]) λi hi=>h2 i (by rw [<- hx.1.1];exact hi)
 refine ⟨v,hv.1,hve,hxe,λh0=>hx.2.2 ?_⟩
 rw [hxe,cmb_zero _ _ (wtM_zero.1 h0) _ (by rw [hv.1];exact Nat.le_refl _)]
 exact wtM_zero.2 rep_zero
end
end

section
open Go.RowKit
theorem cmpL_ex : ∀ {s t : List Int},s.length=t.length->cmpL s t<0->∃i,i<s.length/\(∀j,j<i->nth s j=nth t j)/\nth s i<nth t i
 | [],[],_,h=>by simp [cmpL] at h
 | x :: s,y :: t,hl,h=>by
  rw [cmpL] at h
  by_cases h1 : x<y
  ·exact ⟨0,by simp,λj hj=>by omega,by simpa [nth] using h1⟩
  ·rw [if_neg h1] at h
   by_cases h2 : y<x
   ·rw [if_pos h2] at h;omega
   ·rw [if_neg h2] at h
    obtain ⟨i,a1,a2,a3⟩:=cmpL_ex (by simpa using hl) h
    refine ⟨i+1,by simpa using a1,λj hj=>?_,by simpa [nth] using a3⟩
    match j,hj with
    | 0,_=>show x=y;omega
    | j+1,hj=>simpa [nth] using a2 j (by omega)
theorem cmpL_of : ∀ {s t : List Int} {i : Nat},i<s.length->i<t.length->(∀j,j<i->nth s j=nth t j)->nth s i<nth t i->cmpL s t<0
 | x :: s,y :: t,0,_,_,_,h=>by
  have h' : x<y:=by simpa [nth] using h
  rw [cmpL,if_pos h'];omega
 | x :: s,y :: t,i+1,h1,h2,h3,h4=>by
  have h0 : x=y:=by simpa [nth] using h3 0 (by omega)
  rw [cmpL,if_neg (by omega),if_neg (by omega)]
  exact cmpL_of (i:=i) (by simpa using h1) (by simpa using h2) (λj hj=>by simpa [nth] using h3 (j+1) (by omega)) (by simpa [nth] using h4)
theorem cmpL_zero : ∀ {s t : List Int},s.length=t.length->cmpL s t=0->s=t
 | [],[],_,_=>rfl
 | x :: s,y :: t,hl,h=>by
  rw [cmpL] at h
  by_cases h1 : x<y
  ·rw [if_pos h1] at h;omega
  ·rw [if_neg h1] at h
   by_cases h2 : y<x
   ·rw [if_pos h2] at h;omega
   ·rw [if_neg h2] at h
    rw [show x=y by omega,cmpL_zero (by simpa using hl) h]
theorem msgs_pair (q : Nat) : ∀k,(msgs q k).Pairwise (λs t=>cmpL s t<0)
 | 0=>by simp [msgs]
 | k+1=>by
  rw [msgs,List.pairwise_flatMap]
  refine ⟨λa _=>?_,?_⟩
  ·rw [List.pairwise_map]
   refine List.Pairwise.imp (λ{s t} h=>?_) (msgs_pair q k)
   rw [cmpL,if_neg (by omega),if_neg (by omega)]
   exact h
  ·refine List.Pairwise.imp (λ{a b} hab x ha y hb=>?_) List.pairwise_lt_range
   obtain ⟨s,_,rfl⟩:=List.mem_map.1 ha
   obtain ⟨t,_,rfl⟩:=List.mem_map.1 hb
   rw [cmpL,if_pos (by omega)]
   omega
theorem dotN_ext {O : FOps} {a b c : Nat->Int} : ∀t,(∀p,p<t->O.mul (a p) (c p)=O.mul (b p) (c p))->dotN O a c t=dotN O b c t
 | 0,_=>rfl
 | t+1,h=>by rw [dotN,dotN,dotN_ext t λp hp=>h p (by omega),h t (by omega)]
def bestI (l : List (List Int)) : Nat->Nat
 | 0=>0
 | i+1=>if 0<i/\(bestI l i=0\/wtL (nthR l i)<wtL (nthR l (bestI l i))) then i else bestI l i
theorem bestI_spec (l : List (List Int)) : ∀k,(k<=1->bestI l k=0)/\(2<=k->1<=bestI l k/\bestI l k<k/\∀i,1<=i->i<k->wtL (nthR l (bestI l k))<=wtL (nthR l i)/\(i<bestI l k->wtL (nthR l (bestI l k))<wtL (nthR l i)))
 | 0=>⟨λ_=>rfl,λh=>by omega⟩
 | 1=>⟨λ_=>by simp [bestI],λh=>by omega⟩
 | k+2=>by
  refine ⟨λh=>by omega,λ_=>?_⟩
  obtain ⟨h1,h2⟩:=bestI_spec l (k+1)
  have e : bestI l (k+2)=if 0<k+1/\(bestI l (k+1)=0\/wtL (nthR l (k+1))<wtL (nthR l (bestI l (k+1)))) then k+1 else bestI l (k+1):=rfl
  by_cases hk : k=0
  ·subst hk
   rw [h1 (by omega)] at e
   rw [e,if_pos ⟨by omega,.inl rfl⟩]
   exact ⟨by omega,by omega,λi a b=>by
    obtain rfl : i=1:=by omega
    exact ⟨Nat.le_refl _,λh=>by omega⟩⟩
  ·obtain ⟨g1,g2,g3⟩:=h2 (by omega)
   by_cases hw : wtL (nthR l (k+1))<wtL (nthR l (bestI l (k+1)))
   ·rw [e,if_pos ⟨by omega,.inr hw⟩]
    refine ⟨by omega,by omega,λi a b=>?_⟩
    by_cases hi : i=k+1
    ·subst hi;exact ⟨Nat.le_refl _,λh=>by omega⟩
    ·have:=g3 i a (by omega)
     exact ⟨by omega,λ_=>by omega⟩
   ·rw [e,if_neg (by rintro ⟨_,h | h⟩ <;> omega)]
    refine ⟨g1,by omega,λi a b=>?_⟩
    by_cases hi : i=k+1
    ·subst hi;exact ⟨by omega,λh=>by omega⟩
    ·exact g3 i a (by omega)
section
variable {P M : Int} {mod : List Int} {m : Nat} {L : List (List Int)}
theorem cmb_lex (hE : codeE P M mod m L=0) {v u : List Int} (hv : v.length=L.length) (hu : u.length=L.length) (ev : ∀k,k<L.length->(tblOf P M.toNat mod).El (nth v k)) (eu : ∀k,k<L.length->(tblOf P M.toNat mod).El (nth u k)) (h : cmpL v u<0) :
  cmpL (cmbTo (tblOf P M.toNat mod).ops m v L L.length) (cmbTo (tblOf P M.toNat mod).ops m u L L.length)<0:=by
 obtain ⟨N',e,hm1,hm64,F,hR⟩:=codeE_fld hE
 obtain rfl : m=N':=by omega
 obtain ⟨i,hi,h1,h2⟩:=cmpL_ex (by omega) h
 rw [hv] at hi
 have h6:=(spaceE_zero (codeE_zero hE).2.2.2).2
 rw [Int.toNat_natCast] at h6
 have hcan : canO (tblOf P M.toNat mod).ops m L=L:=h6
 obtain ⟨hPv,hLd⟩:=canO_piv F hR
 have hcl:=canO_len F hR
 rw [hcan] at hPv hcl hLd
 obtain ⟨p,hp⟩ : ∃p,(elimTo (tblOf P M.toNat mod).ops L m).2=p:=⟨_,rfl⟩
 rw [hp] at hPv hcl hLd
 have hpi:=hPv.lt i (by omega)
 have lv:=(cmb_rs F hR ev L.length (Nat.le_refl _)).1.1
 have lu:=(cmb_rs F hR eu L.length (Nat.le_refl _)).1.1
 refine cmpL_of (i:=(nth p i).toNat) (by omega) (by omega) (λj hj=>?_) ?_
 ·rw [cmb_dot F hR ev (by omega) _ (Nat.le_refl _),cmb_dot F hR eu (by omega) _ (Nat.le_refl _)]
  refine dotN_ext _ λt ht=>?_
  by_cases hti : t<i
  ·show (tblOf P M.toNat mod).ops.mul (nth v t) _=(tblOf P M.toNat mod).ops.mul (nth u t) _
   rw [h1 t hti]
  ·have h0 : nth (nthR L t) j=0:=hLd.lead t j (by omega) (by
    by_cases e : t=i
    ·rw [e];exact hj
    ·have:=hLd.asc i t (by omega) (by omega)
     omega)
   show (tblOf P M.toNat mod).ops.mul (nth v t) (nth (nthR L t) j)=(tblOf P M.toNat mod).ops.mul (nth u t) (nth (nthR L t) j)
   rw [h0,F.mzero (ev t ht),F.mzero (eu t ht)]
 ·rw [cmb_piv hE hPv hcl ev hi,cmb_piv hE hPv hcl eu hi]
  exact h2
theorem mon_le (hE : codeE P M mod m L=0) {y : List Int} (hy : CW P M mod m L y) : cmpL (monS (tblOf P M.toNat mod).ops y) y<=0:=by
 obtain ⟨N',e,hm1,hm64,F,hR⟩:=codeE_fld hE
 obtain rfl : m=N':=by omega
 obtain ⟨h1,h2⟩:=first_el hy.1 hy.2.2
 obtain ⟨h3,h4⟩:=inv_ne F h1 h2
 have hl:=fnz_lt hy.2.2
 have hml : (monS (tblOf P M.toNat mod).ops y).length=y.length:=by simp [monS]
 have hf:=monS_first F hy.1 hy.2.2
 have hfz : fnz (monS (tblOf P M.toNat mod).ops y)=fnz y:=by rw [monS_eq,fnz_scl F h3 h4 hy.1.2]
 rw [hfz] at hf
 by_cases e1 : nth y (fnz y)=1
 ·have hi1 : (tblOf P M.toNat mod).ops.inv 1=1:=by
   have a:=F.mul_inv 1 F.one (by decide)
   rwa [F.one_mul _ (F.cl.inv 1 F.one (by decide))] at a
  have : monS (tblOf P M.toNat mod).ops y=y:=by
   rw [monS_eq,e1,hi1]
   conv=>rhs;rw [<- List.map_id y]
   exact List.map_congr_left λx hx=>F.one_mul x (hy.1.2 x hx)
  rw [this,cmpM_self]
  exact Int.le_refl _
 ·refine Int.le_of_lt (cmpL_of (i:=fnz y) (by omega) hl (λj hj=>?_) ?_)
  ·rw [fnz_zero y j hj]
   rw [<- hfz] at hj
   exact fnz_zero _ j hj
  ·rw [hf]
   have h5 : 0<=nth y (fnz y):=h1.1
   omega
theorem enum_law (hE : codeE P M mod m L=0) {b : List Int} (hb : BestOk P M mod m L b) (h : ∀x,CW P M mod m L x->leK b (monS (tblOf P M.toNat mod).ops x)) {l : List (List Int)} (hl : wlkS (tblOf P M.toNat mod).ops (tblOf P M.toNat mod).q L (List.replicate m 0)=l) :
  1<=bestI l l.length/\bestI l l.length<l.length/\nthR l (bestI l l.length)=b:=by
 obtain ⟨N',e,hm1,hm64,F,hR⟩:=codeE_fld hE
 obtain rfl : m=N':=by omega
 have hq : (1 : Int)<(tblOf P M.toNat mod).q:=F.one.2
 rw [wlk_cmb] at hl
 obtain ⟨l0,hl0⟩:=msgs_head (q:=(tblOf P M.toNat mod).q) (by omega) L.length
 have hnd:=msgs_nodup (tblOf P M.toNat mod).q L.length
 have hlen : l.length=(msgs (tblOf P M.toNat mod).q L.length).length:=by rw [<- hl];simp
 have hat : ∀i (hi : i<(msgs (tblOf P M.toNat mod).q L.length).length),nthR l i=cmbTo (tblOf P M.toNat mod).ops m (msgs (tblOf P M.toNat mod).q L.length)[i] L L.length:=λi hi=>by
  have hi2 : i<l.length:=by omega
  rw [nthR_getElem hi2]
  simp only [<- hl,List.getElem_map]
 have hel : ∀i (hi : i<(msgs (tblOf P M.toNat mod).q L.length).length),(msgs (tblOf P M.toNat mod).q L.length)[i].length=L.length/\∀k,k<L.length->(tblOf P M.toNat mod).El (nth (msgs (tblOf P M.toNat mod).q L.length)[i] k):=λi hi=>by
  obtain ⟨h1,h2⟩:=mem_msgs.1 (List.getElem_mem hi)
  exact ⟨h1,λk hk=>h2 _ (nth_mem (by omega))⟩
 have hcw : ∀i,1<=i->i<l.length->CW P M mod m L (nthR l i):=λi h1 h2=>by
  have hi : i<(msgs (tblOf P M.toNat mod).q L.length).length:=by omega
  rw [hat i hi]
  refine cw_msg hE (hel i hi).1 (hel i hi).2 λhz=>?_
  have e0 : (msgs (tblOf P M.toNat mod).q L.length)[i] = (msgs (tblOf P M.toNat mod).q L.length)[0]'(by omega) := by
   have e2 : (msgs (tblOf P M.toNat mod).q L.length)[0]'(by omega) = List.replicate L.length 0 := by simp only [hl0, List.getElem_cons_zero]
   rw [e2]
   refine List.ext_getElem (by rw [(hel i hi).1];simp) λk hk1 hk2=>?_
   have:=wtL_zero.1 hz k hk1
   rw [nth_getElem hk1] at this
   rw [this];simp
  exact List.pairwise_iff_getElem.1 hnd 0 i (by omega) hi (by omega) e0.symm
 have hin : ∀x,CW P M mod m L x->∃i,1<=i/\i<l.length/\nthR l i=x:=λx hx=>by
  obtain ⟨v,v1,v2,v3,v4⟩:=msg_cw hE hx
  obtain ⟨i,hi,e1⟩:=List.mem_iff_getElem.1 (mem_msgs.2 ⟨v1,λy hy=>by
   obtain ⟨k,hk,rfl⟩:=List.mem_iff_getElem.1 hy
   have:=v2 k (by omega)
   rw [nth_getElem hk] at this
   exact this⟩ : v ∈ msgs (tblOf P M.toNat mod).q L.length)
  refine ⟨i,?_,by omega,by rw [hat i hi,e1,v3]⟩
  refine Nat.pos_of_ne_zero λh0=>v4 ?_
  subst h0
  have e2 : (msgs (tblOf P M.toNat mod).q L.length)[0]'hi = List.replicate L.length 0 := by simp only [hl0, List.getElem_cons_zero]
  rw [<- e1,e2]
  exact wtM_zero.2 rep_zero
 obtain ⟨ib,i1,i2,i3⟩:=hin b hb.1
 obtain ⟨j1,j2,j3⟩:=(bestI_spec l l.length).2 (by omega)
 obtain ⟨J,hJ⟩ : ∃J,bestI l l.length=J:=⟨_,rfl⟩
 rw [hJ] at j1 j2 j3
 rw [hJ]
 refine ⟨j1,j2,?_⟩
 have hyc:=hcw J j1 j2
 obtain ⟨k1,k2⟩:=j3 ib i1 i2
 rw [i3] at k1 k2
 have k3:=best_min hE h hyc
 have k4 : ¬ ib<J:=λhlt=>by have:=k2 hlt;omega
 have c1 : cmpL (nthR l J) b<=0:=by
  by_cases e1 : J=ib
  ·rw [e1,i3,cmpM_self];exact Int.le_refl _
  ·have hp:=List.pairwise_iff_getElem.1 (msgs_pair (tblOf P M.toNat mod).q L.length) J ib (by omega) (by omega) (by omega)
   have:=cmb_lex hE (hel J (by omega)).1 (hel ib (by omega)).1 (hel J (by omega)).2 (hel ib (by omega)).2 hp
   rw [<- hat J (by omega),<- hat ib (by omega),i3] at this
   omega
 have c2 : cmpL b (nthR l J)<=0:=by
  rcases h _ hyc with h1 | ⟨_,h1⟩
  ·rw [monS_wt F hyc.1 hyc.2.2] at h1;omega
  ·exact cmpM_le h1 (mon_le hE hyc)
 have c3:=cmpM_anti (nthR l J) b
 exact cmpL_zero (by rw [hyc.1.1,hb.1.1.1]) (by omega)
end
end

section
set_option maxRecDepth 100000
set_option maxHeartbeats 16000000

open Go.RowKit
def bestR (l : List (List Int)) (k : Nat) : List Int:=if bestI l k=0 then [] else nthR l (bestI l k)
theorem bestR_succ (l : List (List Int)) {k : Nat} (h : 1<=k) : bestR l (k+1)=if bestI l k=0\/wtL (nthR l k)<wtL (bestR l k) then nthR l k else bestR l k:=by
 have e : bestI l (k+1)=if 0<k/\(bestI l k=0\/wtL (nthR l k)<wtL (nthR l (bestI l k))) then k else bestI l k:=rfl
 by_cases h0 : bestI l k=0
 ·have e1 : bestI l (k+1)=k:=by rw [e,if_pos ⟨h,.inl h0⟩]
  rw [if_pos (.inl h0)]
  unfold bestR
  rw [e1,if_neg (by omega)]
 ·have eb : bestR l k=nthR l (bestI l k):=by unfold bestR;rw [if_neg h0]
  by_cases h1 : wtL (nthR l k)<wtL (nthR l (bestI l k))
  ·have e1 : bestI l (k+1)=k:=by rw [e,if_pos ⟨h,.inr h1⟩]
   rw [eb,if_pos (.inr h1)]
   unfold bestR
   rw [e1,if_neg (by omega)]
  ·have e1 : bestI l (k+1)=bestI l k:=by
    rw [e,if_neg]
    rintro ⟨_,h2 | h2⟩
    ·exact h0 h2
    ·exact h1 h2
   rw [eb,if_neg (by rintro (h2 | h2);exact h0 h2;exact h1 h2)]
   unfold bestR
   rw [e1,if_neg h0]
theorem mLawEnum_any (P M : Int) (am : Option Addr) (mn cm : Nat) (mod : List Int) (N : Int) (a : Option Addr) (n c : Nat) (L : List (List Int)) (w : World) (hmod : Ints w am mn mod) (hi : Mat w a n L) :
  Calls Tryz.prog 9 #[.agg #[.int .i64 P,.int .i64 M,.slice am mn cm,.int .i64 N,.slice a n c]] w λe w'=>e = .returned (.bool true)/\Below w.heap.size w w':=by
 have hn : L.length=n:=hi.len
 have HSm:=Lib.hid (λV (hV : Below w.heap.size w V)=>rSmall27_any P M am mn cm mod N a n c L V (hmod.keep hV) (hi.keep hV))
 have HCn : Hid (∀V,Below w.heap.size w V->Calls Tryz.prog 21 #[.agg #[.int .i64 P,.int .i64 M,.slice am mn cm,.int .i64 N,.slice a n c],.int .i64 1000] V λe w'=>e = .returned (.int .i64 (cntL 1000 P M mod N L))/\Below V.heap.size V w'):=λV hV=>rCountL_any 1000 P M am mn cm mod N a n c L V (hmod.keep hV) (hi.keep hV)
 have Hmi:=Lib.hid (And.intro hmod hi)
 have Hn:=Lib.hid hn
 have Hcn:=Lib.hid (cntL_ne (lim:=1000) (P:=P) (M:=M) (mod:=mod) (N:=N) (L:=L))
 obtain ⟨cn,hcn⟩ : ∃cn,cntL 1000 P M mod N L=cn:=⟨_,rfl⟩
 rw [hcn] at HCn Hcn
 clear hmod hi hn hcn
 go_enter Tryz.func9,Tryz.ntmps9
 go_upto_region 1 with fail
 obtain ⟨W,hW⟩ : ∃W : World,W=w.alloc (.cells #[.int .i64 P,.int .i64 M,.slice am mn cm,.int .i64 N,.slice a n c] 27):=⟨_,rfl⟩
 rw [<- hW]
 have hbW : Below w.heap.size w W:=by rw [hW];exact below1 _ _
 have x0 : Box W w.heap.size [.int .i64 P,.int .i64 M,.slice am mn cm,.int .i64 N,.slice a n c]:=by rw [hW];exact Box.new _ _ _ rfl
 have HS : Hid (∀V,Below W.heap.size W V->V.cell? ⟨w.heap.size,0,none⟩=some (.int .i64 P)/\V.cell? ⟨w.heap.size,1,none⟩=some (.int .i64 M)/\V.cell? ⟨w.heap.size,2,none⟩=some (.slice am mn cm)/\V.cell? ⟨w.heap.size,3,none⟩=some (.int .i64 N)/\V.cell? ⟨w.heap.size,4,none⟩=some (.slice a n c)):=λV hV=>by
  have x1:=x0.keep hV
  exact ⟨x1.cell 0 rfl,x1.cell 1 rfl,x1.cell 2 rfl,x1.cell 3 rfl,x1.cell 4 rfl⟩
 have HbW:=Lib.hid hbW
 clear hW x0 hbW
 go_cut [29] (λv wx=>SomeBC (cn ≠ 0/\n ≠ 0) v/\Below W.heap.size W wx)
 case first =>
  go_wp2_with fail
  refine (awake27_any W).mono ?_
  rintro e w1 ⟨rfl,hb1⟩
  obtain ⟨c0,c1,c2,c3,c4⟩:=HS.out w1 hb1
  go_wp2_with fail
  refine (HSm.out w1 (Below.next HbW.out hb1)).mono ?_
  rintro e w2 ⟨z,rfl,_,hb2⟩
  have hB2:=Below.next hb1 hb2
  clear c0 c1 c2 c3 c4
  cases z
  ·go_wp2_with fail
   go_meet
   exact ⟨⟨true,rfl,λh=>by cases h⟩,hB2⟩
  obtain ⟨c0,c1,c2,c3,c4⟩:=HS.out w2 hB2
  go_wp2_with fail
  refine (HCn.out w2 (Below.next HbW.out hB2)).mono ?_
  rintro e w3 ⟨rfl,hb3⟩
  have hB3:=Below.next hB2 hb3
  clear c0 c1 c2 c3 c4
  by_cases h0 : cn=0
  ·have d0 : (cn == 0)=true:=by simpa using h0
   clear h0
   go_wp2_with fail
   go_meet
   exact ⟨⟨true,rfl,λh=>by cases h⟩,hB3⟩
  have d0 : (cn == 0)=false:=by simpa using h0
  have Hc0:=Lib.hid h0
  clear h0
  obtain ⟨c0,c1,c2,c3,c4⟩:=HS.out w3 hB3
  by_cases h4 : n=0
  ·have d4 : ((n : Int) == 0)=true:=by simp;omega
   clear h4
   go_wp2_with fail
   go_meet
   exact ⟨⟨true,rfl,λh=>by cases h⟩,hB3⟩
  have d4 : ((n : Int) == 0)=false:=by simp;omega
  have Hn0:=Lib.hid h4
  clear h4
  go_wp2_with fail
  go_meet
  exact ⟨⟨false,rfl,λ_=>⟨Hc0.out,Hn0.out⟩⟩,hB3⟩
 obtain ⟨⟨z,rfl,hz⟩,hB⟩:=hcut
 generalize wc=Y at *
 cases z
 rotate_left
 ·clear hz
  go_wp2_with fail
  refine (awake27_any Y).mono ?_
  rintro e w3 ⟨rfl,hb3⟩
  have hF:=Below.next HbW.out (Below.next hB hb3)
  go_wp2_with fail
  go_ret
  exact ⟨rfl,hF⟩
 obtain ⟨h0,hn0⟩:=hz rfl
 obtain ⟨hE,hlim,hcq⟩:=Hcn.out h0
 obtain ⟨m,rfl,hm1,hm64,F,hR⟩:=codeE_fld hE
 have hq : (1 : Int)<(tblOf P M.toNat mod).q:=F.one.2
 have hk1 : 1<=L.length:=by have:=Hn.out;omega
 obtain ⟨o,b,hr,hb,hmin,-,-⟩:=run_good hE hk1 (by
  have : m * (tblOf P M.toNat mod).q ^ L.length<=64 * 1000:=Nat.mul_le_mul hm64 (by omega)
  omega)
 obtain ⟨NN,hNN⟩ : ∃NN,(tblOf P M.toNat mod).q ^ n=NN:=⟨_,rfl⟩
 have hNl : (tblOf P M.toNat mod).q ^ L.length=NN:=by rw [Hn.out];exact hNN
 rw [hNl] at hlim hcq
 have hlen:=wlkS_length (tblOf P M.toNat mod).ops (tblOf P M.toNat mod).q L (List.replicate m 0)
 rw [hNl] at hlen
 have HWo:=Lib.hid (λV (hV : Below w.heap.size w V)=>words_any P M am mn cm mod m a n c L V NN hE (Hmi.out.1.keep hV) (Hmi.out.2.keep hV) hNN (by omega))
 have H1:=Lib.hid (λV (hV : Below w.heap.size w V)=>mDistance_any P M am mn cm mod m a n c L V (Hmi.out.1.keep hV) (Hmi.out.2.keep hV))
 have H2:=Lib.hid (λV (hV : Below w.heap.size w V)=>mLightest_any P M am mn cm mod m a n c L V (Hmi.out.1.keep hV) (Hmi.out.2.keep hV))
 rw [hr] at H1 H2
 dsimp only at H1 H2
 have hel:=λl hl=>enum_law (l:=l) hE hb hmin hl
 obtain ⟨l,hl⟩ : ∃l,wlkS (tblOf P M.toNat mod).ops (tblOf P M.toNat mod).q L (List.replicate m 0)=l:=⟨_,rfl⟩
 have hel2:=hel l hl
 have hrow : ∀i,i<l.length->(nthR l i).length=m:=λi hi=>by
  have hmem : nthR l i ∈ l:=by rw [nthR_getElem hi];exact List.getElem_mem hi
  obtain ⟨y,hy⟩ : ∃y,nthR l i=y:=⟨_,rfl⟩
  rw [hy,<- hl,wlk_cmb] at hmem
  obtain ⟨v,h1,h2⟩:=List.mem_map.1 hmem
  obtain ⟨h3,h4⟩:=mem_msgs.1 h1
  rw [hy,<- h2]
  exact (cmb_rs F hR (x:=v) (λk hk=>h4 _ (nth_mem (by omega))) L.length (Nat.le_refl _)).1.1
 simp only [hl] at HWo hlen
 have hbest : bestR l NN=b/\1<=bestI l NN:=by
  rw [hlen] at hel2
  unfold bestR
  rw [if_neg (by omega)]
  exact ⟨hel2.2.2,hel2.1⟩
 have Hbest:=Lib.hid hbest
 have Hrow:=Lib.hid hrow
 have Hlen:=Lib.hid hlen
 have hN2 : NN<=1000:=by omega
 obtain ⟨x1,hx1⟩ : ∃x1,wtL b=x1:=⟨_,rfl⟩
 simp only [hx1] at H1
 have Hx1:=Lib.hid hx1
 rw [hcq] at HCn
 clear hE h0 hn0 hlim hcq F hR hq hk1 hr hb hmin hNN hNl hlen hel hl hel2 hrow hbest hx1 hz Hcn HSm
 obtain ⟨c0,c1,c2,c3,c4⟩:=HS.out Y hB
 go_wp2_with fail
 refine (HWo.out Y (Below.next HbW.out hB)).mono ?_
 rintro e Y1 ⟨ao,co,rfl,hM,hb1⟩
 have hB1:=Below.next hB hb1
 have HM:=Lib.hid hM
 clear c0 c1 c2 c3 c4 hM
 obtain ⟨c0,c1,c2,c3,c4⟩:=HS.out Y1 hB1
 go_wp2_with fail
 refine (H1.out Y1 (Below.next HbW.out hB1)).mono ?_
 rintro e Y2 ⟨rfl,hb2⟩
 have hB2:=Below.next hB1 hb2
 clear c0 c1 c2 c3 c4
 obtain ⟨c0,c1,c2,c3,c4⟩:=HS.out Y2 hB2
 go_wp2_with fail
 refine (H2.out Y2 (Below.next HbW.out hB2)).mono ?_
 rintro e Y3 ⟨a8,n8,c8,rfl,hI8,hb3⟩
 have hB3:=Below.next hB2 hb3
 have HI8:=Lib.hid hI8
 clear c0 c1 c2 c3 c4 hI8
 obtain ⟨c0,c1,c2,c3,c4⟩:=HS.out Y3 hB3
 go_wp2_with fail
 refine (HCn.out Y3 (Below.next HbW.out hB3)).mono ?_
 rintro e Z ⟨rfl,hb4⟩
 have hB4:=Below.next hB3 hb4
 have hM4 : Hid (Mat Z ao NN l):=HM.out.keep (Below.next hb2 (Below.next hb3 hb4))
 have hI4 : Hid (Ints Z a8 n8 b):=HI8.out.keep hb4
 have hplM:=hM4.out.pl
 have eNN : ((NN : Int) != (NN : Int))=false:=by simp
 clear c0 c1 c2 c3 c4 HM HI8 hb1 hb2 hb3 hb4
 have heq:=λ(w : World) (a : Option Addr) (l c : Nat)=>Go.run_eql_slice_nil (P:=Tryz.prog) w 22 3 a l c Tryz.underlying22
 have Heq:=Lib.hid heq
 clear heq
 go_wp2_with fail
 go_loopw [9,65] (λbv iv wr=>∃(k : Nat) (ab : Option Addr) (nb cb : Nat),k<=NN/\iv = .int .i64 k/\bv = .slice ab nb cb/\Hid (Ints wr ab nb (bestR l k))/\Hid (ab.isNone=decide (bestI l k=0))/\wr=Z) (λ_ iv _=>NN - (intOf iv).toNat)
 case atStart=>exact ⟨0,none,0,0,Nat.zero_le _,rfl,rfl,by show Ints _ _ _ _;exact Ints.nil _ _,by show _=_;rfl,rfl⟩
 case round =>
  obtain ⟨k,ab,nb,cb,hk,rfl,rfl,hIb,hno,rfl⟩:=hrel
  generalize wr=Z at *
  by_cases hlt : k<NN
  ·obtain ⟨ar,mr,cr,hcell,hrw⟩:=hM4.out.cell k hlt
   by_cases h0 : k=0
   ·subst h0
    have hst : bestR l 1=bestR l 0:=by simp [bestR,bestI]
    have hsi : bestI l 1=bestI l 0:=by simp [bestI]
    have Hst:=Lib.hid (And.intro hst hsi)
    rw [Nat.add_zero] at hcell
    clear hst hsi hrw
    go_wp2_with fail
    go_roundw
    case rel=>exact ⟨1,ab,nb,cb,by omega,by go_num,rfl,by rw [Hst.out.1];exact hIb,by rw [Hst.out.2];exact hno,by first | trivial | rfl⟩
    case measure=>simp [intOf] <;> omega
   have d0 : decide ((0 : Int)<(k : Int))=true:=by simp;omega
   have d0' : decide ((k : Int) > (0 : Int))=true:=by simp;omega
   have dn : decide (0<k)=true:=by simp;omega
   have hst:=bestR_succ l (k:=k) (by omega)
   have hrl:=Hrow.out k (by rw [Hlen.out];exact hlt)
   have hmr : mr=m:=by rw [<- hrw.len];exact hrl
   subst hmr
   have hrn : ar.isNone=false:=by
    cases ar with
    | none=>have:=hrw.pl (by omega);cases this
    | some x=>rfl
   have hstI : ∀h : bestI l k=0\/wtL (nthR l k)<wtL (bestR l k),bestI l (k+1)=k:=λh=>by
    have e : bestI l (k+1)=if 0<k/\(bestI l k=0\/wtL (nthR l k)<wtL (nthR l (bestI l k))) then k else bestI l k:=rfl
    have hc : 0<k/\(bestI l k=0\/wtL (nthR l k)<wtL (nthR l (bestI l k))):=by
     refine ⟨by omega,?_⟩
     by_cases hz : bestI l k=0
     ·exact .inl hz
     ·have:=h.resolve_left hz
      unfold bestR at this
      rw [if_neg hz] at this
      exact .inr this
    rw [e,if_pos hc]
   have hstJ : ∀h : ¬ (bestI l k=0\/wtL (nthR l k)<wtL (bestR l k)),bestI l (k+1)=bestI l k:=λh=>by
    have e : bestI l (k+1)=if 0<k/\(bestI l k=0\/wtL (nthR l k)<wtL (nthR l (bestI l k))) then k else bestI l k:=rfl
    rw [e,if_neg ?_]
    rintro ⟨_,h1 | h1⟩
    ·exact h (.inl h1)
    ·by_cases hz : bestI l k=0
     ·exact h (.inl hz)
     ·exact h (.inr (by unfold bestR;rw [if_neg hz];exact h1))
   have heq:=Heq.out
   have hW1:=rWeight25_any ar mr cr (nthR l k) Z hrw
   have hW2:=rWeight25_any ab nb cb (bestR l k) Z hIb.out
   have Hw1:=Lib.hid hW1
   have Hw2:=Lib.hid hW2
   have Hrw:=Lib.hid hrw
   have Hst:=Lib.hid hst
   have HstI:=Lib.hid hstI
   have HstJ:=Lib.hid hstJ
   have Hrn:=Lib.hid hrn
   have Hk0:=Lib.hid h0
   clear hW1 hW2 hrw hst hstI hstJ hrl hrn h0
   by_cases hz : bestI l k=0
   ·have hin : ab.isNone=true:=by rw [hno.out];exact decide_eq_true hz
    have Hz:=Lib.hid hz
    clear hz
    go_wp2_with fail
    go_roundw
    case rel=>exact ⟨k+1,ar,mr,cr,by omega,by go_num,rfl,by show Ints _ _ _ _;rw [Hst.out,if_pos (.inl Hz.out)];exact Hrw.out,by show _=_;rw [HstI.out (.inl Hz.out),Hrn.out];exact (decide_eq_false Hk0.out).symm,by first | trivial | rfl⟩
    case measure=>simp [intOf] <;> omega
   have hin : ab.isNone=false:=by rw [hno.out];exact decide_eq_false hz
   have Hz:=Lib.hid hz
   clear hz
   by_cases hlw : wtL (nthR l k)<wtL (bestR l k)
   ·have Hlw:=Lib.hid hlw
    obtain ⟨u1,hu1⟩ : ∃u1,wtL (nthR l k)=u1:=⟨_,rfl⟩
    obtain ⟨u2,hu2⟩ : ∃u2,wtL (bestR l k)=u2:=⟨_,rfl⟩
    rw [hu1,hu2] at hlw
    rw [hu1] at Hw1
    rw [hu2] at Hw2
    have d1 : decide ((u1 : Int)<(u2 : Int))=true:=by simp;omega
    have d1' : decide (u1<u2)=true:=by simp;omega
    clear hu1 hu2 hlw
    go_wp2_with fail
    refine Hw1.out.mono ?_
    rintro e w' ⟨rfl,hw'⟩
    obtain rfl:=hw'.symm
    go_wp2_with fail
    refine Hw2.out.mono ?_
    rintro e w' ⟨rfl,hw'⟩
    obtain rfl:=hw'.symm
    go_wp2_with fail
    go_roundw
    case rel=>exact ⟨k+1,ar,mr,cr,by omega,by go_num,rfl,by show Ints _ _ _ _;rw [Hst.out,if_pos (.inr Hlw.out)];exact Hrw.out,by show _=_;rw [HstI.out (.inr Hlw.out),Hrn.out];exact (decide_eq_false Hk0.out).symm,by first | trivial | rfl⟩
    case measure=>simp [intOf] <;> omega
   ·have Hlw : Hid (¬ (bestI l k=0\/wtL (nthR l k)<wtL (bestR l k))):=by rintro (h | h);exact Hz.out h;exact hlw h
    obtain ⟨u1,hu1⟩ : ∃u1,wtL (nthR l k)=u1:=⟨_,rfl⟩
    obtain ⟨u2,hu2⟩ : ∃u2,wtL (bestR l k)=u2:=⟨_,rfl⟩
    rw [hu1,hu2] at hlw
    rw [hu1] at Hw1
    rw [hu2] at Hw2
    have d1 : decide ((u1 : Int)<(u2 : Int))=false:=by simp;omega
    have d1' : decide (u1<u2)=false:=by simp;omega
    clear hu1 hu2 hlw
    go_wp2_with fail
    refine Hw1.out.mono ?_
    rintro e w' ⟨rfl,hw'⟩
    obtain rfl:=hw'.symm
    go_wp2_with fail
    refine Hw2.out.mono ?_
    rintro e w' ⟨rfl,hw'⟩
    obtain rfl:=hw'.symm
    go_wp2_with fail
    go_roundw
    case rel=>exact ⟨k+1,ab,nb,cb,by omega,by go_num,rfl,by show Ints _ _ _ _;rw [Hst.out,if_neg Hlw.out];exact hIb.out,by show _=_;rw [HstJ.out Hlw.out];exact hno.out,by first | trivial | rfl⟩
    case measure=>simp [intOf] <;> omega
  ·obtain rfl : k=NN:=by omega
   have hW2:=rWeight25_any ab nb cb (bestR l k) Z hIb.out
   have hSame:=rSameInts_any a8 n8 c8 b ab nb cb (bestR l k) hI4.out hIb.out
   rw [Hbest.out.1] at hW2 hSame
   rw [Hx1.out] at hW2
   rw [show decide (b=b)=true from decide_eq_true rfl] at hSame
   have Hw2:=Lib.hid hW2
   have Hsame:=Lib.hid hSame
   have e1 : ((x1 : Int) == (x1 : Int))=true:=by simp
   have hF:=Below.next HbW.out hB4
   clear hW2 hSame
   go_wp2_with fail
   refine Hw2.out.mono ?_
   rintro e w' ⟨rfl,hw'⟩
   obtain rfl:=hw'.symm
   go_wp2_with fail
   refine Hsame.out.mono ?_
   rintro e w8 ⟨rfl,r8⟩
   have hF8:=Below.next hF r8.below
   go_wp2_with fail
   go_ret
   exact ⟨rfl,hF8⟩
end

end Go.Proofs.YtcfmiocdlcapoaaGreat
