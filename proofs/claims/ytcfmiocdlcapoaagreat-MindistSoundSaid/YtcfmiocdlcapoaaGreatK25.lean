/-  -/
import Derived.RangeFuncSeq
import Derived.RangeFuncBox
import Derived.RangeFuncLeaves
import Derived.OwnWalkIn
import Derived.TacticsInMore
import Derived.Shelf.RegionOpen
import Derived.Test.YtcfmiocdlcapoaaGreatK20
import Derived.Test.YtcfmiocdlcapoaaGreatK3
import Derived.Test.YtcfmiocdlcapoaaGreatK9
import Derived.Test.YtcfmiocdlcapoaaGreatK18
import Derived.Test.YtcfmiocdlcapoaaGreatK21
import Derived.OwnWalk
namespace Go.Proofs.YtcfmiocdlcapoaaGreat
set_option linter.unusedVariables false
set_option linter.unusedSimpArgs false
set_option linter.unusedSectionVars false

section
open Go.RowKit Go.Shelf
structure WX where
 a : Option Addr
 c : Nat
 l : List Int
structure WEnv (V : World) (b : Nat) (G : Tbl) (Bc Bat By Bg Bf l : Nat) (ag : Option Addr) (k cg : Nat) (L : List (List Int)) : Prop where
 gen : V.cell? ⟨Bc,4,none⟩=some (.slice ag k cg)
 mat : Mat V ag k L
 yl : V.cell? ⟨By,0,none⟩=some (.func (.yield l) #[] #[])
 gp : V.cell? ⟨Bg,0,none⟩=some (.pointer (some ⟨b,0,none⟩))
 gf : GFw V b G
 fr : V.cell? ⟨Bf,0,none⟩=some (.func (.func 151) #[] #[.pointer (some ⟨Bc,0,none⟩),.pointer (some ⟨Bat,0,none⟩),.pointer (some ⟨By,0,none⟩),.pointer (some ⟨Bg,0,none⟩),.pointer (some ⟨Bf,0,none⟩)])
 lt : Bat<V.heap.size
def AtQ (V : World) (B i : Nat) : Prop:=V.cell? ⟨B,0,none⟩=some (.int .i64 i)/\V.frozen? ⟨B,0,none⟩=false
theorem AtQ.of_block {V V' : World} {B i : Nat} (h : AtQ V B i) (hb : V'.heap[B]? = V.heap[B]?) : AtQ V' B i :=
 ⟨(World.cell?_of_block (w:=V) (a:=⟨B,0,none⟩) hb).trans h.1,(World.frozen?_of_block (w:=V) (a:=⟨B,0,none⟩) hb).trans h.2⟩
theorem AtQ.keep {V V' : World} {B i : Nat} (h : AtQ V B i) (hb : Below V.heap.size V V') : AtQ V' B i:=h.of_block (hb.block _ (World.block_lt_of_cell? _ _ h.1))
attribute [local go_sem] Oper.semAt_some
theorem Moves.wide {w w' : World} {M I : Nat->Prop} (h : Moves w w' M M) (hMI : ∀x,M x->I x) : Moves w w' I I :=
 ⟨h.os,h.tape,h.output,h.size,λb hb hI=>h.block b hb λhm=>hI (hMI _ hm),λ_ h=>.inl h⟩
theorem Moves.setAt (w : World) {I : Nat->Prop} {B : Nat} (hB : I B) (v : Value) : Moves w (w.setCell ⟨B,0,none⟩ v) I I:=by
 have hb0 : Below 0 w (w.setCell ⟨B,0,none⟩ v):=(Below.refl 0 w).setCell (Nat.zero_le _) v
 exact ⟨hb0.os,hb0.tape,hb0.output,hb0.size,λb hb hI=>Below.heap_setCell _ _ _ _ λe=>hI (e ▸ hB),λb hb=>.inl hb⟩
end

section
set_option maxHeartbeats 400000

open Go.RowKit
theorem gOrder {w : World} {b : Nat} {G : Tbl} (h : GFw w b G) :
  Calls Tryz.prog 149 #[.pointer (some ⟨b,0,none⟩)] w λe w'=>e = .returned (.int .i64 (G.q : Nat))/\w=w':=by
 have hc:=h.cq
 go_enter Tryz.func149,Tryz.ntmps149
 go_wp2
 go_ret
 exact ⟨rfl,rfl⟩
theorem nth_drop_cons (L : List (List Int)) {r : Nat} (h : r<L.length) : L.drop r=nthR L r :: L.drop (r+1):=by
 rw [nthR_getElem h];exact List.drop_eq_getElem_cons h
end

section
set_option maxRecDepth 100000
set_option maxHeartbeats 4000000

open Go.RowKit
theorem elB {G : Tbl} {x : Int} (h : G.El x) : (decide (0<=x) && decide (x<G.q))=true:=by
 unfold Tbl.El at h
 simp
 exact h
theorem wordNo_any {w : World} {b : Nat} {G : Tbl} (q : Nat) (x : Int) (hc : w.cell? ⟨q,0,none⟩=some (.pointer (some ⟨b,0,none⟩))) (h : GFw w b G) (hx : G.El x) :
  Calls Tryz.prog 210 #[.int .i64 x,.pointer (some ⟨q,0,none⟩)] w λe w'=>e = .returned (.bool false)/\w=w':=by
 have hB:=elB hx
 go_enter Tryz.func210,Tryz.ntmps210
 go_wp2_with fail
 refine (gIs x h).mono ?_
 rintro e w' ⟨rfl,rfl⟩
 rw [hB]
 go_wp2_with fail
 go_ret
 exact ⟨rfl,rfl⟩
theorem indexVw_any (q : Nat) (a : Option Addr) (n c : Nat) (l : List Int) (w : World) (hi : Ints w a n l) (hf : ∀k,k<n->Calls Tryz.prog 210 #[.int .i64 (nth l k),.pointer (some ⟨q,0,none⟩)] w λe w'=>e = .returned (.bool false)/\w=w') :
  Calls Tryz.prog 97 #[.slice a n c,.func (.func 210) #[] #[.pointer (some ⟨q,0,none⟩)]] w λe w'=>e = .returned (.int .i64 (-1))/\w=w':=by
 have hpl:=hi.pl
 have hmax:=hi.max
 have HF:=Lib.hid hf
 unfold maxLen at hmax
 clear hf
 go_enter Tryz.func97,Tryz.ntmps97
 go_wp2_with fail
 go_loop [8] (λiv=>∃k : Nat,k<=n/\iv = .int .i64 k) (λiv=>n - (intOf iv).toNat)
 case atStart=>exact ⟨0,Nat.zero_le _,rfl⟩
 case round =>
  obtain ⟨k,hk,rfl⟩:=hrel
  by_cases hlt : k<n
  ·have ck:=hi.cell k hlt
   have Hk:=Lib.hid (HF.out k hlt)
   go_wp2_with fail
   refine Hk.out.mono ?_
   rintro e w' ⟨rfl,rfl⟩
   go_wp2_with fail
   go_round
   case rel=>exact ⟨k+1,by omega,by go_num⟩
   case measure=>simp [intOf] <;> omega
  ·obtain rfl : k=n:=by omega
   go_wp2_with fail
   go_ret
   exact ⟨rfl,rfl⟩
theorem containsV_any (q : Nat) (a : Option Addr) (n c : Nat) (l : List Int) (w : World) (hi : Ints w a n l) (hf : ∀k,k<n->Calls Tryz.prog 210 #[.int .i64 (nth l k),.pointer (some ⟨q,0,none⟩)] w λe w'=>e = .returned (.bool false)/\w=w') :
  Calls Tryz.prog 136 #[.slice a n c,.func (.func 210) #[] #[.pointer (some ⟨q,0,none⟩)]] w λe w'=>e = .returned (.bool false)/\w=w':=by
 have Hc:=Lib.hid (indexVw_any q a n c l w hi hf)
 clear hf
 go_enter Tryz.func136,Tryz.ntmps136
 go_wp2_with fail
 refine Hc.out.mono ?_
 rintro e w' ⟨rfl,rfl⟩
 go_wp2_with fail
 go_ret
 exact ⟨rfl,rfl⟩
theorem viewWord_any {w : World} {b : Nat} {G : Tbl} (m : Nat) (a : Option Addr) (n c : Nat) (ap : Option Addr) (np cp : Nat) (ax : Option Addr) (cx : Nat) (x : List Int) (h : GFw w b G) (hx : Ints w ax m x) (hxe : Vc G.El m x) :
  Calls Tryz.prog 143 #[.agg #[.pointer (some ⟨b,0,none⟩),.int .i64 m,.slice a n c,.slice ap np cp],.slice ax m cx] w λe w'=>e = .returned (.int .i64 0)/\Below w.heap.size w w':=by
 go_enter Tryz.func143,Tryz.ntmps143
 go_wp2_with fail
 obtain ⟨W,hW⟩ : ∃W : World,W=w.alloc (.cells #[.pointer (some ⟨b,0,none⟩),.int .i64 m,.slice a n c,.slice ap np cp] 162):=⟨_,rfl⟩
 rw [<- hW]
 have hbW : Below w.heap.size w W:=by rw [hW];exact below1 _ _
 have x0 : Box W w.heap.size [.pointer (some ⟨b,0,none⟩),.int .i64 m,.slice a n c,.slice ap np cp]:=by rw [hW];exact Box.new _ _ _ rfl
 have c0:=x0.cell 0 rfl
 have c1:=x0.cell 1 rfl
 have hmm : ((m : Int) != m)=false:=by simp
 have Hc:=Lib.hid (containsV_any w.heap.size ax m cx x W (hx.keep hbW) λk hk =>
  wordNo_any w.heap.size (nth x k) c0 (h.keep hbW) (hxe.at hk))
 clear hW x0
 go_wp2_with fail
 refine Hc.out.mono ?_
 rintro e w' ⟨rfl,rfl⟩
 go_wp2_with fail
 go_ret
 exact ⟨rfl,hbW⟩
theorem reduce_any {w : World} {b : Nat} {G : Tbl} (m : Nat) (a : Option Addr) (n c : Nat) (R : List (List Int)) (ap : Option Addr) (cp : Nat) (Pv : List Int) (ax : Option Addr) (cx : Nat) (x : List Int)
  (h : GFw w b G) (hi : Mat w a n R) (hp : Ints w ap n Pv) (hx : Ints w ax m x) (hOk : BS.Ok G.El m ⟨R,Pv⟩) (hxe : Vc G.El m x) (hn : n<=1000000) (hm : m<=1000000) :
  Calls Tryz.prog 211 #[.agg #[.pointer (some ⟨b,0,none⟩),.int .i64 m,.slice a n c,.slice ap n cp],.slice ax m cx] w
   λe w'=>∃a1 c1 v2,e = .returned (.tuple #[.slice a1 m c1,v2])/\Ints w' a1 m (redTo G.ops R Pv x n)/\Below w.heap.size w w':=by
 have hcl:=Tbl.cl h
 have hrl : R.length=n:=hi.len
 have hred:=redTo_el hcl hOk.rws (Q:=Pv) hOk.plc hxe
 have Hred:=Lib.hid hred
 have HOk:=Lib.hid hOk
 have Hrl:=Lib.hid hrl
 have Hxl:=Lib.hid hxe.1
 have hplp:=hp.pl
 have hplr:=hi.pl
 clear hred hOk hrl hcl
 go_enter Tryz.func211,Tryz.ntmps211
 go_wp2_with fail
 obtain ⟨W,hW⟩ : ∃W : World,W=w.alloc (.cells #[.pointer (some ⟨b,0,none⟩),.int .i64 m,.slice a n c,.slice ap n cp] 162):=⟨_,rfl⟩
 rw [<- hW]
 have hbW : Below w.heap.size w W:=by rw [hW];exact below1 _ _
 have x0 : Box W w.heap.size [.pointer (some ⟨b,0,none⟩),.int .i64 m,.slice a n c,.slice ap n cp]:=by rw [hW];exact Box.new _ _ _ rfl
 have HX:=Lib.hid x0
 have HbW:=Lib.hid hbW
 clear hW x0
 refine (clone1_any ax m cx x (hx.keep hbW) hm).mono ?_
 rintro e w1 ⟨a1,c1,rfl,hown1,hb1⟩
 rw [Hxl.out] at hown1 ⊢
 have ha1 : a1 ≠ none->ablk a1<w1.heap.size:=λh0=>(own_ne hown1 h0).2
 have ha1W : a1 ≠ none->W.heap.size<=ablk a1:=λh0=>(own_ne hown1 h0).1
 have x1:=HX.out.keep hb1
 have q2:=x1.cell 2 rfl
 have q3:=x1.cell 3 rfl
 have hs1:=hb1.size
 clear x1
 go_wp2_with fail
 go_loopw [5,16] (λtv iv wr=>∃(k : Nat) (at' : Option Addr) (ct : Nat) (xs : List Value),k<=n/\iv = .int .i64 k/\tv = .slice at' k ct/\wr.ownsRow W.heap.size 3 1 (.slice a1 m c1) m ((redTo G.ops R Pv x k).map (Value.int .i64)) /\
   wr.ownsRow w1.heap.size 3 1 (.slice at' k ct) k xs/\Below W.heap.size W wr/\w1.heap.size<=wr.heap.size) (λ_ iv _=>n - (intOf iv).toNat)
 case atStart=>exact ⟨0,none,0,[],Nat.zero_le _,rfl,rfl,hown1,own_none,hb1,Nat.le_refl _⟩
 case round =>
  clear q2 q3 hown1
  obtain ⟨k,at',ct,xs,hkn,rfl,rfl,hown,hopt,hbr,hsr⟩:=hrel
  have xr:=HX.out.keep hbr
  have hbwr:=Below.next HbW.out hbr
  by_cases hlt : k<n
  ·have hkr : k<R.length:=by rw [Hrl.out];exact hlt
   have hrow:=HOk.out.rws.row hkr
   have hplc : 0<=nth Pv k/\nth Pv k<m:=HOk.out.plc k hkr
   obtain ⟨ra,rn,rc,er,ir⟩:=hi.cell k hlt
   have hrn : rn=m:=by rw [<- ir.len];exact hrow.1
   rw [hrn] at er ir
   have ep:=(hp.keep hbwr).cell k hlt
   obtain ⟨pn,hpn⟩ : ∃pn : Nat,nth Pv k=pn:=⟨(nth Pv k).toNat,by omega⟩
   rw [hpn] at ep hplc
   have hpnn : pn<m:=by omega
   have hrd:=Hred.out k (by omega)
   have hrd1:=Hred.out (k+1) (by omega)
   have hstep : redTo G.ops R Pv x (k+1)=redStep G.ops (redTo G.ops R Pv x k) pn (nthR R k):=by rw [redTo,hpn]
   have Hstep:=Lib.hid hstep
   have Hrow:=Lib.hid hrow
   clear hstep hpn hrn
   obtain ⟨u,hu⟩ : ∃u,redTo G.ops R Pv x k=u:=⟨_,rfl⟩
   rw [hu] at hown hrd
   have Hu:=Lib.hid hu
   obtain ⟨iu,mu⟩:=Ints.own hown
   have eu:=iu.cell pn hpnn
   have hpu:=iu.pl
   have Hrd:=Lib.hid hrd
   clear hu hrow hrd hrd1
   have hne1 : a1 ≠ none:=λe=>by
    have:=hpu (by omega)
    rw [e] at this;cases this
   have ha1':=ha1 hne1
   have hapt : Apt at' (ablk a1):=by
    by_cases h0 : at'=none
    ·exact .inl h0
    ·have:=(own_ne hopt h0).1
     exact .inr (by omega)
   have hcn:=cell_new wr (.int .i64 (nth u pn)) 3
   have hbn:=below1 wr (.cells #[.int .i64 (nth u pn)] 3)
   have hbnx:=Below.trans hbr (hbn.mono (by omega))
   have HN5 : Hid (∀(a5 : Option Addr) (c5 : Nat) (w5 : World),(wr.alloc (.cells #[.int .i64 (nth u pn)] 3)).grownBy w5 (Value.slice at' k ct).ownBlock->Below W.heap.size W w5/\w5.ownsRow W.heap.size 3 1 (.slice a1 m c1) m (u.map (Value.int .i64))/\w1.heap.size<=w5.heap.size):=λa5 c5 w5 hgr5 =>
    ⟨Below.app hbnx (hopt.alloc _) hgr5 (by omega) (by simp;omega),own_grownApt (hown.alloc _) hgr5 hapt,by have:=hgr5.size;simp at this;omega⟩
   clear hbnx mu
   by_cases hz : nth u pn=0
   ·have hz' : (nth u pn != 0)=false:=by simpa using hz
    have Hn : Hid (redTo G.ops R Pv x (k+1)=u):=by show _=_;rw [Hstep.out,Hu.out,redStep,Int.toNat_natCast,if_pos hz]
    clear hz
    go_wp2_with (at_builtin;refine wpList_push rfl _ _ 22 3 rfl (.int .i64 0) 8 Tryz.underlying22 infoInt rfl w1.heap.size at' k ct xs rfl (hopt.alloc _) ⟨wr.heap.size,0,none⟩ 1 (.int .i64 (nth u pn)) rfl hcn rfl (by omega) (by unfold maxLen;omega) (by simp;omega) ?_;intro a5 c5 w5 hown5 hgr5 hap5)
    go_roundw
    case rel =>
     obtain ⟨h1,h2,h3⟩:=HN5.out a5 c5 w5 hgr5
     exact ⟨k+1,a5,c5,_,by omega,by go_num,rfl,by rw [Hn.out];exact h2,hown5,h1,h3⟩
    case measure=>simp [intOf] <;> omega
   ·have hz' : (nth u pn != 0)=true:=by simpa using hz
    have Hn : Hid (redTo G.ops R Pv x (k+1)=subRow G.ops u (nth u pn) (nthR R k)):=by show _=_;rw [Hstep.out,Hu.out,redStep,Int.toNat_natCast,if_neg hz]
    have hxe2 : G.El (nth u pn):=Hrd.out.2 _ (nth_mem (by rw [Hrd.out.1];exact hpnn))
    have hSl : (subRow G.ops u (nth u pn) (nthR R k)).length=u.length:=subRow_length _ _ _ _ (by rw [Hrow.out.1,Hrd.out.1])
    have hSn:=λi hi=>nth_subRow G.ops u (nth u pn) (nthR R k) i (by rw [Hrow.out.1,Hrd.out.1]) hi
    have HSl:=Lib.hid hSl
    have HSn:=Lib.hid hSn
    clear hz hSl hSn
    have hplr2:=ir.pl
    go_upto_region 8 with (at_builtin;refine wpList_push rfl _ _ 22 3 rfl (.int .i64 0) 8 Tryz.underlying22 infoInt rfl w1.heap.size at' k ct xs rfl (hopt.alloc _) ⟨wr.heap.size,0,none⟩ 1 (.int .i64 (nth u pn)) rfl hcn rfl (by omega) (by unfold maxLen;omega) (by simp;omega) ?_;intro a5 c5 w5 hown5 hgr5 hap5)
    obtain ⟨hbU,hownU,hsU⟩:=HN5.out a5 c5 w5 hgr5
    have hna5 : a5 ≠ none->¬ (a1 ≠ none/\ablk a5=ablk a1):=λh0 h1=>by
     have:=(own_ne hown5 h0).1
     omega
    clear HN5 hgr5 hap5 hcn hbn eu iu ep xr hown hopt hapt
    generalize w5=U at *
    have hbwU:=Below.next HbW.out hbU
    have xU:=HX.out.keep hbU
    have q1:=xU.cell 1 rfl
    have q2:=xU.cell 2 rfl
    have erU:=cell_keep hbwU er
    clear xU
    go_wp2_with fail
    clear q1 q2 erU
    generalize nth u pn=y at *
    generalize subRow G.ops u y (nthR R k)=S at *
    go_loopw [38] (λiv wx=>∃j : Nat,j<=m/\iv = .int .i64 j/\wx.ownsRow W.heap.size 3 1 (.slice a1 m c1) m ((mixTo S u j).map (Value.int .i64))/\Only a1 U wx) (λiv _=>m - (intOf iv).toNat)
    case atStart=>exact ⟨0,Nat.zero_le _,rfl,by rw [mixTo_zero];exact hownU,Only.refl _ _⟩
    case round =>
     clear hownU
     obtain ⟨j,hj,rfl,hown2,honly2⟩:=hrel
     have hbx0 : Below W.heap.size U wr:=honly2.below ha1W hbU.size
     have hbx:=Below.trans hbU hbx0
     have hbwx:=Below.next HbW.out hbx
     by_cases hjn : j<m
     ·have cj:=(ir.keep hbwx).cell j hjn
      have f0:=(HX.out.keep hbx).cell 0 rfl
      obtain ⟨im,mm⟩:=Ints.own hown2
      have cm:=im.cell j hjn
      have fm:=(mm (by omega)).2 j hjn
      have hju : j<u.length:=by rw [Hrd.out.1];exact hjn
      have hmix:=nth_mixTo S u j j HSl.out (by omega)
      rw [if_neg (by omega)] at hmix
      rw [hmix] at cm
      have hset:=mixTo_set S u j HSl.out hju
      rw [HSn.out j hju] at hset
      have Hset:=Lib.hid hset
      have ely : G.El (nth (nthR R k) j):=Hrow.out.2 _ (nth_mem (by rw [Hrow.out.1];exact hjn))
      have elv : G.El (nth u j):=Hrd.out.2 _ (nth_mem hju)
      have hGr : GFw wr b G:=h.keep hbwx
      have elm : ∀x y,G.El (G.mul x y):=λx y=>Tbl.mul_el h x y
      have HG : Hid (GFw wr.drew b G/\∀n,GFw (wr.drewN n) b G):=⟨hGr.keep (Below.refl _ _).drew,λn=>hGr.drewN n⟩
      clear hset hmix
      go_wp2_with fail
      go_region_law ((first
       | (go_simp;go_at_call 153;((with_reducible refine (gMul y (nth (nthR R k) j) HG.out.1 hxe2 ely).mono ?_);rintro e w4 ⟨m4,rfl,rfl⟩))
       | (go_simp;go_at_call 153;((with_reducible refine (gMul y (nth (nthR R k) j) (HG.out.2 _) hxe2 ely).mono ?_);rintro e w4 ⟨m4,rfl,rfl⟩))
       | (go_simp;go_at_call 191;((with_reducible refine (gSub (nth u j) (G.mul y (nth (nthR R k) j)) (HG.out.2 _) elv (elm _ _)).mono ?_);rintro e w4 ⟨m5,rfl,rfl⟩))))
      all_goals (
       go_wp2_with fail
       go_roundw
       case rel =>
        have hdr : Drawn wr (wr.drewN (1+m4+m5)):=⟨_,rfl⟩
        refine ⟨j+1,by omega,by go_num,?_,honly2.trans ((Only.drawn hdr).trans (Only.set _ j _ hne1))⟩
        have h1:=own_set (w:=wr.drewN (1+m4+m5)) hown2 j hjn (.int .i64 (G.sub (nth u j) (G.mul y (nth (nthR R k) j))))
        rw [<- List.map_set,show G.sub (nth u j) (G.mul y (nth (nthR R k) j))=G.ops.add (nth u j) (G.ops.neg (G.ops.mul y (nth (nthR R k) j))) from rfl,Hset.out] at h1
        exact h1
       case measure=>simp [intOf] <;> omega)
     ·obtain rfl : j=m:=by omega
      rw [mixTo_all S u j (by rw [HSl.out,Hrd.out.1]) Hrd.out.1] at hown2
      have hown6:=Moves.own honly2 hown5 hna5
      have hsx:=honly2.size
      go_wp2_with fail
      go_roundw
      case rel=>exact ⟨k+1,a5,c5,_,by omega,by go_num,rfl,by rw [Hn.out];exact hown2,hown6,hbx,by omega⟩
      case measure=>simp [intOf] <;> omega
  ·obtain rfl : k=n:=by omega
   have hF:=(Ints.own hown).1
   have HF:=Lib.hid hF
   clear hF hown hopt xr
   go_wp2_with fail
   go_ret2
   exact ⟨a1,c1,_,rfl,HF.out,hbwr⟩
end

section
open Go.RowKit
end

section

end

section
open Go.RowKit
end

section
open Go.RowKit
def eL (E : Nat->Bool) (K k : Nat) : List Bool:=(List.range K).map λs=>decide (k<=s) && E s
end

end Go.Proofs.YtcfmiocdlcapoaaGreat
