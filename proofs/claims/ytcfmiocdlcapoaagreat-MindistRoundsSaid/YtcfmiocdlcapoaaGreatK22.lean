import Derived.Test.YtcfmiocdlcapoaaGreatK19
import Derived.Test.YtcfmiocdlcapoaaGreatK17
import Derived.Test.YtcfmiocdlcapoaaGreatK10
import Derived.Test.YtcfmiocdlcapoaaGreatK9
import Derived.Test.YtcfmiocdlcapoaaGreatK18
namespace Go.Proofs.YtcfmiocdlcapoaaGreat
set_option linter.unusedVariables false
set_option linter.unusedSimpArgs false
set_option linter.unusedSectionVars false
set_option maxRecDepth 100000
set_option maxHeartbeats 16000000
open Go.RowKit
section
variable {O : aQ} {El : Int->Prop} {m : Nat} {L : Ll}
theorem Hw (F : cK O El) (hL : bH El m L) {Q : Lz} {x : Int} (h : ¬ nR O El L.length (bf L) (gA Q) x.toNat) : sK O L (Q ++ [x])=sK O L Q+1:=by
 have h1:=lU F hL (Q ++ [x])
 rw [wD] at h1
 exact h1.uniq (Rk.ind _ h (lU F hL Q))
theorem kH {Q : Lz} : rh O L Q=true ↔ Q.length=L.length/\sK O L Q=Q.length:=by
 unfold rh sK
 simp
theorem EN (F : cK O El) (hL : bH El m L) (hfull : Rk (nR O El L.length (bf L)) (List.range m) L.length) {Q : Lz} (hQ : qp m Q) (hall : ∀x,x<m->(x : Int) ∈ Q) : rh O L (i7 O L Q)=true:=by
 have h1 : (i7 O L Q).length=L.length:=by
  refine (lU F hL Q).same (iI F hL) hfull λx=>?_
  rw [mM,List.mem_range]
  constructor
  ·rintro ⟨y,hy,rfl⟩
   obtain ⟨j,hj,rfl⟩:=List.mem_iff_getElem.1 hy
   have:=hQ j hj
   rw [ai hj] at this
   omega
  ·intro hx
   exact ⟨x,hall x hx,by simp⟩
 have h2:=(xx F hL Q Q.length).1
 exact kH.2 ⟨h1,(lU F hL (i7 O L Q)).uniq h2⟩
end
theorem qG {P M : Int} {mod : Lz} {m : Nat} {L : Ll} (hE : aL P M mod m L=0) : Rk (nR (aa P M.toNat mod).ops (aa P M.toNat mod).El L.length (bf L)) (List.range m) L.length:=by
 obtain ⟨N',e,hm1,hm64,F,hR⟩:=ba hE
 obtain rfl : m=N':=by omega
 have h6:=(dY (bh hE).2.2.2).2
 rw [Int.toNat_natCast] at h6
 have hcan : dD (aa P M.toNat mod).ops m L=L:=h6
 have h:=Ca F hR
 rwa [hcan] at h
theorem CY {O : aQ} {L : Ll} {Q : Lz} (h : Q.Nodup) : (i7 O L Q).Nodup:=by
 have key : ∀k,k<=Q.length->(cI O L Q k).2.Nodup/\∀x ∈ (cI O L Q k).2,x ∈ Q.take k:=λk=>by
  induction k with
  | zero=>intro _;exact ⟨by simp [cI],λx hx=>by simp [cI] at hx⟩
  | succ k ih =>
   intro hk
   obtain ⟨h1,h2⟩:=ih (by omega)
   have e : Q.take (k+1)=Q.take k ++ [nth Q k]:=by rw [List.take_succ_eq_append_getElem (by omega),ai (by omega)]
   rw [cI]
   split
   ·have hn : ¬ nth Q k ∈ Q.take k:=by
     have h3 : (Q.take (k+1)).Nodup:=(List.take_sublist _ _).nodup h
     rw [e,List.nodup_append] at h3
     intro hm
     exact h3.2.2 _ hm _ (by simp) rfl
    refine ⟨?_,λx hx=>?_⟩
    ·rw [List.nodup_append]
     exact ⟨h1,by simp,λx hx y hy=>by rw [List.mem_singleton] at hy;subst hy;exact λe=>hn (e ▸ h2 _ hx)⟩
    ·rw [e,List.mem_append]
     rcases List.mem_append.1 hx with hx | hx
     ·exact .inl (h2 x hx)
     ·exact .inr hx
   ·exact ⟨h1,λx hx=>by rw [e,List.mem_append];exact .inl (h2 x hx)⟩
 exact (key _ (Nat.le_refl _)).1
def rJ (m : Nat) (Q : Lz) : Prop:=Q.Perm ((List.range m).map Int.ofNat)
theorem rJ.mem {m : Nat} {Q : Lz} (h : rJ m Q) {x : Int} : x ∈ Q ↔ ∃j : Nat,j<m/\x=j:=by
 rw [h.mem_iff,List.mem_map]
 constructor
 ·rintro ⟨j,hj,rfl⟩;exact ⟨j,List.mem_range.1 hj,rfl⟩
 ·rintro ⟨j,hj,rfl⟩;exact ⟨j,List.mem_range.2 hj,rfl⟩
theorem rJ.nodup {m : Nat} {Q : Lz} (h : rJ m Q) : Q.Nodup:=by
 refine h.nodup_iff.2 ?_
 rw [List.nodup_iff_pairwise_ne,List.pairwise_map]
 exact List.nodup_range.imp λh e=>h (Int.ofNat.inj e)
theorem rJ.Kv {m : Nat} {Q : Lz} (h : rJ m Q) : qp m Q:=λj hj=>by
 obtain ⟨i,hi,e⟩:=h.mem.1 (aN hj)
 omega
section
variable {P M : Int} {mod : Lz} {m : Nat} {L : Ll}
theorem Fy (hE : aL P M mod m L=0) {Q : Lz} (hQ : rJ m Q) :
  bF m (bP (i7 (aa P M.toNat mod).ops L Q))=true/\rh (aa P M.toNat mod).ops L (bP (i7 (aa P M.toNat mod).ops L Q))=true:=by
 obtain ⟨N',e,hm1,hm64,F,hR⟩:=ba hE
 obtain rfl : m=N':=by omega
 refine ⟨AQ (CY hQ.nodup) λx hx=>?_,?_⟩
 ·obtain ⟨j,hj,rfl⟩:=hQ.mem.1 (mV _ L Q _ (Nat.le_refl _) x hx)
  omega
 ·rw [Fb F hR (dw _)]
  exact EN F hR (qG hE) hQ.Kv λx hx=>hQ.mem.2 ⟨x,hx,rfl⟩
end
theorem Kw {G : de} {x : Int} (h : G.El x) : (decide (0<=x) && decide (x<G.q))=true:=by
 unfold de.El at h
 simp
 exact h
theorem BM {w : World} {b : Nat} {G : de} (q : Nat) (x : Int) (hc : w.cell? ⟨q,0,none⟩=some (.pointer (some ⟨b,0,none⟩))) (h : eD w b G) (hx : G.El x) :
  Calls Tryz.prog 210 #[.int .i64 x,.pointer (some ⟨q,0,none⟩)] w λe w'=>e = .returned (.bool false)/\w=w':=by
 have hB:=Kw hx
 go_enter Tryz.func210,Tryz.ntmps210
 go_wp2_with fail
 refine (J7 x h).mono ?_
 rintro e w' ⟨rfl,rfl⟩
 rw [hB]
 go_wp2_with fail
 go_ret
 exact ⟨rfl,rfl⟩
theorem y6 (q : Nat) (a : OA) (n c : Nat) (l : Lz) (w : World) (hi : Ints w a n l) (hf : ∀k,k<n->Calls Tryz.prog 210 #[.int .i64 (nth l k),.pointer (some ⟨q,0,none⟩)] w λe w'=>e = .returned (.bool false)/\w=w') :
  Calls Tryz.prog 97 #[.slice a n c,.func (.func 210) #[] #[.pointer (some ⟨q,0,none⟩)]] w λe w'=>e = .returned (.int .i64 (-1))/\w=w':=by
 have hpl:=hi.pl
 have hmax:=hi.max
 have HF:=Z5 hf
 unfold maxLen at hmax
 clear hf
 go_enter Tryz.func97,Tryz.ntmps97
 go_wp2_with fail
 go_loop [8] (λiv=>∃k : Nat,k<=n/\iv = .int .i64 k) (λiv=>n - (intOf iv).toNat)
 case atStart=>exact ⟨0,Nat.zero_le _,rfl⟩
 case round =>
  obtain ⟨k,hk,rfl⟩:=hrel
  by_cases hlt : k<n
  ·have ck:=hi.cell k hlt
   have Hk:=Z5 (HF.out k hlt)
   go_wp2_with fail
   refine Hk.out.mono ?_
   rintro e w' ⟨rfl,rfl⟩
   go_wp2_with fail
   go_round
   case rel=>exact ⟨k+1,by omega,by go_num⟩
   case measure=>simp [intOf] <;> omega
  ·obtain rfl : k=n:=by omega
   go_wp2_with fail
   go_ret
   exact ⟨rfl,rfl⟩
theorem uM (q : Nat) (a : OA) (n c : Nat) (l : Lz) (w : World) (hi : Ints w a n l) (hf : ∀k,k<n->Calls Tryz.prog 210 #[.int .i64 (nth l k),.pointer (some ⟨q,0,none⟩)] w λe w'=>e = .returned (.bool false)/\w=w') :
  Calls Tryz.prog 136 #[.slice a n c,.func (.func 210) #[] #[.pointer (some ⟨q,0,none⟩)]] w λe w'=>e = .returned (.bool false)/\w=w':=by
 have Hc:=Z5 (y6 q a n c l w hi hf)
 clear hf
 go_enter Tryz.func136,Tryz.ntmps136
 go_wp2_with fail
 refine Hc.out.mono ?_
 rintro e w' ⟨rfl,rfl⟩
 go_wp2_with fail
 go_ret
 exact ⟨rfl,rfl⟩
theorem yh {w : World} {b : Nat} {G : de} (m : Nat) (a : OA) (n c : Nat) (ap : OA) (np cp : Nat) (ax : OA) (cx : Nat) (x : Lz) (h : eD w b G) (hx : Ints w ax m x) (hxe : Vc G.El m x) :
  Calls Tryz.prog 143 #[.agg #[.pointer (some ⟨b,0,none⟩),.int .i64 m,.slice a n c,.slice ap np cp],.slice ax m cx] w λe w'=>e = .returned (.int .i64 0)/\Below w.heap.size w w':=by
 go_enter Tryz.func143,Tryz.ntmps143
 go_wp2_with fail
 obtain ⟨W,hW⟩ : ∃W : World,W=w.alloc (.cells #[.pointer (some ⟨b,0,none⟩),.int .i64 m,.slice a n c,.slice ap np cp] 162):=⟨_,rfl⟩
 rw [<- hW]
 have hbW : Below w.heap.size w W:=by rw [hW];exact an _ _
 have x0 : aV W w.heap.size [.pointer (some ⟨b,0,none⟩),.int .i64 m,.slice a n c,.slice ap np cp]:=by rw [hW];exact aV.new _ _ _ rfl
 have c0:=x0.cell 0 rfl
 have c1:=x0.cell 1 rfl
 have hmm : ((m : Int) != m)=false:=by simp
 have Hc:=Z5 (uM w.heap.size ax m cx x W (hx.ah hbW) λk hk =>
  BM w.heap.size (nth x k) c0 (h.ah hbW) (hxe.at hk))
 clear hW x0
 go_wp2_with fail
 refine Hc.out.mono ?_
 rintro e w' ⟨rfl,rfl⟩
 go_wp2_with fail
 go_ret
 exact ⟨rfl,hbW⟩
theorem B3 {w : World} {b : Nat} {G : de} (m : Nat) (a : OA) (n c : Nat) (R : Ll) (ap : OA) (cp : Nat) (Pv : Lz) (ax : OA) (cx : Nat) (x : Lz)
  (h : eD w b G) (hi : bZ w a n R) (hp : Ints w ap n Pv) (hx : Ints w ax m x) (hOk : BS.Ok G.El m ⟨R,Pv⟩) (hxe : Vc G.El m x) (hn : n<=1000000) (hm : m<=1000000) :
  Calls Tryz.prog 211 #[.agg #[.pointer (some ⟨b,0,none⟩),.int .i64 m,.slice a n c,.slice ap n cp],.slice ax m cx] w
   λe w'=>∃a1 c1 v2,e = .returned (.tuple #[.slice a1 m c1,v2])/\Ints w' a1 m (redTo G.ops R Pv x n)/\Below w.heap.size w w':=by
 have hcl:=de.cl h
 have hrl : R.length=n:=hi.len
 have hred:=mW hcl hOk.rws (Q:=Pv) hOk.plc hxe
 have Hred:=Z5 hred
 have HOk:=Z5 hOk
 have Hrl:=Z5 hrl
 have Hxl:=Z5 hxe.1
 have hplp:=hp.pl
 have hplr:=hi.pl
 clear hred hOk hrl hcl
 go_enter Tryz.func211,Tryz.ntmps211
 go_wp2_with fail
 obtain ⟨W,hW⟩ : ∃W : World,W=w.alloc (.cells #[.pointer (some ⟨b,0,none⟩),.int .i64 m,.slice a n c,.slice ap n cp] 162):=⟨_,rfl⟩
 rw [<- hW]
 have hbW : Below w.heap.size w W:=by rw [hW];exact an _ _
 have x0 : aV W w.heap.size [.pointer (some ⟨b,0,none⟩),.int .i64 m,.slice a n c,.slice ap n cp]:=by rw [hW];exact aV.new _ _ _ rfl
 have HX:=Z5 x0
 have HbW:=Z5 hbW
 clear hW x0
 refine (ef ax m cx x (hx.ah hbW) hm).mono ?_
 rintro e w1 ⟨a1,c1,rfl,hown1,hb1⟩
 rw [Hxl.out] at hown1 ⊢
 have ha1 : a1 ≠ none->ablk a1<w1.heap.size:=λh0=>(aR hown1 h0).2
 have ha1W : a1 ≠ none->W.heap.size<=ablk a1:=λh0=>(aR hown1 h0).1
 have x1:=HX.out.ah hb1
 have q2:=x1.cell 2 rfl
 have q3:=x1.cell 3 rfl
 have hs1:=hb1.size
 clear x1
 go_wp2_with fail
 go_loopw [5,16] (λtv iv wr=>∃(k : Nat) (at' : OA) (ct : Nat) (xs : List Value),k<=n/\iv = .int .i64 k/\tv = .slice at' k ct/\wr.ownsRow W.heap.size 3 1 (.slice a1 m c1) m ((redTo G.ops R Pv x k).map (Value.int .i64)) /\
   wr.ownsRow w1.heap.size 3 1 (.slice at' k ct) k xs/\Below W.heap.size W wr/\w1.heap.size<=wr.heap.size) (λ_ iv _=>n - (intOf iv).toNat)
 case atStart=>exact ⟨0,none,0,[],Nat.zero_le _,rfl,rfl,hown1,bY,hb1,Nat.le_refl _⟩
 case round =>
  clear q2 q3 hown1
  obtain ⟨k,at',ct,xs,hkn,rfl,rfl,hown,hopt,hbr,hsr⟩:=hrel
  have xr:=HX.out.ah hbr
  have hbwr:=Below.next HbW.out hbr
  by_cases hlt : k<n
  ·have hkr : k<R.length:=by rw [Hrl.out];exact hlt
   have hrow:=HOk.out.rws.row hkr
   have hplc : 0<=nth Pv k/\nth Pv k<m:=HOk.out.plc k hkr
   obtain ⟨ra,rn,rc,er,ir⟩:=hi.cell k hlt
   have hrn : rn=m:=by rw [<- ir.len];exact hrow.1
   rw [hrn] at er ir
   have ep:=(hp.ah hbwr).cell k hlt
   obtain ⟨pn,hpn⟩ : ∃pn : Nat,nth Pv k=pn:=⟨(nth Pv k).toNat,by omega⟩
   rw [hpn] at ep hplc
   have hpnn : pn<m:=by omega
   have hrd:=Hred.out k (by omega)
   have hrd1:=Hred.out (k+1) (by omega)
   have hstep : redTo G.ops R Pv x (k+1)=dU G.ops (redTo G.ops R Pv x k) pn (aj R k):=by rw [redTo,hpn]
   have Hstep:=Z5 hstep
   have Hrow:=Z5 hrow
   clear hstep hpn hrn
   obtain ⟨u,hu⟩ : ∃u,redTo G.ops R Pv x k=u:=⟨_,rfl⟩
   rw [hu] at hown hrd
   have Hu:=Z5 hu
   obtain ⟨iu,mu⟩:=Ints.own hown
   have eu:=iu.cell pn hpnn
   have hpu:=iu.pl
   have Hrd:=Z5 hrd
   clear hu hrow hrd hrd1
   have hne1 : a1 ≠ none:=λe=>by
    have:=hpu (by omega)
    rw [e] at this;cases this
   have ha1':=ha1 hne1
   have hapt : db at' (ablk a1):=by
    by_cases h0 : at'=none
    ·exact .inl h0
    ·have:=(aR hopt h0).1
     exact .inr (by omega)
   have hcn:=br wr (.int .i64 (nth u pn)) 3
   have hbn:=an wr (.cells #[.int .i64 (nth u pn)] 3)
   have hbnx:=Below.trans hbr (hbn.mono (by omega))
   have HN5 : Hid (∀(a5 : OA) (c5 : Nat) (w5 : World),(wr.alloc (.cells #[.int .i64 (nth u pn)] 3)).grownBy w5 (Value.slice at' k ct).ownBlock->Below W.heap.size W w5/\w5.ownsRow W.heap.size 3 1 (.slice a1 m c1) m (u.map (Value.int .i64))/\w1.heap.size<=w5.heap.size):=λa5 c5 w5 hgr5 =>
    ⟨Below.app hbnx (hopt.alloc _) hgr5 (by omega) (by simp;omega),eK (hown.alloc _) hgr5 hapt,by have:=hgr5.size;simp at this;omega⟩
   clear hbnx mu
   by_cases hz : nth u pn=0
   ·have hz' : (nth u pn != 0)=false:=by simpa using hz
    have Hn : Hid (redTo G.ops R Pv x (k+1)=u):=by show _=_;rw [Hstep.out,Hu.out,dU,Int.toNat_natCast,if_pos hz]
    clear hz
    go_wp2_with (at_builtin;refine bk rfl _ _ 22 3 rfl (.int .i64 0) 8 Tryz.underlying22 aX rfl w1.heap.size at' k ct xs rfl (hopt.alloc _) ⟨wr.heap.size,0,none⟩ 1 (.int .i64 (nth u pn)) rfl hcn rfl (by omega) (by unfold maxLen;omega) (by simp;omega) ?_;intro a5 c5 w5 hown5 hgr5 hap5)
    go_roundw
    case rel =>
     obtain ⟨h1,h2,h3⟩:=HN5.out a5 c5 w5 hgr5
     exact ⟨k+1,a5,c5,_,by omega,by go_num,rfl,by rw [Hn.out];exact h2,hown5,h1,h3⟩
    case measure=>simp [intOf] <;> omega
   ·have hz' : (nth u pn != 0)=true:=by simpa using hz
    have Hn : Hid (redTo G.ops R Pv x (k+1)=dP G.ops u (nth u pn) (aj R k)):=by show _=_;rw [Hstep.out,Hu.out,dU,Int.toNat_natCast,if_neg hz]
    have hxe2 : G.El (nth u pn):=Hrd.out.2 _ (aN (by rw [Hrd.out.1];exact hpnn))
    have hSl : (dP G.ops u (nth u pn) (aj R k)).length=u.length:=fc _ _ _ _ (by rw [Hrow.out.1,Hrd.out.1])
    have hSn:=λi hi=>e8 G.ops u (nth u pn) (aj R k) i (by rw [Hrow.out.1,Hrd.out.1]) hi
    have HSl:=Z5 hSl
    have HSn:=Z5 hSn
    clear hz hSl hSn
    have hplr2:=ir.pl
    go_upto_region 8 with (at_builtin;refine bk rfl _ _ 22 3 rfl (.int .i64 0) 8 Tryz.underlying22 aX rfl w1.heap.size at' k ct xs rfl (hopt.alloc _) ⟨wr.heap.size,0,none⟩ 1 (.int .i64 (nth u pn)) rfl hcn rfl (by omega) (by unfold maxLen;omega) (by simp;omega) ?_;intro a5 c5 w5 hown5 hgr5 hap5)
    obtain ⟨hbU,hownU,hsU⟩:=HN5.out a5 c5 w5 hgr5
    have hna5 : a5 ≠ none->¬ (a1 ≠ none/\ablk a5=ablk a1):=λh0 h1=>by
     have:=(aR hown5 h0).1
     omega
    clear HN5 hgr5 hap5 hcn hbn eu iu ep xr hown hopt hapt
    generalize w5=U at *
    have hbwU:=Below.next HbW.out hbU
    have xU:=HX.out.ah hbU
    have q1:=xU.cell 1 rfl
    have q2:=xU.cell 2 rfl
    have erU:=aw hbwU er
    clear xU
    go_wp2_with fail
    clear q1 q2 erU
    generalize nth u pn=y at *
    generalize dP G.ops u y (aj R k)=S at *
    go_loopw [38] (λiv wx=>∃j : Nat,j<=m/\iv = .int .i64 j/\wx.ownsRow W.heap.size 3 1 (.slice a1 m c1) m ((fD S u j).map (Value.int .i64))/\bX a1 U wx) (λiv _=>m - (intOf iv).toNat)
    case atStart=>exact ⟨0,Nat.zero_le _,rfl,by rw [en];exact hownU,bX.refl _ _⟩
    case round =>
     clear hownU
     obtain ⟨j,hj,rfl,hown2,honly2⟩:=hrel
     have hbx0 : Below W.heap.size U wr:=honly2.below ha1W hbU.size
     have hbx:=Below.trans hbU hbx0
     have hbwx:=Below.next HbW.out hbx
     by_cases hjn : j<m
     ·have cj:=(ir.ah hbwx).cell j hjn
      have f0:=(HX.out.ah hbx).cell 0 rfl
      obtain ⟨im,mm⟩:=Ints.own hown2
      have cm:=im.cell j hjn
      have fm:=(mm (by omega)).2 j hjn
      have hju : j<u.length:=by rw [Hrd.out.1];exact hjn
      have hmix:=ed S u j j HSl.out (by omega)
      rw [if_neg (by omega)] at hmix
      rw [hmix] at cm
      have hset:=dZ S u j HSl.out hju
      rw [HSn.out j hju] at hset
      have Hset:=Z5 hset
      have ely : G.El (nth (aj R k) j):=Hrow.out.2 _ (aN (by rw [Hrow.out.1];exact hjn))
      have elv : G.El (nth u j):=Hrd.out.2 _ (aN hju)
      have hGr : eD wr b G:=h.ah hbwx
      have elm : ∀x y,G.El (G.mul x y):=λx y=>de.mI h x y
      have HG : Hid (eD wr.drew b G/\∀n,eD (wr.drewN n) b G):=⟨hGr.ah (Below.refl _ _).drew,λn=>hGr.drewN n⟩
      clear hset hmix
      go_wp2_with fail
      go_region_law ((first
       | (go_simp;go_at_call 153;((with_reducible refine (qF y (nth (aj R k) j) HG.out.1 hxe2 ely).mono ?_);rintro e w4 ⟨m4,rfl,rfl⟩))
       | (go_simp;go_at_call 153;((with_reducible refine (qF y (nth (aj R k) j) (HG.out.2 _) hxe2 ely).mono ?_);rintro e w4 ⟨m4,rfl,rfl⟩))
       | (go_simp;go_at_call 191;((with_reducible refine (Jw (nth u j) (G.mul y (nth (aj R k) j)) (HG.out.2 _) elv (elm _ _)).mono ?_);rintro e w4 ⟨m5,rfl,rfl⟩))))
      all_goals (
       go_wp2_with fail
       go_roundw
       case rel =>
        have hdr : bd wr (wr.drewN (1+m4+m5)):=⟨_,rfl⟩
        refine ⟨j+1,by omega,by go_num,?_,honly2.trans ((bX.drawn hdr).trans (bX.set _ j _ hne1))⟩
        have h1:=bC (w:=wr.drewN (1+m4+m5)) hown2 j hjn (.int .i64 (G.sub (nth u j) (G.mul y (nth (aj R k) j))))
        rw [<- List.map_set,show G.sub (nth u j) (G.mul y (nth (aj R k) j))=G.ops.add (nth u j) (G.ops.neg (G.ops.mul y (nth (aj R k) j))) from rfl,Hset.out] at h1
        exact h1
       case measure=>simp [intOf] <;> omega)
     ·obtain rfl : j=m:=by omega
      rw [fy S u j (by rw [HSl.out,Hrd.out.1]) Hrd.out.1] at hown2
      have hown6:=aB.own honly2 hown5 hna5
      have hsx:=honly2.size
      go_wp2_with fail
      go_roundw
      case rel=>exact ⟨k+1,a5,c5,_,by omega,by go_num,rfl,by rw [Hn.out];exact hown2,hown6,hbx,by omega⟩
      case measure=>simp [intOf] <;> omega
  ·obtain rfl : k=n:=by omega
   have hF:=(Ints.own hown).1
   have HF:=Z5 hF
   clear hF hown hopt xr
   go_wp2_with fail
   go_ret2
   exact ⟨a1,c1,_,rfl,HF.out,hbwr⟩
section
open Go.RowKit
end
theorem An (x : Int) (w : World) (hx : 0<=x) : Calls Tryz.prog 225 #[.int .i64 x] w λe w'=>e = .returned (.bool false)/\w=w':=by
 have d1 : decide (x<0)=false:=decide_eq_false (by omega)
 go_enter Tryz.func225,Tryz.ntmps225
 go_wp2
 go_ret
 exact ⟨by first | rfl | simp [d1],rfl⟩
theorem AK (a : OA) (n c : Nat) (l : Lz) (w : World) (hi : Ints w a n l) (hf : ∀k,k<n->Calls Tryz.prog 225 #[.int .i64 (nth l k)] w λe w'=>e = .returned (.bool false)/\w=w') :
  Calls Tryz.prog 97 #[.slice a n c,.func (.func 225) #[] #[]] w λe w'=>e = .returned (.int .i64 (-1))/\w=w':=by
 have hpl:=hi.pl
 have hmax:=hi.max
 have HF:=Z5 hf
 unfold maxLen at hmax
 clear hf
 go_enter Tryz.func97,Tryz.ntmps97
 go_wp2_with fail
 go_loop [8] (λiv=>∃k : Nat,k<=n/\iv = .int .i64 k) (λiv=>n - (intOf iv).toNat)
 case atStart=>exact ⟨0,Nat.zero_le _,rfl⟩
 case round =>
  obtain ⟨k,hk,rfl⟩:=hrel
  by_cases hlt : k<n
  ·have ck:=hi.cell k hlt
   have Hk:=Z5 (HF.out k hlt)
   go_wp2_with fail
   refine Hk.out.mono ?_
   rintro e w' ⟨rfl,rfl⟩
   go_wp2_with fail
   go_round
   case rel=>exact ⟨k+1,by omega,by go_num⟩
   case measure=>simp [intOf] <;> omega
  ·obtain rfl : k=n:=by omega
   go_wp2_with fail
   go_ret
   exact ⟨rfl,rfl⟩
theorem uL (a : OA) (n c : Nat) (l : Lz) (w : World) (hi : Ints w a n l) (hf : ∀k,k<n->Calls Tryz.prog 225 #[.int .i64 (nth l k)] w λe w'=>e = .returned (.bool false)/\w=w') :
  Calls Tryz.prog 136 #[.slice a n c,.func (.func 225) #[] #[]] w λe w'=>e = .returned (.bool false)/\w=w':=by
 have Hc:=Z5 (AK a n c l w hi hf)
 clear hf
 go_enter Tryz.func136,Tryz.ntmps136
 go_wp2_with fail
 refine Hc.out.mono ?_
 rintro e w' ⟨rfl,rfl⟩
 go_wp2_with fail
 go_ret
 exact ⟨rfl,rfl⟩
theorem zF (most : Int) (a : OA) (n c : Nat) (l : Lz) (w : World) (hm : 0<=most/\most<=65536) (hi : Ints w a n l) (hl : ∀x ∈ l,1<=x/\x<=65536) :
  Calls Tryz.prog 170 #[.int .i64 most,.slice a n c] w λe w'=>e = .returned (.tuple #[.int .i64 (rW most l),.int .i64 (qV most l)])/\w=w':=by
 have hlen:=hi.len
 have hpl:=hi.pl
 have hmax:=hi.max
 unfold maxLen at hmax
 have hx1 : ∀k,k<n->1<=nth l k/\nth l k<=65536:=λk hk=>hl _ (aN (by omega))
 have Hx1:=Z5 hx1
 have H1:=Z5 (λx hx=>(hl x hx).1)
 have Hlen:=Z5 hlen
 have hc0:=uL a n c l w hi λk hk=>An (nth l k) w (by have:=hx1 k hk;omega)
 have hc1:=cB a n c l 0 w hi
 have hno : decide ((0 : Int) ∈ l)=false:=decide_eq_false λh=>by have:=(hl _ h).1;omega
 rw [hno] at hc1
 have Hc0:=Z5 hc0
 have Hc1:=Z5 hc1
 have Hb : Hid (∀k,k<=n->most<prodTo l k->rW most l=0/\qV most l=8):=λk hk hb=>by
  have h1:=mG H1.out k (n - k) (by omega)
  rw [show k+(n - k)=l.length by omega] at h1
  unfold rW qV
  rw [if_neg (by omega),if_neg (by omega)]
  exact ⟨rfl,rfl⟩
 have Hg : Hid (prodTo l n<=most->rW most l=prodTo l n/\qV most l=0):=λh=>by
  unfold rW qV
  rw [hlen,if_pos h,if_pos h]
  exact ⟨rfl,rfl⟩
 have dm : decide (most<0)=false:=decide_eq_false (by omega)
 clear hx1 hl hc0 hc1 hno hlen
 go_enter Tryz.func170,Tryz.ntmps170
 go_wp2_with fail
 refine Hc0.out.mono ?_
 rintro e w' ⟨rfl,rfl⟩
 go_wp2_with fail
 refine Hc1.out.mono ?_
 rintro e w' ⟨rfl,hw'⟩
 obtain rfl:=hw'.symm
 go_wp2_with fail
 go_loop [6,19] (λov iv=>∃k : Nat,k<=n/\iv = .int .i64 k/\ov = .int .i64 (prodTo l k)/\1<=prodTo l k/\prodTo l k<=65536) (λ_ iv=>n - (intOf iv).toNat)
 case atStart=>exact ⟨0,Nat.zero_le _,rfl,rfl,by simp [prodTo],by simp [prodTo]⟩
 case round =>
  obtain ⟨k,hk,rfl,rfl,hp1,hp2⟩:=hrel
  by_cases hlt : k<n
  ·have ck:=hi.cell k hlt
   have hx:=Hx1.out k hlt
   have Hst : Hid (prodTo l (k+1)=prodTo l k * nth l k):=rfl
   obtain ⟨o,ho⟩ : ∃o,prodTo l k=o:=⟨_,rfl⟩
   obtain ⟨x,hxe⟩ : ∃x,nth l k=x:=⟨_,rfl⟩
   rw [ho] at hp1 hp2 Hst ⊢
   rw [hxe] at hx Hst ck
   have hdv:=div_lt_iff (most:=most) (x:=x) (o:=o) hx.1 (by omega) hm.1
   have htd : most.tdiv x=most / x:=Int.tdiv_eq_ediv_of_nonneg hm.1
   obtain ⟨Q,hQ⟩ : ∃Q,most / x=Q:=⟨_,rfl⟩
   obtain ⟨P2,hP2⟩ : ∃P2,o * x=P2:=⟨_,rfl⟩
   have hQ2 : 0<=Q/\Q<=65536:=by
    rw [<- hQ]
    have h1:=Int.ediv_le_self (a:=most) x hm.1
    have h2:=Int.ediv_nonneg hm.1 (show 0<=x by omega)
    omega
   have hx0 : x ≠ 0:=by omega
   have hxb : (x == 0)=false:=by simpa using hx0
   rw [hQ] at htd
   rw [htd,hP2] at hdv
   rw [hP2] at Hst
   have kQ : wrap64 Q=Q:=yp hQ2.1 (by omega)
   clear ho hxe
   by_cases hbig : Q<o
   ·have d1 : decide (Q<o)=true:=decide_eq_true hbig
    have HB:=Z5 (Hb.out (k+1) (by omega) (by rw [Hst.out];exact hdv.1 hbig))
    clear hdv hP2 hbig
    go_wp2_with fail
    go_ret2
    exact ⟨cO HB.out.1.symm HB.out.2.symm,rfl⟩
   ·have d1 : decide (Q<o)=false:=decide_eq_false hbig
    have hP3 : P2<=most:=Int.not_lt.1 λh=>hbig (hdv.2 h)
    have hP4 : 1<=P2:=by
     have:=Int.mul_le_mul hp1 hx.1 (by omega) (by omega)
     omega
    have kP : wrap64 P2=P2:=yp (by omega) (by omega)
    clear hdv hbig
    go_wp2_with fail
    go_round
    case rel=>exact ⟨k+1,by omega,by go_num,by rw [Hst.out],by rw [Hst.out];exact hP4,by rw [Hst.out];omega⟩
    case measure=>simp [intOf] <;> omega
  ·obtain rfl : k=n:=by omega
   by_cases hbig : most<prodTo l k
   ·have HB:=Z5 (Hb.out k (Nat.le_refl _) hbig)
    obtain ⟨o,ho⟩ : ∃o,prodTo l k=o:=⟨_,rfl⟩
    rw [ho] at hbig ⊢
    have d1 : decide (most<o)=true:=decide_eq_true hbig
    clear ho hbig
    go_wp2_with fail
    go_ret2
    exact ⟨cO HB.out.1.symm HB.out.2.symm,rfl⟩
   ·have HB:=Z5 (Hg.out (by omega))
    obtain ⟨o,ho⟩ : ∃o,prodTo l k=o:=⟨_,rfl⟩
    rw [ho] at hbig HB ⊢
    have d1 : decide (most<o)=false:=decide_eq_false hbig
    clear ho hbig
    go_wp2_with fail
    go_ret2
    exact ⟨cO HB.out.1.symm HB.out.2.symm,rfl⟩
theorem Fs (n : Nat) (w : World) (hn : n<=1000000) :
  Calls Tryz.prog 148 #[.int .i64 1,.int .i64 n,.int .i64 65536] w λe w'=>e = .returned (.tuple #[.int .i64 1,.int .i64 0])/\w=w':=by
 go_enter Tryz.func148,Tryz.ntmps148
 go_wp2_with fail
 go_loop [1,8] (λnv qv=>nv = .int .i64 (n : Int)/\qv = .int .i64 1) (λi _=>(intOf i).toNat)
 case atStart=>exact ⟨rfl,rfl⟩
 case round =>
  obtain ⟨rfl,rfl⟩:=hrel
  by_cases h0 : 0<n
  ·have d1 : decide (0<n)=true:=decide_eq_true h0
   go_wp2_with fail
   go_ret2
   first | exact ⟨rfl,rfl⟩ | rfl
  ·have d1 : decide (0<n)=false:=decide_eq_false h0
   go_wp2_with fail
   go_ret2
   first | exact ⟨rfl,rfl⟩ | rfl
theorem ES (q : Nat) (n : Nat) (w : World) (h1 : 1<=q) (h256 : q<=256) (hn : n<=1000000) :
  Calls Tryz.prog 148 #[.int .i64 q,.int .i64 n,.int .i64 65536] w λe w'=>e = .returned (.tuple #[.int .i64 (lZ q n),.int .i64 (lA q n)])/\w=w':=by
 by_cases h : q=1
 ·subst h
  have e1 : lZ ((1 : Nat) : Int) n=1:=by simp [lZ,Int.one_pow]
  have e2 : lA ((1 : Nat) : Int) n=0:=by simp [lA,Int.one_pow]
  rw [e1,e2]
  exact Fs n w hn
 ·exact Ik q n w (by omega) (by omega) hn
def lenV : Value->Nat
 | .slice _ n _=>n
 | _=>0
theorem vX : (Tryz.prog.info? 64).map (λi=>(i.zero,i.size,i.bytes))=some (some (.agg #[.slice none 0 0,.int .i64 0]),2,32):=by kernel_rfl
def phF (m : Nat) (U : Lz) : Nat->Lz
 | 0=>[]
 | 1=>frTo false U m
 | _=>fA m U
theorem E6 (m : Nat) (U : Lz) {r : Nat} (hr : r<2) : phF m U (r+1)=phF m U r ++ frTo (decide (r=1)) U m:=by
 match r,hr with
 | 0,_=>simp [phF]
 | 1,_=>simp [phF,fA]
theorem aV.Kl {w : World} {g : Nat} {x y : Value} (h : aV w g [x,y]) (v : Value) : aV (w.setCell ⟨g,1,none⟩ v) g [x,v]:=by
 have k0:=h.cell 0 rfl
 have k1:=h.cell 1 rfl
 refine ⟨by simp;exact h.1,λi u hu=>?_,λi=>by rw [World.frozen?_setCell];exact h.frozen i⟩
 match i,hu with
 | 0,hu =>
  obtain rfl : x=u:=by simpa using hu
  rw [World.cell?_setCell_other _ _ _ _ (by simp)]
  exact k0
 | 1,hu =>
  obtain rfl : v=u:=by simpa using hu
  exact World.cell?_setCell_same _ _ _ k1
 | i+2,hu=>simp at hu
theorem rj.mono {w : World} {B B' : Nat} {a : OA} {k c : Nat} {R : La} {T : List (Lz × Int)} (h : rj w B a k c R T) (hB : B'<=B) : rj w B' a k c R T:=by
 refine ⟨h.rl,h.tl,⟨h.own.1,?_⟩,λp hp=>?_⟩
 ·rcases h.own.2 with h2 | ⟨g,cap,cur,hv,hg,r⟩
  ·exact .inl h2
  ·exact .inr ⟨g,cap,cur,hv,Nat.le_trans hB hg,r⟩
 ·obtain ⟨h1,h2,h3⟩:=h.row p hp
  exact ⟨h1,λhn=>⟨Nat.le_trans hB (h2 hn).1,(h2 hn).2⟩,h3⟩
def l7 (P M : Int) (mod : Lz) (N : Int) (L : Ll) (w : World) (e : Ending) (w' : World) : Prop :=
 Below w.heap.size w w'/\((aL P M mod N L ≠ 0/\e = .returned (.tuple #[.slice none 0 0,.int .i64 (aL P M mod N L)])) \/
  (aL P M mod N L=0/\∃m : Nat,N=m/\∃k a c R T,T=fu (aa P M.toNat mod).ops L m/\e = .returned (.tuple #[.slice a k c,.int .i64 0])/\rj w' w.heap.size a k c R T))
theorem A2 (P M : Int) (am : OA) (mn cm : Nat) (mod : Lz) (N : Int) (a : OA) (n c : Nat) (L : Ll) (w : World) (hmod : Ints w am mn mod) (hi : bZ w a n L) :
  Calls Tryz.prog 31 #[.agg #[.int .i64 P,.int .i64 M,.slice am mn cm,.int .i64 N,.slice a n c]] w (l7 P M mod N L w):=by
 have Hil:=Z5 hi.len
 go_enter Tryz.func31,Tryz.ntmps31
 go_wp2_with fail
 obtain ⟨W,hW⟩ : ∃W : World,W=w.alloc (.cells #[.int .i64 P,.int .i64 M,.slice am mn cm,.int .i64 N,.slice a n c] 27):=⟨_,rfl⟩
 rw [<- hW]
 have hbW : Below w.heap.size w W:=by rw [hW];exact an _ _
 have x0 : aV W w.heap.size [.int .i64 P,.int .i64 M,.slice am mn cm,.int .i64 N,.slice a n c]:=by rw [hW];exact aV.new _ _ _ rfl
 have HX:=Z5 x0
 have HbW:=Z5 hbW
 clear hW x0
 refine (rQ P M am mn cm mod N a n c L W (hmod.ah hbW) (hi.ah hbW)).mono ?_
 rintro e w1 ⟨hb1,⟨hE,rfl⟩ | ⟨hE,b,rfl,hG⟩⟩
 ·have hbw1:=Below.next hbW hb1
  have HP : Hid (l7 P M mod N L w (.returned (.tuple #[.slice none 0 0,.int .i64 (aL P M mod N L)])) w1):=⟨hbw1,.inl ⟨hE,rfl⟩⟩
  have hE2 : (aL P M mod N L != 0)=true:=by simpa using hE
  clear hE
  generalize aL P M mod N L=er at *
  go_wp2_with fail
  go_ret2
  exact HP.out
 have hbw1:=Below.next hbW hb1
 obtain ⟨m,hm,hm1,hm64,hL256,hR⟩:=eJ hE
 subst hm
 have hn : n<=256:=by rw [<- Hil.out];exact hL256
 have HP : Hid (∀k a' c' R T w',T=fu (aa P M.toNat mod).ops L m->Below w.heap.size w w'->rj w' w.heap.size a' k c' R T->l7 P M mod m L w (.returned (.tuple #[.slice a' k c',.int .i64 0])) w'):=λk a' c' R T w' h1 h2 h3 =>
  ⟨h2,.inr ⟨hE,m,rfl,k,a',c',R,T,h1,rfl,h3⟩⟩
 have Hgr : Hid (∀V aq nq cq U,Below w1.heap.size w1 V->nq=(fA m U).length->Ints V aq nq (fA m U)->Calls Tryz.prog 69 #[.pointer (some ⟨b,0,none⟩),.agg #[.int .i64 P,.int .i64 M,.slice am mn cm,.int .i64 m,.slice a n c],.slice aq nq cq] V (cC V (cX (aa P M.toNat mod).ops L m U))):=λV aq nq cq U hV hnq hq =>
  tn P M am mn cm m a n c L m aq nq cq (fA m U) (hG.ah hV) (hi.ah (Below.next hbw1 hV)) hR hq (λk hk=>Ci m U k (by omega)) (by omega) (by rw [hnq,mN];omega)
 have Hcl : Hid (∀U,(cX (aa P M.toNat mod).ops L m U).length<=m):=λU=>by
  have:=Cm (aa P M.toNat mod).ops L (fA m U)
  rw [mN] at this
  exact this
 obtain ⟨O,hO⟩ : ∃O,(aa P M.toNat mod).ops=O:=⟨_,rfl⟩
 rw [hO] at HP Hgr Hcl
 have HC : Hid (∀V,Below w1.heap.size w1 V->V.cell? ⟨w.heap.size,0,none⟩=some (.int .i64 P)/\V.cell? ⟨w.heap.size,1,none⟩=some (.int .i64 M)/\V.cell? ⟨w.heap.size,2,none⟩=some (.slice am mn cm)/\V.cell? ⟨w.heap.size,3,none⟩=some (.int .i64 m)/\V.cell? ⟨w.heap.size,4,none⟩=some (.slice a n c)):=λV hV=>by
  have x1:=HX.out.ah (Below.next hb1 hV)
  exact ⟨x1.cell 0 rfl,x1.cell 1 rfl,x1.cell 2 rfl,x1.cell 3 rfl,x1.cell 4 rfl⟩
 have Hbw1:=Z5 hbw1
 have hO0:=rj.start w1 w1.heap.size
 clear hE hG hR hO hL256 hmod hi hbw1 hb1 hbW
 go_wp2_with fail
 go_loopw [6,7] (λov uv wr=>∃(k : Nat) (T : List (Lz × Int)) (ao : OA) (co : Nat) (R : La) (U : Lz) (au : OA) (cu : Nat),k<=m/\ov = .slice ao k co/\uv = .slice au U.length cu/\rj wr w1.heap.size ao k co R T /\
   wr.ownsRow w1.heap.size 3 1 (.slice au U.length cu) U.length (U.map (Value.int .i64))/\Hid ((ao ≠ none->db au (ablk ao))/\(∀r ∈ R,r.1 ≠ none->db au (ablk r.1)))/\Below w1.heap.size w1 wr/\Hid (fu O L m=famGo O L m (m+1 - k) U T) /\
   k+(frTo false U m).length<=m/\U.length<=64 * k) (λov _ _=>m+1 - lenV ov)
 case atStart=>exact ⟨0,[],none,0,[],[],none,0,Nat.zero_le _,rfl,rfl,hO0,bY,⟨λh=>absurd rfl h,λr hr=>by simp at hr⟩,Below.refl _ _,rfl,by have:=eQ false [] m;omega,by simp⟩
 case round =>
  clear hO0
  obtain ⟨k,T,ao,co,R,U,au,cu,hk,rfl,rfl,hOS,hU,hsep,hbr,hfam,hfr,hUl⟩:=hrel
  generalize wr=V0 at *
  obtain ⟨Un,hUn⟩ : ∃Un,U.length=Un:=⟨_,rfl⟩
  have HUn:=Z5 hUn
  rw [hUn] at hU hUl ⊢
  clear hUn
  have hIU:=(Ints.own hU).1
  obtain ⟨V1,hV1⟩ : ∃V1 : World,V1=V0.alloc (.cells #[.bool false,.bool true] 4):=⟨_,rfl⟩
  have hbV1 : Below V0.heap.size V0 V1:=by rw [hV1];exact an _ _
  have hsV1 : V1.heap.size=V0.heap.size+1:=by rw [hV1];simp
  have xb : aV V1 V0.heap.size [.bool false,.bool true]:=by rw [hV1];exact aV.new _ _ _ rfl
  have Hbl : Hid (∀V,Below V1.heap.size V1 V->∀r,r<2->V.cell? ⟨V0.heap.size,r,none⟩=some (.bool (decide (r=1)))):=λV hV r hr=>by
   have h:=xb.ah hV
   match r,hr with
   | 0,_=>exact h.cell 0 rfl
   | 1,_=>exact h.cell 1 rfl
  have HsV1:=Z5 hsV1
  clear xb hsV1
  go_upto_region 8 with fail
  rw [<- hV1]
  clear hV1
  go_loopw [8,25] (λqv iv wx=>∃(r : Nat) (aq : OA) (cq : Nat),r<=2/\iv = .int .i64 r/\qv = .slice aq (phF m U r).length cq/\wx.ownsRow V1.heap.size 3 1 (.slice aq (phF m U r).length cq) (phF m U r).length ((phF m U r).map (Value.int .i64))/\Below V1.heap.size V1 wx) (λ_ iv _=>2 - (intOf iv).toNat)
  case atStart=>exact ⟨0,none,0,by omega,rfl,rfl,bY,Below.refl _ _⟩
  case round =>
   obtain ⟨r,aq,cq,hr,rfl,rfl,hop,hbx⟩:=hrel
   by_cases hlr : r<2
   ·have cb:=Hbl.out wr hbx r hlr
    obtain ⟨_,_,_,c3,_⟩:=HC.out wr (Below.next hbr (Below.next hbV1 hbx))
    have Hph:=Z5 (E6 m U hlr)
    have hphl : (phF m U r).length<=m:=by
     match r,hlr with
     | 0,_=>simp [phF]
     | 1,_=>exact eQ false U m
    obtain ⟨ja,hold⟩ : ∃ja,decide (r=1)=ja:=⟨_,rfl⟩
    rw [hold] at cb Hph
    obtain ⟨Ph,hPh⟩ : ∃Ph,phF m U r=Ph:=⟨_,rfl⟩
    rw [hPh] at hop Hph hphl
    rw [hPh]
    clear hold hPh
    have dr2 : decide ((r : Int)<2)=true:=by simp;omega
    generalize wr=X1 at *
    go_wp2_with fail
    clear cb c3
    go_loopw [8,31] (λqv iv wy=>∃(i : Nat) (aq : OA) (cq : Nat),i<=m/\iv = .int .i64 i/\qv = .slice aq (Ph ++ frTo ja U i).length cq/\wy.ownsRow V1.heap.size 3 1 (.slice aq (Ph ++ frTo ja U i).length cq) (Ph ++ frTo ja U i).length ((Ph ++ frTo ja U i).map (Value.int .i64))/\Below V1.heap.size V1 wy) (λ_ iv _=>m - (intOf iv).toNat)
    case atStart=>exact ⟨0,aq,cq,Nat.zero_le _,rfl,by simp [frTo],by simpa [frTo] using hop,hbx⟩
    case round =>
     clear hop hbx
     obtain ⟨i,aq,cq,hi,rfl,rfl,hop,hby⟩:=hrel
     by_cases hli : i<m
     ·have hIr:=hIU.ah (Below.next hbV1 hby)
      have hca:=cB au Un cu U (i : Int) wr hIr
      have hql : (Ph ++ frTo ja U i).length<=200:=by
       have:=eQ ja U i
       rw [List.length_append];omega
      have hsy:=hby.size
      by_cases hd : decide ((i : Int) ∈ U)=ja
      ·have Hst : Hid (Ph ++ frTo ja U (i+1)=(Ph ++ frTo ja U i) ++ [(i : Int)]):=by show _=_;rw [frTo,if_pos hd,List.append_assoc]
       rw [hd] at hca
       have HcA:=Z5 hca
       have hoo : (ja == ja)=true:=by simp
       clear hd hca
       generalize Ph ++ frTo ja U i=q at *
       have hcn:=br wr (.int .i64 i) 3
       have hbn:=an wr (.cells #[.int .i64 i] 3)
       go_wp2_with fail
       refine HcA.out.mono ?_
       rintro e w5 ⟨rfl,rfl⟩
       go_wp2_with (at_builtin;refine bk rfl _ _ 22 3 rfl (.int .i64 0) 8 Tryz.underlying22 aX rfl V1.heap.size aq q.length cq _ rfl (hop.alloc _) ⟨w5.heap.size,0,none⟩ 1 (.int .i64 i) rfl hcn rfl (by omega) (by unfold maxLen;omega) (by simp;omega) ?_;intro a5 c5 w6 hown5 hgr5 hap5)
       go_roundw
       case rel =>
        refine ⟨i+1,a5,c5,by omega,by go_num,by rw [Hst.out];simp,?_,Below.app (Below.trans hby (hbn.mono hsy)) (hop.alloc _) hgr5 (Nat.le_refl _) (Nat.le_trans hsy hbn.size)⟩
        rw [Hst.out];simpa using hown5
       case measure=>simp [intOf] <;> omega
      ·have Hst : Hid (Ph ++ frTo ja U (i+1)=Ph ++ frTo ja U i):=by show _=_;rw [frTo,if_neg hd]
       have HcA:=Z5 hca
       have hoo : (decide ((i : Int) ∈ U) == ja)=false:=by simpa using hd
       clear hd hca
       generalize Ph ++ frTo ja U i=q at *
       go_wp2_with fail
       refine HcA.out.mono ?_
       rintro e w5 ⟨rfl,rfl⟩
       go_wp2_with fail
       go_roundw
       case rel =>
        exact ⟨i+1,aq,cq,by omega,by go_num,by rw [Hst.out],by rw [Hst.out];exact hop,hby⟩
       case measure=>simp [intOf] <;> omega
     ·obtain rfl : i=m:=by omega
      go_wp2_with fail
      go_roundw
      case rel =>
       exact ⟨r+1,aq,cq,by omega,by go_num,by rw [Hph.out],by rw [Hph.out];exact hop,hby⟩
      case measure=>simp [intOf] <;> omega
   ·obtain rfl : r=2:=by omega
    have h2o : phF m U 2=fA m U:=rfl
    rw [h2o] at hop ⊢
    have dr3 : decide (((2 : Nat) : Int)<2)=false:=by decide
    generalize wr=V2 at *
    have hbV2 : Below V0.heap.size V0 V2:=Below.next hbV1 hbx
    have hb12 : Below w1.heap.size w1 V2:=Below.next hbr hbV2
    have Hg:=Z5 (Hgr.out V2 aq (fA m U).length cq U hb12 rfl (Ints.own hop).1)
    obtain ⟨c0,c1,c2,c3,c4⟩:=HC.out V2 hb12
    have hSl:=Hcl.out U
    have Hfam : Hid (fu O L m=famGo O L m (m - k+1) U T):=by show _=_;rw [hfam.out,show m+1 - k=m - k+1 by omega]
    have Hless : Hid (dI U (cX O L m U) (cX O L m U).length ≠ 0->(frTo false (U ++ bP (cX O L m U)) m).length<(frTo false U m).length):=λh=>tU h
    have Hfam2 : Hid (dI U (cX O L m U) (cX O L m U).length=0->fu O L m=T):=λh=>by rw [Hfam.out,famGo,if_pos h]
    have Hfam3 : Hid (dI U (cX O L m U) (cX O L m U).length ≠ 0->fu O L m=famGo O L m (m - k) (U ++ bP (cX O L m U)) (T ++ [(bP (cX O L m U),dI U (cX O L m U) (cX O L m U).length)])):=λh=>by rw [Hfam.out,famGo,if_neg h]
    obtain ⟨S,hS⟩ : ∃S,cX O L m U=S:=⟨_,rfl⟩
    rw [hS] at Hg hSl Hless Hfam2 Hfam3
    clear hS hop Hgr Hfam hfam h2o
    go_wp2_with fail
    refine Hg.out.mono ?_
    rintro e V3 ⟨a4,c4',rfl,hown4,hb3⟩
    obtain ⟨Sn,hSn⟩ : ∃Sn,S.length=Sn:=⟨_,rfl⟩
    rw [hSn] at hown4 hSl Hless Hfam2 Hfam3 ⊢
    have HSn:=Z5 hSn
    have hbV3 : Below V0.heap.size V0 V3:=Below.next hbV2 hb3
    have hIS:=(Ints.own hown4).1
    have hplS:=hIS.pl
    clear c0 c1 c2 c3 c4 Hg hSn
    obtain ⟨V4,hV4⟩ : ∃V4 : World,V4=V3.alloc (.cells #[.slice a4 Sn c4',.int .i64 0] 64):=⟨_,rfl⟩
    have x4 : aV V4 V3.heap.size [.slice a4 Sn c4',.int .i64 0]:=by rw [hV4];exact aV.new _ _ _ rfl
    have hb4 : Below V3.heap.size V3 V4:=by rw [hV4];exact an _ _
    go_upto_region 18 with fail
    rw [<- hV4]
    have y0:=x4.cell 0 rfl
    clear hV4
    go_wp2_with fail
    clear y0
    go_loopw [53] (λiv wy=>∃i : Nat,i<=Sn/\iv = .int .i64 i/\aV wy V3.heap.size [.slice a4 Sn c4',.int .i64 (dI U S i)]/\Below V3.heap.size V3 wy) (λiv _=>Sn - (intOf iv).toNat)
    case atStart=>exact ⟨0,Nat.zero_le _,rfl,x4,hb4⟩
    case round =>
     clear x4 hb4
     obtain ⟨i,hi,rfl,hx,hby⟩:=hrel
     by_cases hli : i<Sn
     ·have cS:=(hIS.ah hby).cell i hli
      have hca:=cB au Un cu U (nth S i) wr (hIU.ah (Below.next hbV3 hby))
      by_cases hin : nth S i ∈ U
      ·have Hn : Hid (dI U S (i+1)=dI U S i):=by show _=_;rw [dI,if_pos hin]
       have hd : decide (nth S i ∈ U)=true:=by simpa using hin
       rw [hd] at hca
       have HcA:=Z5 hca
       clear hca hd hin
       go_wp2_with fail
       refine HcA.out.mono ?_
       rintro e w5 ⟨rfl,rfl⟩
       go_wp2_with fail
       go_roundw
       case rel=>exact ⟨i+1,by omega,by go_num,by rw [Hn.out];exact hx,hby⟩
       case measure=>simp [intOf] <;> omega
      ·have Hn : Hid (dI U S (i+1)=dI U S i+1):=by show _=_;rw [dI,if_neg hin]
       have hd : decide (nth S i ∈ U)=false:=by simpa using hin
       rw [hd] at hca
       have HcA:=Z5 hca
       have hbd:=nf U S i
       have y1:=hx.cell 1 rfl
       have f1:=hx.frozen 1
       obtain ⟨z,hz⟩ : ∃z,dI U S i=z:=⟨_,rfl⟩
       rw [hz] at Hn hbd y1 hx
       have kz : IntKind.i64.wrap (z+1)=z+1:=IntWalk.i64_in _ (by omega)
       have Hx:=Z5 (hx.Kl (.int .i64 (z+1)))
       clear hca hd hin hz hx
       go_wp2_with fail
       refine HcA.out.mono ?_
       rintro e w5 ⟨rfl,rfl⟩
       go_wp2_with fail
       go_roundw
       case rel=>exact ⟨i+1,by omega,by go_num,by rw [Hn.out];exact Hx.out,hby.setCell (Nat.le_refl _) _⟩
       case measure=>simp [intOf] <;> omega
     ·obtain rfl : i=Sn:=by omega
      generalize wr=V5 at *
      have hbV5 : Below V0.heap.size V0 V5:=Below.next hbV3 hby
      have y0:=hx.cell 0 rfl
      have y1:=hx.cell 1 rfl
      obtain ⟨rk,hrk⟩ : ∃rk,dI U S i=rk:=⟨_,rfl⟩
      rw [hrk] at y1 hx Hless Hfam2 Hfam3
      by_cases hz : rk=0
      ·have hz' : (rk == 0)=true:=by simpa using hz
       have HF:=Z5 (HP.out k ao co R T V5 (Hfam2.out hz).symm (Below.next Hbw1.out (Below.next hbr hbV5)) ((hOS.ah hbV5).mono Hbw1.out.size))
       clear hz hrk hOS hU hown4 Hless Hfam2 Hfam3
       go_wp2_with fail
       go_ret2
       exact HF.out
      ·have hz' : (rk == 0)=false:=by simpa using hz
       have hls:=Hless.out hz
       have hfam3:=Hfam3.out hz
       have hipos : 0<i:=by
        rcases Nat.eq_zero_or_pos i with h0 | h0
        ·subst h0;exact absurd hrk.symm hz
        ·exact h0
       have hown5:=aW hown4 hby
       have hsz02:=hbV2.size
       have hsz03:=hbV3.size
       have hsz25 : V2.heap.size<=V5.heap.size:=by have:=hb3.size;have:=hby.size;omega
       have HSo:=Z5 (tI V2.heap.size a4 i c4' S V5 hown5 hsz25 (by omega))
       have hsz12:=hb12.size
       have hsz35:=hby.size
       have ha4 : a4 ≠ none->V2.heap.size<=ablk a4/\ablk a4<V3.heap.size:=λh0=>aR hown4 h0
       have hau : au ≠ none->ablk au<V0.heap.size:=λh0=>(aR hU h0).2
       have hap4g : db a4 V3.heap.size:=by
        by_cases h0 : a4=none
        ·exact .inl h0
        ·exact .inr (by have:=(ha4 h0).2;omega)
       have hapug : db au V3.heap.size:=by
        by_cases h0 : au=none
        ·exact .inl h0
        ·exact .inr (by have:=hau h0;omega)
       have hapu4 : a4 ≠ none->db au (ablk a4):=λh4=>by
        by_cases h0 : au=none
        ·exact .inl h0
        ·exact .inr (by have:=hau h0;have:=(ha4 h4).1;omega)
       have hao : ao ≠ none->ablk ao<V0.heap.size:=λh0=>(hOS.GJ h0).2
       have hapo4 : a4 ≠ none->db ao (ablk a4):=λh4=>by
        by_cases h0 : ao=none
        ·exact .inl h0
        ·exact .inr (by have:=hao h0;have:=(ha4 h4).1;omega)
       clear hrk hz hown4 hown5 Hless Hfam2 Hfam3
       go_wp2_with fail
       refine HSo.out.mono ?_
       rintro e V6 ⟨rfl,hown6,hgr6,hb6⟩
       have z0:=bK hgr6 y0 hap4g
       have z1:=bK hgr6 y1 hap4g
       have hbV6 : Below V0.heap.size V0 V6:=hbV5.trans (hb6.mono hsz02)
       have hU6:=aW hU hbV6
       have hOS6:=hOS.ah hbV6
       have hIS6:=(Ints.own hown6).1
       have hSs : (bP S).length=i:=by rw [eG];exact HSn.out
       have hsz56:=hb6.size
       have hb16:=Below.next hbr hbV6
       have hsz16:=hb16.size
       clear y0 y1 hx hOS hU hown6 HSo
       go_wp2_with ((first
        | (at_builtin;refine eZ (by rfl) (.tmp 73) (.tmp 75) 22 3 (by rfl) (.int .i64 0) 8 Tryz.underlying22 aX (by rfl) w1.heap.size au Un cu (U.map (Value.int .i64)) (by rfl) hU6 a4 i c4' ((bP S).map (Value.int .i64)) (by rfl) hplS (by simp [hSs]) (Ints.news hIS6) (ints_oneCell _ _) (by omega) (by unfold maxLen;omega) hsz16 ?_;intro a7 c7 V7 hown7 hgr7 hap7;have k0:=bK hgr7 z0 hapug;have k1:=bK hgr7 z1 hapug;have hOS8:=(hOS6.grown hgr7 hsep.out.1 hsep.out.2).ah (an V7 (.cells #[.slice a4 i c4',.int .i64 rk] 64)))
        | (at_builtin;refine oW (by rfl) (.tmp 77) (.tmp 79) 57 64 (by rfl) (.agg #[.slice none 0 0,.int .i64 0]) 32 Tryz.underlying57 vX (by rfl) w1.heap.size ao k co (stV R T) (by rfl) hOS8.own V7.heap.size 1 (.slice a4 i c4') (.int .i64 rk) (by rfl) (aH _ _ _ rfl 0) (aH _ _ _ rfl 1) (by rfl) (by rfl) (by omega) (by unfold maxLen;omega) (by have:=hgr7.size;simp;omega) ?_;intro a9 c9 V9 hown9 hgr9 hap9)))
       go_roundw
       case rel =>
        have hUl2 : (U ++ bP S).length=Un+i:=by rw [List.length_append,HUn.out,hSs]
        have hne7 : a7 ≠ none:=λe=>by
         obtain ⟨a',c',hv,hp⟩:=Pl.own hown7
         cases hv
         have:=hp (by omega)
         rw [e] at this;cases this
        have hsz67:=hgr7.size
        have hb8:=an V7 (.cells #[.slice a4 i c4',.int .i64 rk] 64)
        have hsz78:=hb8.size
        have hapo7 : db ao (ablk a7):=by
         by_cases h0 : ao=none
         ·exact .inl h0
         ·have h1:=hap7 (ablk ao) (by have:=hao h0;omega) (hsep.out.1 h0)
          rcases h1 with h1 | h1
          ·exact absurd h1 hne7
          ·exact .inr λe=>h1 e.symm
        have hown79:=eK (aW hown7 hb8) hgr9 hapo7
        have hI8 : Ints (V7.alloc (.cells #[.slice a4 i c4',.int .i64 rk] 64)) a4 (bP S).length (bP S):=by
         rw [hSs]
         exact (hIS6.pc hgr7 λh=>hapu4 λe=>by have:=hplS h;rw [e] at this;cases this).ah hb8
        have hb17 : Below w1.heap.size w1 V7:=Below.app hb16 hU6 hgr7 (Nat.le_refl _) hsz16
        have hb18:=Below.next hb17 hb8
        have hOS9:=hOS8.push hI8 (λh0=>⟨by have:=(ha4 h0).1;omega,by have:=(ha4 h0).2;omega⟩) hapo4 (by rw [hSs];exact hown9) hgr9 hap9
        have hb19 : Below w1.heap.size w1 V9:=hb18.grown hgr9 (by omega) λj hj=>by
         cases ao with
         | none=>simp [Value.ownBlock] at hj
         | some y=>simp [Value.ownBlock] at hj;rw [<- hj];exact (hOS8.GJ (by simp)).1
        refine ⟨k+1,T ++ [(bP S,rk)],a9,c9,R ++ [(a4,c4')],U ++ bP S,a7,c7,by omega,rfl,by rw [hUl2],hOS9,by rw [hUl2,List.map_append];exact hown79,⟨λh0=>?_,λr hr h0=>?_⟩,hb19,by rw [show m+1 - (k+1)=m - k by omega];exact hfam3,by omega,by rw [hUl2];omega⟩
        ·have h1:=hap9 (ablk a7) (by have:=(aR hown7 hne7).2;omega) hapo7
         rcases h1 with h1 | h1
         ·exact absurd h1 h0
         ·exact .inr λe=>h1 e.symm
        ·rcases List.mem_append.1 hr with hr | hr
         ·exact hap7 _ (hOS6.Bv hr h0).1.2 (hsep.out.2 r hr h0)
         ·rw [List.mem_singleton] at hr
          subst hr
          have h4 : ablk a4<V3.heap.size:=(ha4 h0).2
          exact hap7 (ablk a4) (by omega) (hapu4 h0)
       case measure=>simp [lenV] <;> omega
end Go.Proofs.YtcfmiocdlcapoaaGreat
