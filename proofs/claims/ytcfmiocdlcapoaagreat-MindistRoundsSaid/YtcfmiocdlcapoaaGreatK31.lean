import Derived.Test.YtcfmiocdlcapoaaGreatK30
import Derived.Test.YtcfmiocdlcapoaaGreatK21
import Derived.Test.YtcfmiocdlcapoaaGreatK29
import Derived.Test.YtcfmiocdlcapoaaGreatK26
import Derived.Test.YtcfmiocdlcapoaaGreatK25
import Derived.Test.YtcfmiocdlcapoaaGreatK28
import Derived.Test.YtcfmiocdlcapoaaGreatK4
import Derived.Test.YtcfmiocdlcapoaaGreatK12
import Derived.Test.YtcfmiocdlcapoaaGreatK17
import Derived.Test.YtcfmiocdlcapoaaGreatK19
namespace Go.Proofs.YtcfmiocdlcapoaaGreat
set_option linter.unusedVariables false
set_option linter.unusedSimpArgs false
set_option linter.unusedSectionVars false
set_option maxRecDepth 100000
set_option maxHeartbeats 8000000
open Go.RowKit
section
open Go.RowKit
end
section
open Go.RowKit
end
section
open Go.RowKit
end
section
open Go.RowKit
end
section
open Go.RowKit
end
section
variable {O : aQ} {El : Int->Prop} {m : Nat} {L : Ll} {C : lB}
end
section
variable {P M : Int} {mod : Lz} {m : Nat} {L : Ll}
end
section
variable {O : aQ} {m : Nat}
end
section
open Go.RowKit
end
def dT (O : aQ) (v : Lz) : Lz:=v.map λx=>O.mul (O.inv (nth v (fnz v))) x
def cN (O : aQ) (b w : Lz) : Lz :=
 if bw w=0\/(bw b ≠ 0/\bw b<bw w) then b else if bw b=0\/bw w<bw b\/cmpL (dT O w) b<0 then dT O w else b
def sumL (O : aQ) (f : Ll->Lz->Ll) (cs : Lz) : Ll->Lz->Ll
 | [],_=>[]
 | r :: R,v=>(cs.flatMap λa=>f R (gC O v a r)) ++ sumL O f cs R v
def sumS (O : aQ) (cs : Lz) : Nat->Ll->Lz->Ll
 | 0,_,v=>[v]
 | l+1,R,v=>sumL O (sumS O cs l) cs R v
def ik (O : aQ) (cs c0 : Lz) : Nat->Ll->Lz->Ll
 | 0,_,v=>[v]
 | l+1,R,v=>sumL O (sumS O cs l) c0 R v
theorem vs (O : aQ) (cs : Lz) : ∀(l : Nat) (R : Ll) (v : Lz),ik O cs cs l R v=sumS O cs l R v
 | 0,_,_=>rfl
 | _+1,_,_=>rfl
def dn (q : Nat) : Lz:=(List.range (q - 1)).map λ(i : Nat)=>(i : Int)+1
theorem lE (q : Nat) : (dn q).length=q - 1:=by simp [dn]
theorem wh {q a : Nat} (h : a<q - 1) : (dn q).drop a=((a : Int)+1) :: (dn q).drop (a+1):=by
 rw [List.drop_eq_getElem_cons (by rw [lE];exact h)]
 simp [dn]
theorem oK (O : aQ) (cs c0 : Lz) : ∀(l : Nat) (R : Ll) (v : Lz),R.length<=l->sumL O (sumS O cs l) c0 R v=[]
 | _,[],_,_=>rfl
 | 0,_ :: _,_,h=>by simp at h
 | l+1,r :: R,v,h=>by
  rw [sumL,oK O cs c0 (l+1) R v (by simp at h;omega),List.append_nil]
  rw [List.flatMap_eq_nil_iff]
  intro a _
  exact oK O cs cs l R _ (by simp at h;omega)
theorem oo (O : aQ) (cs c0 : Lz) (l : Nat) (g : Nat->Nat) (hg : ∀R v,(sumS O cs l R v).length=g R.length) : ∀(R : Ll) (v : Lz),(sumL O (sumS O cs l) c0 R v).length=c0.length * ((List.range R.length).map g).sum
 | [],_=>by simp [sumL]
 | r :: R,v=>by
  rw [sumL,List.length_append,oo O cs c0 l g hg R v,List.length_flatMap,List.length_cons,List.range_succ,List.map_append,List.sum_append]
  have h : c0.map (λa=>(sumS O cs l R (gC O v a r)).length)=c0.map λ_=>g R.length:=List.map_congr_left λa _=>hg R _
  rw [h,List.map_const',List.sum_replicate_nat,Nat.mul_add]
  simp
  omega
theorem ur (O : aQ) (cs : Lz) : ∀(l : Nat) (R : Ll) (v : Lz),(sumS O cs l R v).length=chN R.length l * cs.length ^ l
 | 0,R,v=>by cases R <;> simp [sumS,chN]
 | l+1,R,v=>by
  rw [sumS,oo O cs cs l (λn=>chN n l * cs.length ^ l) (λR v=>ur O cs l R v) R v]
  have e : ((List.range R.length).map λn=>chN n l * cs.length ^ l).sum=chN R.length (l+1) * cs.length ^ l:=by
   rw [<- wG]
   generalize List.range R.length=X
   induction X with
   | nil=>simp
   | cons x X ih=>simp [ih,Nat.add_mul]
  rw [e,Nat.pow_succ,Nat.mul_comm (cs.length ^ l),Nat.mul_left_comm]
theorem oH (O : aQ) (cs : Lz) (x : Int) (l : Nat) (R : Ll) (v : Lz) : (ik O cs [x] (l+1) R v).length=chN R.length (l+1) * cs.length ^ l:=by
 rw [ik,oo O cs [x] l (λn=>chN n l * cs.length ^ l) (λR v=>ur O cs l R v) R v]
 have e : ((List.range R.length).map λn=>chN n l * cs.length ^ l).sum=chN R.length (l+1) * cs.length ^ l:=by
  rw [<- wG]
  generalize List.range R.length=X
  induction X with
  | nil=>simp
  | cons x X ih=>simp [ih,Nat.add_mul]
 rw [e];simp
theorem bN.dt {B : Nat} {w w' : World} {I I' : Nat->Prop} {a : OA} {n : Nat} {L : Ll} (h : bN B w a n L) (hM : aB w w' I I') (hI : ∀b,I b->b<B) : bN B w' a n L :=
 ⟨h.len,h.pl,h.max,h.lo,λi hi=>by
  obtain ⟨b,m,c,h1,h2⟩:=h.cell i hi
  exact ⟨b,m,c,hM.cell h1 (λhc=>Nat.lt_irrefl _ (Nat.lt_of_lt_of_le (hI _ hc) (h.lo (by omega)))),h2.ints.dt hM (λhm hc=>Nat.lt_irrefl _ (Nat.lt_of_lt_of_le (hI _ hc) (h2.lo hm))),h2.lo⟩⟩
theorem sM (x : Int) (w : World) : Calls Tryz.prog 226 #[.int .i64 x] w λe w'=>e = .returned (.bool (x != 0))/\w=w':=by
 go_enter Tryz.func226,Tryz.ntmps226
 go_wp2
 go_ret
 exact ⟨rfl,rfl⟩
theorem BN (a : OA) (n c : Nat) (l : Lz) (w : World) (hi : Ints w a n l) :
  Calls Tryz.prog 97 #[.slice a n c,.func (.func 226) #[] #[]] w λe w'=>e = .returned (.int .i64 (jg l))/\w=w':=by
 have Hlen:=Z5 hi.len
 have hpl:=hi.pl
 have hmax:=hi.max
 unfold maxLen at hmax
 go_enter Tryz.func97,Tryz.ntmps97
 go_wp2_with fail
 go_loop [8] (λiv=>∃k : Nat,k<=n/\iv = .int .i64 k/\Hid (∀j,j<k->nth l j=0)) (λiv=>n - (intOf iv).toNat)
 case atStart=>exact ⟨0,Nat.zero_le _,rfl,λj hj=>by omega⟩
 case round =>
  obtain ⟨k,hk,rfl,hall⟩:=hrel
  by_cases hlt : k<n
  ·have ck:=hi.cell k hlt
   by_cases hz : nth l k=0
   ·have hz' : (nth l k != 0)=false:=by simpa using hz
    have Hz:=Z5 hz
    clear hz
    go_wp2_with fail
    refine (sM _ _).mono ?_
    rintro e w' ⟨rfl,rfl⟩
    go_wp2_with fail
    go_round
    case rel=>exact ⟨k+1,by omega,by go_num,λj hj=>by
     rcases Nat.lt_or_ge j k with h | h
     ·exact hall.out j h
     ·rw [show j=k by omega];exact Hz.out⟩
    case measure=>simp [intOf] <;> omega
   ·have hz' : (nth l k != 0)=true:=by simpa using hz
    have Hf : Hid (jg l=k):=by
     show _=_
     have:=xz l k (by rw [Hlen.out];exact hlt) hall.out hz
     rw [jg,this,if_pos (by rw [Hlen.out];exact hlt)]
    clear hz
    go_wp2_with fail
    refine (sM _ _).mono ?_
    rintro e w' ⟨rfl,rfl⟩
    go_wp2_with fail
    go_ret
    exact ⟨aF Hf.out.symm,rfl⟩
  ·obtain rfl : k=n:=by omega
   have Hf : Hid (jg l = -1):=by
    show _=_
    have:=oY l (by rw [Hlen.out];exact hall.out)
    rw [jg,this,if_neg (by omega)]
   go_wp2_with fail
   go_ret
   exact ⟨aF Hf.out.symm,rfl⟩
theorem gj (a : OA) (n c : Nat) (l : Lz) (w : World) (h : Ints w a n l) :
  Calls Tryz.prog 55 #[.slice a n c] w λe w'=>e = .returned (.int .i64 (bw l))/\w'=w:=by
 have Hl:=Z5 h.len
 have hpl:=h.pl
 have hmax:=h.max
 unfold maxLen at hmax
 have hle : ∀k,k<=n->(bw (l.take k) : Int)<=k:=λk hk=>by
  have h1 : bw (l.take k)<=(l.take k).length:=List.countP_le_length
  rw [List.length_take] at h1
  omega
 have Hle:=Z5 hle
 have HT : Hid (bw (l.take n)=bw l):=by show _=_;rw [List.take_of_length_le (by rw [Hl.out];exact Nat.le_refl _)]
 clear hle
 go_enter Tryz.func55,Tryz.ntmps55
 go_wp2_with fail
 go_loopw [3,8] (λcv iv wr=>∃k : Nat,k<=n/\iv = .int .i64 k/\cv = .int .i64 (bw (l.take k))/\wr=w) (λ_ iv _=>n - (intOf iv).toNat)
 case atStart=>exact ⟨0,Nat.zero_le _,rfl,by simp [bw],rfl⟩
 case round =>
  obtain ⟨k,hk,rfl,rfl,rfl⟩:=hrel
  by_cases hlt : k<n
  ·have ck:=h.cell k hlt
   have hkl : k<l.length:=by rw [Hl.out];exact hlt
   have hst : bw (l.take (k+1))=bw (l.take k)+(if nth l k ≠ 0 then 1 else 0):=by
    unfold bw
    rw [List.take_succ_eq_append_getElem hkl,List.countP_append,List.countP_singleton,ai hkl]
    simp
   have hb:=Hle.out k hk
   obtain ⟨t,ht⟩ : ∃t,bw (l.take k)=t:=⟨_,rfl⟩
   obtain ⟨y,hy⟩ : ∃y,nth l k=y:=⟨_,rfl⟩
   rw [ht] at hst hb ⊢
   rw [hy] at hst ck
   clear ht hy hkl
   by_cases h0 : y=0
   ·have hd : (y != 0)=false:=by simpa using h0
    have Hst : Hid (bw (l.take (k+1))=t):=by show _=_;rw [hst,if_neg (by simpa using h0)];rfl
    clear h0 hst
    go_wp2_with fail
    go_roundw
    case rel=>exact ⟨k+1,by omega,by go_num,by rw [Hst.out],by simp⟩
    case measure=>simp [intOf] <;> omega
   ·have hd : (y != 0)=true:=by simpa using h0
    have Hst : Hid (bw (l.take (k+1))=t+1):=by show _=_;rw [hst,if_pos h0]
    clear h0 hst
    go_wp2_with fail
    go_roundw
    case rel=>exact ⟨k+1,by omega,by go_num,by rw [Hst.out];go_num,by simp⟩
    case measure=>simp [intOf] <;> omega
  ·obtain rfl : k=n:=by omega
   rw [HT.out]
   go_wp2_with fail
   go_ret
   exact ⟨rfl,rfl⟩
structure pf (F : Nat->Prop) (w : World) (a : OA) (n : Nat) (l : Lz) : Prop where
 ints : Ints w a n l
 lo : 0<n->¬ F (ablk a)
structure xg (F : Nat->Prop) (w : World) (g b : Nat) (P M : Int) (am : OA) (mn cm : Nat) (N : Int) (a : OA) (n c : Nat) (ag : OA) (ng cg : Nat) (ab : OA) (cb : Nat) (B : Lz) (k : Nat) : Prop where
 box : aV w g [.pointer (some ⟨b,0,none⟩),.int .i64 P,.int .i64 M,.slice am mn cm,.int .i64 N,.slice a n c,.slice ag ng cg,.slice ab B.length cb,.int .i64 k]
 best : pf F w ab B.length B
def One (g : Nat) (x : Nat) : Prop:=x=g
theorem dj.dt {w w' : World} {g : Nat} {a : OA} {n : Nat} {l : Lz} (h : dj (g+1) w a n l) (hM : aB w w' (One g) (One g)) : dj (g+1) w' a n l :=
 ⟨h.ints.dt hM λhn e=>by have:=h.lo hn;rw [show ablk a=g from e] at this;omega,h.lo⟩
theorem pf.dt {F : Nat->Prop} {w w' : World} {g : Nat} {a : OA} {n : Nat} {l : Lz} (h : pf F w a n l) (hM : aB w w' (One g) (One g)) (hF : F g) : pf F w' a n l :=
 ⟨h.ints.dt hM λhn e=>h.lo hn (by rw [show ablk a=g from e];exact hF),h.lo⟩
theorem Gg {w0 w : World} {b g : Nat} {G : de} {P M : Int} {am : OA} {mn cm : Nat} {N : Int} {a : OA} {n c : Nat} {ag : OA} {ng cg : Nat} {ab : OA} {cb : Nat} {B : Lz} {k : Nat} (av : OA) (nv cv : Nat) (v : Lz)
  {F : Nat->Prop} (hF : F g) (hFl : ∀x,F x->x<w.heap.size) (h : eD w0 b G) (hb : Below w0.heap.size w0 w) (hg : w0.heap.size<=g) (hs : xg F w g b P M am mn cm N a n c ag ng cg ab cb B k) (hv : dj (g+1) w av nv v) (hve : G.B9 v) (hnv : nv<=1000000) (hk : k<=1000000) :
  Calls Tryz.prog 171 #[.pointer (some ⟨g,0,none⟩),.slice av nv cv] w λe w'=>e = .returned (.tuple #[])/\∃ab' cb',xg F w' g b P M am mn cm N a n c ag ng cg ab' cb' (cN G.ops B v) (k+1)/\aB w w' (One g) (One g):=by
 have Hops:=Z5 (show G.ops.mul=G.mul/\G.ops.inv=G.inv from ⟨rfl,rfl⟩)
 have c0:=hs.box.cell 0 rfl
 have c7:=hs.box.cell 7 rfl
 have c8:=hs.box.cell 8 rfl
 have f8:=hs.box.frozen 8
 have kw : IntKind.i64.wrap ((k : Int)+1)=(k : Int)+1:=IntWalk.i64_in _ (by omega)
 go_enter Tryz.func171,Tryz.ntmps171
 go_upto_region 1 with fail
 obtain ⟨V,hV⟩ : ∃V,w.setCell ⟨g,8,none⟩ (.int .i64 ((k : Int)+1))=V:=⟨_,rfl⟩
 rw [hV]
 have hbV:=hs.box.gk 8 (.int .i64 ((k : Int)+1))
 rw [hV] at hbV
 have hMV : aB w V (One g) (One g):=by rw [<- hV];exact aB.put w g 8 _
 have hvV:=hv.dt hMV
 have hBV:=hs.best.dt hMV hF
 have HF0:=Z5 (And.intro hF hFl)
 have hVV : Below w0.heap.size w0 V:=hb.trans (hMV.below (λx hx=>by rw [show x=g from hx];exact hg) hb.size)
 clear c0 c7 c8 f8 hV kw
 obtain ⟨d,hd⟩ : ∃d,bw B=d:=⟨_,rfl⟩
 have Hd:=Z5 hd
 have c0:=hbV.cell 0 rfl
 have c7:=hbV.cell 7 rfl
 have hdl : d<=B.length:=by rw [<- hd];exact List.countP_le_length
 have hBmax:=hBV.ints.max
 unfold maxLen at hBmax
 go_upto_if 23 with fail
 go_cut [4] (λdv wx=>dv = .int .i64 (d : Nat)/\wx=V)
 case first =>
  rcases Nat.eq_zero_or_pos B.length with h0 | h0
  ·have d1 : decide ((0 : Int)<(B.length : Int))=false:=decide_eq_false (by omega)
   have d1' : decide (0<B.length)=false:=decide_eq_false (by omega)
   obtain rfl : d=0:=by omega
   go_wp2_with fail
   go_meet
   exact ⟨by rw [h0],rfl⟩
  ·have d1 : decide ((0 : Int)<(B.length : Int))=true:=decide_eq_true (by omega)
   have d1' : decide (0<B.length)=true:=decide_eq_true h0
   go_wp2_with fail
   refine (gj ab B.length cb B V hBV.ints).mono ?_
   rintro e w' ⟨rfl,rfl⟩
   rw [hd]
   go_wp2_with fail
   go_meet
   exact ⟨rfl,rfl⟩
 obtain ⟨rfl,rfl⟩:=hcut
 generalize wc=V1 at *
 have hb2 : aV V1 g [.pointer (some ⟨b,0,none⟩),.int .i64 P,.int .i64 M,.slice am mn cm,.int .i64 N,.slice a n c,.slice ag ng cg,.slice ab B.length cb,.int .i64 ((k+1 : Nat) : Int)]:=by
  rw [show ((k : Int)+1)=((k+1 : Nat) : Int) by omega] at hbV
  exact hbV
 have HSea:=Z5 (And.intro hb2 hBV)
 have HMV:=Z5 hMV
 have hvl : v.length=nv:=hvV.ints.len
 obtain ⟨z,hz⟩ : ∃z,bw v=z:=⟨_,rfl⟩
 have hzv : z<=nv:=by rw [<- hz,<- hvl];exact List.countP_le_length
 clear hbV hb2 hMV hv hb hs
 go_wp2_with fail
 refine (gj av nv cv v V1 hvV.ints).mono ?_
 rintro e w' ⟨rfl,hw'⟩
 obtain rfl:=hw'.symm
 rw [hz]
 by_cases hA : z=0\/(d ≠ 0/\d<z)
 ·have HL : Hid (cN G.ops B v=B):=by
   show _=_
   unfold cN
   rw [Hd.out,hz,if_pos hA]
  rcases hA with rfl | ⟨h1,h2⟩
  ·clear hz
   go_wp2_with fail
   (try simp only [Exit.inBlock,Exit.then])
   refine bodyPost_ret (results_none rfl _ _ _) rfl ?_
   exact ⟨rfl,ab,cb,by rw [HL.out];exact ⟨HSea.out.1,HSea.out.2⟩,HMV.out⟩
  ·have e0 : ((z : Int) == 0)=false:=by simp;omega
   have e1 : decide (0<d)=true:=decide_eq_true (by omega)
   have e2 : decide (d<z)=true:=decide_eq_true h2
   clear hz hd h1 h2
   go_wp2_with fail
   (try simp only [Exit.inBlock,Exit.then])
   refine bodyPost_ret (results_none rfl _ _ _) rfl ?_
   exact ⟨rfl,ab,cb,by rw [HL.out];exact ⟨HSea.out.1,HSea.out.2⟩,HMV.out⟩
 have hz0 : z ≠ 0:=λe=>hA (.inl e)
 have Hz:=Z5 hz
 have HA:=Z5 hA
 have hvz : bw v ≠ 0:=by rw [hz];exact hz0
 obtain ⟨f,hf⟩ : ∃f,fnz v=f:=⟨_,rfl⟩
 have hfl : f<nv:=by
  rw [<- hf,<- hvl]
  refine Decidable.byContradiction λhn=>hvz ?_
  unfold bw
  rw [List.countP_eq_zero]
  intro y hy
  obtain ⟨i,hi,rfl⟩:=List.mem_iff_getElem.1 hy
  have:=iO v i (by omega)
  rw [ai hi] at this
  simp [this]
 have hfv : jg v=f:=by unfold jg;rw [hf,hvl,if_pos hfl]
 have hfn : nth v f ≠ 0:=by rw [<- hf];exact jf v (by rw [hf,hvl];exact hfl)
 have elf : G.El (nth v f):=hve.nth (by rw [hvl];exact hfl)
 have Hf:=Z5 hf
 have e0 : ((z : Int) == 0)=false:=by simp;omega
 clear hz hf hd
 go_upto_region 5 with fail
 go_cut [41] (λbv wx=>bv = .bool false/\wx=V1)
 case first =>
  by_cases h1 : d=0
  ·subst h1
   go_wp2_with fail
   go_meet
   exact ⟨rfl,rfl⟩
  ·have e1 : decide (0<d)=true:=decide_eq_true (by omega)
   have e2 : decide (d<z)=false:=by simp;exact Nat.le_of_not_lt λh=>hA (.inr ⟨h1,h⟩)
   clear h1 hA
   go_wp2_with fail
   go_meet
   exact ⟨rfl,rfl⟩
 obtain ⟨rfl,rfl⟩:=hcut
 generalize wc=V2 at *
 have c0:=HSea.out.1.cell 0 rfl
 clear c7 hdl hBmax hA e0
 go_wp2_with fail
 refine (BN av nv cv v V2 hvV.ints).mono ?_
 rintro e w' ⟨rfl,rfl⟩
 rw [hfv]
 have ev:=hvV.ints.cell f hfl
 have hplv:=hvV.ints.pl
 have HGV : Hid (eD V2.drew b G/\∀n,eD (V2.drewN n) b G):=⟨(h.ah hVV).ah (Below.refl _ _).drew,λn=>(h.ah hVV).drewN n⟩
 have Hfn:=Z5 hfn
 clear hfv hfn
 go_upto_region 7 with fail
 go_cut [7] (λdv wx=>dv = .int .i64 (G.inv (nth v f))/\bd V2 wx)
 case first =>
  go_region_held3 (λw'=>w'.cell? ⟨g,0,none⟩=some (.pointer (some ⟨b,0,none⟩))/\w'.cell? ⟨ablk av,aJ av+f,none⟩=some (.int .i64 (nth v f)))
   (exact ⟨c0,ev⟩)
   (first
   | (go_at_call 193;((with_reducible refine (BH _ HGV.out.1 elf Hfn.out).mono ?_);rintro e w4 ⟨m4,rfl,rfl⟩)))
  all_goals (
   go_step;go_step
   go_meet
   exact ⟨rfl,⟨_,rfl⟩⟩)
 obtain ⟨rfl,hdr⟩:=hcut
 generalize wc=V3 at *
 have hvV3:=hvV.ints.ah hdr.below
 have h3:=HSea.out.1.ah hdr.below
 have c0:=h3.cell 0 rfl
 have hiel : G.El (G.inv (nth v f)):=de.qT h _
 have hG3:=h.ah (hdr.xj hVV)
 obtain ⟨N2,hN⟩ : ∃N2,v.map (G.mul (G.inv (nth v f)))=N2:=⟨_,rfl⟩
 have hmon : dT G.ops v=N2:=by
  show v.map (λx=>G.mul (G.inv (nth v (fnz v))) x)=N2
  rw [Hf.out];exact hN
 have hNl : N2.length=nv:=by rw [<- hN,List.length_map];exact hvl
 have Hsc:=Z5 (xS (G.inv (nth v f)) av nv cv v hG3 hiel hvV3 hve hnv)
 rw [hN] at Hsc
 unfold cC at Hsc
 rw [hNl] at Hsc
 have hsz:=HSea.out.1.1
 clear hN hG3 hvV hvV3 ev
 go_wp2_with fail
 refine Hsc.out.mono ?_
 rintro e w4 ⟨a4,c4,rfl,hown4,hb4⟩
 have hb34 : Below V2.heap.size V2 w4:=Below.next hdr.below hb4
 have h4:=HSea.out.1.ah hb34
 have c0:=h4.cell 0 rfl
 have c7:=h4.cell 7 rfl
 have f7:=h4.frozen 7
 have hB4 : pf F w4 ab B.length B:=⟨HSea.out.2.ints.ah hb34,HSea.out.2.lo⟩
 have hN4 : pf F w4 a4 nv N2:=⟨(Ints.own hown4).1,λhn hFa=>by
  have h1:=(aR hown4 (by
   intro e
   have:=((Ints.own hown4).1).pl hn
   rw [e] at this;cases this)).1
  have h2:=hdr.below.size
  have h3:=HF0.out.2 _ hFa
  have h4:=HMV.out.size
  omega⟩
 have hM4 : aB w w4 (One g) (One g):=HMV.out.trans (aB.bq hb34 _)
 have hput:=h4.gk 7 (.slice a4 nv c4)
 have hMp : aB w (w4.setCell ⟨g,7,none⟩ (.slice a4 nv c4)) (One g) (One g):=hM4.trans (aB.put w4 g 7 _)
 have hNp:=hN4.dt (aB.put w4 g 7 (.slice a4 nv c4)) HF0.out.1
 have HF : Hid (cN G.ops B v=N2->∃ab' cb',xg F (w4.setCell ⟨g,7,none⟩ (.slice a4 nv c4)) g b P M am mn cm N a n c ag ng cg ab' cb' (cN G.ops B v) (k+1)/\aB w (w4.setCell ⟨g,7,none⟩ (.slice a4 nv c4)) (One g) (One g)):=λe=>by
  rw [e]
  exact ⟨a4,c4,⟨by rw [hNl];exact hput,by rw [hNl];exact hNp⟩,hMp⟩
 have HF2 : Hid (cN G.ops B v=B->∃ab' cb',xg F w4 g b P M am mn cm N a n c ag ng cg ab' cb' (cN G.ops B v) (k+1)/\aB w w4 (One g) (One g)):=λe=>by
  rw [e]
  exact ⟨ab,cb,⟨h4,hB4⟩,hM4⟩
 have hcmp:=Ac a4 nv c4 N2 ab B.length cb B w4 hN4.ints hB4.ints
 have Hcmp:=Z5 hcmp
 have hlk : cN G.ops B v=if d=0\/z<d\/cmpL N2 B<0 then N2 else B:=by
  unfold cN
  rw [hmon,Hd.out,Hz.out,if_neg HA.out]
 clear hown4 hb4 hb34 h4 hB4 hN4 hM4 hput hMp hNp hcmp h3 hdr hmon
 by_cases h1 : d=0
 ·have hl2 : cN G.ops B v=N2:=by rw [hlk,if_pos (.inl h1)]
  have HH:=Z5 (HF.out hl2)
  subst h1
  clear hlk hl2
  go_wp2_with fail
  go_end0
  exact ⟨rfl,HH.out⟩
 have e1 : ((d : Int) == 0)=false:=by simp;exact h1
 by_cases h2 : z<d
 ·have hl2 : cN G.ops B v=N2:=by rw [hlk,if_pos (.inr (.inl h2))]
  have HH:=Z5 (HF.out hl2)
  have e2 : decide (z<d)=true:=by simpa using h2
  clear hlk hl2 h1 h2
  go_wp2_with fail
  go_end0
  exact ⟨rfl,HH.out⟩
 have e2 : decide (z<d)=false:=by simpa using h2
 by_cases h3 : cmpL N2 B<0
 ·have hl2 : cN G.ops B v=N2:=by rw [hlk,if_pos (.inr (.inr h3))]
  have HH:=Z5 (HF.out hl2)
  have e3 : decide (cmpL N2 B<0)=true:=by simpa using h3
  clear hlk hl2 h1 h2 h3
  generalize cmpL N2 B=y at *
  go_wp2_with fail
  refine Hcmp.out.mono ?_
  rintro e w5 ⟨rfl,rfl⟩
  go_wp2_with fail
  go_end0
  exact ⟨rfl,HH.out⟩
 ·have hl2 : cN G.ops B v=B:=by rw [hlk,if_neg (by rintro (h | h | h);exact h1 h;exact h2 h;exact h3 h)]
  have HH:=Z5 (HF2.out hl2)
  have e3 : decide (cmpL N2 B<0)=false:=by simpa using h3
  clear hlk hl2 h1 h2 h3
  generalize cmpL N2 B=y at *
  go_wp2_with fail
  refine Hcmp.out.mono ?_
  rintro e w5 ⟨rfl,rfl⟩
  go_wp2_with fail
  go_end0
  exact ⟨rfl,HH.out⟩
theorem pf.ah {F : Nat->Prop} {w w' : World} {a : OA} {n : Nat} {l : Lz} (h : pf F w a n l) (hb : Below w.heap.size w w') : pf F w' a n l:=⟨h.ints.ah hb,h.lo⟩
theorem xg.ah {F : Nat->Prop} {w w' : World} {g b : Nat} {P M : Int} {am : OA} {mn cm : Nat} {N : Int} {a : OA} {n c : Nat} {ag : OA} {ng cg : Nat} {ab : OA} {cb : Nat} {B : Lz} {k : Nat} (h : xg F w g b P M am mn cm N a n c ag ng cg ab cb B k) (hb : Below w.heap.size w w') : xg F w' g b P M am mn cm N a n c ag ng cg ab cb B k :=
 ⟨h.box.ah hb,h.best.ah hb⟩
def x6 (F : Nat->Prop) (w0 : World) (g b : Nat) (G : de) (P M : Int) (am : OA) (mn cm : Nat) (N : Int) (a : OA) (n c : Nat) (ag : OA) (ng cg : Nat) (m : Nat) (ar : OA) (nr cr : Nat) (R : Ll) (l : Nat) : Prop :=
 ∀(w : World) (ab : OA) (cb : Nat) (B : Lz) (k : Nat) (av : OA) (cv : Nat) (v : Lz) (fs : Nat) (al : Bool),(∀x,F x->x<w.heap.size)->Below w0.heap.size w0 w->xg F w g b P M am mn cm N a n c ag ng cg ab cb B k->bN (g+1) w ar nr R->dj (g+1) w av m v->G.B9 v->fs<=nr ->
  k+(ik G.ops (dn G.q) (if al=true then [1] else dn G.q) l (R.drop fs) v).length<=1000000 ->
  Calls Tryz.prog 101 #[.pointer (some ⟨g,0,none⟩),.slice ar nr cr,.slice av m cv,.int .i64 fs,.int .i64 l,.bool al] w λe w'=>e = .returned (.tuple #[])/\∃ab' cb',
   xg F w' g b P M am mn cm N a n c ag ng cg ab' cb' ((ik G.ops (dn G.q) (if al=true then [1] else dn G.q) l (R.drop fs) v).foldl (cN G.ops) B) (k+(ik G.ops (dn G.q) (if al=true then [1] else dn G.q) l (R.drop fs) v).length)/\aB w w' (One g) (One g)
theorem Dx {w0 : World} {b g : Nat} {G : de} {P M : Int} {am : OA} {mn cm : Nat} {N : Int} {a : OA} {n c : Nat} {ag : OA} {ng cg : Nat} {m : Nat} {ar : OA} {nr cr : Nat} {R : Ll}
  {F : Nat->Prop} (hF : F g) (h : eD w0 b G) (hg : w0.heap.size<=g) (hm : m<=1000000) : x6 F w0 g b G P M am mn cm N a n c ag ng cg m ar nr cr R 0:=by
 intro w ab cb B k av cv v fs al hFl hb hs hR hv hve hfs hk
 have hk1 : k+1<=1000000:=by
  cases al <;> exact hk
 have hlk:=Gg av m cv v hF hFl h hb hg hs hv hve hm (by omega)
 refine Calls.mono (R:=λe w'=>e = .returned (.tuple #[])/\∃ab' cb',xg F w' g b P M am mn cm N a n c ag ng cg ab' cb' (cN G.ops B v) (k+1)/\aB w w' (One g) (One g)) ?_ (λe w' h=>h)
 clear hk
 go_enter Tryz.func101,Tryz.ntmps101
 go_wp2_with fail
 refine hlk.mono ?_
 rintro e w' ⟨rfl,h1⟩
 go_wp2_with fail
 (try simp only [Exit.inBlock,Exit.then])
 refine bodyPost_ret (results_none rfl _ _ _) rfl ?_
 exact ⟨rfl,h1⟩
theorem DR {w0 : World} {b g : Nat} {G : de} {P M : Int} {am : OA} {mn cm : Nat} {N : Int} {a : OA} {n c : Nat} {ag : OA} {ng cg : Nat} {m : Nat} {ar : OA} {nr cr : Nat} {R : Ll}
  {F : Nat->Prop} (hF : F g) (h : eD w0 b G) (hg : w0.heap.size<=g) (hm : m<=64) (hm1 : 1<=m) (hRw : bH G.El m R) (hR64 : nr<=64) (l : Nat) (hl64 : l<=64) (IH : x6 F w0 g b G P M am mn cm N a n c ag ng cg m ar nr cr R l) : x6 F w0 g b G P M am mn cm N a n c ag ng cg m ar nr cr R (l+1):=by
 intro w ab cb B k av cv v fs al hFl hb hs hR hv hve hfs hk
 have hops:=de.cl h
 have hq2 : 2<=G.q:=h.q2
 have hq256 : G.q<=256:=h.q256
 have hvl : v.length=m:=hv.ints.len
 have hRl : R.length=nr:=hR.len
 have Hops:=Z5 hops
 have Hve:=Z5 hve
 have Hvl:=Z5 hvl
 have HRl:=Z5 hRl
 have HRw:=Z5 hRw
 have HIH:=Z5 IH
 have HF0:=Z5 (And.intro hF hFl)
 have HSW:=Z5 (And.intro hs (And.intro hR (And.intro hv hb)))
 have Hh:=Z5 h
 have Hg:=Z5 hg
 obtain ⟨c0,hc0⟩ : ∃c0,(if al=true then [1] else dn G.q)=c0:=⟨_,rfl⟩
 rw [hc0] at hk ⊢
 have Hc0:=Z5 hc0
 rw [ik] at hk ⊢
 obtain ⟨FB,hFB⟩ : ∃FB,(sumL G.ops (sumS G.ops (dn G.q) l) c0 (R.drop fs) v).foldl (cN G.ops) B=FB:=⟨_,rfl⟩
 obtain ⟨FK,hFK⟩ : ∃FK,k+(sumL G.ops (sumS G.ops (dn G.q) l) c0 (R.drop fs) v).length=FK:=⟨_,rfl⟩
 rw [hFB,hFK]
 rw [hFK] at hk
 have HS : Hid (∀V,aB w V (One g) (One g)->bN (g+1) V ar nr R/\dj (g+1) V av m v/\Below w0.heap.size w0 V):=λV hV=>⟨HSW.out.2.1.dt hV λx hx=>by rw [show x=g from hx];omega,HSW.out.2.2.1.dt hV,HSW.out.2.2.2.trans (hV.below (λx hx=>by rw [show x=g from hx];exact Hg.out) HSW.out.2.2.2.size)⟩
 have HFB:=Z5 hFB
 have HFK:=Z5 hFK
 have hplR:=hR.pl
 obtain ⟨LL,hLL⟩ : ∃LL : Int,((l+1 : Nat) : Int)=LL:=⟨_,rfl⟩
 have hL1 : LL - 1=(l : Int):=by omega
 have el0 : (LL == 0)=false:=by simp;omega
 rw [hLL]
 have HLL:=Z5 hLL
 clear h hg hb hR hv hve hops hvl hRl hRw IH hc0 hFB hFK
 go_enter Tryz.func101,Tryz.ntmps101
 go_wp2_with fail
 go_loopw [12] (λiv wr=>∃(i : Nat) (ab' : OA) (cb' : Nat) (B' : Lz) (k' : Nat),i<=nr/\iv = .int .i64 i/\Hid (xg F wr g b P M am mn cm N a n c ag ng cg ab' cb' B' k')/\aB w wr (One g) (One g) /\
   Hid ((sumL G.ops (sumS G.ops (dn G.q) l) c0 (R.drop i) v).foldl (cN G.ops) B'=FB)/\Hid (k'+(sumL G.ops (sumS G.ops (dn G.q) l) c0 (R.drop i) v).length=FK)) (λiv _=>nr - (intOf iv).toNat)
 case atStart=>exact ⟨fs,ab,cb,B,k,hfs,rfl,hs,aB.refl _ _,HFB.out,HFK.out⟩
 case round =>
  clear hs HFB HFK
  obtain ⟨i,ab',cb',B',k',hi,rfl,hsea,hmv,hfb,hfk⟩:=hrel
  generalize wr=X at *
  by_cases hlt : i+l+1<=nr
  ·have d1 : decide ((i : Int)+LL<=(nr : Int))=true:=by simp;omega
   have hiR : i<R.length:=by rw [HRl.out];omega
   have Hdrop : Hid (R.drop i=aj R i :: R.drop (i+1)):=ob R hiR
   have hRiE:=HRw.out.row hiR
   obtain ⟨Ri,hRi⟩ : ∃Ri,aj R i=Ri:=⟨_,rfl⟩
   rw [hRi] at Hdrop hRiE
   have HRi:=Z5 hRi
   have HRiE:=Z5 hRiE
   obtain ⟨T,hT⟩ : ∃T,sumL G.ops (sumS G.ops (dn G.q) l) c0 (R.drop (i+1)) v=T:=⟨_,rfl⟩
   have HT:=Z5 hT
   have hfb2 : Hid (((c0.drop 0).flatMap (λx=>sumS G.ops (dn G.q) l (R.drop (i+1)) (gC G.ops v x Ri)) ++ T).foldl (cN G.ops) B'=FB):=by
    have h1:=hfb.out
    rw [Hdrop.out,sumL,HT.out] at h1
    exact h1
   have hfk2 : Hid (k'+((c0.drop 0).flatMap (λx=>sumS G.ops (dn G.q) l (R.drop (i+1)) (gC G.ops v x Ri)) ++ T).length=FK):=by
    have h1:=hfk.out
    rw [Hdrop.out,sumL,HT.out] at h1
    exact h1
   clear hfb hfk hT hRi hRiE hiR
   go_wp2_with fail
   go_loopw [13] (λiv wr=>∃(t : Nat) (ab' : OA) (cb' : Nat) (B' : Lz) (k' : Nat),t+1<=G.q/\(al=true->t=0)/\iv = .int .i64 ((t : Int)+1)/\Hid (xg F wr g b P M am mn cm N a n c ag ng cg ab' cb' B' k')/\aB w wr (One g) (One g) /\
     Hid (((c0.drop t).flatMap (λx=>sumS G.ops (dn G.q) l (R.drop (i+1)) (gC G.ops v x Ri)) ++ T).foldl (cN G.ops) B'=FB)/\Hid (k'+((c0.drop t).flatMap (λx=>sumS G.ops (dn G.q) l (R.drop (i+1)) (gC G.ops v x Ri)) ++ T).length=FK)) (λiv _=>G.q+1 - (intOf iv).toNat)
   case atStart=>exact ⟨0,ab',cb',B',k',by omega,λ_=>rfl,rfl,hsea,hmv,hfb2,hfk2⟩
   case round =>
    clear hsea hmv hfb2 hfk2
    clear ab' cb' B' k'
    obtain ⟨t,ab',cb',B',k',ht,hal,rfl,hsea,hmv,hfb,hfk⟩:=hrel
    generalize wr=X1 at *
    obtain ⟨hR1,hv1,hb1⟩:=HS.out X1 hmv
    have hG1:=Hh.out.ah hb1
    have cg0:=hsea.out.box.cell 0 rfl
    by_cases hlq : t+1<G.q
    ·have d2 : decide ((t : Int)+1<(G.q : Int))=true:=by simp;omega
     have hdt : c0.drop t=((t : Int)+1) :: c0.drop (t+1):=by
      rw [<- Hc0.out]
      by_cases e : al=true
      ·rw [if_pos e,hal e];rfl
      ·rw [if_neg e];exact wh (by omega)
     obtain ⟨rb,rm,rc,hcR,hrow⟩:=hR1.cell i (by omega)
     have hrm : rm=m:=by rw [<- hrow.ints.len,HRi.out];exact HRiE.out.1
     rw [hrm,HRi.out] at hrow
     rw [hrm] at hcR
     have Hrow:=Z5 hrow
     have Hv1:=Z5 hv1
     have HR1:=Z5 hR1
     have Hb1:=Z5 hb1
     have HG1:=Z5 hG1
     obtain ⟨A,hA⟩ : ∃A : Int,(t : Int)+1=A:=⟨_,rfl⟩
     have hA1 : 1<=A:=by omega
     have hAq : A<G.q:=by omega
     have hAE : G.El A:=⟨by omega,hAq⟩
     have HA:=Z5 hA
     rw [hA] at hdt d2 ⊢
     have Hdt:=Z5 hdt
     clear hA hrm hdt hrow hv1 hR1 hb1
     go_wp2_with fail
     refine (AS HG1.out).mono ?_
     rintro e w' ⟨rfl,rfl⟩
     go_wp2_with fail
     refine (ef av m cv v Hv1.out.ints (by omega)).mono ?_
     rintro e w4 ⟨a4,c4,rfl,ho4,hb4⟩
     have r4:=aw hb4 hcR
     have hin : (i : Int)<(nr : Int):=by omega
     have hin2 : i<nr:=by omega
     rw [Hvl.out] at ho4 ⊢
     go_wp2_with fail
     have hRil:=HRiE.out.1
     have hNl:=mR G.ops v A Ri (by rw [hRil,Hvl.out])
     have hNe:=ID Hops.out Hve.out HRiE.out.2 hAE (by rw [hRil,Hvl.out])
     have hNth : ∀j,j<m->nth (gC G.ops v A Ri) j=if nth Ri j=0 then nth v j else G.add (nth v j) (G.mul A (nth Ri j)):=λj hj =>
      zT G.ops v A Ri j (by rw [hRil,Hvl.out]) (by rw [Hvl.out];exact hj) (by omega)
     rw [Hvl.out] at hNl
     obtain ⟨Nw,hNw⟩ : ∃Nw,gC G.ops v A Ri=Nw:=⟨_,rfl⟩
     rw [hNw] at hNl hNe hNth
     have HNl:=Z5 hNl
     have HNe:=Z5 hNe
     have HNth:=Z5 hNth
     have HNw:=Z5 hNw
     have hX1l : g<X1.heap.size:=hsea.out.box.1
     clear hNl hNe hNth hNw hRil hcR r4 hG1 cg0 d2
     go_loopw [47] (λiv wr=>∃kk : Nat,kk<=m/\iv = .int .i64 kk/\wr.ownsRow X1.heap.size 3 1 (.slice a4 m c4) m ((fD Nw v kk).map (Value.int .i64))/\Below X1.heap.size X1 wr) (λiv _=>m - (intOf iv).toNat)
     case atStart=>exact ⟨0,Nat.zero_le _,rfl,by rw [en];exact ho4,hb4⟩
     case round =>
      clear ho4 hb4
      obtain ⟨kk,hkk,rfl,hown,hbr⟩:=hrel
      generalize wr=Y at *
      have hseaY:=hsea.out.ah hbr
      by_cases hlk : kk<m
      ·have hir:=Hrow.out.ints.ah hbr
       have hpr:=hir.pl
       have cir:=hir.cell kk hlk
       have hkN : Nw.length=v.length:=by rw [HNl.out,Hvl.out]
       have hval:=HNth.out kk hlk
       have hmix:=ed Nw v kk kk hkN (by rw [Hvl.out];omega)
       rw [if_neg (by omega)] at hmix
       by_cases hz : nth Ri kk=0
       ·rw [if_pos hz] at hval
        have hsame:=tg Nw v kk hkN (by rw [Hvl.out];exact hlk) hval
        have Hsame:=Z5 hsame
        have hz2 : (nth Ri kk != 0)=false:=by simpa using hz
        clear hval hmix hsame hkN hz
        go_wp2_with fail
        go_roundw
        case rel=>exact ⟨kk+1,by omega,by go_num,by rw [Hsame.out];exact hown,hbr⟩
        case measure=>simp [intOf] <;> omega
       ·rw [if_neg hz] at hval
        have hset:=dZ Nw v kk hkN (by rw [Hvl.out];exact hlk)
        rw [hval] at hset
        have Hset:=Z5 hset
        obtain ⟨hiv,hmv2⟩:=Ints.own hown
        have hpv:=hiv.pl
        have cv1:=hiv.cell kk hlk
        have fv1:=(hmv2 (by omega)).2 kk hlk
        rw [hmix] at cv1
        have elv : G.El (nth v kk):=Hve.out _ (aN (by rw [Hvl.out];exact hlk))
        have elr : G.El (nth Ri kk):=HRiE.out.2 _ (aN (by rw [HRiE.out.1];exact hlk))
        have cgr:=hseaY.box.cell 0 rfl
        have hGr:=HG1.out.ah hbr
        have elm : ∀x y,G.El (G.mul x y):=λx y=>de.mI hGr x y
        have HG : Hid (eD Y.drew b G/\∀n,eD (Y.drewN n) b G):=⟨hGr.ah (Below.refl _ _).drew,λn=>hGr.drewN n⟩
        have hz2 : (nth Ri kk != 0)=true:=by simpa using hz
        have Hiv:=Z5 hiv
        clear hval hmix hset hkN hz hGr hir hiv hmv2 hseaY
        go_wp2_with fail
        go_region_law ((first
         | (go_simp;go_at_call 153;((with_reducible refine (qF A (nth Ri kk) HG.out.1 hAE elr).mono ?_);rintro e w4 ⟨m4,rfl,rfl⟩))
         | (go_simp;go_at_call 153;((with_reducible refine (qF A (nth Ri kk) (HG.out.2 _) hAE elr).mono ?_);rintro e w4 ⟨m4,rfl,rfl⟩))
         | (go_simp;go_at_call 152;((with_reducible refine (JD (nth v kk) (G.mul A (nth Ri kk)) (HG.out.2 _) elv (elm _ _)).mono ?_);rintro e w4 ⟨m5,rfl,rfl⟩))))
        all_goals (
         go_wp2_with fail
         go_roundw
         case rel =>
          have hdr : bd Y (Y.drewN (1+m4+m5)):=⟨_,rfl⟩
          have h1:=bC (w:=Y.drewN (1+m4+m5)) hown kk hlk (.int .i64 (G.add (nth v kk) (G.mul A (nth Ri kk))))
          rw [<- List.map_set,Hset.out] at h1
          have hlo:=(aR hown (λe=>by have:=hpv (by omega);rw [e] at this;cases this)).1
          exact ⟨kk+1,by omega,by go_num,h1,(hbr.trans (hdr.below.mono hbr.size)).trans ((Below.refl _ _).setCell (p:=⟨ablk a4,aJ a4+kk,none⟩) hlo _)⟩
         case measure=>simp [intOf] <;> omega)
      ·obtain rfl : kk=m:=by omega
       rw [fy Nw v kk HNl.out Hvl.out] at hown
       have hvN : dj (g+1) Y a4 kk Nw:=⟨(Ints.own hown).1,λhn=>by
        have h1:=(aR hown (by
         intro e
         have:=((Ints.own hown).1).pl hn
         rw [e] at this;cases this)).1
        omega⟩
       have hMY : aB w Y (One g) (One g):=hmv.trans (aB.bq hbr _)
       obtain ⟨hRY,_,hbY⟩:=HS.out Y hMY
       have hsumA : ik G.ops (dn G.q) (if false=true then [1] else dn G.q) l (R.drop (i+1)) Nw=sumS G.ops (dn G.q) l (R.drop (i+1)) Nw:=by
        rw [if_neg (by decide)];exact vs _ _ _ _ _
       have hfb1:=hfb.out
       have hfk1:=hfk.out
       rw [Hdt.out,List.flatMap_cons,HNw.out,List.append_assoc] at hfb1 hfk1
       rw [List.foldl_append] at hfb1
       rw [List.length_append,<- Nat.add_assoc] at hfk1
       have hcall:=HIH.out Y ab' cb' B' k' a4 c4 Nw (i+1) false (λx hx=>Nat.lt_of_lt_of_le (HF0.out.2 x hx) hMY.size) hbY hseaY hRY hvN HNe.out (by omega) (by rw [hsumA];omega)
       rw [hsumA] at hcall
       have Hcall:=Z5 hcall
       have Hfb1:=Z5 hfb1
       have Hfk1:=Z5 hfk1
       have Hb:=Z5 hMY
       clear hcall hfb1 hfk1 hfb hfk hown hvN hRY hsumA hseaY hMY hsea hmv
       go_wp2_with fail
       refine Hcall.out.mono ?_
       rintro e w5 ⟨rfl,ab5,cb5,hs5,hM5⟩
       have hMF:=Hb.out.trans hM5
       have Hs5:=Z5 hs5
       clear hs5
       cases al
       ·go_wp2_with fail
        go_roundw
        case rel=>exact ⟨t+1,ab5,cb5,_,_,by omega,λh=>absurd h (by decide),by rw [<- HA.out];go_num,Hs5.out,hMF,Hfb1.out,Hfk1.out⟩
        case measure=>have:=HA.out;simp [intOf] <;> omega
       ·have ht0:=hal rfl
        have hnil : c0.drop (t+1)=[]:=by rw [<- Hc0.out,if_pos rfl,ht0];rfl
        have Hn1 : Hid (T.foldl (cN G.ops) ((sumS G.ops (dn G.q) l (R.drop (i+1)) Nw).foldl (cN G.ops) B')=FB):=by
         have h1:=Hfb1.out
         rw [hnil] at h1;exact h1
        have Hn2 : Hid (k'+(sumS G.ops (dn G.q) l (R.drop (i+1)) Nw).length+T.length=FK):=by
         have h1:=Hfk1.out
         rw [hnil] at h1;exact h1
        clear hnil Hfb1 Hfk1
        go_wp2_with fail
        go_roundw
        case rel=>exact ⟨i+1,ab5,cb5,_,_,by omega,by go_num,Hs5.out,hMF,by show _=_;rw [HT.out];exact Hn1.out,by show _=_;rw [HT.out];exact Hn2.out⟩
        case measure=>simp [intOf] <;> omega
    ·have hal2 : al=false:=by
      cases al
      ·rfl
      ·have:=hal rfl;omega
     have d2 : decide ((t : Int)+1<(G.q : Int))=false:=by simp;omega
     have hnil : c0.drop t=[]:=by
      rw [<- Hc0.out,hal2]
      rw [if_neg (by decide)]
      exact List.drop_of_length_le (by rw [lE];omega)
     have Hn1 : Hid (T.foldl (cN G.ops) B'=FB):=by
      have h1:=hfb.out
      rw [hnil] at h1;exact h1
     have Hn2 : Hid (k'+T.length=FK):=by
      have h1:=hfk.out
      rw [hnil] at h1;exact h1
     clear hnil hfb hfk hR1 hv1 hb1 hal2
     go_wp2_with fail
     refine (AS hG1).mono ?_
     rintro e w' ⟨rfl,rfl⟩
     go_wp2_with fail
     go_roundw
     case rel=>exact ⟨i+1,ab',cb',B',k',by omega,by go_num,hsea,hmv,by show _=_;rw [HT.out];exact Hn1.out,by show _=_;rw [HT.out];exact Hn2.out⟩
     case measure=>simp [intOf] <;> omega
  ·have d1 : decide ((i : Int)+LL<=(nr : Int))=false:=by simp;omega
   have hnil:=oK G.ops (dn G.q) c0 l (R.drop i) v (by rw [List.length_drop,HRl.out];omega)
   have hfb1:=hfb.out
   have hfk1:=hfk.out
   rw [hnil] at hfb1 hfk1
   have hfb2 : B'=FB:=hfb1
   have hfk2 : k'=FK:=hfk1
   subst hfb2 hfk2
   clear hnil hfb1 hfk1 hfb hfk
   go_wp2_with fail
   go_end0
   exact ⟨rfl,ab',cb',hsea.out,hmv⟩
theorem yW {w0 : World} {b g : Nat} {G : de} {P M : Int} {am : OA} {mn cm : Nat} {N : Int} {a : OA} {n c : Nat} {ag : OA} {ng cg : Nat} {m : Nat} {ar : OA} {nr cr : Nat} {R : Ll}
  {F : Nat->Prop} (hF : F g) (h : eD w0 b G) (hg : w0.heap.size<=g) (hm : m<=64) (hm1 : 1<=m) (hRw : bH G.El m R) (hR64 : nr<=64) : ∀l,l<=64->x6 F w0 g b G P M am mn cm N a n c ag ng cg m ar nr cr R l
 | 0,_=>Dx hF h hg (by omega)
 | l+1,hl=>DR hF h hg hm hm1 hRw hR64 l (by omega) (yW hF h hg hm hm1 hRw hR64 l (by omega))
section
open Go.RowKit
end
def insS (x : Int) : Lz->Lz
 | []=>[x]
 | y :: l=>if x<=y then x :: y :: l else y :: insS x l
def oa : Lz->Lz
 | []=>[]
 | x :: l=>insS x (oa l)
theorem q8 (x : Int) : ∀l,(insS x l).Perm (x :: l)
 | []=>List.Perm.refl _
 | y :: l=>by
  rw [insS]
  split
  ·exact List.Perm.refl _
  ·exact ((q8 x l).cons y).trans (List.Perm.swap x y l)
theorem wj (x : Int) : ∀ {l : Lz},l.Pairwise (λa b=>a<=b)->(insS x l).Pairwise (λa b=>a<=b)
 | [],_=>by simp [insS]
 | y :: l,h=>by
  rw [insS]
  rw [List.pairwise_cons] at h
  split
  ·rename_i hxy
   rw [List.pairwise_cons,List.pairwise_cons]
   refine ⟨λa ha=>?_,h.1,h.2⟩
   rcases List.mem_cons.1 ha with rfl | ha
   ·exact hxy
   ·have:=h.1 a ha;omega
  ·rename_i hxy
   rw [List.pairwise_cons]
   refine ⟨λa ha=>?_,wj x h.2⟩
   rcases List.mem_cons.1 ((q8 x l).mem_iff.1 ha) with rfl | ha
   ·omega
   ·exact h.1 a ha
theorem uq : ∀l,(oa l).Perm l
 | []=>List.Perm.refl _
 | x :: l=>(q8 x (oa l)).trans ((uq l).cons x)
theorem tz : ∀l,(oa l).Pairwise (λa b=>a<=b)
 | []=>by simp [oa]
 | x :: l=>wj x (tz l)
theorem mJ (l : Lz) : bP l=oa l:=(lR (tz l) (uq l)).symm
def tW (O : aQ) (L : Ll) (m : Nat) (C : lB) (s z : Lz) : Lz:=oa (zX O L (oa z ++ frTo false (s ++ z) m) (if C.cos=true then m else C.M))
theorem yB (O : aQ) (L : Ll) (m : Nat) (C : lB) (s z : Lz) : fS O L m C s z=tW O L m C s z:=by
 unfold fS tW kd
 rw [mJ,mJ]
def bldI (O : aQ) (L : Ll) (m : Nat) (C : lB) : Nat->Lz->Lz->Ll->Int × Ll
 | 0,s,z,T=>if eY O L m C s (tW O L m C s z)=true then if T.length=65536 then (8,[]) else (0,T ++ [tW O L m C s z]) else (11,[])
 | d+1,s,z,T=>if eY O L m C s (tW O L m C s z)=true then if T.length=65536 then (8,[]) else iF (bldI O L m C d) s z (yK C s z (tW O L m C s z)) (T ++ [tW O L m C s z]) else (11,[])
theorem Cd (O : aQ) (L : Ll) (m : Nat) (C : lB) : ∀d,kU O L m C d=bldI O L m C d
 | 0=>by
  funext s z T
  rw [kU,bldI,yB]
 | d+1=>by
  funext s z T
  rw [kU,bldI,yB,Cd O L m C d]
theorem JX (O : aQ) (L : Ll) (m : Nat) (C : lB) : vj O L m C=bldI O L m C C.W [] [] []:=by rw [vj,Cd]
theorem lits (V : World) (l : Lz) (cs : Array Value) (h : cs=(l.map (Value.int .i64)).toArray) (hl : l.length<=1000) {g : Nat} (hg : g=V.heap.size) : Ints (V.alloc (.cells cs 3)) (some ⟨g,0,none⟩) l.length l:=by
 subst h
 refine ⟨rfl,λ_=>rfl,by unfold maxLen;omega,λi hi=>?_⟩
 have h1:=aH V ((l.map (Value.int .i64)).toArray) 3 hg i
 rw [ai hi]
 simpa [ablk,aJ,hi] using h1
theorem JQ (V : World) {p : Addr} {n1 c1 : Nat} {l1 : Lz} (h1 : Ints V (some p) n1 l1) {g : Nat} (hg : g=V.heap.size) : bZ (V.alloc (.cells #[.slice (some p) n1 c1] 22)) (some ⟨g,0,none⟩) 1 [l1] :=
 ⟨rfl,λ_=>rfl,by unfold maxLen;omega,λk hk=>by
  have h:=aH V #[.slice (some p) n1 c1] 22 hg k
  match k,hk with
  | 0,_=>exact ⟨some p,n1,c1,h,h1.ah (an _ _)⟩⟩
theorem JU (V : World) {p q : Addr} {n1 n2 c1 c2 : Nat} {l1 l2 : Lz} (h1 : Ints V (some p) n1 l1) (h2 : Ints V (some q) n2 l2) {g : Nat} (hg : g=V.heap.size) : bZ (V.alloc (.cells #[.slice (some p) n1 c1,.slice (some q) n2 c2] 22)) (some ⟨g,0,none⟩) 2 [l1,l2] :=
 ⟨rfl,λ_=>rfl,by unfold maxLen;omega,λk hk=>by
  have h:=aH V #[.slice (some p) n1 c1,.slice (some q) n2 c2] 22 hg k
  match k,hk with
  | 0,_=>exact ⟨some p,n1,c1,h,h1.ah (an _ _)⟩
  | 1,_=>exact ⟨some q,n2,c2,h,h2.ah (an _ _)⟩⟩
theorem Ke (V : World) (x1 y1 : Int) : bZ ((V.alloc (.cells #[.int .i64 x1,.int .i64 y1] 3)).alloc (.cells #[.slice (some ⟨V.heap.size,0,none⟩) 2 2] 22)) (some ⟨V.heap.size+1,0,none⟩) 1 [[x1,y1]] :=
 JQ _ (lits V [x1,y1] #[.int .i64 x1,.int .i64 y1] rfl (by simp) rfl) (by simp)
theorem kt {P M : Int} {mod : Lz} {m : Nat} {L : Ll} (hE : aL P M mod m L=0) : L.length<=m:=by
 obtain ⟨_,_,_,h4⟩:=bh hE
 obtain ⟨_,h6⟩:=dY h4
 rw [Int.toNat_natCast] at h6
 rw [<- h6,iS]
 exact (fZ _ _ _).1
section
open Go.RowKit
end
section
open Go.RowKit
end
section
open Go.RowKit
end
section
variable {O : aQ} {El : Int->Prop} {m : Nat} {L : Ll}
end
section
open Go.RowKit
end
section
variable {O : aQ} {El : Int->Prop} {m : Nat}
end
def nU (O : aQ) (q m w : Nat) (sys : List Ll) (b : Lz) : Lz:=sys.foldl (λb G=>(ik O (dn q) [1] w G (List.replicate m 0)).foldl (cN O) b) b
def kZ (q k s w : Nat) : Nat:=s * (chN k w * (q - 1) ^ (w - 1))
def il (q k s n w : Nat) : Bool:=decide (chN k w<=65536) && decide ((q - 1) ^ (w - 1)<=65536) && decide (kZ q k s w<=65536 - n)
def srS (O : aQ) (q m k : Nat) (sys : List Ll) (rks : Lz) : Nat->Nat->Lz->Nat->Ll->Ll × Lz × Int
 | 0,_,b,_,o=>(o,b,0)
 | f+1,w,b,n,o =>
  if il q k sys.length n w=true then
   (if flTo k w rks rks.length > (bw (nU O q m w sys b) : Int) then
    (o ++ [[(w : Int),((n+kZ q k sys.length w : Nat) : Int),(bw (nU O q m w sys b) : Int),flTo k w rks rks.length]],nU O q m w sys b,0)
   else srS O q m k sys rks f (w+1) (nU O q m w sys b) (n+kZ q k sys.length w) (o ++ [[(w : Int),((n+kZ q k sys.length w : Nat) : Int),(bw (nU O q m w sys b) : Int),flTo k w rks rks.length]]))
  else ([],[],8)
section
variable {P M : Int} {mod : Lz} {m : Nat} {L : Ll}
theorem eH {O : aQ} : ∀ {T : List (Lz × Int)} {U : Lz},qx O L m U T->∀t ∈ T,bF m t.1=true/\rh O L t.1=true/\1<=t.2/\t.2<=(L.length : Int)
 | [],_,_,t,ht=>by simp at ht
 | t0 :: T,U,h,t,ht=>by
  obtain ⟨h1,h2,h3,h4,h5⟩:=h
  rcases List.mem_cons.1 ht with rfl | ht
  ·have hbd:=nf U t.1 t.1.length
   have hl : t.1.length=L.length:=(kH.1 h2).1
   exact ⟨h1,h2,h3,by omega⟩
  ·exact eH h5 t ht
theorem ju {O : aQ} {Q : Lz} (h : bF m Q=true) (hB : rh O L Q=true) : qp m Q/\Q.length=L.length/\(i7 O L Q).length=Q.length :=
 ⟨qz h,(kH.1 hB).1,(kH.1 hB).2⟩
def gR (P M : Int) (mod : Lz) (m : Nat) (L : Ll) : List Ll:=(fu (aa P M.toNat mod).ops L m).map λt=>cQ (aa P M.toNat mod).ops m L t.1
theorem sI (hE : aL P M mod m L=0) (hk : 1<=L.length) : fu (aa P M.toNat mod).ops L m ≠ []:=λh=>by
 obtain ⟨N',e,hm1,hm64,F,hR⟩:=ba hE
 obtain rfl : m=N':=by omega
 have h1:=(fg hE).1
 rw [h] at h1
 have h6:=(dY (bh hE).2.2.2).2
 rw [Int.toNat_natCast] at h6
 have hcan : dD (aa P M.toNat mod).ops m L=L:=h6
 obtain ⟨hPv,_⟩:=du F hR
 have hcl:=cU F hR
 rw [hcan] at hPv hcl
 have h2:=hPv.one 0 0 (by omega) (by omega)
 have h3:=hPv.lt 0 (by omega)
 rw [if_pos rfl,h1 _ (by omega) (by simp) 0 (by omega)] at h2
 exact absurd h2 (by decide)
end
section
variable {O : aQ} {El : Int->Prop} {m : Nat} {L : Ll}
structure Kq (O : aQ) (El : Int->Prop) (m : Nat) (L : Ll) (y t : Lz) (k : Nat) (st : LS) : Prop where
 rws : bH El m st.rows
 len : st.rows.length=L.length
 vc : Vc El m st.sum
 top : st.top=k
 kl : k<=L.length
 sup : iD O El m L st.rows
 sub : iD O El m st.rows L
 cos : ∃f,RS O El m L f/\(∀x,x<m->El (f x))/\∀x,x<m->nth st.sum x=O.add (nth y x) (f x)
 one : ∀i,i<k->nth (aj st.rows i) (nth t i).toNat=1
 zero : ∀j i,j<k->j<i->i<L.length->nth (aj st.rows i) (nth t j).toNat=0
 sz : ∀j,j<k->nth st.sum (nth t j).toNat=0
end
section
variable {P M : Int} {mod : Lz} {m : Nat} {L : Ll}
end
end Go.Proofs.YtcfmiocdlcapoaaGreat
