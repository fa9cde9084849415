import Derived.Test.YtcfmiocdlcapoaaGreatK19
import Derived.Test.YtcfmiocdlcapoaaGreatK4
import Derived.Test.YtcfmiocdlcapoaaGreatK6
import Derived.Test.YtcfmiocdlcapoaaGreatK8
import Derived.Test.YtcfmiocdlcapoaaGreatK7
import Derived.Test.YtcfmiocdlcapoaaGreatK10
import Derived.Test.YtcfmiocdlcapoaaGreatK16
import Derived.Test.YtcfmiocdlcapoaaGreatK18
import Derived.Test.YtcfmiocdlcapoaaGreatK11
import Derived.Test.YtcfmiocdlcapoaaGreatK17
import Derived.RangeFuncSeq
import Derived.RangeFuncBox
import Derived.RangeFuncLeaves
import Derived.OwnWalkIn
import Derived.TacticsInMore
import Derived.Shelf.RegionOpen
namespace Go.Proofs.YtcfmiocdlcapoaaGreat
set_option linter.unusedVariables false
set_option linter.unusedSimpArgs false
set_option linter.unusedSectionVars false
set_option maxRecDepth 100000
set_option maxHeartbeats 8000000
open Go.RowKit
section
variable {O : aQ} {El : Int->Prop} {m : Nat} {L : Ll}
variable {C : lB}
structure Kd (O : aQ) (L : Ll) (m : Nat) (C : lB) (s z : Lz) : Prop where
 sn : s.Nodup
 sb : ∀x ∈ s,0<=x/\x<(m : Int)
 zn : z.Nodup
 zb : ∀x ∈ z,0<=x/\x<(m : Int)
 sz : ∀x ∈ z,¬ x ∈ s
 zi : sK O L z=z.length
 zk : ¬ C.cos=true->z.length<=C.M
theorem Ec {s z : Lz} (hz : z.Nodup) : (kd m s z).Nodup:=by
 unfold kd
 rw [List.nodup_append]
 refine ⟨(dw z).nodup_iff.2 hz,(gO false (s ++ z) m).imp λh=>by omega,λa ha b hb e=>?_⟩
 obtain ⟨j,hj,rfl,hd⟩:=(cJ m).1 hb
 have hn : ¬ (j : Int) ∈ s ++ z:=by simpa using hd
 exact hn (List.mem_append.2 (.inr ((dw z).mem_iff.1 (e ▸ ha))))
theorem F3 {s z : Lz} {x : Int} : x ∈ fS O L m C s z ↔ x ∈ zX O L (kd m s z) (if C.cos=true then m else C.M):=(dw _).mem_iff
theorem Bi {s z : Lz} (hz : z.Nodup) : (fS O L m C s z).Nodup:=by
 unfold fS
 refine (dw _).nodup_iff.2 ?_
 unfold zX
 refine List.Nodup.sublist (List.take_sublist _ _) ?_
 exact gr_nodup (Ec hz)
where gr_nodup {Q : Lz} (hQ : Q.Nodup) : (i7 O L Q).Nodup := List.Nodup.sublist (gr_sub Q Q.length (Nat.le_refl _)) (by rw [List.take_length]; exact hQ)
      gr_sub (Q : Lz) : ∀k,k<=Q.length->((cI O L Q k).2).Sublist (Q.take k)
 | 0,_=>by simp [cI]
 | k+1,h=>by
  have ih:=gr_sub Q k (by omega)
  rw [cI,List.take_succ_eq_append_getElem (by omega)]
  split
  ·rw [ai (show k<Q.length by omega)];exact ih.append (List.Sublist.refl _)
  ·exact ih.trans (List.sublist_append_left _ _)
end
theorem aB.pS {w V V' : World} {I I' : Nat->Prop} (h : aB w V I I') (g : Below w.heap.size V V') : aB w V' I I' :=
 ⟨g.os.trans h.os,g.tape.trans h.tape,g.output.trans h.output,Nat.le_trans h.size g.size,λb hb hi=>(g.block b hb).trans (h.block b hb hi),h.grow⟩
theorem aB.grown {w w' : World} {K : Nat->Prop} {a : OA} {n c : Nat} (hg : w.grownBy w' (Value.slice a n c).ownBlock) (hK : a ≠ none->K (ablk a)) : aB w w' K K :=
 ⟨hg.os,hg.tape,hg.output,hg.size,λb hb hi=>hg.block b hb λe=>by
  cases a with
  | none=>cases e
  | some ad =>
   have h1 : b=ad.block:=by simpa [Value.ownBlock] using e
   exact hi (h1 ▸ hK (by simp)),λb hb=>.inl hb⟩
theorem Ints.dt {w w' : World} {I I' : Nat->Prop} {a : OA} {n : Nat} {l : Lz} (h : Ints w a n l) (hM : aB w w' I I') (hI : 0<n->¬ I (ablk a)) : Ints w' a n l :=
 h.of_block λhn=>hM.block _ (h.lt hn) (hI hn)
theorem aV.dt {w w' : World} {I I' : Nat->Prop} {b : Nat} {cs : List Value} (h : aV w b cs) (hM : aB w w' I I') (hI : ¬ I b) : aV w' b cs:=by
 have hb:=hM.block b h.1 hI
 refine ⟨Nat.lt_of_lt_of_le h.1 hM.size,λi v hv=>(World.cell?_of_block (w:=w) (a:=⟨b,i,none⟩) hb).trans (h.2.1 i v hv),λi=>?_⟩
 rw [<- h.2.2 i]
 unfold World.frozen?
 simp only [hb]
theorem aB.put (w : World) (b i : Nat) (v : Value) : aB w (w.setCell ⟨b,i,none⟩ v) (λx=>x=b) (λx=>x=b):=by
 have hb0 : Below 0 w (w.setCell ⟨b,i,none⟩ v):=(Below.refl 0 w).setCell (Nat.zero_le _) v
 exact ⟨hb0.os,hb0.tape,hb0.output,hb0.size,λx hx hI=>Below.heap_setCell _ _ _ _ λe=>hI e,λx hx=>.inl hx⟩
section
open Go.RowKit
end
def ou (b : Nat) (P M : Int) (am : OA) (mn cm : Nat) (m : Nat) (a : OA) (n c : Nat) (ay : OA) (ny cy : Nat) (C : lB) (sv : Value) (k : Nat) : List Value :=
 [.pointer (some ⟨b,0,none⟩),.int .i64 P,.int .i64 M,.slice am mn cm,.int .i64 m,.slice a n c,.slice ay ny cy,.bool C.cos,.int .i64 C.M,.int .i64 C.W,sv,.int .i64 k]
structure BO (w0 : World) (b : Nat) (G : de) (a : OA) (n : Nat) (L : Ll) (m : Nat) (ay : OA) (ny : Nat) (C : lB) : Prop where
 g : eD w0 b G
 kK : bZ w0 a n L
 rws : bH G.El m L
 n6 : n<=1000000
 m6 : m<=64
 w6 : C.W<=64
 c0 : C.cos=false
theorem aV.setCell {w : World} {b : Nat} {cs : List Value} (h : aV w b cs) (i : Nat) (v : Value) : aV (w.setCell ⟨b,i,none⟩ v) b (cs.set i v):=by
 refine ⟨by simpa using h.1,λj u hu=>?_,λj=>by rw [World.frozen?_setCell];exact h.2.2 j⟩
 by_cases e : j=i
 ·subst e
  by_cases hl : j<cs.length
  ·rw [List.getElem?_set_self hl] at hu
   cases hu
   exact World.cell?_setCell_same _ _ _ (h.2.1 j cs[j] (List.getElem?_eq_getElem hl))
  ·rw [List.set_eq_of_length_le (by omega),List.getElem?_eq_none (by omega)] at hu
   cases hu
 ·rw [List.getElem?_set_ne (by omega)] at hu
  rw [World.cell?_setCell_other _ _ _ _ (by simp <;> omega)]
  exact h.2.1 j u hu
theorem qz {m : Nat} {t : Lz} (h : bF m t=true) : ∀k,k<t.length->0<=nth t k/\nth t k<m:=λ_ hk=>⟨(gh h hk).1,(gh h hk).2.1⟩
section
def ez (n k : Nat) : Lz:=(List.replicate n 0).set k 1
def dX (n : Nat) : Ll:=(List.range n).map (ez n)
theorem cA (n : Nat) : (dX n).length=n:=by simp [dX]
theorem gq (n k : Nat) : (ez n k).length=n:=by simp [ez]
theorem iw {n k : Nat} (h : k<n) : aj (dX n) k=ez n k:=by
 rw [aE (by rw [cA];exact h)];simp [dX]
theorem Gb (L : Ll) (k : Nat) (x y : Lz) : (L.set k x).set k y=L.set k y:=by simp
theorem EK (n : Nat) (w : World) (hn : n<=1000000) : Calls Tryz.prog 222 #[.int .i64 n] w (wT w (dX n)):=by
 go_enter Tryz.func222,Tryz.ntmps222
 go_wp2_with (at_make;refine bV rfl _ _ 25 22 rfl (.slice none 0 0) 24 Tryz.underlying25 ch rfl n rfl rfl (by omega) (by unfold maxLen;omega) ?_;intro a1 w1 hown hbel hge hlt)
 have hO:=qL hown
 have hO1 : ∃R,aU w1 w.heap.size a1 n n R (dL n 0 (dX n)):=⟨_,by simpa [dL] using hO⟩
 clear hO hown
 go_loopw [9] (λiv wr=>∃k : Nat,k<=n/\iv = .int .i64 k/\(∃R,aU wr w.heap.size a1 n n R (dL n k (dX n)))/\Below w.heap.size w wr) (λiv _=>n - (intOf iv).toNat)
 case atStart=>exact ⟨0,Nat.zero_le _,rfl,hO1,hbel⟩
 case round =>
  obtain ⟨k,hk,rfl,⟨R,hO⟩,hbr⟩:=hrel
  by_cases hlt : k<n
  ·have hset:=ow hlt (cA n)
   rw [iw hlt] at hset
   have Hset:=Z5 hset
   clear hset
   have hpl1:=hO.pl
   have hsz:=hbr.size
   generalize wr=V at *
   go_upto_region 6 with (at_make;refine bV rfl _ _ 22 3 rfl (.int .i64 0) 8 Tryz.underlying22 aX rfl n rfl rfl (by omega) (by unfold maxLen;omega) ?_;intro a3 w3 hown3 hb3 hge3 hlt3;have hO3:=aU.ah hO hb3;have hf:=hO3.frozen hlt;have hc:=hO3.cell hlt)
   have hown3' : w3.ownsRow V.heap.size 3 1 (.slice a3 (List.replicate n (0 : Int)).length n) (List.replicate n (0 : Int)).length ((List.replicate n (0 : Int)).map (Value.int .i64)):=by rw [List.length_replicate,List.map_replicate];exact hown3
   have hB:=(aU.lt hO3 (ablk a1) (.inl ⟨hO3.ne (by omega),rfl⟩)).1
   have hnew:=aU.setRow hO3 hlt (aP hown3' hsz) (ml hown3 (aU.lt hO (ablk a1) (.inl ⟨hO.ne (by omega),rfl⟩)).2) (λj hj _=>by
    by_cases hn : (aM R j).1=none
    ·exact .inl hn
    ·exact .inr (ml hown3 (aU.lt hO _ (aU.mw (by rw [hO.rl];exact hj) hn)).2))
   rw [List.length_replicate] at hnew
   obtain ⟨Y,hY⟩ : ∃Y,w3.setCell ⟨ablk a1,aJ a1+k,none⟩ (.slice a3 n n)=Y:=⟨_,rfl⟩
   rw [hY] at hnew ⊢
   have hbY : Below w.heap.size w Y:=by rw [<- hY];exact (Below.next hbr hb3).setCell hB _
   have hRk : aM (R.set k (a3,n)) k=(a3,n):=by rw [gB _ _ _ _ (by rw [hO.rl];exact hlt),if_pos rfl]
   have hLk : aj ((dL n k (dX n)).set k (List.replicate n 0)) k=List.replicate n 0:=by rw [fP _ _ _ _ (by rw [hO.ll];exact hlt),if_pos rfl]
   have hcr:=hnew.cell hlt
   have hrow:=hnew.row k hlt
   rw [hRk,hLk,List.length_replicate] at hcr hrow
   obtain ⟨hints,hmine⟩:=Ints.own hrow
   have cz:=hints.cell k hlt
   have fz:=(hmine (by omega)).2 k hlt
   have hBz:=(hmine (by omega)).1
   have hpl3:=hints.pl
   have hown2:=bC hrow k hlt (.int .i64 1)
   rw [<- List.map_set] at hown2
   have hne3 : a3 ≠ none:=λe=>by
    have:=hpl3 (by omega)
    rw [e] at this;cases this
   have hfin:=aU.Et hnew hlt (l:=ez n k) (by rw [hLk,List.length_replicate,gq]) (by rw [hRk,hLk,List.length_replicate];exact hown2) (λb hb hne=>Below.heap_setCell _ _ _ _ λe=>by
    rw [hRk] at hne
    rcases hne with h1 | h1
    ·exact hne3 h1
    ·exact h1 e)
   rw [Gb,Hset.out] at hfin
   have Hfin:=Z5 hfin
   clear hfin hnew hrow hints hmine hown2 hRk hLk hY hf hc hown3 hown3' hO3
   go_wp2_with fail
   go_roundw
   case rel=>exact ⟨k+1,by omega,by go_num,⟨_,Hfin.out⟩,hbY.setCell hBz _⟩
   case measure=>simp [intOf] <;> omega
  ·obtain rfl : k=n:=by omega
   rw [oL (cA k)] at hO
   go_wp2_with fail
   go_ret
   exact ⟨a1,k,R,by rw [cA];rfl,by rw [cA];exact hO,hbr⟩
variable {w : World} {b : Nat} {G : de}
theorem Ig (ax : OA) (cx : Nat) (x : Lz) (a : OA) (n c : Nat) (L : Ll) (cols : Nat) (h : eD w b G) (F : cK G.ops G.El) (hx : Ints w ax n x) (hi : bZ w a n L) (hxe : ∀k,k<n->G.El (nth x k)) (hR : bH G.El cols L) (hc1 : 1<=cols) (hc : cols<=1000000) (hn : n<=1000000) :
  Calls Tryz.prog 141 #[.pointer (some ⟨b,0,none⟩),.slice ax n cx,.slice a n c,.int .i64 cols] w λe w' =>
   ∃a1 c1,e = .returned (.slice a1 cols c1)/\w'.ownsRow w.heap.size 3 1 (.slice a1 cols c1) cols ((bj G.ops cols x L n).map (Value.int .i64))/\Below w.heap.size w w':=by
 have Hil:=Z5 hi.len
 have hplx:=hx.pl
 have hpla:=hi.pl
 have hcm:=dO F hR (x:=x) (by rw [hi.len];exact hxe)
 have Hcm:=Z5 hcm
 have HR:=Z5 hR
 have hz : (bj G.ops cols x L 0).map (Value.int .i64)=List.replicate cols (Value.int .i64 0):=by simp [bj]
 have Hz:=Z5 hz
 clear hcm hR hz F
 go_enter Tryz.func141,Tryz.ntmps141
 go_wp2_with (at_make;refine bV rfl _ _ 22 3 rfl (.int .i64 0) 8 Tryz.underlying22 aX rfl cols rfl rfl (by omega) (by unfold maxLen;omega) ?_;intro a5 w5 hown hbel hge hlt)
 have hown0 : w5.ownsRow w.heap.size 3 1 (.slice a5 cols cols) cols ((bj G.ops cols x L 0).map (Value.int .i64)):=by rw [Hz.out];exact hown
 clear hown hlt
 go_loopw [16] (λiv wr=>∃k : Nat,k<=n/\iv = .int .i64 k/\wr.ownsRow w.heap.size 3 1 (.slice a5 cols cols) cols ((bj G.ops cols x L k).map (Value.int .i64))/\Below w.heap.size w wr) (λiv _=>n - (intOf iv).toNat)
 case atStart=>exact ⟨0,Nat.zero_le _,rfl,hown0,hbel⟩
 case round =>
  clear hown0 hbel
  obtain ⟨k,hk,rfl,hown,hbr⟩:=hrel
  by_cases hlt : k<n
  ·have cxk:=(hx.ah hbr).cell k hlt
   have hrow:=HR.out.row (i:=k) (by rw [Hil.out];exact hlt)
   obtain ⟨ra,rn,rc,er0,ir0⟩:=hi.cell k hlt
   have hrn : rn=cols:=by rw [<- ir0.len];exact hrow.1
   rw [hrn] at er0 ir0
   have er:=aw hbr er0
   have hra : ablk ra<w.heap.size:=World.block_lt_of_cell? w _ (ir0.cell 0 (by omega))
   clear hrn er0
   by_cases h0 : nth x k=0
   ·have h0' : (nth x k != 0)=false:=by simpa using h0
    have Hn : Hid (bj G.ops cols x L (k+1)=bj G.ops cols x L k):=by show _=_;rw [bj,if_pos h0]
    clear h0
    go_wp2_with fail
    go_roundw
    case rel=>exact ⟨k+1,by omega,by go_num,by rw [Hn.out];exact hown,hbr⟩
    case measure=>simp [intOf] <;> omega
   ·have h0' : (nth x k != 0)=true:=by simpa using h0
    have Hn : Hid (bj G.ops cols x L (k+1)=bJ G.ops (bj G.ops cols x L k) (nth x k) (aj L k)):=by show _=_;rw [bj,if_neg h0]
    have hvk:=(Hcm.out k (by rw [Hil.out];exact hk)).1
    have Ha:=Z5 (CR w a5 cols cols (bj G.ops cols x L k) (nth x k) ra rc (aj L k) h hbr hown (ir0.ah hbr) (.inr (.inr (by omega))) hvk.2 hrow.2 (hxe k hlt))
    clear h0 hown ir0 hrow hvk
    go_wp2_with fail
    refine Ha.out.mono ?_
    rintro e w4 ⟨rfl,hown4,honly⟩
    have hb4 : Below w.heap.size w w4:=hbr.trans (honly.below (λ_=>hge) hbr.size)
    go_wp2_with fail
    go_roundw
    case rel=>exact ⟨k+1,by omega,by go_num,by rw [Hn.out];exact hown4,hb4⟩
    case measure=>simp [intOf] <;> omega
  ·obtain rfl : k=n:=by omega
   have HF:=Z5 hown
   clear hown
   go_wp2_with fail
   go_ret
   exact ⟨a5,cols,rfl,HF.out,hbr⟩
end
theorem Ax (t d : Int) : (if t<d then d else t)=max t d:=by split <;> omega
section
variable {m : Nat} {Q : Lz}
end
section
open Go.RowKit
end
section
open Go.RowKit
end
theorem ld {P M : Int} {mod : Lz} {m : Nat} {D : Ll} (hfB : bA P M mod=true) (hm : m<=256) (hD : D.length<=256) (hR : bH (aa P M.toNat mod).El m D) : dM P M mod m D=0:=by
 unfold dM
 rw [if_pos hfB]
 unfold ew
 rw [if_neg (by omega)]
 have hsh : iA (m : Int) D=true:=by
  unfold iA
  rw [List.all_eq_true]
  intro r hr
  have:=(hR r hr).1
  simp;omega
 rw [if_neg (by rw [hsh];decide),if_pos]
 rw [List.all_eq_true]
 intro r hr
 unfold gD fG
 rw [List.all_eq_true]
 intro x hx
 have:=(hR r hr).2 x hx
 unfold de.El at this
 simp
 exact this
def fE (D U : Ll) : Ll:=List.zipWith (λr s=>r ++ s) D U
theorem lY {k : Nat} : ∀ {D U : Ll},D.length=U.length->(∀r ∈ D,r.length=k)->(fE D U).map (List.take k)=D
 | [],[],_,_=>rfl
 | [],_ :: _,h,_=>by simp at h
 | _ :: _,[],h,_=>by simp at h
 | r :: D,u :: U,h,hr=>by
  have ih:=lY (k:=k) (D:=D) (U:=U) (by simpa using h) λx hx=>hr x (List.mem_cons_of_mem _ hx)
  unfold fE at ih ⊢
  rw [List.zipWith_cons_cons,List.map_cons,ih]
  have:=hr r (List.mem_cons_self ..)
  rw [<- this,List.take_left']
  rfl
theorem oe {k : Nat} : ∀ {D U : Ll},D.length=U.length->(∀r ∈ D,r.length=k)->(fE D U).map (List.drop k)=U
 | [],[],_,_=>rfl
 | [],_ :: _,h,_=>by simp at h
 | _ :: _,[],h,_=>by simp at h
 | r :: D,u :: U,h,hr=>by
  have ih:=oe (k:=k) (D:=D) (U:=U) (by simpa using h) λx hx=>hr x (List.mem_cons_of_mem _ hx)
  unfold fE at ih ⊢
  rw [List.zipWith_cons_cons,List.map_cons,ih]
  have:=hr r (List.mem_cons_self ..)
  rw [<- this,List.drop_left']
  rfl
theorem lK {El : Int->Prop} {k m : Nat} : ∀ {D U : Ll},bH El k D->bH El m U->bH El (k+m) (fE D U)
 | [],_,_,_=>λr hr=>by simp [fE] at hr
 | _ :: _,[],_,_=>λr hr=>by simp [fE] at hr
 | d :: D,u :: U,hD,hU=>by
  have ih:=lK (D:=D) (U:=U) (λr hr=>hD r (List.mem_cons_of_mem _ hr)) (λr hr=>hU r (List.mem_cons_of_mem _ hr))
  intro r hr
  unfold fE at hr ih
  rw [List.zipWith_cons_cons] at hr
  rcases List.mem_cons.1 hr with rfl | hr
  ·have h1:=hD d (List.mem_cons_self ..)
   have h2:=hU u (List.mem_cons_self ..)
   refine ⟨by rw [List.length_append,h1.1,h2.1],λx hx=>?_⟩
   rcases List.mem_append.1 hx with hx | hx
   ·exact h1.2 x hx
   ·exact h2.2 x hx
  ·exact ih r hr
theorem o4 {El : Int->Prop} (h0 : El 0) (h1 : El 1) (n : Nat) : bH El n (dX n):=λr hr=>by
 unfold dX at hr
 obtain ⟨i,_,rfl⟩:=List.mem_map.1 hr
 refine ⟨gq n i,λx hx=>?_⟩
 unfold ez at hx
 rcases List.mem_or_eq_of_mem_set hx with hx | rfl
 ·rw [List.eq_of_mem_replicate hx];exact h0
 ·exact h1
def kS (O : aQ) (D : Ll) (k : Nat) : Ll:=(aA O (fE D (dX k)) k).1.map (List.drop k)
theorem Ep (O : aQ) {D : Ll} {k : Nat} (h : D.length=k) : (kS O D k).length=k:=by
 unfold kS
 rw [List.length_map,bM]
 simp [fE,cA,h]
theorem zE (P M : Int) (am : OA) (mn cm : Nat) (mod : Lz) (k : Nat) (a : OA) (c : Nat) (D : Ll) (w : World) (hmod : Ints w am mn mod) (hi : bZ w a k D)
  (hB : bA P M mod=true) (hR : bH (aa P M.toNat mod).El k D) (hk : k<=64) (hpv : (aA (aa P M.toNat mod).ops (fE D (dX k)) k).2.length=k) :
  Calls Tryz.prog 168 #[.agg #[.int .i64 P,.int .i64 M,.slice am mn cm],.agg #[.int .i64 k,.slice a k c]] w
   λe w'=>∃a1 c1,e = .returned (.tuple #[.agg #[.int .i64 k,.slice a1 k c1],.int .i64 0])/\bN w.heap.size w' a1 k (kS (aa P M.toNat mod).ops D k)/\Below w.heap.size w w':=by
 have hDl:=hi.len
 have F:=eX hB
 have hmE : ew (aa P M.toNat mod).q k D=0:=by
  have h:=ld hB (show k<=256 by omega) (show D.length<=256 by omega) hR
  exact (eg h).2
 have hJr:=lK hR (o4 F.zero F.one k)
 have hJt:=lY (U:=dX k) (by rw [cA];exact hDl) (λr hr=>(hR r hr).1)
 have hJd:=oe (U:=dX k) (by rw [cA];exact hDl) (λr hr=>(hR r hr).1)
 have hpla:=hi.pl
 have HDr : Hid (∀l ∈ D,l.length<=1000000):=λl hl=>by rw [(hR l hl).1];omega
 obtain ⟨G,hGG⟩ : ∃G,aa P M.toNat mod=G:=⟨_,rfl⟩
 unfold kS
 obtain ⟨J,hJ⟩ : ∃J,fE D (dX k)=J:=⟨_,rfl⟩
 rw [hGG,hJ] at hpv hJr
 rw [hJ] at hJt hJd
 rw [hGG,hJ]
 have HJ:=Z5 (And.intro hJr (And.intro hJt hJd))
 have Hpv:=Z5 hpv
 have HDl:=Z5 hDl
 have HGG:=Z5 hGG
 have HB:=Z5 hB
 have HmE:=Z5 hmE
 clear hJr hJt hJd hpv hDl hGG F hR hJ hB hmE
 go_enter Tryz.func168,Tryz.ntmps168
 go_wp2_with fail
 obtain ⟨W,hW⟩ : ∃W : World,W=((((w.alloc (.cells #[.int .i64 P,.int .i64 M,.slice am mn cm] 24)).alloc (.cells #[.int .i64 k,.slice a k c] 82)).alloc (.cells #[.int .i64 0,.slice none 0 0] 82)).alloc (.cells #[.int .i64 k,.slice a k c] 82)):=⟨_,rfl⟩
 rw [<- hW]
 have hbW : Below w.heap.size w W:=by rw [hW];exact ((((Below.refl _ _).alloc (Nat.le_refl _) _).alloc (by simp) _).alloc (by simp;omega) _).alloc (by simp;omega) _
 have hsW : W.heap.size=w.heap.size+4:=by rw [hW];simp
 have x1 : aV W (w.heap.size+1) [.int .i64 k,.slice a k c]:=by rw [hW];exact ((aV.new _ _ _ (by simp)).alloc _).alloc _
 have x2 : aV W (w.heap.size+1+1) [.int .i64 0,.slice none 0 0]:=by rw [hW];exact (aV.new _ _ _ (by simp)).alloc _
 have q3 : W.cell? ⟨w.heap.size+1+1+1,0,none⟩=some (.int .i64 k)/\W.cell? ⟨w.heap.size+1+1+1,1,none⟩=some (.slice a k c):=by rw [hW];exact ⟨aH _ _ _ (by simp) 0,aH _ _ _ (by simp) 1⟩
 have hMs : vd W (some ⟨w.heap.size+1+1+1,0,none⟩) 1 [((k : Int),D)]:=⟨rfl,λ_=>rfl,by unfold maxLen;omega,λi hi'=>by
  have : i=0:=by simp at hi';omega
  subst this
  exact ⟨a,k,c,by simpa using q3.1,by simpa using q3.2,hi.ah hbW⟩⟩
 have HX:=Z5 (And.intro x1 x2)
 have HsW:=Z5 hsW
 have HbW:=Z5 hbW
 clear hW hsW x1 x2 q3
 refine (lf P M am mn cm mod _ 1 1 _ W (hmod.ah hbW) hMs).mono ?_
 rintro e w1 ⟨hb1,hcase⟩
 rw [jH] at hcase
 rcases hcase with ⟨hB,_⟩ | ⟨_,er,h0,h1,_⟩ | ⟨_,_,b,rfl,hG,hbl⟩
 ·rw [HB.out] at hB;exact absurd hB (by decide)
 ·rw [HmE.out] at h1;exact absurd h1.symm h0
 rw [HGG.out] at hG
 have hbw1:=Below.next hbW hb1
 have r1:=HX.out.1.ah hb1
 have m0:=r1.cell 0 rfl
 have m1:=r1.cell 1 rfl
 have hkk : ((k : Int) != k)=false:=by simp
 have hi1:=hi.ah hbw1
 clear hMs hbW r1 hbl hmod hi
 go_wp2_with fail
 refine (EK k w1 (by omega)).mono ?_
 rintro e w2 ⟨ae,ce,S,rfl,hOu,hb2⟩
 rw [cA] at hOu ⊢
 have HS : Hid (∀V,Below w2.heap.size w2 V->V.cell? ⟨w.heap.size+1,0,none⟩=some (.int .i64 k)/\V.cell? ⟨w.heap.size+1,1,none⟩=some (.slice a k c)):=λV hV=>by
  have r2:=HX.out.1.ah (Below.next (Below.next hb1 hb2) hV)
  exact ⟨r2.cell 0 rfl,r2.cell 1 rfl⟩
 have Hcl : Hid (∀V,Below w2.heap.size w2 V->Calls Tryz.prog 213 #[.slice a k c] V λe w'=>∃a1 c1 R,e = .returned (.slice a1 k c1)/\aU w' V.heap.size a1 k c1 R D/\Below V.heap.size V w'):=λV hV=>by
  refine (vy a k c D (hi1.ah (Below.next hb2 hV)) (by omega) HDr.out).mono ?_
  rintro e w' ⟨a1,c1,R,rfl,h1,h2⟩
  rw [HDl.out] at h1 ⊢
  exact ⟨a1,c1,R,rfl,h1,h2⟩
 have Hel : Hid (∀V V2 a1 c1 R,Below w2.heap.size w2 V->aU V2 V.heap.size a1 k c1 R D->Below V.heap.size V V2->∀V3,Below V2.heap.size V2 V3 ->
   Calls Tryz.prog 214 #[.pointer (some ⟨b,0,none⟩),.slice a1 k c1,.int .i64 k,.slice ae k ce] V3 λe w'=>∃ap cp d,e = .returned (.tuple #[.slice ap k cp,.int .i64 d]) /\
    bN w1.heap.size w' ae k ((aA G.ops J k).1.map (List.drop k))/\Below w1.heap.size w1 w'):=λV V2 a1 c1 R hV hO hV2 V3 hV3=>by
  have hb13 : Below w1.heap.size w1 V3:=Below.next (Below.next hb2 hV) (Below.next hV2 hV3)
  have hsz2:=hb2.size
  have hszV:=hV.size
  have hO2 : ey V3 w1.heap.size a1 k c1 R ae ce S k J:=by
   refine ⟨by rw [HJ.out.2.1];exact (hO.ah hV3).mono (by omega),by rw [HJ.out.2.2];exact (hOu.ah (Below.next hV (Below.next hV2 hV3))),λx hx hx2=>?_⟩
   have h1:=(hO.lt x hx).1
   have h2:=(hOu.lt x hx2).2
   omega
  refine (sL w1 a1 k c1 k k (k+k) R ae ce S J hG hb13 hO2 HJ.out.1 (Nat.le_refl _) (by omega) (by omega) (by omega)).mono ?_
  rintro e w' ⟨R',S',ap,cp,d,rfl,hO',_,_,hb'⟩
  exact ⟨ap,cp,d,by rw [Hpv.out],bN.own hO'.om2,hb'⟩
 obtain ⟨k0,k1⟩:=HS.out w2 (Below.refl _ _)
 have HbW1:=Z5 (And.intro hb1 hbw1)
 clear hOu hi1 hG m0 m1 hb1 hbw1
 go_wp2_with fail
 go_cut [9] (λv wx=>∃ap cp,v = .slice ap k cp/\bN w1.heap.size wx ae k ((aA G.ops J k).1.map (List.drop k))/\Below w1.heap.size w1 wx)
 case first =>
  go_region_law ((first
   | (go_simp;go_at_call 213;((with_reducible refine (Hcl.out _ (Below.refl _ _).drew).mono ?_);rintro e w4 ⟨a4,c4,R4,rfl,hO4,hb4⟩;obtain ⟨k0,k1⟩:=HS.out w4 (Below.next (Below.refl _ _).drew hb4)))
   | (go_simp;go_at_call 214;((with_reducible refine (Hel.out _ w4 a4 c4 R4 (Below.refl _ _).drew hO4 hb4 _ (by first | exact Below.refl _ _ | exact (Below.refl _ _).drew)).mono ?_);rintro e w5 ⟨ap,cp,d,rfl,hM5,hb5⟩))))
  all_goals (
   go_wp2_with fail
   go_meet
   exact ⟨ap,cp,rfl,hM5,hb5⟩)
 obtain ⟨ap,cp,rfl,hM,hbc⟩:=hcut
 generalize wc=U at *
 have r2:=HX.out.1.ah (Below.next HbW1.out.1 hbc)
 have k0':=r2.cell 0 rfl
 have z6:=HX.out.2.ah (Below.next HbW1.out.1 hbc)
 have z0:=z6.cell 0 rfl
 have z1:=z6.cell 1 rfl
 have f0:=z6.frozen 0
 have f1:=z6.frozen 1
 have hs:=HsW.out
 have hs1:=HbW1.out.1.size
 have HF:=Z5 (And.intro (((hM.setCell (p:=⟨w.heap.size+1+1,0,none⟩) (by simp;omega) (.int .i64 k)).setCell (p:=⟨w.heap.size+1+1,1,none⟩) (by simp;omega) (.slice ae k ce)).mono (show w.heap.size<=w1.heap.size by omega))
  (((Below.next HbW1.out.2 hbc).setCell (p:=⟨w.heap.size+1+1,0,none⟩) (by simp;omega) (.int .i64 k)).setCell (p:=⟨w.heap.size+1+1,1,none⟩) (by simp;omega) (.slice ae k ce)))
 clear hM z6 r2 k0 k1 HS Hcl Hel
 go_wp2_with fail
 exact bodyPost_ret (v:=.tuple #[.agg #[.int .i64 k,.slice ae k ce],.int .i64 0]) (by simp [results,Tryz.results168,go_sem,z0,z1]) rfl ⟨ae,ce,rfl,HF.out.1,HF.out.2⟩
theorem rU {σ : Type} (I : World->σ->Prop) (J : σ->Nat->Prop) (val : σ->Ll) (F : Lz->Lz->Ll->Int × Ll) (pb W : Nat)
  (sa : OA) (ns cs : Nat) (s : Lz) (az : OA) (nz cz : Nat) (z : Lz) (at' : OA) (nt ct : Nat) (t : Lz) (w : World) (σ0 : σ)
  (hI0 : I w σ0) (hIb : ∀V V' σ,I V σ->aB V V' (λb=>w.heap.size<=b/\¬ J σ b) (λb=>w.heap.size<=b/\¬ J σ b)->I V' σ) (hp : w.cell? ⟨pb,9,none⟩=some (.int .i64 W)) (hS : ∀V σ,I V σ->Ints V sa ns s/\Ints V at' nt t)
  (hJ : ∀V σ x,I V σ->J σ x->x<V.heap.size) (hz : Ints w az nz z) (htn : t.Nodup) (hns : ns<=1000) (hnz : nz<=1000) (hnt : nt<=1000) (hWs : ns<=W)
  (hF : ns<W->∀(V : World) (σ : σ) (a1 : OA) (c1 : Nat) (a2 : OA) (c2 k : Nat) (zc : Lz),k<nt->zc=z ++ (t.take k).filter (λx=>decide (¬ x ∈ z))->¬ nth t k ∈ z->I V σ->aB w V (J σ0) (J σ) ->
   Ints V a1 (ns+1) (s ++ [nth t k])->Ints V a2 zc.length zc->¬ J σ (ablk a1)->(a2 ≠ none->¬ J σ (ablk a2)) ->
   Calls Tryz.prog 235 #[.pointer (some ⟨pb,0,none⟩),.slice a1 (ns+1) c1,.slice a2 zc.length c2] V
    λe V'=>∃σ',I V' σ'/\aB V V' (J σ) (J σ')/\e = .returned (.int .i64 (F (s ++ [nth t k]) zc (val σ)).1)/\((F (s ++ [nth t k]) zc (val σ)).1=0->val σ'=(F (s ++ [nth t k]) zc (val σ)).2)) :
  Calls Tryz.prog 264 #[.pointer (some ⟨pb,0,none⟩),.slice sa ns cs,.slice az nz cz,.slice at' nt ct,.func (.func 235) #[.pointer (some ⟨pb,0,none⟩)] #[]] w
   λe w'=>∃σ',I w' σ'/\aB w w' (J σ0) (J σ')/\e = .returned (.int .i64 (iF F s z (if ns<W then t.filter (λx=>decide (¬ x ∈ z)) else []) (val σ0)).1) /\
    ((iF F s z (if ns<W then t.filter (λx=>decide (¬ x ∈ z)) else []) (val σ0)).1=0->val σ'=(iF F s z (if ns<W then t.filter (λx=>decide (¬ x ∈ z)) else []) (val σ0)).2):=by
 obtain ⟨KB,hKB⟩ : ∃KB,iF F s z (if ns<W then t.filter (λx=>decide (¬ x ∈ z)) else []) (val σ0)=KB:=⟨_,rfl⟩
 rw [hKB]
 have HKB:=Z5 hKB
 clear hKB
 have Hzl:=Z5 hz.len
 have Htl:=Z5 (hS w σ0 hI0).2.len
 have Hsl:=Z5 (hS w σ0 hI0).1.len
 have hplt:=(hS w σ0 hI0).2.pl
 have HS:=Z5 hS
 have HI0:=Z5 hI0
 have HIb:=Z5 hIb
 have HJ:=Z5 hJ
 have Htn:=Z5 htn
 have HF:=Z5 hF
 clear hS hI0 hIb hJ htn hF
 by_cases hW : ns=W
 ·have hd : ((ns : Int) == (W : Int))=true:=by simp;omega
  have Hk : Hid (KB=(0,val σ0)):=by
   show _=_
   rw [<- HKB.out,if_neg (by omega)];rfl
  go_enter Tryz.func264,Tryz.ntmps264
  clear hW
  go_wp2_with fail
  go_ret
  exact ⟨σ0,HI0.out,aB.refl _ _,by rw [Hk.out];rfl,λ_=>by rw [Hk.out]⟩
 have hd : ((ns : Int) == (W : Int))=false:=by simp;omega
 have hlW : ns<W:=by omega
 have HKB : Hid (KB=iF F s z (t.filter (λx=>decide (¬ x ∈ z))) (val σ0)):=by
  show _=_
  rw [<- HKB.out,if_pos hlW]
 have HF:=Z5 (HF.out hlW)
 clear hlW hW
 go_enter Tryz.func264,Tryz.ntmps264
 go_wp2_with fail
 refine (ef az nz cz z hz (by omega)).mono ?_
 rintro e w1 ⟨a0,c0,rfl,hown0,hb1⟩
 have hI1:=HIb.out w w1 σ0 HI0.out (aB.bq hb1 _)
 go_wp2_with fail
 go_loopw [2,25] (λzv iv wr=>∃(k : Nat) (aq : OA) (cq : Nat) (zc : Lz) (σ : σ),k<=nt/\iv = .int .i64 k/\zv = .slice aq zc.length cq/\Hid (zc=z ++ (t.take k).filter (λx=>decide (¬ x ∈ z))) /\
   wr.ownsRow w.heap.size 3 1 (.slice aq zc.length cq) zc.length (zc.map (Value.int .i64))/\Hid (I wr σ)/\Hid (aB w wr (J σ0) (J σ))/\Hid (aq ≠ none->¬ J σ (ablk aq)) /\
   Hid (KB=iF F s zc ((t.drop k).filter (λx=>decide (¬ x ∈ z))) (val σ))/\zc.length<=nz+k)
  (λ_ iv _=>nt - (intOf iv).toNat)
 case atStart =>
  refine ⟨0,a0,c0,z,σ0,Nat.zero_le _,rfl,rfl,?_,hown0,hI1,aB.bq hb1 _,?_,?_,by rw [Hzl.out];omega⟩
  ·show _=_;simp
  ·show a0 ≠ none->_
   intro ha hj
   have h1:=HJ.out w σ0 _ HI0.out hj
   have h2:=(aR hown0 ha).1
   omega
  ·show _=_;rw [List.drop_zero];exact HKB.out
 case round =>
  obtain ⟨k,aq,cq,zc,σ,hk,rfl,rfl,hzc,hop,hI,hM,hap,hkb,hzn⟩:=hrel
  generalize wr=U at *
  by_cases hlt : k<nt
  ·have htU:=(HS.out U σ hI.out).2
   have hsU:=(HS.out U σ hI.out).1
   have ck:=htU.cell k hlt
   obtain ⟨hzi,_⟩:=Ints.own hop
   have hktl : k<t.length:=by rw [Htl.out];exact hlt
   have Htk:=Z5 (show t.take (k+1)=t.take k ++ [nth t k] from tf t hktl)
   have Hdk:=Z5 (show t.drop k=nth t k :: t.drop (k+1) by rw [ai hktl];exact List.drop_eq_getElem_cons hktl)
   have Hzm : Hid (nth t k ∈ zc ↔ nth t k ∈ z):=by
    show _ ↔ _
    rw [hzc.out,List.mem_append,List.mem_filter]
    constructor
    ·rintro (h | h)
     ·exact h
     ·exfalso
      have hn : (t.take k ++ t.drop k).Nodup:=by rw [List.take_append_drop];exact Htn.out
      rw [List.nodup_append] at hn
      exact hn.2.2 _ h.1 (nth t k) (by rw [Hdk.out];simp) rfl
    ·exact .inl
   by_cases hmz : nth t k ∈ z
   ·have hmd : decide (nth t k ∈ zc)=true:=by simpa using Hzm.out.2 hmz
    have HcA:=Z5 (cB aq zc.length cq zc (nth t k) U hzi)
    rw [hmd] at HcA
    have Hzc2 : Hid (zc=z ++ (t.take (k+1)).filter (λx=>decide (¬ x ∈ z))):=by
     show _=_
     rw [Htk.out,List.filter_append,List.filter_cons_of_neg (by simpa using hmz),List.filter_nil,List.append_nil];exact hzc.out
    have Hkb2 : Hid (KB=iF F s zc ((t.drop (k+1)).filter (λx=>decide (¬ x ∈ z))) (val σ)):=by
     show _=_
     rw [hkb.out,Hdk.out,List.filter_cons_of_neg (by simpa using hmz)]
    clear hmz hmd
    go_wp2_with fail
    refine HcA.out.mono ?_
    rintro e w6 ⟨rfl,rfl⟩
    go_wp2_with fail
    go_roundw
    case rel=>exact ⟨k+1,aq,cq,zc,σ,by omega,by go_num,rfl,Hzc2.out,hop,hI.out,hM.out,hap.out,Hkb2.out,by omega⟩
    case measure=>simp [intOf] <;> omega
   ·have hmd : decide (nth t k ∈ zc)=false:=by simpa using λh=>hmz (Hzm.out.1 h)
    have HcA:=Z5 (cB aq zc.length cq zc (nth t k) U hzi)
    rw [hmd] at HcA
    have Hzc2 : Hid (zc ++ [nth t k]=z ++ (t.take (k+1)).filter (λx=>decide (¬ x ∈ z))):=by
     show _=_
     rw [Htk.out,List.filter_append,List.filter_cons_of_pos (by simpa using hmz),List.filter_nil,<- List.append_assoc,<- hzc.out]
    have Hkb2 : Hid (KB=if (F (s ++ [nth t k]) zc (val σ)).1=0 then iF F s (zc ++ [nth t k]) ((t.drop (k+1)).filter (λx=>decide (¬ x ∈ z))) (F (s ++ [nth t k]) zc (val σ)).2 else ((F (s ++ [nth t k]) zc (val σ)).1,[])):=by
     show _=_
     rw [hkb.out,Hdk.out,List.filter_cons_of_pos (by simpa using hmz),iF]
    have HFk:=Z5 (λV σ a1 c1 a2 c2=>HF.out V σ a1 c1 a2 c2 k zc hlt hzc.out hmz)
    have hszU:=hM.out.size
    clear hmz hmd
    go_wp2_with fail
    refine HcA.out.mono ?_
    rintro e w6 ⟨rfl,rfl⟩
    go_wp2_with fail
    refine (ef sa ns cs s hsU (by omega)).mono ?_
    rintro e w7 ⟨a7,c7,rfl,hown7,hb7⟩
    rw [Hsl.out] at hown7
    rw [Hsl.out]
    obtain ⟨x,hx⟩ : ∃x,nth t k=x:=⟨_,rfl⟩
    rw [hx] at ck Hzc2 Hkb2 HFk Htk Hdk Hzm HcA ⊢
    have hcn:=br w7 (.int .i64 x) 3
    have hbn:=an w7 (.cells #[.int .i64 x] 3)
    go_wp2_with (at_builtin;refine bk rfl _ _ 22 3 rfl (.int .i64 0) 8 Tryz.underlying22 aX rfl w6.heap.size a7 ns c7 _ rfl (hown7.alloc _) ⟨w7.heap.size,0,none⟩ 1 (.int .i64 x) rfl hcn rfl (by omega) (by unfold maxLen;omega) (Nat.le_trans hb7.size hbn.size) ?_;intro a8 c8 w8 hown8 hgr8 hap8)
    have hb68 : Below w6.heap.size w6 w8:=Below.app (Below.next hb7 hbn) (hown7.alloc _) hgr8 (Nat.le_refl _) (Nat.le_trans hb7.size hbn.size)
    have own8 : w8.ownsRow w6.heap.size 3 1 (.slice a8 (ns+1) c8) (ns+1) ((s ++ [x]).map (Value.int .i64)):=by simpa using hown8
    have hz8:=hzi.ah hb68
    clear hown7 hown8 hgr8 hap8 hcn hbn
    go_wp2_with fail
    refine (ef aq zc.length cq zc hz8 (by omega)).mono ?_
    rintro e w9 ⟨a9,c9,rfl,hown9,hb9⟩
    have hb69:=Below.next hb68 hb9
    have hI9:=HIb.out w6 w9 σ hI.out (aB.bq hb69 _)
    have hM9 : aB w w9 (J σ0) (J σ):=hM.out.pS (hb69.mono hszU)
    have hs9:=(Ints.own own8).1.ah hb9
    have hz9:=(Ints.own hown9).1
    have hn8 : ¬ J σ (ablk a8):=λhj=>by
     have h1:=HJ.out w6 σ _ hI.out hj
     have h2:=(fJ own8 (by omega)).1
     omega
    have hn9 : a9 ≠ none->¬ J σ (ablk a9):=λha hj=>by
     have h1:=HJ.out w6 σ _ hI.out hj
     have h2:=(aR hown9 ha).1
     have h3:=hb68.size
     omega
    have hopz:=aW hop hb69
    have HCall:=Z5 (HFk.out w9 σ a8 c8 a9 c9 hI9 hM9 hs9 hz9 hn8 hn9)
    clear HFk hI9 hs9 hz9 hn8 hn9 hz8 own8 hown9
    generalize F (s ++ [x]) zc (val σ)=FR at *
    obtain ⟨fe,fv⟩:=FR
    dsimp only at HCall Hkb2
    go_wp2_with fail
    refine HCall.out.mono ?_
    rintro e w10 ⟨σ',hI',hM',rfl,hval⟩
    have hM10:=Z5 (hM9.trans hM')
    have hapz : aq ≠ none->¬ J σ' (ablk aq):=λha=>hM'.not (aR hopz ha).2 (hap.out ha)
    have hopq:=hM'.own hopz hap.out
    have Hapz:=Z5 hapz
    have HI':=Z5 hI'
    clear HCall hM9 hM' hapz hI' hopz
    by_cases hfe : fe=0
    ·have Hval : Hid (val σ'=fv):=hval hfe
     subst hfe
     rw [if_pos rfl] at Hkb2
     have hcn:=br w10 (.int .i64 x) 3
     have hbn:=an w10 (.cells #[.int .i64 x] 3)
     have hsz10:=hM10.out.size
     clear hval
     go_wp2_with (at_builtin;refine bk rfl _ _ 22 3 rfl (.int .i64 0) 8 Tryz.underlying22 aX rfl w.heap.size aq zc.length cq _ rfl (hopq.alloc _) ⟨w10.heap.size,0,none⟩ 1 (.int .i64 x) rfl hcn rfl (by omega) (by unfold maxLen;omega) (Nat.le_trans hsz10 hbn.size) ?_;intro a11 c11 w11 hown11 hgr11 hap11)
     go_roundw
     case rel =>
      have hb11 : Below w.heap.size w10 w11:=Below.app (hbn.mono hsz10) (hopq.alloc _) hgr11 (Nat.le_refl _) (Nat.le_trans hsz10 hbn.size)
      have hK : aB w10 w11 (λb=>w.heap.size<=b/\¬ J σ' b) (λb=>w.heap.size<=b/\¬ J σ' b):=(aB.bq hbn _).trans (aB.grown hgr11 λha=>⟨(aR hopq ha).1,Hapz.out ha⟩)
      refine ⟨k+1,a11,c11,zc ++ [x],σ',by omega,by go_num,by simp,Hzc2.out,by simpa using hown11,HIb.out w10 w11 σ' HI'.out hK,hM10.out.pS hb11,?_,?_,by simp;omega⟩
      ·show a11 ≠ none->_
       intro ha hj
       have h1:=HJ.out w10 σ' _ HI'.out hj
       have h2 : db aq (ablk a11):=by
        by_cases h0 : aq=none
        ·exact .inl h0
        ·exact .inr λe=>Hapz.out h0 (by rw [e];exact hj)
       rcases hap11 _ (Nat.lt_of_lt_of_le h1 hbn.size) h2 with h3 | h3
       ·exact ha h3
       ·exact h3 rfl
      ·show _=_
       rw [Hkb2.out,Hval.out]
     case measure=>simp [intOf] <;> omega
    ·have hfe' : (fe != 0)=true:=by simpa using hfe
     have Hk2 : Hid (KB=(fe,[])):=by show _=_;rw [Hkb2.out,if_neg hfe]
     have Hfe:=Z5 hfe
     clear hfe hval
     go_wp2_with fail
     go_ret
     exact ⟨σ',HI'.out,hM10.out,by rw [Hk2.out];rfl,λh0=>absurd (by rw [Hk2.out] at h0;exact h0) Hfe.out⟩
  ·obtain rfl : k=nt:=by omega
   have Hf : Hid (KB=(0,val σ)):=by
    show _=_
    rw [hkb.out,List.drop_of_length_le (by rw [Htl.out];exact Nat.le_refl _),List.filter_nil,iF]
   go_wp2_with fail
   go_ret
   exact ⟨σ,hI.out,hM.out,by rw [Hf.out];rfl,λ_=>by rw [Hf.out]⟩
def um (n : Nat) (Q : Lz) (L : Ll) (w : World) (e : Ending) (w' : World) : Prop :=
 ∃a1 c1,e = .returned (.tuple #[.agg #[.int .i64 Q.length,.slice a1 n c1],.int .i64 0])/\bN w.heap.size w' a1 n (L.map (aG Q))/\Below w.heap.size w w'
theorem mE (P M : Int) (am : OA) (mn cm : Nat) (mod : Lz) (m : Nat) (a : OA) (n c : Nat) (L : Ll) (ao : OA) (no co : Nat) (Q : Lz) (w : World) (hmod : Ints w am mn mod) (hi : bZ w a n L) (hq : Ints w ao no Q)
  (hE : aL P M mod m L=0) (hQ : qp m Q) (hno : no<=256) :
  Calls Tryz.prog 155 #[.agg #[.int .i64 P,.int .i64 M,.slice am mn cm],.agg #[.int .i64 m,.slice a n c],.slice ao no co] w (um n Q L w):=by
 have Hlen:=Z5 hi.len
 have Hql:=Z5 hq.len
 have hplq:=hq.pl
 have hpla:=hi.pl
 obtain ⟨N',e,hm1,hm64,F,hR⟩:=ba hE
 obtain rfl : m=N':=by omega
 have hL256:=(eJ hE).choose_spec.2.2.2.1
 have hn : n<=256:=by rw [<- hi.len];exact hL256
 obtain ⟨h5,h6⟩:=dY (bh hE).2.2.2
 obtain ⟨hfB,h8⟩:=eg h5
 have HLl : Hid (∀k,k<n->(aj L k).length=m):=λk hk=>(hR.row (i:=k) (by rw [hi.len];exact hk)).1
 have HQ:=Z5 hQ
 obtain ⟨L2,hL2⟩ : ∃L2,L.map (aG Q)=L2:=⟨_,rfl⟩
 have HL2l : Hid (L2.length=n):=by show _=_;rw [<- hL2,List.length_map];exact Hlen.out
 have HLk : Hid (∀k,k<n->L2.take (k+1)=L2.take k ++ [aG Q (aj L k)]):=λk hk=>by
  have hk' : k<L2.length:=by rw [HL2l.out];exact hk
  rw [List.take_succ_eq_append_getElem hk',<- aE hk',<- hL2,ql _ L (by rw [Hlen.out];exact hk)]
 unfold um
 rw [hL2,Hql.out]
 clear hE h5 h6 e hL256 F hR hQ hL2
 go_enter Tryz.func155,Tryz.ntmps155
 go_wp2_with fail
 obtain ⟨W,hW⟩ : ∃W : World,W=((((w.alloc (.cells #[.int .i64 P,.int .i64 M,.slice am mn cm] 24)).alloc (.cells #[.int .i64 m,.slice a n c] 82)).alloc (.cells #[.int .i64 0,.slice none 0 0] 82)).alloc (.cells #[.int .i64 m,.slice a n c] 82)):=⟨_,rfl⟩
 rw [<- hW]
 have hbW : Below w.heap.size w W:=by rw [hW];exact ((((Below.refl _ _).alloc (Nat.le_refl _) _).alloc (by simp) _).alloc (by simp;omega) _).alloc (by simp;omega) _
 have hsW : W.heap.size=w.heap.size+4:=by rw [hW];simp
 have x1 : aV W (w.heap.size+1) [.int .i64 m,.slice a n c]:=by rw [hW];exact ((aV.new _ _ _ (by simp)).alloc _).alloc _
 have x2 : aV W (w.heap.size+1+1) [.int .i64 0,.slice none 0 0]:=by rw [hW];exact (aV.new _ _ _ (by simp)).alloc _
 have q3 : W.cell? ⟨w.heap.size+1+1+1,0,none⟩=some (.int .i64 m)/\W.cell? ⟨w.heap.size+1+1+1,1,none⟩=some (.slice a n c):=by rw [hW];exact ⟨aH _ _ _ (by simp) 0,aH _ _ _ (by simp) 1⟩
 have hMs : vd W (some ⟨w.heap.size+1+1+1,0,none⟩) 1 [((m : Int),L)]:=⟨rfl,λ_=>rfl,by unfold maxLen;omega,λi hi'=>by
  have : i=0:=by simp at hi';omega
  subst this
  exact ⟨a,n,c,by simpa using q3.1,by simpa using q3.2,hi.ah hbW⟩⟩
 have HX:=Z5 (And.intro x1 x2)
 have HsW:=Z5 hsW
 have HbW:=Z5 hbW
 clear hW hsW x1 x2 q3
 refine (lf P M am mn cm mod _ 1 1 _ W (hmod.ah hbW) hMs).mono ?_
 rintro e w1 ⟨hb1,hcase⟩
 rw [jH] at hcase
 rcases hcase with ⟨hB,_⟩ | ⟨_,er,h0,h1,_⟩ | ⟨_,_,b,rfl,hG,hbl⟩
 ·rw [hfB] at hB;exact absurd hB (by decide)
 ·rw [h8] at h1;exact absurd h1.symm h0
 have hbw1:=Below.next hbW hb1
 have r1:=HX.out.1.ah hb1
 have m0:=r1.cell 0 rfl
 have m1:=r1.cell 1 rfl
 have hq1:=hq.ah hbw1
 have d256 : decide ((256 : Int)<no)=false:=by simp;omega
 clear hMs hfB h8 hbW r1 hG hbl
 go_wp2_with fail
 go_loop [35] (λiv=>∃k : Nat,k<=no/\iv = .int .i64 k) (λiv=>no - (intOf iv).toNat)
 case atStart=>exact ⟨0,Nat.zero_le _,rfl⟩
 case round =>
  obtain ⟨k,hk,rfl⟩:=hrel
  by_cases hlt : k<no
  ·have cq:=hq1.cell k hlt
   have hb:=HQ.out k (by rw [Hql.out];exact hlt)
   have e1 : decide (nth Q k<0)=false:=by simp;omega
   have e2 : decide ((m : Int)<=nth Q k)=false:=by simp;omega
   clear hb
   go_wp2_with fail
   go_round
   case rel=>exact ⟨k+1,by omega,by go_num⟩
   case measure=>simp [intOf] <;> omega
  ·obtain rfl : k=no:=by omega
   go_upto_region 12 with fail
   obtain ⟨g,hg⟩ : ∃g,w1.heap.size=g:=⟨_,rfl⟩
   have HG:=Z5 hg
   clear hg
   go_cut [12] (λv wx=>v = .pointer (some ⟨w1.heap.size,0,none⟩)/\kI wx w1.heap.size (.int .i64 k) none 0 0 [] []/\Below w1.heap.size w1 wx)
   case first =>
    go_wp2_with fail
    go_meet
    exact ⟨rfl,kI.start (aV.new w1 [.int .i64 k,.slice none 0 0] _ rfl),an _ _⟩
   obtain ⟨rfl,hO0,hbc⟩:=hcut
   generalize wc=U at *
   have hs3:=HG.out
   rw [hs3] at hO0 ⊢
   have HbU:=Z5 (Below.next hb1 hbc)
   have r1:=HX.out.1.ah HbU.out
   clear m0 m1
   have m0:=r1.cell 0 rfl
   have m1:=r1.cell 1 rfl
   have hgU:=hO0.lt
   have hgW : W.heap.size<=g:=by have:=hb1.size;omega
   have hqU:=hq1.ah hbc
   clear r1 hbc hs3 hq1
   go_wp2_with fail
   clear m0 m1
   go_loopw [55] (λiv wr=>∃(j : Nat) (a1 : OA) (c1 : Nat) (Rr : La),j<=n/\iv = .int .i64 j/\kI wr g (.int .i64 k) a1 j c1 Rr (L2.take j)/\Below g U wr) (λiv _=>n - (intOf iv).toNat)
   case atStart=>exact ⟨0,none,0,[],Nat.zero_le _,rfl,by simpa using hO0,Below.refl _ _⟩
   case round =>
    clear hO0
    obtain ⟨j,a1,c1,Rr,hj,rfl,hO,hbr⟩:=hrel
    have hbWr:=Below.trans HbU.out (hbr.mono hgW)
    have hbwr:=Below.next HbW.out hbWr
    have hgr:=hO.lt
    by_cases hltj : j<n
    ·obtain ⟨ra,rn,rc,hcell,hrow⟩:=(hi.ah hbwr).cell j hltj
     have hrn : rn=m:=by rw [<- hrow.len];exact HLl.out j hltj
     rw [hrn] at hcell hrow
     have Htk:=Z5 (HLk.out j hltj)
     obtain ⟨l,hl⟩ : ∃l,aj L j=l:=⟨_,rfl⟩
     rw [hl] at Htk hrow
     have hplr:=hrow.pl
     obtain ⟨pk,hpk⟩ : ∃pk,aG Q l=pk:=⟨_,rfl⟩
     have Hpk:=Z5 hpk
     have hpl : pk.length=k:=by rw [<- hpk];simp [aG];exact Hql.out
     have Hpl:=Z5 hpl
     clear hl hrn hpk hpl
     go_wp2_with (at_make;refine bV rfl _ _ 22 3 rfl (.int .i64 0) 8 Tryz.underlying22 aX rfl k rfl rfl (by omega) (by unfold maxLen;omega) ?_;intro a5 w5 hown hbel hge hlt5)
     have hown0 : w5.ownsRow wr.heap.size 3 1 (.slice a5 k k) k ((fD pk (List.replicate k 0) 0).map (Value.int .i64)):=by rw [en,List.map_replicate];exact hown
     clear hown hge hlt5 hcell
     generalize wr=X1 at *
     go_loopw [64] (λjv ws=>∃t : Nat,t<=k/\jv = .int .i64 t/\ws.ownsRow X1.heap.size 3 1 (.slice a5 k k) k ((fD pk (List.replicate k 0) t).map (Value.int .i64))/\Below X1.heap.size X1 ws) (λjv _=>k - (intOf jv).toNat)
     case atStart=>exact ⟨0,Nat.zero_le _,rfl,hown0,hbel⟩
     case round =>
      clear hown0 hbel
      obtain ⟨t,ht,rfl,hown,hbs⟩:=hrel
      by_cases hltt : t<k
      ·have hbU1 : Below w.heap.size w wr:=Below.next hbwr hbs
       have cq:=(hq.ah hbU1).cell t hltt
       have hqb:=HQ.out t (by rw [Hql.out];exact hltt)
       obtain ⟨z,hz⟩ : ∃z : Nat,nth Q t=z:=⟨(nth Q t).toNat,by omega⟩
       have hzm : z<m:=by omega
       have cr:=(hrow.ah hbs).cell z hzm
       have Hst : Hid ((fD pk (List.replicate k 0) t).set t (nth l z)=fD pk (List.replicate k 0) (t+1)):=by
        show _=_
        have h1:=dZ pk (List.replicate k 0) t (by rw [Hpl.out,List.length_replicate]) (by rw [List.length_replicate];exact hltt)
        rw [<- Hpk.out,dx Q l (by rw [Hql.out];exact hltt),hz,Int.toNat_natCast] at h1
        rw [<- Hpk.out]
        exact h1
       rw [hz] at cq
       obtain ⟨hints,hmine⟩:=Ints.own hown
       have hpl5:=hints.pl
       have cz:=hints.cell t hltt
       have fz:=(hmine (by omega)).2 t hltt
       have hB:=(hmine (by omega)).1
       clear hz hqb
       go_wp2_with fail
       go_roundw
       case rel =>
        have h:=bC hown t hltt (.int .i64 (nth l z))
        rw [<- List.map_set,Hst.out] at h
        exact ⟨t+1,by omega,by go_num,h,hbs.setCell hB _⟩
       case measure=>simp [intOf] <;> omega
      ·obtain rfl : t=k:=by omega
       rw [fy pk (List.replicate t 0) t (by simp [Hpl.out]) (by simp)] at hown
       have hs:=hO.ah hbs
       have hOk:=hs.om.ah (an wr (.cells #[.slice a5 t t] 22))
       have hcp:=hs.c1
       have hgs:=hs.lt
       go_wp2_with (at_builtin;refine bk rfl _ _ 25 22 rfl (.slice none 0 0) 24 Tryz.underlying25 ch rfl (g+1) a1 j c1 _ rfl hOk.own ⟨wr.heap.size,0,none⟩ 1 (.slice a5 t t) rfl (br wr _ _) rfl (by omega) (by unfold maxLen;omega) (by simp;omega) ?_;intro a6 c6 w6 hown6 hgr6 hap6;have hk6:=(hs.dW hgr6).2.1;have hf6:=(hs.dW hgr6).2.2)
       go_roundw
       case rel =>
        have hra : a5 ≠ none->¬ bL a1 Rr (ablk a5):=λh0 hI=>by
         have h1:=(aR hown h0).1
         have h2:=(hO.om.lt _ hI).2
         omega
        obtain ⟨hP,hbP⟩:=hs.push Hpl.out (aP hown (by omega)) hra hown6 hgr6 hap6
        exact ⟨j+1,a6,c6,_,by omega,by go_num,by rw [Htk.out,Hpk.out];exact hP,Below.trans hbr ((hbs.mono (by omega)).trans hbP)⟩
       case measure=>simp [intOf] <;> omega
    ·obtain rfl : j=n:=by omega
     rw [List.take_of_length_le (by rw [HL2l.out];exact Nat.le_refl _)] at hO
     have g0:=hO.c0
     have g1:=hO.c1
     have z6:=HX.out.2.ah hbWr
     have z0:=z6.cell 0 rfl
     have z1:=z6.cell 1 rfl
     have f0:=z6.frozen 0
     have f1:=z6.frozen 1
     have hs:=HsW.out
     have hMN : bN (g+1) wr a1 j L2:=bN.own hO.om
     have HF:=Z5 (And.intro (((hMN.setCell (p:=⟨w.heap.size+1+1,0,none⟩) (by simp;omega) (.int .i64 k)).setCell (p:=⟨w.heap.size+1+1,1,none⟩) (by simp;omega) (.slice a1 j c1)).mono (show w.heap.size<=g+1 by omega))
      ((hbwr.setCell (p:=⟨w.heap.size+1+1,0,none⟩) (by simp;omega) (.int .i64 k)).setCell (p:=⟨w.heap.size+1+1,1,none⟩) (by simp;omega) (.slice a1 j c1)))
     clear hMN z6 hO
     go_wp2_with fail
     exact bodyPost_ret (v:=.tuple #[.agg #[.int .i64 k,.slice a1 j c1],.int .i64 0]) (by simp [results,Tryz.results155,go_sem,z0,z1]) rfl ⟨a1,c1,rfl,HF.out.1,HF.out.2⟩
theorem iz (f : Lz->Lz) (hf : f []=[]) (L : Ll) (i : Nat) : aj (L.map f) i=f (aj L i):=by
 by_cases h : i<L.length
 ·exact bR f L h
 ·rw [mY (by simpa using h),mY (by omega),hf]
section
variable {O : aQ} {k : Nat}
theorem rG {J : Ll} {c : Nat} (hc : c<k) : ∀f i,findTo (J.map (List.take k)) c i f=findTo J c i f
 | 0,i=>rfl
 | f+1,i=>by
  rw [findTo,findTo,iz _ List.take_nil,jE _ hc,rG hc f (i+1)]
theorem wO {J : Ll} {c : Nat} (hc : c<k) (i : Nat) : bu (J.map (List.take k)) c i=bu J c i:=by
 unfold bu
 rw [List.length_map,rG hc]
theorem uP {pv r : Lz} {c : Nat} (hc : c<k) : bW O (pv.take k) c (r.take k)=(bW O pv c r).take k:=by
 unfold bW
 rw [jE _ hc]
 split
 ·rfl
 ·rw [rO]
theorem pE {J : Ll} {t c : Nat} (hc : c<k) : ∀i,clearTo O t c (J.map (List.take k)) i=(clearTo O t c J i).map (List.take k)
 | 0=>rfl
 | i+1=>by
  rw [clearTo,clearTo,pE hc i]
  split
  ·rfl
  ·rw [iz _ List.take_nil,iz _ List.take_nil,uP hc,List.map_set]
theorem xQ {J : Ll} {t c : Nat} (hc : c<k) : bp O (J.map (List.take k)) t c=(bp O J t c).map (List.take k):=by
 unfold bp
 rw [iz _ List.take_nil,jE _ hc]
 split
 ·rfl
 ·rw [List.map_set,List.map_take]
theorem xC {J : Ll} {t i : Nat} : bm (J.map (List.take k)) t i=(bm J t i).map (List.take k):=by
 unfold bm
 rw [iz _ List.take_nil,iz _ List.take_nil,List.map_set,List.map_set]
theorem Ak {J : Ll} {t i c : Nat} (hc : c<k) : eB O (J.map (List.take k)) t i c=(eB O J t i c).map (List.take k):=by
 have h : ∀J : Ll,clearTo O t c (bp O (J.map (List.take k)) t c) (bp O (J.map (List.take k)) t c).length=(clearTo O t c (bp O J t c) (bp O J t c).length).map (List.take k):=λJ=>by
  rw [xQ hc,List.length_map,pE hc]
 unfold eB
 split
 ·exact h J
 ·rw [xC];exact h _
theorem rI {J : Ll} : ∀c,c<=k->(aA O (J.map (List.take k)) c).1=(aA O J c).1.map (List.take k)/\(aA O (J.map (List.take k)) c).2=(aA O J c).2
 | 0,_=>⟨rfl,rfl⟩
 | c+1,h=>by
  obtain ⟨h1,h2⟩:=rI (J:=J) c (by omega)
  simp only [aA]
  rw [h1,h2,List.length_map,wO (by omega)]
  split
  ·split
   ·exact ⟨h1,h2⟩
   ·exact ⟨Ak (by omega),rfl⟩
  ·exact ⟨h1,h2⟩
end
section
variable {O : aQ} {El : Int->Prop} {m : Nat}
theorem xh (F : cK O El) {L : Ll} (hL : bH El m L) {Q : Lz} (hQ : qp m Q) : (aA O (L.map (aG Q)) Q.length).2.length=(i7 O L Q).length:=by
 refine Rk.same (iI F hL) (GR F hL hQ) (EF F hL Q) λx=>?_
 rw [gV,List.mem_map]
 constructor
 ·rintro ⟨j,hj,rfl⟩;exact ⟨j,List.mem_range.1 hj,rfl⟩
 ·rintro ⟨j,hj,e⟩;exact ⟨j,List.mem_range.2 hj,e⟩
theorem Es (F : cK O El) {L : Ll} (hL : bH El m L) {Q : Lz} (hQ : qp m Q) (hl : Q.length=L.length) (hg : (i7 O L Q).length=Q.length) :
  (aA O (fE (L.map (aG Q)) (dX Q.length)) Q.length).2.length=Q.length:=by
 have hJ:=lY (k:=Q.length) (D:=L.map (aG Q)) (U:=dX Q.length) (by rw [List.length_map,cA];omega) (λr hr=>by
  obtain ⟨s,_,rfl⟩:=List.mem_map.1 hr
  simp [aG])
 have h:=(rI (O:=O) (k:=Q.length) (J:=fE (L.map (aG Q)) (dX Q.length)) Q.length (Nat.le_refl _)).2
 rw [hJ] at h
 rw [<- h,xh F hL hQ,hg]
end
section
open Go.RowKit
end
def gC (O : aQ) (u : Lz) (a : Int) (r : Lz) : Lz:=if a=0 then u else List.zipWith (λy x=>if x=0 then y else O.add y (O.mul a x)) u r
theorem mR (O : aQ) (u : Lz) (a : Int) (r : Lz) (h : r.length=u.length) : (gC O u a r).length=u.length:=by
 unfold gC;split <;> simp [h]
theorem zT (O : aQ) (u : Lz) (a : Int) (r : Lz) (j : Nat) (h : r.length=u.length) (hj : j<u.length) (h0 : a ≠ 0) :
  nth (gC O u a r) j=if nth r j=0 then nth u j else O.add (nth u j) (O.mul a (nth r j)):=by
 unfold gC
 rw [if_neg h0,ai (show j<_ by simp [h];omega),ai hj,ai (show j<r.length by omega)]
 simp
theorem ID {O : aQ} {El : Int->Prop} (hO : sr O El) {u r : Lz} {a : Int} (hu : ∀x ∈ u,El x) (hr : ∀x ∈ r,El x) (ha : El a) (hl : r.length=u.length) : ∀x ∈ gC O u a r,El x:=by
 intro x hx
 by_cases h0 : a=0
 ·unfold gC at hx;rw [if_pos h0] at hx;exact hu x hx
 ·obtain ⟨j,hj,rfl⟩:=List.mem_iff_getElem.1 hx
  rw [mR O u a r hl] at hj
  have h1:=zT O u a r j hl hj h0
  rw [ai (show j<(gC O u a r).length by rw [mR O u a r hl];exact hj)] at h1
  rw [h1]
  split
  ·exact hu _ (aN hj)
  ·exact hO.add _ _ (hu _ (aN hj)) (hO.mul _ _ ha (hr _ (aN (by omega))))
section
open Go.RowKit Go.Shelf
structure WX where
 a : OA
 c : Nat
 l : Lz
structure Ku (V : World) (b : Nat) (G : de) (Bc Bat By Bg Bf l : Nat) (ag : OA) (k cg : Nat) (L : Ll) : Prop where
 gen : V.cell? ⟨Bc,4,none⟩=some (.slice ag k cg)
 kK : bZ V ag k L
 yl : V.cell? ⟨By,0,none⟩=some (.func (.yield l) #[] #[])
 gp : V.cell? ⟨Bg,0,none⟩=some (.pointer (some ⟨b,0,none⟩))
 gf : eD V b G
 fr : V.cell? ⟨Bf,0,none⟩=some (.func (.func 151) #[] #[.pointer (some ⟨Bc,0,none⟩),.pointer (some ⟨Bat,0,none⟩),.pointer (some ⟨By,0,none⟩),.pointer (some ⟨Bg,0,none⟩),.pointer (some ⟨Bf,0,none⟩)])
 lt : Bat<V.heap.size
attribute [local go_sem] Oper.semAt_some
theorem aB.wide {w w' : World} {M I : Nat->Prop} (h : aB w w' M M) (hMI : ∀x,M x->I x) : aB w w' I I :=
 ⟨h.os,h.tape,h.output,h.size,λb hb hI=>h.block b hb λhm=>hI (hMI _ hm),λ_ h=>.inl h⟩
end
def uU (q : Int) (l : Lz) (n : Nat) : Int:=if l.length=n then iH q l else 4
section
open Go.RowKit
end
end Go.Proofs.YtcfmiocdlcapoaaGreat
