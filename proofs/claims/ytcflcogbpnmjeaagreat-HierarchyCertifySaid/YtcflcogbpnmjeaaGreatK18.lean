/-  -/
import Derived.Test.YtcflcogbpnmjeaaGreatK15
import Derived.Test.YtcflcogbpnmjeaaGreatK5
import Derived.Test.YtcflcogbpnmjeaaGreatK7
import Derived.Test.YtcflcogbpnmjeaaGreatK6
import Derived.Test.YtcflcogbpnmjeaaGreatK3
import Derived.Test.YtcflcogbpnmjeaaGreatK11
import Derived.RangeFuncSeq
import Derived.RangeFuncBox
import Derived.RangeFuncLeaves
import Derived.OwnWalkIn
import Derived.TacticsInMore
import Derived.Shelf.RegionOpen
import Derived.WalkKit
import Derived.ProofKit
import Derived.OpenShut
import Derived.ShutString
import Derived.ChangeOld
import Derived.Below
import Derived.Deep.Matrix
import Derived.Test.YtcflcogbpnmjeaaGreatK12
import Derived.Test.YtcflcogbpnmjeaaGreatK9
namespace Go.Proofs.YtcflcogbpnmjeaaGreat
set_option linter.unusedVariables false
set_option linter.unusedSimpArgs false
set_option linter.unusedSectionVars false

section
open Go.RowKit
theorem Moves.then_new {w V V' : World} {I I' : Nat→Prop} (h : Moves w V I I') (g : Below w.heap.size V V') : Moves w V' I I' :=
 ⟨g.os.trans h.os,g.tape.trans h.tape,g.output.trans h.output,Nat.le_trans h.size g.size,fun b hb hi=>(g.block b hb).trans (h.block b hb hi),h.grow⟩
theorem Moves.grown {w w' : World} {K : Nat→Prop} {a : Option Addr} {n c : Nat} (hg : w.grownBy w' (Value.slice a n c).ownBlock) (hK : a ≠ none→K (ablk a)) : Moves w w' K K :=
 ⟨hg.os,hg.tape,hg.output,hg.size,fun b hb hi=>hg.block b hb fun e=>by
  cases a with
  | none=>cases e
  | some ad =>
   have h1 : b=ad.block:=by simpa [Value.ownBlock] using e
   exact hi (h1 ▸ hK (by simp)),fun b hb=>.inl hb⟩
theorem Ints.moves {w w' : World} {I I' : Nat→Prop} {a : Option Addr} {n : Nat} {l : List Int} (h : Ints w a n l) (hM : Moves w w' I I') (hI : 0<n→¬ I (ablk a)) : Ints w' a n l :=
 h.of_block fun hn=>hM.block _ (h.lt hn) (hI hn)
theorem Box.moves {w w' : World} {I I' : Nat→Prop} {b : Nat} {cs : List Value} (h : Box w b cs) (hM : Moves w w' I I') (hI : ¬ I b) : Box w' b cs:=by
 have hb:=hM.block b h.1 hI
 refine ⟨Nat.lt_of_lt_of_le h.1 hM.size,fun i v hv=>(World.cell?_of_block (w:=w) (a:=⟨b,i,none⟩) hb).trans (h.2.1 i v hv),fun i=>?_⟩
 rw [← h.2.2 i]
 unfold World.frozen?
 simp only [hb]
theorem Moves.put (w : World) (b i : Nat) (v : Value) : Moves w (w.setCell ⟨b,i,none⟩ v) (fun x=>x=b) (fun x=>x=b):=by
 have hb0 : Below 0 w (w.setCell ⟨b,i,none⟩ v):=(Below.refl 0 w).setCell (Nat.zero_le _) v
 exact ⟨hb0.os,hb0.tape,hb0.output,hb0.size,fun x hx hI=>Below.heap_setCell _ _ _ _ fun e=>hI e,fun x hx=>.inl hx⟩
end

section
open Go.RowKit
theorem flip_top {L : List (List Int)} {t q i : Nat} (ht : t<L.length) (hq : q<L.length) (hz : nth (nthR L q) i ≠ 0) : nth (nthR (swapRow L t q) t) i ≠ 0:=by
 rw [nthR_swap _ _ _ _ ht hq,flipN]
 by_cases e : t=q
 ·rw [if_pos e,e];exact hz
 ·rw [if_neg e,if_pos rfl];exact hz
theorem find_lt {L : List (List Int)} {i t : Nat} (ht : t≤L.length) (h : findRow L i t ≠ L.length) : t≤findRow L i t∧findRow L i t<L.length∧nth (nthR L (findRow L i t)) i ≠ 0:=by
 have h1:=findRow_bd (c:=i) ht
 refine ⟨h1.1,by omega,?_⟩
 unfold findRow
 refine findTo_stop L i _ _ ?_
 have : findRow L i t<L.length:=by omega
 unfold findRow at this
 omega
theorem lgtPiv_rws {O : FOps} {El : Int→Prop} {m : Nat} (hO : FCl O El) {L : List (List Int)} (hL : Rws El m L) {t q i : Nat} (ht : t<L.length) (hq : q<L.length) (hi : i<m) (hz : nth (nthR L q) i ≠ 0) : Rws El m (lgtPiv O L t q i):=by
 unfold lgtPiv
 have hs:=hL.swap ht hq
 have hr:=hs.row (i:=t) (by rw [swapRow_length];exact ht)
 have hn:=flip_top ht hq hz
 refine Rws.clr hO (hs.set t ⟨by rw [List.length_map];exact hr.1,fun x hx=>?_⟩) (by rw [List.length_set,swapRow_length];exact ht) hi _ (by rw [List.length_set,swapRow_length];exact Nat.le_refl _)
 obtain ⟨x0,hx0,rfl⟩:=List.mem_map.1 hx
 exact hO.mul _ _ (hO.inv _ (hr.2 _ (nth_mem (by rw [hr.1];exact hi))) hn) (hr.2 _ hx0)
theorem lgt_ok {O : FOps} {El : Int→Prop} {m : Nat} (hO : FCl O El) {L : List (List Int)} (hL : Rws El m L) {y t : List Int} (hy : y.length=m∧∀ x ∈ y,El x) (hT : ∀ j,j<t.length→(nth t j).toNat<m) :
  ∀ k,k≤t.length→Rws El m (lgtTo O L y t k).rows∧((lgtTo O L y t k).sum.length=m∧∀ x ∈ (lgtTo O L y t k).sum,El x)∧(lgtTo O L y t k).top≤(lgtTo O L y t k).rows.length
 | 0,_=>⟨hL,hy,Nat.zero_le _⟩
 | k+1,hk=>by
  obtain ⟨h1,h2,h3⟩:=lgt_ok hO hL hy hT k (by omega)
  have hi:=hT k (by omega)
  rw [lgtTo,lgtStep]
  generalize lgtTo O L y t k=st at *
  split
  ·exact ⟨h1,h2,h3⟩
  ·rename_i hne
   obtain ⟨a1,a2,a3⟩:=find_lt h3 hne
   have hp:=lgtPiv_rws hO h1 (t:=st.top) (by omega) a2 hi a3
   have hr:=hp.row (i:=st.top) (by rw [lgtPiv_length];omega)
   refine ⟨hp,⟨?_,?_⟩,?_⟩
   ·dsimp only
    rw [clrS_length _ _ _ _ (by rw [hr.1,h2.1])];exact h2.1
   ·exact clrS_el hO h2.2 hr.2 (by rw [hr.1,h2.1]) (by rw [h2.1];exact hi)
   ·dsimp only
    rw [lgtPiv_length];omega
end

section
open Go.RowKit
set_option maxRecDepth 100000 in
set_option maxHeartbeats 8000000 in
theorem exChildrenC_any {σ : Type} (I : World→σ→Prop) (J : σ→Nat→Prop) (val : σ→List (List Int)) (F : List Int→List Int→List (List Int)→Int × List (List Int)) (pb W : Nat)
  (sa : Option Addr) (ns cs : Nat) (s : List Int) (az : Option Addr) (nz cz : Nat) (z : List Int) (at' : Option Addr) (nt ct : Nat) (t : List Int) (w : World) (σ0 : σ)
  (hI0 : I w σ0) (hIb : ∀ V V' σ,I V σ→Moves V V' (fun b=>w.heap.size≤b∧¬ J σ b) (fun b=>w.heap.size≤b∧¬ J σ b)→I V' σ) (hp : w.cell? ⟨pb,9,none⟩=some (.int .i64 W)) (hS : ∀ V σ,I V σ→Ints V sa ns s∧Ints V at' nt t)
  (hJ : ∀ V σ x,I V σ→J σ x→x<V.heap.size) (hz : Ints w az nz z) (htn : t.Nodup) (hns : ns≤1000) (hnz : nz≤1000) (hnt : nt≤1000) (hWs : ns≤W)
  (hF : ns<W→∀ (V : World) (σ : σ) (a1 : Option Addr) (c1 : Nat) (a2 : Option Addr) (c2 k : Nat) (zc : List Int),k<nt→zc=z ++ (t.take k).filter (fun x=>decide (¬ x ∈ z))→¬ nth t k ∈ z→I V σ→Moves w V (J σ0) (J σ) →
   Ints V a1 (ns+1) (s ++ [nth t k])→Ints V a2 zc.length zc→¬ J σ (ablk a1)→(a2 ≠ none→¬ J σ (ablk a2)) →
   Calls Tryz.prog 121 #[.pointer (some ⟨pb,0,none⟩),.slice a1 (ns+1) c1,.slice a2 zc.length c2] V
    fun e V'=>∃ σ',I V' σ'∧Moves V V' (J σ) (J σ')∧e = .returned (.int .i64 (F (s ++ [nth t k]) zc (val σ)).1)∧((F (s ++ [nth t k]) zc (val σ)).1=0→val σ'=(F (s ++ [nth t k]) zc (val σ)).2)) :
  Calls Tryz.prog 166 #[.pointer (some ⟨pb,0,none⟩),.slice sa ns cs,.slice az nz cz,.slice at' nt ct,.func (.func 121) #[.pointer (some ⟨pb,0,none⟩)] #[]] w
   fun e w'=>∃ σ',I w' σ'∧Moves w w' (J σ0) (J σ')∧e = .returned (.int .i64 (kbld F s z (if ns<W then t.filter (fun x=>decide (¬ x ∈ z)) else []) (val σ0)).1) ∧
    ((kbld F s z (if ns<W then t.filter (fun x=>decide (¬ x ∈ z)) else []) (val σ0)).1=0→val σ'=(kbld F s z (if ns<W then t.filter (fun x=>decide (¬ x ∈ z)) else []) (val σ0)).2):=by
 obtain ⟨KB,hKB⟩ : ∃ KB,kbld F s z (if ns<W then t.filter (fun x=>decide (¬ x ∈ z)) else []) (val σ0)=KB:=⟨_,rfl⟩
 rw [hKB]
 have HKB:=Lib.hid hKB
 clear hKB
 have Hzl:=Lib.hid hz.len
 have Htl:=Lib.hid (hS w σ0 hI0).2.len
 have Hsl:=Lib.hid (hS w σ0 hI0).1.len
 have hplt:=(hS w σ0 hI0).2.pl
 have HS:=Lib.hid hS
 have HI0:=Lib.hid hI0
 have HIb:=Lib.hid hIb
 have HJ:=Lib.hid hJ
 have Htn:=Lib.hid htn
 have HF:=Lib.hid hF
 clear hS hI0 hIb hJ htn hF
 by_cases hW : ns=W
 ·have hd : ((ns : Int) == (W : Int))=true:=by simp;omega
  have Hk : Hid (KB=(0,val σ0)):=by
   show _=_
   rw [← HKB.out,if_neg (by omega)];rfl
  go_enter Tryz.func166,Tryz.ntmps166
  clear hW
  go_wp2_with fail
  go_ret
  exact ⟨σ0,HI0.out,Moves.refl _ _,by rw [Hk.out];rfl,fun _=>by rw [Hk.out]⟩
 have hd : ((ns : Int) == (W : Int))=false:=by simp;omega
 have hlW : ns<W:=by omega
 have HKB : Hid (KB=kbld F s z (t.filter (fun x=>decide (¬ x ∈ z))) (val σ0)):=by
  show _=_
  rw [← HKB.out,if_pos hlW]
 have HF:=Lib.hid (HF.out hlW)
 clear hlW hW
 go_enter Tryz.func166,Tryz.ntmps166
 go_wp2_with fail
 refine (clone1_any az nz cz z hz (by omega)).mono ?_
 rintro e w1 ⟨a0,c0,rfl,hown0,hb1⟩
 have hI1:=HIb.out w w1 σ0 HI0.out (Moves.of_below hb1 _)
 go_wp2_with fail
 go_loopw [2,25] (fun zv iv wr=>∃ (k : Nat) (aq : Option Addr) (cq : Nat) (zc : List Int) (σ : σ),k≤nt∧iv = .int .i64 k∧zv = .slice aq zc.length cq∧Hid (zc=z ++ (t.take k).filter (fun x=>decide (¬ x ∈ z))) ∧
   wr.ownsRow w.heap.size 3 1 (.slice aq zc.length cq) zc.length (zc.map (Value.int .i64))∧Hid (I wr σ)∧Hid (Moves w wr (J σ0) (J σ))∧Hid (aq ≠ none→¬ J σ (ablk aq)) ∧
   Hid (KB=kbld F s zc ((t.drop k).filter (fun x=>decide (¬ x ∈ z))) (val σ))∧zc.length≤nz+k)
  (fun _ iv _=>nt - (intOf iv).toNat)
 case atStart =>
  refine ⟨0,a0,c0,z,σ0,Nat.zero_le _,rfl,rfl,?_,hown0,hI1,Moves.of_below hb1 _,?_,?_,by rw [Hzl.out];omega⟩
  ·show _=_;simp
  ·show a0 ≠ none→_
   intro ha hj
   have h1:=HJ.out w σ0 _ HI0.out hj
   have h2:=(own_ne hown0 ha).1
   omega
  ·show _=_;rw [List.drop_zero];exact HKB.out
 case round =>
  obtain ⟨k,aq,cq,zc,σ,hk,rfl,rfl,hzc,hop,hI,hM,hap,hkb,hzn⟩:=hrel
  generalize wr=U at *
  by_cases hlt : k<nt
  ·have htU:=(HS.out U σ hI.out).2
   have hsU:=(HS.out U σ hI.out).1
   have ck:=htU.cell k hlt
   obtain ⟨hzi,_⟩:=Ints.own hop
   have hktl : k<t.length:=by rw [Htl.out];exact hlt
   have Htk:=Lib.hid (show t.take (k+1)=t.take k ++ [nth t k] from take_nth t hktl)
   have Hdk:=Lib.hid (show t.drop k=nth t k :: t.drop (k+1) by rw [nth_getElem hktl];exact List.drop_eq_getElem_cons hktl)
   have Hzm : Hid (nth t k ∈ zc ↔ nth t k ∈ z):=by
    show _ ↔ _
    rw [hzc.out,List.mem_append,List.mem_filter]
    constructor
    ·rintro (h | h)
     ·exact h
     ·exfalso
      have hn : (t.take k ++ t.drop k).Nodup:=by rw [List.take_append_drop];exact Htn.out
      rw [List.nodup_append] at hn
      exact hn.2.2 _ h.1 (nth t k) (by rw [Hdk.out];simp) rfl
    ·exact .inl
   by_cases hmz : nth t k ∈ z
   ·have hmd : decide (nth t k ∈ zc)=true:=by simpa using Hzm.out.2 hmz
    have HcA:=Lib.hid (contains_any aq zc.length cq zc (nth t k) U hzi)
    rw [hmd] at HcA
    have Hzc2 : Hid (zc=z ++ (t.take (k+1)).filter (fun x=>decide (¬ x ∈ z))):=by
     show _=_
     rw [Htk.out,List.filter_append,List.filter_cons_of_neg (by simpa using hmz),List.filter_nil,List.append_nil];exact hzc.out
    have Hkb2 : Hid (KB=kbld F s zc ((t.drop (k+1)).filter (fun x=>decide (¬ x ∈ z))) (val σ)):=by
     show _=_
     rw [hkb.out,Hdk.out,List.filter_cons_of_neg (by simpa using hmz)]
    clear hmz hmd
    go_wp2_with fail
    refine HcA.out.mono ?_
    rintro e w6 ⟨rfl,rfl⟩
    go_wp2_with fail
    go_roundw
    case rel=>exact ⟨k+1,aq,cq,zc,σ,by omega,by go_num,rfl,Hzc2.out,hop,hI.out,hM.out,hap.out,Hkb2.out,by omega⟩
    case measure=>simp [intOf] <;> omega
   ·have hmd : decide (nth t k ∈ zc)=false:=by simpa using fun h=>hmz (Hzm.out.1 h)
    have HcA:=Lib.hid (contains_any aq zc.length cq zc (nth t k) U hzi)
    rw [hmd] at HcA
    have Hzc2 : Hid (zc ++ [nth t k]=z ++ (t.take (k+1)).filter (fun x=>decide (¬ x ∈ z))):=by
     show _=_
     rw [Htk.out,List.filter_append,List.filter_cons_of_pos (by simpa using hmz),List.filter_nil,← List.append_assoc,← hzc.out]
    have Hkb2 : Hid (KB=if (F (s ++ [nth t k]) zc (val σ)).1=0 then kbld F s (zc ++ [nth t k]) ((t.drop (k+1)).filter (fun x=>decide (¬ x ∈ z))) (F (s ++ [nth t k]) zc (val σ)).2 else ((F (s ++ [nth t k]) zc (val σ)).1,[])):=by
     show _=_
     rw [hkb.out,Hdk.out,List.filter_cons_of_pos (by simpa using hmz),kbld]
    have HFk:=Lib.hid (fun V σ a1 c1 a2 c2=>HF.out V σ a1 c1 a2 c2 k zc hlt hzc.out hmz)
    have hszU:=hM.out.size
    clear hmz hmd
    go_wp2_with fail
    refine HcA.out.mono ?_
    rintro e w6 ⟨rfl,rfl⟩
    go_wp2_with fail
    refine (clone1_any sa ns cs s hsU (by omega)).mono ?_
    rintro e w7 ⟨a7,c7,rfl,hown7,hb7⟩
    rw [Hsl.out] at hown7
    rw [Hsl.out]
    obtain ⟨x,hx⟩ : ∃ x,nth t k=x:=⟨_,rfl⟩
    rw [hx] at ck Hzc2 Hkb2 HFk Htk Hdk Hzm HcA ⊢
    have hcn:=cell_new w7 (.int .i64 x) 3
    have hbn:=below1 w7 (.cells #[.int .i64 x] 3)
    go_wp2_with (at_builtin;refine wpList_push rfl _ _ 22 3 rfl (.int .i64 0) 8 Tryz.underlying22 infoInt rfl w6.heap.size a7 ns c7 _ rfl (hown7.alloc _) ⟨w7.heap.size,0,none⟩ 1 (.int .i64 x) rfl hcn rfl (by omega) (by unfold maxLen;omega) (Nat.le_trans hb7.size hbn.size) ?_;intro a8 c8 w8 hown8 hgr8 hap8)
    have hb68 : Below w6.heap.size w6 w8:=Below.app (Below.next hb7 hbn) (hown7.alloc _) hgr8 (Nat.le_refl _) (Nat.le_trans hb7.size hbn.size)
    have own8 : w8.ownsRow w6.heap.size 3 1 (.slice a8 (ns+1) c8) (ns+1) ((s ++ [x]).map (Value.int .i64)):=by simpa using hown8
    have hz8:=hzi.keep hb68
    clear hown7 hown8 hgr8 hap8 hcn hbn
    go_wp2_with fail
    refine (clone1_any aq zc.length cq zc hz8 (by omega)).mono ?_
    rintro e w9 ⟨a9,c9,rfl,hown9,hb9⟩
    have hb69:=Below.next hb68 hb9
    have hI9:=HIb.out w6 w9 σ hI.out (Moves.of_below hb69 _)
    have hM9 : Moves w w9 (J σ0) (J σ):=hM.out.then_new (hb69.mono hszU)
    have hs9:=(Ints.own own8).1.keep hb9
    have hz9:=(Ints.own hown9).1
    have hn8 : ¬ J σ (ablk a8):=fun hj=>by
     have h1:=HJ.out w6 σ _ hI.out hj
     have h2:=(own_lt_pos own8 (by omega)).1
     omega
    have hn9 : a9 ≠ none→¬ J σ (ablk a9):=fun ha hj=>by
     have h1:=HJ.out w6 σ _ hI.out hj
     have h2:=(own_ne hown9 ha).1
     have h3:=hb68.size
     omega
    have hopz:=own_keep hop hb69
    have HCall:=Lib.hid (HFk.out w9 σ a8 c8 a9 c9 hI9 hM9 hs9 hz9 hn8 hn9)
    clear HFk hI9 hs9 hz9 hn8 hn9 hz8 own8 hown9
    generalize F (s ++ [x]) zc (val σ)=FR at *
    obtain ⟨fe,fv⟩:=FR
    dsimp only at HCall Hkb2
    go_wp2_with fail
    refine HCall.out.mono ?_
    rintro e w10 ⟨σ',hI',hM',rfl,hval⟩
    have hM10:=Lib.hid (hM9.trans hM')
    have hapz : aq ≠ none→¬ J σ' (ablk aq):=fun ha=>hM'.not (own_ne hopz ha).2 (hap.out ha)
    have hopq:=hM'.own hopz hap.out
    have Hapz:=Lib.hid hapz
    have HI':=Lib.hid hI'
    clear HCall hM9 hM' hapz hI' hopz
    by_cases hfe : fe=0
    ·have Hval : Hid (val σ'=fv):=hval hfe
     subst hfe
     rw [if_pos rfl] at Hkb2
     have hcn:=cell_new w10 (.int .i64 x) 3
     have hbn:=below1 w10 (.cells #[.int .i64 x] 3)
     have hsz10:=hM10.out.size
     clear hval
     go_wp2_with (at_builtin;refine wpList_push rfl _ _ 22 3 rfl (.int .i64 0) 8 Tryz.underlying22 infoInt rfl w.heap.size aq zc.length cq _ rfl (hopq.alloc _) ⟨w10.heap.size,0,none⟩ 1 (.int .i64 x) rfl hcn rfl (by omega) (by unfold maxLen;omega) (Nat.le_trans hsz10 hbn.size) ?_;intro a11 c11 w11 hown11 hgr11 hap11)
     go_roundw
     case rel =>
      have hb11 : Below w.heap.size w10 w11:=Below.app (hbn.mono hsz10) (hopq.alloc _) hgr11 (Nat.le_refl _) (Nat.le_trans hsz10 hbn.size)
      have hK : Moves w10 w11 (fun b=>w.heap.size≤b∧¬ J σ' b) (fun b=>w.heap.size≤b∧¬ J σ' b):=(Moves.of_below hbn _).trans (Moves.grown hgr11 fun ha=>⟨(own_ne hopq ha).1,Hapz.out ha⟩)
      refine ⟨k+1,a11,c11,zc ++ [x],σ',by omega,by go_num,by simp,Hzc2.out,by simpa using hown11,HIb.out w10 w11 σ' HI'.out hK,hM10.out.then_new hb11,?_,?_,by simp;omega⟩
      ·show a11 ≠ none→_
       intro ha hj
       have h1:=HJ.out w10 σ' _ HI'.out hj
       have h2 : Apt aq (ablk a11):=by
        by_cases h0 : aq=none
        ·exact .inl h0
        ·exact .inr fun e=>Hapz.out h0 (by rw [e];exact hj)
       rcases hap11 _ (Nat.lt_of_lt_of_le h1 hbn.size) h2 with h3 | h3
       ·exact ha h3
       ·exact h3 rfl
      ·show _=_
       rw [Hkb2.out,Hval.out]
     case measure=>simp [intOf] <;> omega
    ·have hfe' : (fe != 0)=true:=by simpa using hfe
     have Hk2 : Hid (KB=(fe,[])):=by show _=_;rw [Hkb2.out,if_neg hfe]
     have Hfe:=Lib.hid hfe
     clear hfe hval
     go_wp2_with fail
     go_ret
     exact ⟨σ',HI'.out,hM10.out,by rw [Hk2.out];rfl,fun h0=>absurd (by rw [Hk2.out] at h0;exact h0) Hfe.out⟩
  ·obtain rfl : k=nt:=by omega
   have Hf : Hid (KB=(0,val σ)):=by
    show _=_
    rw [hkb.out,List.drop_of_length_le (by rw [Htl.out];exact Nat.le_refl _),List.filter_nil,kbld]
   go_wp2_with fail
   go_ret
   exact ⟨σ,hI.out,hM.out,by rw [Hf.out];rfl,fun _=>by rw [Hf.out]⟩
end

section
def swp (X : List Int) (j : Nat) : List Int:=(X.set j (nth X (j - 1))).set (j - 1) (nth X j)
theorem swp_nth {X : List Int} {j : Nat} (h0 : 0<j) (hj : j<X.length) (i : Nat) : nth (swp X j) i=if i=j - 1 then nth X j else if i=j then nth X (j - 1) else nth X i:=by
 unfold swp
 rw [nth_set _ _ _ _ (by simp;omega),nth_set _ _ _ _ hj]
def SrtK (X : List Int) (k : Nat) : Prop:=∀ p q,p<q→q<k→nth X p≤nth X q
def SrtJ (X : List Int) (i j : Nat) : Prop:=∀ p q,p<q→q≤i→q ≠ j→nth X p≤nth X q
theorem SrtK.start {X : List Int} {i : Nat} (h : SrtK X i) : SrtJ X i i:=fun p q h1 h2 h3=>h p q h1 (by omega)
theorem SrtJ.step {X : List Int} {i j : Nat} (h : SrtJ X i j) (h0 : 0<j) (hji : j≤i) (hj : j<X.length) (hlt : nth X j<nth X (j - 1)) : SrtJ (swp X j) i (j - 1):=fun p q h1 h2 h3=>by
 rw [swp_nth h0 hj,swp_nth h0 hj]
 by_cases e1 : q=j
 ·subst e1
  rw [if_neg h3,if_pos rfl]
  by_cases e2 : p=q - 1
  ·rw [if_pos e2];omega
  ·rw [if_neg e2,if_neg (by omega)]
   exact h p (q - 1) (by omega) (by omega) (by omega)
 ·rw [if_neg h3,if_neg e1]
  by_cases e2 : p=j - 1
  ·rw [if_pos e2]
   exact h j q (by omega) h2 e1
  ·rw [if_neg e2]
   by_cases e3 : p=j
   ·rw [if_pos e3]
    exact h (j - 1) q (by omega) h2 e1
   ·rw [if_neg e3]
    exact h p q h1 h2 e1
theorem SrtJ.done {X : List Int} {i j : Nat} (h : SrtJ X i j) (hji : j≤i) (hd : j=0∨nth X (j - 1)≤nth X j) : SrtK X (i+1):=fun p q h1 h2=>by
 by_cases e : q=j
 ·subst e
  rcases hd with hd | hd
  ·omega
  ·by_cases e2 : p=q - 1
   ·rw [e2];exact hd
   ·exact Int.le_trans (h p (q - 1) (by omega) (by omega) (by omega)) hd
 ·exact h p q h1 (by omega) e
theorem SrtK.sort {X Q : List Int} {k : Nat} (h : SrtK X k) (hk : X.length≤k) (hp : X.Perm Q) : X=sortL Q:=by
 refine sortL_unique ?_ hp
 rw [List.pairwise_iff_getElem]
 intro i j hi hj hij
 have:=h i j hij (by omega)
 rwa [nth_getElem hi,nth_getElem hj] at this
end

section
open Go.RowKit
set_option maxRecDepth 100000 in
set_option maxHeartbeats 8000000 in
theorem exChildrenB_any {σ : Type} (I : World→σ→Prop) (J : σ→Nat→Prop) (val : σ→List (List Int)) (F : List Int→List Int→List (List Int)→Int × List (List Int)) (pb W : Nat)
  (sa : Option Addr) (ns cs : Nat) (s : List Int) (az : Option Addr) (nz cz : Nat) (z : List Int) (at' : Option Addr) (nt ct : Nat) (t : List Int) (w : World) (σ0 : σ)
  (hI0 : I w σ0) (hIb : ∀ V V' σ,I V σ→Moves V V' (fun b=>w.heap.size≤b∧¬ J σ b) (fun b=>w.heap.size≤b∧¬ J σ b)→I V' σ) (hp : w.cell? ⟨pb,9,none⟩=some (.int .i64 W)) (hS : ∀ V σ,I V σ→Ints V sa ns s∧Ints V at' nt t)
  (hJ : ∀ V σ x,I V σ→J σ x→x<V.heap.size) (hz : Ints w az nz z) (htn : t.Nodup) (hns : ns≤1000) (hnz : nz≤1000) (hnt : nt≤1000) (hWs : ns≤W)
  (hF : ns<W→∀ (V : World) (σ : σ) (a1 : Option Addr) (c1 : Nat) (a2 : Option Addr) (c2 k : Nat) (zc : List Int),k<nt→zc=z ++ (t.take k).filter (fun x=>decide (¬ x ∈ z))→¬ nth t k ∈ z→I V σ→Moves w V (J σ0) (J σ) →
   Ints V a1 (ns+1) (s ++ [nth t k])→Ints V a2 zc.length zc→¬ J σ (ablk a1)→(a2 ≠ none→¬ J σ (ablk a2)) →
   Calls Tryz.prog 120 #[.pointer (some ⟨pb,0,none⟩),.slice a1 (ns+1) c1,.slice a2 zc.length c2] V
    fun e V'=>∃ σ',I V' σ'∧Moves V V' (J σ) (J σ')∧e = .returned (.int .i64 (F (s ++ [nth t k]) zc (val σ)).1)∧((F (s ++ [nth t k]) zc (val σ)).1=0→val σ'=(F (s ++ [nth t k]) zc (val σ)).2)) :
  Calls Tryz.prog 166 #[.pointer (some ⟨pb,0,none⟩),.slice sa ns cs,.slice az nz cz,.slice at' nt ct,.func (.func 120) #[.pointer (some ⟨pb,0,none⟩)] #[]] w
   fun e w'=>∃ σ',I w' σ'∧Moves w w' (J σ0) (J σ')∧e = .returned (.int .i64 (kbld F s z (if ns<W then t.filter (fun x=>decide (¬ x ∈ z)) else []) (val σ0)).1) ∧
    ((kbld F s z (if ns<W then t.filter (fun x=>decide (¬ x ∈ z)) else []) (val σ0)).1=0→val σ'=(kbld F s z (if ns<W then t.filter (fun x=>decide (¬ x ∈ z)) else []) (val σ0)).2):=by
 obtain ⟨KB,hKB⟩ : ∃ KB,kbld F s z (if ns<W then t.filter (fun x=>decide (¬ x ∈ z)) else []) (val σ0)=KB:=⟨_,rfl⟩
 rw [hKB]
 have HKB:=Lib.hid hKB
 clear hKB
 have Hzl:=Lib.hid hz.len
 have Htl:=Lib.hid (hS w σ0 hI0).2.len
 have Hsl:=Lib.hid (hS w σ0 hI0).1.len
 have hplt:=(hS w σ0 hI0).2.pl
 have HS:=Lib.hid hS
 have HI0:=Lib.hid hI0
 have HIb:=Lib.hid hIb
 have HJ:=Lib.hid hJ
 have Htn:=Lib.hid htn
 have HF:=Lib.hid hF
 clear hS hI0 hIb hJ htn hF
 by_cases hW : ns=W
 ·have hd : ((ns : Int) == (W : Int))=true:=by simp;omega
  have Hk : Hid (KB=(0,val σ0)):=by
   show _=_
   rw [← HKB.out,if_neg (by omega)];rfl
  go_enter Tryz.func166,Tryz.ntmps166
  clear hW
  go_wp2_with fail
  go_ret
  exact ⟨σ0,HI0.out,Moves.refl _ _,by rw [Hk.out];rfl,fun _=>by rw [Hk.out]⟩
 have hd : ((ns : Int) == (W : Int))=false:=by simp;omega
 have hlW : ns<W:=by omega
 have HKB : Hid (KB=kbld F s z (t.filter (fun x=>decide (¬ x ∈ z))) (val σ0)):=by
  show _=_
  rw [← HKB.out,if_pos hlW]
 have HF:=Lib.hid (HF.out hlW)
 clear hlW hW
 go_enter Tryz.func166,Tryz.ntmps166
 go_wp2_with fail
 refine (clone1_any az nz cz z hz (by omega)).mono ?_
 rintro e w1 ⟨a0,c0,rfl,hown0,hb1⟩
 have hI1:=HIb.out w w1 σ0 HI0.out (Moves.of_below hb1 _)
 go_wp2_with fail
 go_loopw [2,25] (fun zv iv wr=>∃ (k : Nat) (aq : Option Addr) (cq : Nat) (zc : List Int) (σ : σ),k≤nt∧iv = .int .i64 k∧zv = .slice aq zc.length cq∧Hid (zc=z ++ (t.take k).filter (fun x=>decide (¬ x ∈ z))) ∧
   wr.ownsRow w.heap.size 3 1 (.slice aq zc.length cq) zc.length (zc.map (Value.int .i64))∧Hid (I wr σ)∧Hid (Moves w wr (J σ0) (J σ))∧Hid (aq ≠ none→¬ J σ (ablk aq)) ∧
   Hid (KB=kbld F s zc ((t.drop k).filter (fun x=>decide (¬ x ∈ z))) (val σ))∧zc.length≤nz+k)
  (fun _ iv _=>nt - (intOf iv).toNat)
 case atStart =>
  refine ⟨0,a0,c0,z,σ0,Nat.zero_le _,rfl,rfl,?_,hown0,hI1,Moves.of_below hb1 _,?_,?_,by rw [Hzl.out];omega⟩
  ·show _=_;simp
  ·show a0 ≠ none→_
   intro ha hj
   have h1:=HJ.out w σ0 _ HI0.out hj
   have h2:=(own_ne hown0 ha).1
   omega
  ·show _=_;rw [List.drop_zero];exact HKB.out
 case round =>
  obtain ⟨k,aq,cq,zc,σ,hk,rfl,rfl,hzc,hop,hI,hM,hap,hkb,hzn⟩:=hrel
  generalize wr=U at *
  by_cases hlt : k<nt
  ·have htU:=(HS.out U σ hI.out).2
   have hsU:=(HS.out U σ hI.out).1
   have ck:=htU.cell k hlt
   obtain ⟨hzi,_⟩:=Ints.own hop
   have hktl : k<t.length:=by rw [Htl.out];exact hlt
   have Htk:=Lib.hid (show t.take (k+1)=t.take k ++ [nth t k] from take_nth t hktl)
   have Hdk:=Lib.hid (show t.drop k=nth t k :: t.drop (k+1) by rw [nth_getElem hktl];exact List.drop_eq_getElem_cons hktl)
   have Hzm : Hid (nth t k ∈ zc ↔ nth t k ∈ z):=by
    show _ ↔ _
    rw [hzc.out,List.mem_append,List.mem_filter]
    constructor
    ·rintro (h | h)
     ·exact h
     ·exfalso
      have hn : (t.take k ++ t.drop k).Nodup:=by rw [List.take_append_drop];exact Htn.out
      rw [List.nodup_append] at hn
      exact hn.2.2 _ h.1 (nth t k) (by rw [Hdk.out];simp) rfl
    ·exact .inl
   by_cases hmz : nth t k ∈ z
   ·have hmd : decide (nth t k ∈ zc)=true:=by simpa using Hzm.out.2 hmz
    have HcA:=Lib.hid (contains_any aq zc.length cq zc (nth t k) U hzi)
    rw [hmd] at HcA
    have Hzc2 : Hid (zc=z ++ (t.take (k+1)).filter (fun x=>decide (¬ x ∈ z))):=by
     show _=_
     rw [Htk.out,List.filter_append,List.filter_cons_of_neg (by simpa using hmz),List.filter_nil,List.append_nil];exact hzc.out
    have Hkb2 : Hid (KB=kbld F s zc ((t.drop (k+1)).filter (fun x=>decide (¬ x ∈ z))) (val σ)):=by
     show _=_
     rw [hkb.out,Hdk.out,List.filter_cons_of_neg (by simpa using hmz)]
    clear hmz hmd
    go_wp2_with fail
    refine HcA.out.mono ?_
    rintro e w6 ⟨rfl,rfl⟩
    go_wp2_with fail
    go_roundw
    case rel=>exact ⟨k+1,aq,cq,zc,σ,by omega,by go_num,rfl,Hzc2.out,hop,hI.out,hM.out,hap.out,Hkb2.out,by omega⟩
    case measure=>simp [intOf] <;> omega
   ·have hmd : decide (nth t k ∈ zc)=false:=by simpa using fun h=>hmz (Hzm.out.1 h)
    have HcA:=Lib.hid (contains_any aq zc.length cq zc (nth t k) U hzi)
    rw [hmd] at HcA
    have Hzc2 : Hid (zc ++ [nth t k]=z ++ (t.take (k+1)).filter (fun x=>decide (¬ x ∈ z))):=by
     show _=_
     rw [Htk.out,List.filter_append,List.filter_cons_of_pos (by simpa using hmz),List.filter_nil,← List.append_assoc,← hzc.out]
    have Hkb2 : Hid (KB=if (F (s ++ [nth t k]) zc (val σ)).1=0 then kbld F s (zc ++ [nth t k]) ((t.drop (k+1)).filter (fun x=>decide (¬ x ∈ z))) (F (s ++ [nth t k]) zc (val σ)).2 else ((F (s ++ [nth t k]) zc (val σ)).1,[])):=by
     show _=_
     rw [hkb.out,Hdk.out,List.filter_cons_of_pos (by simpa using hmz),kbld]
    have HFk:=Lib.hid (fun V σ a1 c1 a2 c2=>HF.out V σ a1 c1 a2 c2 k zc hlt hzc.out hmz)
    have hszU:=hM.out.size
    clear hmz hmd
    go_wp2_with fail
    refine HcA.out.mono ?_
    rintro e w6 ⟨rfl,rfl⟩
    go_wp2_with fail
    refine (clone1_any sa ns cs s hsU (by omega)).mono ?_
    rintro e w7 ⟨a7,c7,rfl,hown7,hb7⟩
    rw [Hsl.out] at hown7
    rw [Hsl.out]
    obtain ⟨x,hx⟩ : ∃ x,nth t k=x:=⟨_,rfl⟩
    rw [hx] at ck Hzc2 Hkb2 HFk Htk Hdk Hzm HcA ⊢
    have hcn:=cell_new w7 (.int .i64 x) 3
    have hbn:=below1 w7 (.cells #[.int .i64 x] 3)
    go_wp2_with (at_builtin;refine wpList_push rfl _ _ 22 3 rfl (.int .i64 0) 8 Tryz.underlying22 infoInt rfl w6.heap.size a7 ns c7 _ rfl (hown7.alloc _) ⟨w7.heap.size,0,none⟩ 1 (.int .i64 x) rfl hcn rfl (by omega) (by unfold maxLen;omega) (Nat.le_trans hb7.size hbn.size) ?_;intro a8 c8 w8 hown8 hgr8 hap8)
    have hb68 : Below w6.heap.size w6 w8:=Below.app (Below.next hb7 hbn) (hown7.alloc _) hgr8 (Nat.le_refl _) (Nat.le_trans hb7.size hbn.size)
    have own8 : w8.ownsRow w6.heap.size 3 1 (.slice a8 (ns+1) c8) (ns+1) ((s ++ [x]).map (Value.int .i64)):=by simpa using hown8
    have hz8:=hzi.keep hb68
    clear hown7 hown8 hgr8 hap8 hcn hbn
    go_wp2_with fail
    refine (clone1_any aq zc.length cq zc hz8 (by omega)).mono ?_
    rintro e w9 ⟨a9,c9,rfl,hown9,hb9⟩
    have hb69:=Below.next hb68 hb9
    have hI9:=HIb.out w6 w9 σ hI.out (Moves.of_below hb69 _)
    have hM9 : Moves w w9 (J σ0) (J σ):=hM.out.then_new (hb69.mono hszU)
    have hs9:=(Ints.own own8).1.keep hb9
    have hz9:=(Ints.own hown9).1
    have hn8 : ¬ J σ (ablk a8):=fun hj=>by
     have h1:=HJ.out w6 σ _ hI.out hj
     have h2:=(own_lt_pos own8 (by omega)).1
     omega
    have hn9 : a9 ≠ none→¬ J σ (ablk a9):=fun ha hj=>by
     have h1:=HJ.out w6 σ _ hI.out hj
     have h2:=(own_ne hown9 ha).1
     have h3:=hb68.size
     omega
    have hopz:=own_keep hop hb69
    have HCall:=Lib.hid (HFk.out w9 σ a8 c8 a9 c9 hI9 hM9 hs9 hz9 hn8 hn9)
    clear HFk hI9 hs9 hz9 hn8 hn9 hz8 own8 hown9
    generalize F (s ++ [x]) zc (val σ)=FR at *
    obtain ⟨fe,fv⟩:=FR
    dsimp only at HCall Hkb2
    go_wp2_with fail
    refine HCall.out.mono ?_
    rintro e w10 ⟨σ',hI',hM',rfl,hval⟩
    have hM10:=Lib.hid (hM9.trans hM')
    have hapz : aq ≠ none→¬ J σ' (ablk aq):=fun ha=>hM'.not (own_ne hopz ha).2 (hap.out ha)
    have hopq:=hM'.own hopz hap.out
    have Hapz:=Lib.hid hapz
    have HI':=Lib.hid hI'
    clear HCall hM9 hM' hapz hI' hopz
    by_cases hfe : fe=0
    ·have Hval : Hid (val σ'=fv):=hval hfe
     subst hfe
     rw [if_pos rfl] at Hkb2
     have hcn:=cell_new w10 (.int .i64 x) 3
     have hbn:=below1 w10 (.cells #[.int .i64 x] 3)
     have hsz10:=hM10.out.size
     clear hval
     go_wp2_with (at_builtin;refine wpList_push rfl _ _ 22 3 rfl (.int .i64 0) 8 Tryz.underlying22 infoInt rfl w.heap.size aq zc.length cq _ rfl (hopq.alloc _) ⟨w10.heap.size,0,none⟩ 1 (.int .i64 x) rfl hcn rfl (by omega) (by unfold maxLen;omega) (Nat.le_trans hsz10 hbn.size) ?_;intro a11 c11 w11 hown11 hgr11 hap11)
     go_roundw
     case rel =>
      have hb11 : Below w.heap.size w10 w11:=Below.app (hbn.mono hsz10) (hopq.alloc _) hgr11 (Nat.le_refl _) (Nat.le_trans hsz10 hbn.size)
      have hK : Moves w10 w11 (fun b=>w.heap.size≤b∧¬ J σ' b) (fun b=>w.heap.size≤b∧¬ J σ' b):=(Moves.of_below hbn _).trans (Moves.grown hgr11 fun ha=>⟨(own_ne hopq ha).1,Hapz.out ha⟩)
      refine ⟨k+1,a11,c11,zc ++ [x],σ',by omega,by go_num,by simp,Hzc2.out,by simpa using hown11,HIb.out w10 w11 σ' HI'.out hK,hM10.out.then_new hb11,?_,?_,by simp;omega⟩
      ·show a11 ≠ none→_
       intro ha hj
       have h1:=HJ.out w10 σ' _ HI'.out hj
       have h2 : Apt aq (ablk a11):=by
        by_cases h0 : aq=none
        ·exact .inl h0
        ·exact .inr fun e=>Hapz.out h0 (by rw [e];exact hj)
       rcases hap11 _ (Nat.lt_of_lt_of_le h1 hbn.size) h2 with h3 | h3
       ·exact ha h3
       ·exact h3 rfl
      ·show _=_
       rw [Hkb2.out,Hval.out]
     case measure=>simp [intOf] <;> omega
    ·have hfe' : (fe != 0)=true:=by simpa using hfe
     have Hk2 : Hid (KB=(fe,[])):=by show _=_;rw [Hkb2.out,if_neg hfe]
     have Hfe:=Lib.hid hfe
     clear hfe hval
     go_wp2_with fail
     go_ret
     exact ⟨σ',HI'.out,hM10.out,by rw [Hk2.out];rfl,fun h0=>absurd (by rw [Hk2.out] at h0;exact h0) Hfe.out⟩
  ·obtain rfl : k=nt:=by omega
   have Hf : Hid (KB=(0,val σ)):=by
    show _=_
    rw [hkb.out,List.drop_of_length_le (by rw [Htl.out];exact Nat.le_refl _),List.filter_nil,kbld]
   go_wp2_with fail
   go_ret
   exact ⟨σ,hI.out,hM.out,by rw [Hf.out];rfl,fun _=>by rw [Hf.out]⟩
end

section
open Go.RowKit
set_option maxRecDepth 100000 in
set_option maxHeartbeats 4000000 in
theorem kernelM_any (P M : Int) (am : Option Addr) (mn cm : Nat) (mod : List Int) (m : Nat) (a : Option Addr) (n c : Nat) (L : List (List Int)) (w : World) (hmod : Ints w am mn mod) (hi : Mat w a n L) (h5 : fmatE P M mod m L=0) (hm64 : m≤256) :
  Calls Tryz.prog 94 #[.agg #[.int .i64 P,.int .i64 M,.slice am mn cm],.agg #[.int .i64 m,.slice a n c]] w (KerPost (tblOf P M.toNat mod) L m w):=by
 have Hlen:=Lib.hid hi.len
 obtain ⟨hfB,h8⟩:=fmatE_zero h5
 have F:=fieldB_fld hfB
 obtain ⟨m0,em0,_,hL256,hR0⟩:=matE_zero h8
 obtain rfl : m=m0:=by omega
 have hR : Rws (tblOf P M.toNat mod).El m L:=hR0
 have hn : n≤256:=by rw [← hi.len];exact hL256
 have HR:=Lib.hid hR
 have HF:=Lib.hid F
 clear h5 hR0 em0 hL256
 go_enter Tryz.func94,Tryz.ntmps94
 go_wp2_with fail
 obtain ⟨W,hW⟩ : ∃ W : World,W=((((w.alloc (.cells #[.int .i64 P,.int .i64 M,.slice am mn cm] 24)).alloc (.cells #[.int .i64 m,.slice a n c] 73)).alloc (.cells #[.int .i64 0,.slice none 0 0] 73)).alloc (.cells #[.int .i64 m,.slice a n c] 73)):=⟨_,rfl⟩
 rw [← hW]
 have hbW : Below w.heap.size w W:=by rw [hW];exact ((((Below.refl _ _).alloc (Nat.le_refl _) _).alloc (by simp) _).alloc (by simp;omega) _).alloc (by simp;omega) _
 have hsW : W.heap.size=w.heap.size+4:=by rw [hW];simp
 have q1 : W.cell? ⟨w.heap.size+1,0,none⟩=some (.int .i64 m)∧W.cell? ⟨w.heap.size+1,1,none⟩=some (.slice a n c):=by rw [hW];exact ⟨cell_box (cell_box (cell_alloc_at _ _ _ (by simp) 0) _) _,cell_box (cell_box (cell_alloc_at _ _ _ (by simp) 1) _) _⟩
 have q2 : W.cell? ⟨w.heap.size+1+1,0,none⟩=some (.int .i64 0)∧W.cell? ⟨w.heap.size+1+1,1,none⟩=some (.slice none 0 0)∧W.frozen? ⟨w.heap.size+1+1,0,none⟩=false∧W.frozen? ⟨w.heap.size+1+1,1,none⟩=false:=by
  rw [hW];exact ⟨cell_box (cell_alloc_at _ _ _ (by simp) 0) _,cell_box (cell_alloc_at _ _ _ (by simp) 1) _,frozen_box (by simp) (frozen_at _ _ _ (by simp) 0) _,frozen_box (by simp) (frozen_at _ _ _ (by simp) 1) _⟩
 have q3 : W.cell? ⟨w.heap.size+1+1+1,0,none⟩=some (.int .i64 m)∧W.cell? ⟨w.heap.size+1+1+1,1,none⟩=some (.slice a n c):=by rw [hW];exact ⟨cell_alloc_at _ _ _ (by simp) 0,cell_alloc_at _ _ _ (by simp) 1⟩
 have hiW:=hi.keep hbW
 have hMs : Mats W (some ⟨w.heap.size+1+1+1,0,none⟩) 1 [((m : Int),L)]:=⟨rfl,fun _=>rfl,by unfold maxLen;omega,fun i hi=>by
  have : i=0:=by simp at hi;omega
  subst this
  exact ⟨a,n,c,by simpa using q3.1,by simpa using q3.2,hiW⟩⟩
 have HsW:=Lib.hid hsW
 clear hW hsW
 refine (open_any P M am mn cm mod _ 1 1 _ W (hmod.keep hbW) hMs).mono ?_
 rintro e w1 ⟨hb1,hcase⟩
 have hbw1:=Below.next hbW hb1
 have hq : ∀ V,Below W.heap.size W V→V.cell? ⟨w.heap.size+1,0,none⟩=some (.int .i64 m)∧V.cell? ⟨w.heap.size+1,1,none⟩=some (.slice a n c)∧V.cell? ⟨w.heap.size+1+1,0,none⟩=some (.int .i64 0)∧V.cell? ⟨w.heap.size+1+1,1,none⟩=some (.slice none 0 0)∧V.frozen? ⟨w.heap.size+1+1,0,none⟩=false∧V.frozen? ⟨w.heap.size+1+1,1,none⟩=false:=by
  intro V hV
  have hs:=HsW.out
  exact ⟨cell_keep hV q1.1,cell_keep hV q1.2,cell_keep hV q2.1,cell_keep hV q2.2.1,(hV.frozen (p:=⟨w.heap.size+1+1,0,none⟩) (by simp [hs])).trans q2.2.2.1,(hV.frozen (p:=⟨w.heap.size+1+1,1,none⟩) (by simp [hs])).trans q2.2.2.2⟩
 have Hq:=Lib.hid hq
 clear hq q1 q2 q3
 rw [matsE_one] at hcase
 rcases hcase with ⟨hB,_⟩ | ⟨_,er,h0,h1,_⟩ | ⟨_,_,b,rfl,hG,hbl⟩
 ·rw [hfB] at hB;exact absurd hB (by decide)
 ·rw [h8] at h1;exact absurd h1.symm h0
 obtain ⟨r1,r2,r3,r4,r5,r6⟩:=Hq.out w1 hb1
 have HPost : Hid (∀ a c w',MatN w.heap.size w' a (dualL (tblOf P M.toNat mod) L m).length (dualL (tblOf P M.toNat mod) L m)→Below w.heap.size w w'→KerPost (tblOf P M.toNat mod) L m w (.returned (.tuple #[.agg #[.int .i64 m,.slice a (dualL (tblOf P M.toNat mod) L m).length c],.int .i64 0])) w'):=fun a c w' h1 h2=>⟨a,c,rfl,h1,h2⟩
 obtain ⟨G,hGG⟩ : ∃ G,tblOf P M.toNat mod=G:=⟨_,rfl⟩
 have HGG:=Lib.hid hGG
 rw [hGG] at hG HR HF HPost hR F
 clear h8 hGG hfB
 have Hcan:=Lib.hid (canon_any a n c m L hG (hiW.keep hb1) hR (by omega) (by omega))
 have hRc : Rws G.El m (canS G L m):=canO_rws F hR
 obtain ⟨hPv,hLd⟩:=canO_piv F hR
 have hcl : (canS G L m).length=(pivS G L m).length:=canS_length G L m
 have HPv : Hid (Piv (canS G L m) (pivS G L m) m):=hPv
 have hrws : ∀ k,k≤m→Rws G.El m (kerL G.ops m (canS G L m) (pivS G L m) k):=by
  intro k
  induction k with
  | zero=>intro _ r hr;simp [kerL] at hr
  | succ k ih =>
   intro hk r hr
   rw [kerL] at hr
   split at hr
   ·exact ih (by omega) r hr
   ·rw [List.mem_append,List.mem_singleton] at hr
    rcases hr with hr | rfl
    ·exact ih (by omega) r hr
    ·exact kerTo_vc F hRc hPv hcl (by omega) _ (Nat.le_refl _)
 have Hrws:=Lib.hid hrws
 have hdl : dualL G L m=canS G (kerL G.ops m (canS G L m) (pivS G L m) m) m:=rfl
 have Hdl:=Lib.hid hdl
 have Hcp : Hid (∀ c,c<m→∀ i,i<(pivS G L m).length→G.El (nth (nthR (canS G L m) i) c)):=fun c hc i hi=>Vc.at (hRc.row (by rw [hcl];exact hi)) hc
 have Hrl : Hid (∀ i,i<(pivS G L m).length→(nthR (canS G L m) i).length=m):=fun i hi=>(hRc.row (by rw [hcl];exact hi)).1
 clear hR F hPv hLd hrws hdl
 go_wp2_with fail
 refine Hcan.out.mono ?_
 rintro e w2 ⟨a2,c2,ap,cp,rfl,hM2,hp2,hb2⟩
 have Hkp : Hid (∀ c i,kerTo G.ops m (canS G L m) (pivS G L m) c (i+1)=(kerTo G.ops m (canS G L m) (pivS G L m) c i).set (nth (pivS G L m) i).toNat (G.neg (nth (nthR (canS G L m) i) c))):=fun c i=>rfl
 have Hk0 : Hid (∀ c,kerTo G.ops m (canS G L m) (pivS G L m) c 0=(List.replicate m 0).set c 1):=fun c=>rfl
 have Hplt : Hid (∀ j,j<(pivS G L m).length→0≤nth (pivS G L m) j∧nth (pivS G L m) j<m):=HPv.out.lt
 obtain ⟨R,hRR⟩ : ∃ R,canS G L m=R:=⟨_,rfl⟩
 obtain ⟨Pv,hPP⟩ : ∃ Pv,pivS G L m=Pv:=⟨_,rfl⟩
 rw [hRR,hPP] at Hrws Hdl Hcp Hkp Hk0 Hrl
 rw [hPP] at Hplt hp2 hM2 hcl
 rw [hRR] at hM2 hcl
 rw [hPP]
 clear hRR hPP HPv Hcan
 obtain ⟨t,ht⟩ : ∃ t,Pv.length=t:=⟨_,rfl⟩
 have Ht:=Lib.hid ht
 rw [ht] at hM2 hp2 Hcp Hplt hcl Hrl
 rw [ht]
 have hMM:=hM2.mat
 have hII:=hp2.ints
 have hplP:=hII.pl
 have hplR:=hMM.pl
 have hbw2:=Below.next hbw1 hb2
 have hb12:=Below.next hb1 hb2
 have hG2:=hG.keep hb2
 have hmaxP:=hII.max
 unfold maxLen at hmaxP
 obtain ⟨z1,z2,z3,z4,z5,z6⟩:=Hq.out w2 hb12
 clear ht hM2 hp2 hG r1 r2 r3 r4 r5 r6
 go_wp2_with fail
 go_loopw [10,37] (fun ov iv wr=>∃ (k : Nat) (a1 : Option Addr) (c1 : Nat),k≤m∧iv = .int .i64 k∧ov = .slice a1 (npL Pv k).length c1∧(∃ Rr,OMat wr w2.heap.size a1 (npL Pv k).length c1 Rr (kerL G.ops m R Pv k))∧Below w2.heap.size w2 wr) (fun _ iv _=>m - (intOf iv).toNat)
 case atStart=>exact ⟨0,none,0,Nat.zero_le _,rfl,rfl,⟨[],OMat.nul w2 w2.heap.size⟩,Below.refl _ _⟩
 case round =>
  clear z1 z2 z3 z4 z5 z6
  obtain ⟨k,a1,c1,hk,rfl,rfl,⟨Rr,hO⟩,hbr⟩:=hrel
  have hnk:=npL_le Pv k
  by_cases hlt : k<m
  ·have hcont:=contains_any ap t cp Pv k wr (hII.keep hbr)
   obtain ⟨z1,_,_,_,_,_⟩:=Hq.out wr (Below.next hb12 hbr)
   by_cases hmem : (k : Int) ∈ Pv
   ·have hN : Hid (npL Pv (k+1)=npL Pv k):=by show _=_;rw [npL,if_pos hmem]
    have hKk : Hid (kerL G.ops m R Pv (k+1)=kerL G.ops m R Pv k):=by show _=_;rw [kerL,if_pos hmem]
    rw [show decide ((k : Int) ∈ Pv)=true by simpa using hmem] at hcont
    have Hcont:=Lib.hid hcont
    clear hmem hcont
    go_wp2_with fail
    refine Hcont.out.mono ?_
    rintro e w3 ⟨rfl,rfl⟩
    go_wp2_with fail
    go_roundw
    case rel=>exact ⟨k+1,a1,c1,by omega,by go_num,by rw [hN.out],⟨Rr,by rw [hN.out,hKk.out];exact hO⟩,hbr⟩
    case measure=>simp [intOf] <;> omega
   ·have hN : Hid (npL Pv (k+1)=npL Pv k ++ [k]):=by show _=_;rw [npL,if_neg hmem]
    have hKk : Hid (kerL G.ops m R Pv (k+1)=kerL G.ops m R Pv k ++ [kerTo G.ops m R Pv k t]):=by show _=_;rw [kerL,if_neg hmem,Ht.out]
    rw [show decide ((k : Int) ∈ Pv)=false by simpa using hmem] at hcont
    have Hcont:=Lib.hid hcont
    clear hmem hcont
    go_wp2_with fail
    refine Hcont.out.mono ?_
    rintro e w3 ⟨rfl,rfl⟩
    go_wp2_with (at_make;refine wpList_mk rfl _ _ 22 3 rfl (.int .i64 0) 8 Tryz.underlying22 infoInt rfl m rfl rfl (by omega) (by unfold maxLen;omega) ?_;intro a5 w5 hown5 hbel5 hge5 hlt5;obtain ⟨hi5,hm5⟩:=Ints.own (l:=List.replicate m 0) (by simpa using hown5);have hc5:=hi5.cell k hlt;have hf5:=(hm5 (by omega)).2 k hlt;have hpl5:=hi5.pl)
    have hx0:=own_set hown5 k hlt (.int .i64 1)
    have hx0' : (w5.setCell ⟨ablk a5,aoff a5+k,none⟩ (.int .i64 1)).ownsRow w3.heap.size 3 1 (.slice a5 m m) m ((kerTo G.ops m R Pv k 0).map (Value.int .i64)):=by
     rw [Hk0.out,List.map_set,List.map_replicate];exact hx0
    have hbx0:=hbel5.setCell (p:=⟨ablk a5,aoff a5+k,none⟩) (hm5 (by omega)).1 (.int .i64 1)
    clear hx0 hown5 hbel5 hge5 hlt5 hi5 hm5 hc5 hf5 z1
    go_loopw [51] (fun iv wx=>∃ i : Nat,i≤t∧iv = .int .i64 i∧wx.ownsRow w3.heap.size 3 1 (.slice a5 m m) m ((kerTo G.ops m R Pv k i).map (Value.int .i64))∧Below w3.heap.size w3 wx) (fun iv _=>t - (intOf iv).toNat)
    case atStart=>exact ⟨0,Nat.zero_le _,rfl,hx0',hbx0⟩
    case round =>
     clear hx0' hbx0
     obtain ⟨i,hi',rfl,hown,hbx⟩:=hrel
     by_cases hli : i<t
     ·have hb2x:=Below.next hbr hbx
      have cpi:=(hII.keep hb2x).cell i hli
      have hpb:=Hplt.out i hli
      obtain ⟨z,hz⟩ : ∃ z : Nat,nth Pv i=z:=⟨(nth Pv i).toNat,by omega⟩
      have hzm : z<m:=by omega
      obtain ⟨ra,rn,rc,hcell,hrow⟩:=(hMM.keep hb2x).cell i hli
      have hrn : rn=m:=by rw [← hrow.len];exact Hrl.out i hli
      subst hrn
      have ck:=hrow.cell k hlt
      have hpr:=hrow.pl
      have hel:=Hcp.out k hlt i hli
      have hst : kerTo G.ops rn R Pv k (i+1)=(kerTo G.ops rn R Pv k i).set z (G.neg (nth (nthR R i) k)):=by rw [Hkp.out,hz,Int.toNat_natCast]
      have Hst:=Lib.hid hst
      obtain ⟨x9,hx9⟩ : ∃ x,nth (nthR R i) k=x:=⟨_,rfl⟩
      rw [hx9] at ck hel Hst
      have Hng:=Lib.hid (gNeg x9 (hG2.keep hb2x) hel)
      rw [hz] at cpi
      obtain ⟨hints,hmine⟩:=Ints.own hown
      have hpl5':=hints.pl
      have cz:=hints.cell z hzm
      have fz:=(hmine (by omega)).2 z hzm
      have hB:=(hmine (by omega)).1
      clear hz hpb hst hx9 hel
      go_wp2_with fail
      refine Hng.out.mono ?_
      rintro e w6 ⟨nd,rfl,rfl⟩
      go_wp2_with fail
      go_roundw
      case rel =>
       have h:=own_set (w:=wr.drewN nd) hown z hzm (.int .i64 (G.neg x9))
       rw [← List.map_set,← Hst.out] at h
       exact ⟨i+1,by omega,by go_num,h,(below_drewN hbx nd).setCell hB _⟩
      case measure=>simp [intOf] <;> omega
     ·obtain rfl : i=t:=by omega
      obtain ⟨X,hX⟩ : ∃ X,kerTo G.ops m R Pv k i=X:=⟨_,rfl⟩
      have hXl : X.length=m:=by rw [← hX];exact kerTo_len _ _ _ _ _ _
      rw [hX] at hown hKk
      have HXl:=Lib.hid hXl
      have hO3:=hO.keep (Below.next hbx (below1 wr (.cells #[.slice a5 m m] 22)))
      have hsz:=hbr.size
      have hsx:=hbx.size
      have hs3 : w2.heap.size≤(wr.alloc (.cells #[.slice a5 m m] 22)).heap.size:=by simp;omega
      have hcn:=cell_new wr (.slice a5 m m) 22
      clear hX hXl
      go_wp2_with (at_builtin;refine wpList_push rfl _ _ 25 22 rfl (.slice none 0 0) 24 Tryz.underlying25 infoInts rfl w2.heap.size a1 (npL Pv k).length c1 _ rfl hO3.own ⟨wr.heap.size,0,none⟩ 1 (.slice a5 m m) rfl hcn rfl (by omega) (by unfold maxLen;omega) hs3 ?_;intro a7 c7 w7 hown7 hgr7 hap7)
      go_roundw
      case rel =>
       have hb4 : Below w3.heap.size w3 (wr.alloc (.cells #[.slice a5 m m] 22)):=Below.next hbx (below1 _ _)
       have hown4 : (wr.alloc (.cells #[.slice a5 m m] 22)).ownsRow w2.heap.size 3 1 (.slice a5 X.length m) X.length (X.map (Value.int .i64)):=by
        rw [HXl.out];exact own_mono (own_keep hown (below1 _ _)) hsz
       have hra : a5 ≠ none→¬ OIn a1 Rr (ablk a5):=fun h0 hI=>by
        have h1:=(own_ne hown h0).1
        have h2:=(hO.lt _ hI).2
        omega
       have hP:=OMat.push hO3 hown4 hra (by rw [HXl.out];exact hown7) hgr7 hap7
       have hb5 : Below w2.heap.size w2 w7:=Below.app (Below.next hbr hb4) hO3.own hgr7 (Nat.le_refl _) (Nat.le_trans hsz hb4.size)
       exact ⟨k+1,a7,c7,by omega,by go_num,by rw [hN.out];simp,⟨_,by rw [hN.out,hKk.out,List.length_append];exact hP⟩,hb5⟩
      case measure=>simp [intOf] <;> omega
  ·obtain rfl : k=m:=by omega
   have hbw:=Below.next hbw2 hbr
   have hcan:=canon_any a1 (npL Pv k).length c1 k (kerL G.ops k R Pv k) (hG2.keep hbr) hO.mat (Hrws.out k (Nat.le_refl _)) (by omega) (by omega)
   have Hcan:=Lib.hid hcan
   obtain ⟨z1,z2,z3,z4,z5,z6⟩:=Hq.out wr (Below.next hb12 hbr)
   clear hcan hO
   go_wp2_with fail
   refine Hcan.out.mono ?_
   rintro e w8 ⟨a8,c8,ap8,cp8,rfl,hM8,hp8,hb8⟩
   have hlen8 : (pivS G (kerL G.ops k R Pv k) k).length=(dualL G L k).length:=by rw [Hdl.out,canS_length]
   have hM8' : MatN wr.heap.size w8 a8 (dualL G L k).length (dualL G L k):=by rw [← hlen8,Hdl.out];exact hM8
   rw [hlen8]
   have hbw8:=Below.next hbw hb8
   have hF:=HPost.out a8 c8 ((w8.setCell ⟨w.heap.size+1+1,0,none⟩ (.int .i64 k)).setCell ⟨w.heap.size+1+1,1,none⟩ (.slice a8 (dualL G L k).length c8)) (by
     have hs:=HsW.out
     have hs1:=(Below.next hb12 hbr).size
     exact ((hM8'.setCell (p:=⟨w.heap.size+1+1,0,none⟩) (by simp;omega) _).setCell (p:=⟨w.heap.size+1+1,1,none⟩) (by simp;omega) _).mono (by omega)) ((hbw8.setCell (by simp;omega) _).setCell (by simp;omega) _)
   have HF2:=Lib.hid hF
   clear hF hM8 hp8 hM8' Hcan z1 z2 z3 z4 z5 z6 hlen8
   obtain ⟨z1,z2,z3,z4,z5,z6⟩:=Hq.out w8 (Below.next (Below.next hb12 hbr) hb8)
   generalize (dualL G L k).length=q at *
   go_wp2_with fail
   exact bodyPost_ret (v:=.tuple #[.agg #[.int .i64 k,.slice a8 q c8],.int .i64 0]) (by simp [results,Tryz.results94,go_sem,z3,z4]) rfl (by rw [HGG.out];exact HF2.out)
end

section

end

section
open Go.RowKit Go.Shelf
structure WX where
 a : Option Addr
 c : Nat
 l : List Int
structure WEnv (V : World) (b : Nat) (G : Tbl) (Bc Bat By Bg Bf l : Nat) (ag : Option Addr) (k cg : Nat) (L : List (List Int)) : Prop where
 gen : V.cell? ⟨Bc,4,none⟩=some (.slice ag k cg)
 mat : Mat V ag k L
 yl : V.cell? ⟨By,0,none⟩=some (.func (.yield l) #[] #[])
 gp : V.cell? ⟨Bg,0,none⟩=some (.pointer (some ⟨b,0,none⟩))
 gf : GFw V b G
 fr : V.cell? ⟨Bf,0,none⟩=some (.func (.func 109) #[] #[.pointer (some ⟨Bc,0,none⟩),.pointer (some ⟨Bat,0,none⟩),.pointer (some ⟨By,0,none⟩),.pointer (some ⟨Bg,0,none⟩),.pointer (some ⟨Bf,0,none⟩)])
 lt : Bat<V.heap.size
def AtQ (V : World) (B i : Nat) : Prop:=V.cell? ⟨B,0,none⟩=some (.int .i64 i)∧V.frozen? ⟨B,0,none⟩=false
theorem AtQ.of_block {V V' : World} {B i : Nat} (h : AtQ V B i) (hb : V'.heap[B]? = V.heap[B]?) : AtQ V' B i :=
 ⟨(World.cell?_of_block (w:=V) (a:=⟨B,0,none⟩) hb).trans h.1,(World.frozen?_of_block (w:=V) (a:=⟨B,0,none⟩) hb).trans h.2⟩
theorem AtQ.keep {V V' : World} {B i : Nat} (h : AtQ V B i) (hb : Below V.heap.size V V') : AtQ V' B i:=h.of_block (hb.block _ (World.block_lt_of_cell? _ _ h.1))
attribute [local go_sem] Oper.semAt_some
theorem Moves.wide {w w' : World} {M I : Nat→Prop} (h : Moves w w' M M) (hMI : ∀ x,M x→I x) : Moves w w' I I :=
 ⟨h.os,h.tape,h.output,h.size,fun b hb hI=>h.block b hb fun hm=>hI (hMI _ hm),fun _ h=>.inl h⟩
theorem Moves.setAt (w : World) {I : Nat→Prop} {B : Nat} (hB : I B) (v : Value) : Moves w (w.setCell ⟨B,0,none⟩ v) I I:=by
 have hb0 : Below 0 w (w.setCell ⟨B,0,none⟩ v):=(Below.refl 0 w).setCell (Nat.zero_le _) v
 exact ⟨hb0.os,hb0.tape,hb0.output,hb0.size,fun b hb hI=>Below.heap_setCell _ _ _ _ fun e=>hI (e ▸ hB),fun b hb=>.inl hb⟩
end

section
open Go.RowKit
end

section
open Go.ChangeShapes Go.WideShapes Go.ChangeAt Go.RowKit
theorem Tryz.own : ownKnob Tryz.prog.godebug=none:=by kernel_rfl
theorem Tryz.laid : laidOutB Tryz.prog=true:=by kernel_rfl
section
variable {H : Type} {enc : TypeId × Value→H} {W : World} {held : Bool} {fuel : Nat} {cs : List Value} {x : DataW H × List MemPlace}
theorem add_cell {a : Addr} {v : Value} {i : Nat} (h : W.cell? (a.add i)=some v) : W.cell? ⟨a.block,a.off+i,none⟩=some v:=by
 have hs:=World.cell?_spot h
 obtain ⟨b,o,s⟩:=a
 by_cases h0 : i=0
 ·subst h0
  simp only [Addr.add,if_true] at hs h
  subst hs
  exact h
 ·simpa [Addr.add,h0] using h
theorem plain_of {a : Addr} {v : Value} (h : W.cell? (a.add 0)=some v) : a=⟨a.block,a.off,none⟩:=by
 have hs:=World.cell?_spot h
 obtain ⟨b,o,s⟩:=a
 simp only [Addr.add,if_true] at hs
 subst hs
 rfl
theorem nth_take_getD (l : List Int) (n i : Nat) (h : i<n) : nth (l.take n) i=l.getD i 0:=by
 unfold nth
 simp only [List.getD_eq_getElem?_getD,List.getElem?_take]
 rw [if_pos h]
theorem opened_ints (h : DataW.trod enc Tryz.prog W 0 (fun _=>true) held fuel 22 cs=some x) : ∃ a n c l,cs=[.slice a n c]∧Ints W a n l:=by
 rcases open_ints Tryz.underlying22 Tryz.underlying3 (by kernel_rfl) h with ⟨hcs,_⟩ | ⟨a,len,cap,zs,hcs,_,hl,hm,hz,_,hcell,_⟩
 ·exact ⟨none,0,0,[],hcs,Ints.nil _ _⟩
 ·simp only [if_true] at hz
  refine ⟨some a,len,cap,zs.take len,hcs,⟨by simp;omega,fun h0=>?_,by omega,fun i hi=>?_⟩⟩
  ·exact congrArg some (plain_of (hcell 0 (by omega)))
  ·rw [nth_take_getD _ _ _ hi]
   exact add_cell (hcell i (by omega))
end
section
variable {H : Type} {enc : TypeId × Value→H} {W : World} {held : Bool} {b0 : Nat} {v : Value} {d : DataW H} {p : List MemPlace}
end
end

section
open Go.RowKit
theorem Box.set1 {w : World} {g : Nat} {x y : Value} (h : Box w g [x,y]) (v : Value) : Box (w.setCell ⟨g,1,none⟩ v) g [x,v]:=by
 have k0:=h.cell 0 rfl
 have k1:=h.cell 1 rfl
 refine ⟨by simp;exact h.1,fun i u hu=>?_,fun i=>by rw [World.frozen?_setCell];exact h.frozen i⟩
 match i,hu with
 | 0,hu =>
  obtain rfl : x=u:=by simpa using hu
  rw [World.cell?_setCell_other _ _ _ _ (by simp)]
  exact k0
 | 1,hu =>
  obtain rfl : v=u:=by simpa using hu
  exact World.cell?_setCell_same _ _ _ k1
 | i+2,hu=>simp at hu
theorem OSt.mono {w : World} {B B' : Nat} {a : Option Addr} {k c : Nat} {R : List (Option Addr × Nat)} {T : List (List Int × Int)} (h : OSt w B a k c R T) (hB : B'≤B) : OSt w B' a k c R T:=by
 refine ⟨h.rl,h.tl,⟨h.own.1,?_⟩,fun p hp=>?_⟩
 ·rcases h.own.2 with h2 | ⟨g,cap,cur,hv,hg,r⟩
  ·exact .inl h2
  ·exact .inr ⟨g,cap,cur,hv,Nat.le_trans hB hg,r⟩
 ·obtain ⟨h1,h2,h3⟩:=h.row p hp
  exact ⟨h1,fun hn=>⟨Nat.le_trans hB (h2 hn).1,(h2 hn).2⟩,h3⟩
end

section
open Go.RowKit
end

end Go.Proofs.YtcflcogbpnmjeaaGreat
