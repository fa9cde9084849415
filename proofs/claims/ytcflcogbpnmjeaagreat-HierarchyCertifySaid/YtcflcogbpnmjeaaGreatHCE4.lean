/-  -/
import Derived.Test.YtcflcogbpnmjeaaGreatK9
import Derived.Test.YtcflcogbpnmjeaaGreatHCE2
import Derived.Test.YtcflcogbpnmjeaaGreatK1
import Derived.Test.YtcflcogbpnmjeaaGreatK8
import Derived.Test.YtcflcogbpnmjeaaGreatK11
import Derived.Test.YtcflcogbpnmjeaaGreatHCE1
namespace Go.Proofs.YtcflcogbpnmjeaaGreat
set_option linter.unusedVariables false
set_option linter.unusedSimpArgs false
set_option linter.unusedSectionVars false

section
open Go.RowKit
theorem swapRow_self (L : List (List Int)) (t : Nat) : swapRow L t t=L:=by rw [swapRow,set_nthR,set_nthR]
def RElimPost (O : FOps) (L : List (List Int)) (cols : Nat) (w : World) (e : Ending) (w' : World) : Prop :=
 ∃ a c R ap cp,e = .returned (.tuple #[.slice a L.length c,.slice ap (elimTo O L cols).2.length cp])∧OMat w' w.heap.size a L.length c R (elimTo O L cols).1 ∧
  w'.ownsRow w.heap.size 3 1 (.slice ap (elimTo O L cols).2.length cp) (elimTo O L cols).2.length ((elimTo O L cols).2.map (Value.int .i64))∧Below w.heap.size w w'
set_option maxRecDepth 100000 in
set_option maxHeartbeats 8000000 in
theorem rElim_any (P : Int) (m : Nat) (am : Option Addr) (mn cm : Nat) (mod : List Int) (a : Option Addr) (n c cols len : Nat) (L : List (List Int)) (w : World) (hf : RFld w P m am mn mod) (hi : Mat w a n L)
  (hR : Rws (ElP P m) len L) (hcl : cols≤len) (hlen : len≤1000000) (hn : n≤1000000) (hinv : ∀ p,ElP P m p→p ≠ 0→(invR P m mod p=1 ↔ p=1)) :
  Calls Tryz.prog 175 #[.agg #[.int .i64 P,.int .i64 m,.slice am mn cm],.slice a n c,.int .i64 cols] w (RElimPost (rops P m mod) L cols w):=by
 obtain ⟨O,hO⟩ : ∃ O,rops P m mod=O:=⟨_,rfl⟩
 rw [hO]
 have HO:=Lib.hid hO
 have Hcl : Hid (FCl O (ElP P m)):=by show FCl O _;rw [← hO];exact rcl hf.rf mod
 have Hinv:=Lib.hid hinv
 have Hlen:=Lib.hid hi.len
 have HR:=Lib.hid hR
 have hLl : ∀ l ∈ L,l.length≤1000000:=fun l hl=>by rw [(hR l hl).1];exact hlen
 have HLl:=Lib.hid hLl
 clear hinv hR hLl hO
 have hfin : ∀ w' a' c' R' ap cp Lk Pv,(Lk,Pv)=elimTo O L cols→OMat w' w.heap.size a' n c' R' Lk→w'.ownsRow w.heap.size 3 1 (.slice ap Pv.length cp) Pv.length (Pv.map (Value.int .i64))→Below w.heap.size w w' →
   RElimPost O L cols w (.returned (.tuple #[.slice a' n c',.slice ap Pv.length cp])) w':=by
  intro w' a' c' R' ap cp Lk Pv he h1 h2 h3
  have e1 : (elimTo O L cols).1=Lk:=by rw [← he]
  have e2 : (elimTo O L cols).2=Pv:=by rw [← he]
  refine ⟨a',c',R',ap,cp,?_,?_,?_,h3⟩
  ·rw [e2,Hlen.out]
  ·rw [e1,Hlen.out];exact h1
  ·rw [e2];exact h2
 have Hfin:=Lib.hid hfin
 clear hfin
 go_enter Tryz.func175,Tryz.ntmps175
 go_wp2_with fail
 obtain ⟨W,hW⟩ : ∃ W : World,W=w.alloc (.cells #[.int .i64 P,.int .i64 m,.slice am mn cm] 24):=⟨_,rfl⟩
 rw [← hW]
 have hbW : Below w.heap.size w W:=by rw [hW];exact below1 _ _
 have x0 : Box W w.heap.size [.int .i64 P,.int .i64 m,.slice am mn cm]:=by rw [hW];exact Box.new _ _ _ rfl
 have HX:=Lib.hid x0
 have hfW:=hf.keep hbW
 clear hW x0
 refine (rCopy_any a n c L W (hi.keep hbW) hn HLl.out).mono ?_
 rintro e w1 ⟨a1,c1,R1,rfl,hO1,hb1⟩
 rw [Hlen.out] at hO1 ⊢
 have hS : ∀ V,Below W.heap.size W V→V.cell? ⟨w.heap.size,0,none⟩=some (.int .i64 P)∧V.cell? ⟨w.heap.size,1,none⟩=some (.int .i64 m)∧V.cell? ⟨w.heap.size,2,none⟩=some (.slice am mn cm)∧RFld V P m am mn mod:=by
  intro V hV
  have x1:=HX.out.keep hV
  exact ⟨x1.cell 0 rfl,x1.cell 1 rfl,x1.cell 2 rfl,hfW.keep hV⟩
 have HS:=Lib.hid hS
 have hpl1:=hO1.pl
 clear hS
 go_wp2_with fail
 go_loopw [9,10,11] (fun pv av cv wr=>∃ (k : Nat) (R' : List (Option Addr × Nat)) (ap : Option Addr) (cp : Nat) (Lk : List (List Int)) (Pv : List Int),k≤cols∧cv = .int .i64 k∧av = .int .i64 Pv.length∧pv = .slice ap Pv.length cp ∧
   Hid ((Lk,Pv)=elimTo O L k)∧OMat wr W.heap.size a1 n c1 R' Lk∧wr.ownsRow W.heap.size 3 1 (.slice ap Pv.length cp) Pv.length (Pv.map (Value.int .i64))∧Hid (ap ≠ none→¬ OIn a1 R' (ablk ap)) ∧
   Below W.heap.size W wr∧Rws (ElP P m) len Lk∧Pv.length≤n) (fun _ _ cv _=>cols - (intOf cv).toNat)
 case atStart=>exact ⟨0,R1,none,0,L,[],Nat.zero_le _,rfl,rfl,rfl,rfl,hO1,own_none,fun h=>absurd rfl h,hb1,HR.out,Nat.zero_le _⟩
 case round =>
  obtain ⟨k,R',ap,cp,Lk,Pv,hkc,rfl,rfl,rfl,hst,hOr,hop,hoi,hbr,hrw,hPn⟩:=hrel
  generalize wr=V at *
  have HLkn:=Lib.hid hOr.ll
  by_cases hk : k<cols
  ·have hk' : decide ((k : Int)<cols)=true:=by simp;omega
   by_cases hPl : Pv.length<n
   ·have hPl' : decide ((Pv.length : Int)<n)=true:=by simp;omega
    obtain ⟨t,ht⟩ : ∃ t,Pv.length=t:=⟨_,rfl⟩
    have Ht:=Lib.hid ht
    rw [ht] at hPl hPn hop hPl'
    rw [ht]
    clear ht
    go_wp2_with fail
    go_loop [12] (fun kv=>∃ j : Nat,t≤j∧j≤n∧kv = .int .i64 j∧Hid (findRow Lk k t=findRow Lk k j)) (fun kv=>n - (intOf kv).toNat)
    case atStart=>exact ⟨t,Nat.le_refl _,hPn,rfl,rfl⟩
    case round =>
     obtain ⟨j,hj1,hj2,rfl,hfr⟩:=hrel
     by_cases hjn : j<n
     ·have hLj : j<Lk.length:=by rw [HLkn.out];exact hjn
      have hrow:=hrw.row hLj
      have ci:=hOr.cell hjn
      have ri:=hOr.ints hjn
      rw [hrow.1] at ci ri
      have ck:=ri.cell k (by omega)
      have hpr:=ri.pl
      have hkl : (k : Int)<len:=by omega
      have hjn' : decide ((j : Int)<n)=true:=by simp;omega
      have hfs:=findRow_step (c:=k) hLj
      by_cases hz : nth (nthR Lk j) k=0
      ·rw [if_pos hz] at hfs
       have hz' : (nth (nthR Lk j) k == 0)=true:=by simpa using hz
       have Hf : Hid (findRow Lk k t=findRow Lk k (j+1)):=by show _=_;rw [hfr.out,hfs]
       clear hz hfs hrow
       go_wp2_with fail
       go_round
       case rel=>exact ⟨j+1,by omega,by omega,by go_num,Hf.out⟩
       case measure=>simp [intOf] <;> omega
      ·rw [if_neg hz] at hfs
       have hz' : (nth (nthR Lk j) k == 0)=false:=by simpa using hz
       have Hf : Hid (findRow Lk k t=j):=by show _=_;rw [hfr.out,hfs]
       have hjne : ((j : Int) == n)=false:=by simp;omega
       have Hz:=Lib.hid hz
       have Hrow:=Lib.hid hrow
       clear hz hfs hrow
       have ct:=hOr.cell hPl
       have fk:=hOr.frozen hjn
       have ft:=hOr.frozen hPl
       have k3 : (V.setCell ⟨ablk a1,aoff a1+t,none⟩ (.slice (nthA R' j).1 len (nthA R' j).2)).cell? ⟨ablk a1,aoff a1+j,none⟩=some (.slice (nthA R' j).1 len (nthA R' j).2):=by
        by_cases e : j=t
        ·subst e;exact World.cell?_setCell_same _ _ _ ct
        ·rw [World.cell?_setCell_other _ _ _ _ (by simp <;> omega)];exact ci
       have htl : t<Lk.length:=by rw [HLkn.out];exact hPl
       have hrt:=hrw.row htl
       rw [hrt.1] at ct
       have Hrt:=Lib.hid hrt
       clear hrt
       go_upto_region 11 with fail
       go_cut [] (fun wx=>∃ R2,OMat wx W.heap.size a1 n c1 R2 (swapRow Lk t j)∧Moves V wx (OIn a1 R') (OIn a1 R2))
       case first =>
        have hO2:=(hOr.swap hPl hjn).drew
        have hM2:=(hOr.swap_moves hPl hjn (.slice (nthA R' j).1 (nthR Lk j).length (nthA R' j).2) (.slice (nthA R' t).1 (nthR Lk t).length (nthA R' t).2)).drew
        rw [Hrow.out.1,Hrt.out.1] at hO2 hM2
        have HO2:=Lib.hid (And.intro hO2 hM2)
        clear hO2 hM2
        go_region
        all_goals (
         go_wp2_with fail
         go_meet
         exact ⟨_,HO2.out.1,HO2.out.2⟩)
       obtain ⟨R2,hO2,hM2⟩:=hcut
       generalize wc=U at *
       have hbU : Below W.heap.size W U:=hbr.trans (hM2.below (fun b' hb'=>(hOr.lt b' hb').1) hbr.size)
       have hrw1:=hrw.swap htl hLj
       have hl1 : (swapRow Lk t j).length=n:=by rw [swapRow_length];exact HLkn.out
       have hnz1 : nth (nthR (swapRow Lk t j) t) k ≠ 0:=by
        rw [nthR_swap _ _ _ _ htl hLj]
        have e : flipN t j t=j:=by unfold flipN;split <;> simp_all
        rw [e];exact Hz.out
       have HL1 : Hid (pivotS O Lk t j k=clearTo O t k (normRow O (swapRow Lk t j) t k) n):=by
        show _=_;rw [pivotS_eq,HLkn.out]
        by_cases e : j=t
        ·rw [if_pos e,e,swapRow_self]
        ·rw [if_neg e]
       obtain ⟨L1,hL1⟩ : ∃ L1,swapRow Lk t j=L1:=⟨_,rfl⟩
       rw [hL1] at hO2 hrw1 hl1 hnz1 HL1
       have hrow1:=hrw1.row (i:=t) (by omega)
       have tr:=hO2.cell hPl
       have ti:=hO2.ints hPl
       rw [hrow1.1] at tr ti
       have tc:=ti.cell k (by omega)
       have tp:=ti.pl
       have hel : ElP P m (nth (nthR L1 t) k):=hrow1.2 _ (nth_mem (by rw [hrow1.1];omega))
       have hiff:=Hinv.out _ hel hnz1
       have hOinv : O.inv (nth (nthR L1 t) k)=invR P m mod (nth (nthR L1 t) k):=by rw [← HO.out];rfl
       have HOinv:=Lib.hid hOinv
       have Hiff:=Lib.hid hiff
       have Hrow1:=Lib.hid hrow1
       have Hl1:=Lib.hid hl1
       have Hnz1:=Lib.hid hnz1
       have hopU:=hM2.own hop hoi.out
       have hoiU : ap ≠ none→¬ OIn a1 R2 (ablk ap):=fun hn=>hM2.not (own_ne hop hn).2 (hoi.out hn)
       have HoiU:=Lib.hid hoiU
       obtain ⟨d0,d1,d2,hfU⟩:=HS.out U hbU
       have hBU:=hbU.size
       clear hL1 hrow1 hl1 hnz1 hiff hOinv hoiU ci ri ck hpr ct fk ft k3 hjn' hz' hop hM2 hOr
       go_upto_if 69 with fail
       go_cut [] (fun wx=>∃ R3,OMat wx W.heap.size a1 n c1 R3 (normRow O L1 t k)∧Moves U wx (OIn a1 R2) (OIn a1 R3))
       case first =>
        by_cases hp1 : nth (nthR L1 t) k=1
        ·have hp1' : (nth (nthR L1 t) k != 1)=false:=by simp [hp1]
         have Hn : Hid (normRow O L1 t k=L1):=by show _=_;rw [normRow,if_pos (by rw [HOinv.out];exact Hiff.out.2 hp1)]
         clear hp1
         go_wp2_with fail
         go_meet
         exact ⟨R2,by rw [Hn.out];exact hO2,Moves.refl _ _⟩
        ·have hp1' : (nth (nthR L1 t) k != 1)=true:=by simpa using hp1
         obtain ⟨N,hN⟩ : ∃ N,(nthR L1 t).map (mulR P m mod (invR P m mod (nth (nthR L1 t) k)))=N:=⟨_,rfl⟩
         have Hn : Hid (normRow O L1 t k=L1.set t N):=by
          show _=_;rw [normRow,if_neg (by rw [HOinv.out];exact fun h=>hp1 (Hiff.out.1 h)),HOinv.out,← hN,← HO.out];rfl
         have hQ : ∀ V,Below U.heap.size U V→V.cell? ⟨w.heap.size,0,none⟩=some (.int .i64 P)∧V.cell? ⟨w.heap.size,1,none⟩=some (.int .i64 m)∧V.cell? ⟨w.heap.size,2,none⟩=some (.slice am mn cm) ∧
           V.cell? ⟨ablk a1,aoff a1+t,none⟩=some (.slice (nthA R2 t).1 len (nthA R2 t).2)∧V.cell? ⟨ablk (nthA R2 t).1,aoff (nthA R2 t).1+k,none⟩=some (.int .i64 (nth (nthR L1 t) k))∧V.frozen? ⟨ablk a1,aoff a1+t,none⟩=false∧Below U.heap.size U V :=
          fun V hV=>⟨cell_keep hV d0,cell_keep hV d1,cell_keep hV d2,cell_keep hV tr,cell_keep hV tc,(hO2.keep hV).frozen hPl,hV⟩
         have HQ:=Lib.hid hQ
         have Hin : Hid (∀ V,Below U.heap.size U V→Calls Tryz.prog 210 #[.agg #[.int .i64 P,.int .i64 m,.slice am mn cm],.int .i64 (nth (nthR L1 t) k)] V fun e w'=>e = .returned (.int .i64 (invR P m mod (nth (nthR L1 t) k)))∧Below V.heap.size V w') :=
          fun V hV=>rInv_any P m am mn cm mod _ V (hfU.keep hV) hel
         have Hsc : Hid (∀ V,Below U.heap.size U V→Calls Tryz.prog 209 #[.agg #[.int .i64 P,.int .i64 m,.slice am mn cm],.int .i64 (invR P m mod (nth (nthR L1 t) k)),.slice (nthA R2 t).1 len (nthA R2 t).2] V (NewInts V N)) :=
          fun V hV=>by rw [← hN];exact rScale_any P m am mn cm mod _ _ len _ _ V (hfU.keep hV) (invR_el hf.rf mod _) (ti.keep hV) Hrow1.out.2 hlen
         have HF : Hid (∀ V5 a5 c5,V5.ownsRow U.heap.size 3 1 (.slice a5 N.length c5) N.length (N.map (Value.int .i64))→Below U.heap.size U V5 →
           ∃ R3,OMat (V5.setCell ⟨ablk a1,aoff a1+t,none⟩ (.slice a5 N.length c5)) W.heap.size a1 n c1 R3 (normRow O L1 t k)∧Moves U (V5.setCell ⟨ablk a1,aoff a1+t,none⟩ (.slice a5 N.length c5)) (OIn a1 R2) (OIn a1 R3)) :=
          fun V5 a5 c5 h1 h2=>by rw [Hn.out];exact hO2.newRow hPl h2 hBU h1
         clear hp1 hQ hN
         go_wp2_with fail
         obtain ⟨p,hp⟩ : ∃ p,nth (nthR L1 t) k=p:=⟨_,rfl⟩
         rw [hp] at HQ Hin Hsc
         obtain ⟨iv,hiv⟩ : ∃ iv,invR P m mod p=iv:=⟨_,rfl⟩
         rw [hiv] at Hin Hsc
         rw [hp] at tc
         clear hp hiv
         have hap : ∀ (V : World) (v : Value),(V.setCell ⟨ablk a1,aoff a1+t,none⟩ v).cell? ⟨ablk (nthA R2 t).1,aoff (nthA R2 t).1+k,none⟩=V.cell? ⟨ablk (nthA R2 t).1,aoff (nthA R2 t).1+k,none⟩:=fun V v=>by
          refine World.cell?_setCell_other _ _ _ _ fun e=>?_
          have h0 : (nthA R2 t).1 ≠ none:=fun h=>by have:=tp (by omega);rw [h] at this;cases this
          rcases hO2.apt t hPl with h1 | h1
          ·exact h0 h1
          ·have h2:=congrArg Addr.block e
           simp at h2
           first | exact h1 h2 | exact h1 h2.symm
         have Hap:=Lib.hid hap
         have hBa : U.heap.size≤U.heap.size:=Nat.le_refl _
         have hBlk : W.heap.size≤ablk a1:=(hO2.lt _ (.inl ⟨hO2.ne (by omega),rfl⟩)).1
         have HbU:=Lib.hid hbU
         have HX2 : Hid (∀ V,Below W.heap.size W V→V.cell? ⟨w.heap.size,0,none⟩=some (.int .i64 P)∧V.cell? ⟨w.heap.size,1,none⟩=some (.int .i64 m)∧V.cell? ⟨w.heap.size,2,none⟩=some (.slice am mn cm)):=fun V hV=>⟨(HS.out V hV).1,(HS.out V hV).2.1,(HS.out V hV).2.2.1⟩
         clear hap
         refine wp_region_K (fun V=>V.cell? ⟨w.heap.size,0,none⟩=some (.int .i64 P)∧V.cell? ⟨w.heap.size,1,none⟩=some (.int .i64 m)∧V.cell? ⟨w.heap.size,2,none⟩=some (.slice am mn cm)∧V.cell? ⟨ablk a1,aoff a1+t,none⟩=some (.slice (nthA R2 t).1 len (nthA R2 t).2)∧V.cell? ⟨ablk (nthA R2 t).1,aoff (nthA R2 t).1+k,none⟩=some (.int .i64 p)) 18 (by kernel_rfl) (by exact ⟨d0,d1,d2,tr,tc⟩) fun hI=>?_
         refine wpAnyK_take (i:=0) (v:=?_) rfl (by decide +kernel) (by decide +kernel) (by decide +kernel) (fun _ _ _ h=>h) (Or.inl ⟨by rfl,?_⟩) hI ?_
         rotate_left
         ·intro V hSV;(try dsimp only at hSV);obtain ⟨e0,e1,e2,e3,e4⟩:=hSV;go_simp;(try with_reducible rfl)
         clear hI;intro hI;(try simp only [Act.put,List.setIfInBounds_toArray,List.set_cons_zero,List.set_cons_succ] at hI ⊢)
         refine wpAnyK_take (i:=1) (v:=?_) rfl (by decide +kernel) (by decide +kernel) (by decide +kernel) (fun _ _ _ h=>h) (Or.inl ⟨by rfl,?_⟩) hI ?_
         rotate_left
         ·intro V hSV;(try dsimp only at hSV);obtain ⟨e0,e1,e2,e3,e4⟩:=hSV;go_simp;(try with_reducible rfl)
         clear hI;intro hI;(try simp only [Act.put,List.setIfInBounds_toArray,List.set_cons_zero,List.set_cons_succ] at hI ⊢)
         refine wpAnyK_take (i:=2) (v:=?_) rfl (by decide +kernel) (by decide +kernel) (by decide +kernel) (fun _ _ _ h=>h) (Or.inl ⟨by rfl,?_⟩) hI ?_
         rotate_left
         ·intro V hSV;(try dsimp only at hSV);obtain ⟨e0,e1,e2,e3,e4⟩:=hSV;go_simp;(try with_reducible rfl)
         clear hI;intro hI;(try simp only [Act.put,List.setIfInBounds_toArray,List.set_cons_zero,List.set_cons_succ] at hI ⊢)
         refine wpAnyK_take (i:=3) (v:=?_) rfl (by decide +kernel) (by decide +kernel) (by decide +kernel) (fun _ _ _ h=>h) (Or.inl ⟨by rfl,?_⟩) hI ?_
         rotate_left
         ·intro V hSV;(try dsimp only at hSV);obtain ⟨e0,e1,e2,e3,e4⟩:=hSV;go_simp;(try with_reducible rfl)
         clear hI;intro hI;(try simp only [Act.put,List.setIfInBounds_toArray,List.set_cons_zero,List.set_cons_succ] at hI ⊢)
         refine wpAnyK_take (i:=4) (v:=?_) rfl (by decide +kernel) (by decide +kernel) (by decide +kernel) (fun _ _ _ h=>h) (Or.inl ⟨by rfl,?_⟩) hI ?_
         rotate_left
         ·intro V hSV;(try dsimp only at hSV);obtain ⟨e0,e1,e2,e3,e4⟩:=hSV;go_simp;(try with_reducible rfl)
         clear hI;intro hI;(try simp only [Act.put,List.setIfInBounds_toArray,List.set_cons_zero,List.set_cons_succ] at hI ⊢)
         refine wpAnyK_take (i:=5) (v:=?_) rfl (by decide +kernel) (by decide +kernel) (by decide +kernel) (fun _ _ _ h=>h) (Or.inl ⟨by rfl,?_⟩) hI ?_
         rotate_left
         ·intro V hSV;(try dsimp only at hSV);obtain ⟨e0,e1,e2,e3,e4⟩:=hSV;go_simp;(try with_reducible rfl)
         clear hI;intro hI;(try simp only [Act.put,List.setIfInBounds_toArray,List.set_cons_zero,List.set_cons_succ] at hI ⊢)
         refine wpAnyK_take (i:=6) (v:=?_) rfl (by decide +kernel) (by decide +kernel) (by decide +kernel) (fun _ _ _ h=>h) (Or.inl ⟨by rfl,?_⟩) hI ?_
         rotate_left
         ·intro V hSV;(try dsimp only at hSV);obtain ⟨e0,e1,e2,e3,e4⟩:=hSV;go_simp;(try with_reducible rfl)
         clear hI;intro hI;(try simp only [Act.put,List.setIfInBounds_toArray,List.set_cons_zero,List.set_cons_succ] at hI ⊢)
         refine wpAnyK_take (i:=7) (v:=?_) rfl (by decide +kernel) (by decide +kernel) (by decide +kernel) (fun _ _ _ h=>h) (Or.inl ⟨by rfl,?_⟩) hI ?_
         rotate_left
         ·intro V hSV;(try dsimp only at hSV);obtain ⟨e0,e1,e2,e3,e4⟩:=hSV;go_simp;(try with_reducible rfl)
         clear hI;intro hI;(try simp only [Act.put,List.setIfInBounds_toArray,List.set_cons_zero,List.set_cons_succ] at hI ⊢)
         refine wpAnyK_take (i:=8) (v:=?_) rfl (by decide +kernel) (by decide +kernel) (by decide +kernel) (fun _ _ _ h=>h) (Or.inl ⟨by rfl,?_⟩) hI ?_
         rotate_left
         ·intro V hSV;(try dsimp only at hSV);obtain ⟨e0,e1,e2,e3,e4⟩:=hSV;go_simp;(try with_reducible rfl)
         clear hI;intro hI;(try simp only [Act.put,List.setIfInBounds_toArray,List.set_cons_zero,List.set_cons_succ] at hI ⊢)
         refine wpAnyK_take (i:=9) (v:=?_) rfl (by decide +kernel) (by decide +kernel) (by decide +kernel) (fun _ _ _ h=>h) (Or.inl ⟨by rfl,?_⟩) hI ?_
         rotate_left
         ·intro V hSV;(try dsimp only at hSV);obtain ⟨e0,e1,e2,e3,e4⟩:=hSV;go_simp;(try with_reducible rfl)
         clear hI;intro hI;(try simp only [Act.put,List.setIfInBounds_toArray,List.set_cons_zero,List.set_cons_succ] at hI ⊢)
         refine wpAnyK_take (i:=10) (v:=?_) rfl (by decide +kernel) (by decide +kernel) (by decide +kernel) (fun _ _ _ h=>h) (Or.inl ⟨by rfl,?_⟩) hI ?_
         rotate_left
         ·intro V hSV;(try dsimp only at hSV);obtain ⟨e0,e1,e2,e3,e4⟩:=hSV;go_simp;(try with_reducible rfl)
         clear hI;intro hI;(try simp only [Act.put,List.setIfInBounds_toArray,List.set_cons_zero,List.set_cons_succ] at hI ⊢)
         refine wpAnyK_take (i:=12) (v:=?_) rfl (by decide +kernel) (by decide +kernel) (by decide +kernel) (fun _ _ _ h=>h) (Or.inl ⟨by rfl,?_⟩) hI ?_
         rotate_left
         ·intro V hSV;(try dsimp only at hSV);obtain ⟨e0,e1,e2,e3,e4⟩:=hSV;go_simp;(try with_reducible rfl)
         clear hI;intro hI;(try simp only [Act.put,List.setIfInBounds_toArray,List.set_cons_zero,List.set_cons_succ] at hI ⊢)
         refine wpAnyK_take (i:=13) (v:=?_) rfl (by decide +kernel) (by decide +kernel) (by decide +kernel) (fun _ _ _ h=>h) (Or.inl ⟨by rfl,?_⟩) hI ?_
         rotate_left
         ·intro V hSV;(try dsimp only at hSV);obtain ⟨e0,e1,e2,e3,e4⟩:=hSV;go_simp;(try with_reducible rfl)
         clear hI;intro hI;(try simp only [Act.put,List.setIfInBounds_toArray,List.set_cons_zero,List.set_cons_succ] at hI ⊢)
         refine wpAnyK_take (i:=14) (v:=?_) rfl (by decide +kernel) (by decide +kernel) (by decide +kernel) (fun _ _ _ h=>h) (Or.inl ⟨by rfl,?_⟩) hI ?_
         rotate_left
         ·intro V hSV;(try dsimp only at hSV);obtain ⟨e0,e1,e2,e3,e4⟩:=hSV;go_simp;(try with_reducible rfl)
         clear hI;intro hI;(try simp only [Act.put,List.setIfInBounds_toArray,List.set_cons_zero,List.set_cons_succ] at hI ⊢)
         refine wpAnyK_take (i:=15) (v:=?_) rfl (by decide +kernel) (by decide +kernel) (by decide +kernel) (fun _ _ _ h=>h) (Or.inl ⟨by rfl,?_⟩) hI ?_
         rotate_left
         ·intro V hSV;(try dsimp only at hSV);obtain ⟨e0,e1,e2,e3,e4⟩:=hSV;go_simp;(try with_reducible rfl)
         clear hI;intro hI;(try simp only [Act.put,List.setIfInBounds_toArray,List.set_cons_zero,List.set_cons_succ] at hI ⊢)
         refine wpAnyK_op (i:=11) (by decide +kernel) (by omega) hI.1 rfl (fun K hK=>?_)
         go_simp
         go_at_call 210;((with_reducible refine (Hin.out _ (Below.refl _ _).drew).mono ?_);rintro e w4 ⟨rfl,hb4⟩;obtain ⟨q0,q1,q2,q3,q4,q5,q6⟩:=HQ.out w4 (Below.next (Below.refl _ _).drew hb4))
         refine hK.out _ _ (by exact ⟨q0,q1,q2,q3,q4⟩) (fun hI=>?_)
         clear hK K
         refine wpAnyK_op (i:=16) (by decide +kernel) (by omega) hI.1 rfl (fun K hK=>?_)
         go_simp
         go_at_call 209;((with_reducible refine (Hsc.out _ q6).mono ?_);rintro e w5 ⟨a5,c5,rfl,hown5,hb5⟩;obtain ⟨s0,s1,s2,s3,s4,s5,s6⟩:=HQ.out w5 (Below.next q6 hb5))
         refine hK.out _ _ (by exact ⟨s0,s1,s2,s3,s4⟩) (fun hI=>?_)
         clear hK K
         refine wpAnyK_take (i:=17) (v:=?_) rfl (by decide +kernel) (by decide +kernel) (by decide +kernel) (fun _ _ _ h=>h) (Or.inl ⟨by rfl,?_⟩) hI ?_
         rotate_left
         ·intro V hSV;(try dsimp only at hSV);obtain ⟨e0,e1,e2,e3,e4⟩:=hSV;go_simp;(try with_reducible rfl)
         clear hI;intro hI;(try simp only [Act.put,List.setIfInBounds_toArray,List.set_cons_zero,List.set_cons_succ] at hI ⊢)
         refine wpAnyK_end (i:=18) (by decide +kernel) (by omega) (by decide +kernel) rfl (fun K hK=>?_)
         go_simp
         refine hK.out _ _ ?_
         clear hK K
         have Ho5:=Lib.hid (own_mono hown5 q6.size)
         clear hown5
         go_wp2_with fail
         go_meet
         exact HF.out _ _ _ Ho5.out s6
       obtain ⟨R3,hO3,hM3⟩:=hcut
       generalize wc=T at *
       have hbT : Below W.heap.size W T:=hbU.trans (hM3.below (fun b' hb'=>(hO2.lt b' hb').1) hbU.size)
       have hrw2:=hrw1.norm Hcl.out (t:=t) (c:=k) (by rw [Hl1.out];exact hPl) (by omega) Hnz1.out
       have hl2 : (normRow O L1 t k).length=n:=by rw [normRow_length];exact Hl1.out
       have Hl2:=Lib.hid hl2
       have hopT:=hM3.own hopU HoiU.out
       have hoiT : ap ≠ none→¬ OIn a1 R3 (ablk ap):=fun hn=>hM3.not (own_ne hopU hn).2 (HoiU.out hn)
       have HoiT:=Lib.hid hoiT
       clear hl2 hoiT tr ti tc tp hel d0 d1 d2 hfU hopU hM3
       obtain ⟨L2,hL2⟩ : ∃ L2,normRow O L1 t k=L2:=⟨_,rfl⟩
       rw [hL2] at hO3 hrw2 Hl2 HL1
       clear hL2
       go_wp2_with fail
       go_loopw [13] (fun iv wx=>∃ (i : Nat) (R4 : List (Option Addr × Nat)),i≤n∧iv = .int .i64 i∧OMat wx W.heap.size a1 n c1 R4 (clearTo O t k L2 i)∧Moves T wx (OIn a1 R3) (OIn a1 R4)) (fun iv _=>n - (intOf iv).toNat)
       case atStart=>exact ⟨0,R3,Nat.zero_le _,rfl,hO3,Moves.refl _ _⟩
       case round =>
        obtain ⟨i,R4,hi,rfl,hOi,hMi⟩:=hrel
        generalize wr=X at *
        have hbX : Below W.heap.size W X:=hbT.trans (hMi.below (fun b' hb'=>(hO3.lt b' hb').1) hbT.size)
        obtain ⟨d0,d1,d2,hfX⟩:=HS.out X hbX
        by_cases hin : i<n
        ·have hrwi:=Rws.clear Hcl.out hrw2 (t:=t) (c:=k) (by rw [Hl2.out];exact hPl) (by omega) i (by rw [Hl2.out];exact hi)
         have hli : (clearTo O t k L2 i).length=n:=by rw [clearTo_length];exact Hl2.out
         have hstep : clearTo O t k L2 (i+1)=if i=t then clearTo O t k L2 i else (clearTo O t k L2 i).set i (clearRow O (nthR (clearTo O t k L2 i) t) k (nthR (clearTo O t k L2 i) i)):=rfl
         have Hstep:=Lib.hid hstep
         obtain ⟨Li,hLi⟩ : ∃ Li,clearTo O t k L2 i=Li:=⟨_,rfl⟩
         rw [hLi] at hrwi hli Hstep hOi
         have hri:=hrwi.row (i:=i) (by omega)
         have hrt:=hrwi.row (i:=t) (by omega)
         have ci:=hOi.cell hin
         have ct:=hOi.cell hPl
         have ii:=hOi.ints hin
         have it:=hOi.ints hPl
         rw [hri.1] at ci ii
         rw [hrt.1] at ct it
         have ck:=ii.cell k (by omega)
         have hpi:=ii.pl
         have hxel : ElP P m (nth (nthR Li i) k):=hri.2 _ (nth_mem (by rw [hri.1];omega))
         have Hri:=Lib.hid hri
         have Hrt:=Lib.hid hrt
         clear hri hrt hli hstep hLi
         by_cases hit : i=t
         ·have hit' : ((i : Int) != t)=false:=by simp [hit]
          have Hn : Hid (clearTo O t k L2 (i+1)=Li):=by show _=_;rw [Hstep.out,if_pos hit]
          clear hit
          go_wp2_with fail
          go_roundw
          case rel=>exact ⟨i+1,R4,by omega,by go_num,by rw [Hn.out];exact hOi,hMi⟩
          case measure=>simp [intOf] <;> omega
         ·have hit' : ((i : Int) != t)=true:=by simp;omega
          by_cases hx0 : nth (nthR Li i) k=0
          ·have hx0' : (nth (nthR Li i) k != 0)=false:=by simp [hx0]
           have Hn : Hid (clearTo O t k L2 (i+1)=Li):=by show _=_;rw [Hstep.out,if_neg hit,clearRow,if_pos hx0,set_nthR]
           clear hit hx0
           go_wp2_with fail
           go_roundw
           case rel=>exact ⟨i+1,R4,by omega,by go_num,by rw [Hn.out];exact hOi,hMi⟩
           case measure=>simp [intOf] <;> omega
          ·have hx0' : (nth (nthR Li i) k != 0)=true:=by simpa using hx0
           obtain ⟨N,hN⟩ : ∃ N,addRow O (nthR Li i) (fneg P m (nth (nthR Li i) k)) (nthR Li t)=N:=⟨_,rfl⟩
           have Hn : Hid (clearTo O t k L2 (i+1)=Li.set i N):=by show _=_;rw [Hstep.out,if_neg hit,clearRow,if_neg hx0,← hN,← HO.out];rfl
           have hQ : ∀ V,Below X.heap.size X V→V.cell? ⟨w.heap.size,0,none⟩=some (.int .i64 P)∧V.cell? ⟨w.heap.size,1,none⟩=some (.int .i64 m)∧V.cell? ⟨w.heap.size,2,none⟩=some (.slice am mn cm) ∧
             V.cell? ⟨ablk a1,aoff a1+i,none⟩=some (.slice (nthA R4 i).1 len (nthA R4 i).2)∧V.cell? ⟨ablk a1,aoff a1+t,none⟩=some (.slice (nthA R4 t).1 len (nthA R4 t).2)∧V.cell? ⟨ablk (nthA R4 i).1,aoff (nthA R4 i).1+k,none⟩=some (.int .i64 (nth (nthR Li i) k))∧V.frozen? ⟨ablk a1,aoff a1+i,none⟩=false∧Below X.heap.size X V :=
            fun V hV=>⟨cell_keep hV d0,cell_keep hV d1,cell_keep hV d2,cell_keep hV ci,cell_keep hV ct,cell_keep hV ck,(hOi.keep hV).frozen hin,hV⟩
           have HQ:=Lib.hid hQ
           have Hng : Hid (∀ V,Below X.heap.size X V→Calls Tryz.prog 176 #[.agg #[.int .i64 P,.int .i64 m,.slice am mn cm],.int .i64 (nth (nthR Li i) k)] V fun e w'=>e = .returned (.int .i64 (fneg P m (nth (nthR Li i) k)))∧Below V.heap.size V w') :=
            fun V hV=>rNeg_any P m am mn cm _ V hf.rf (hf.rf.isQ hxel)
           have Had : Hid (∀ V,Below X.heap.size X V→Calls Tryz.prog 23 #[.agg #[.int .i64 P,.int .i64 m,.slice am mn cm],.slice (nthA R4 i).1 len (nthA R4 i).2,.int .i64 (fneg P m (nth (nthR Li i) k)),.slice (nthA R4 t).1 len (nthA R4 t).2] V (NewInts V N)) :=
            fun V hV=>by rw [← hN,← HO.out];exact rAddTo_any P m am mn cm mod _ len _ _ _ _ _ _ V (hfX.keep hV) (fneg_el hf.rf.res _) (ii.keep hV) (it.keep hV) Hri.out.2 Hrt.out.2 hlen
           have HF : Hid (∀ V5 a5 c5,V5.ownsRow X.heap.size 3 1 (.slice a5 N.length c5) N.length (N.map (Value.int .i64))→Below X.heap.size X V5 →
             ∃ R5,OMat (V5.setCell ⟨ablk a1,aoff a1+i,none⟩ (.slice a5 N.length c5)) W.heap.size a1 n c1 R5 (clearTo O t k L2 (i+1))∧Moves X (V5.setCell ⟨ablk a1,aoff a1+i,none⟩ (.slice a5 N.length c5)) (OIn a1 R4) (OIn a1 R5)) :=
            fun V5 a5 c5 h1 h2=>by rw [Hn.out];exact hOi.newRow hin h2 hbX.size h1
           have Hit:=Lib.hid hit
           clear hit hx0 hQ hN Hn
           obtain ⟨p,hp⟩ : ∃ p,nth (nthR Li i) k=p:=⟨_,rfl⟩
           rw [hp] at HQ Hng Had ck hx0'
           obtain ⟨iv,hiv⟩ : ∃ iv,fneg P m p=iv:=⟨_,rfl⟩
           rw [hiv] at Hng Had
           clear hp hiv
           have hap : ∀ (V : World) (v : Value),(V.setCell ⟨ablk a1,aoff a1+i,none⟩ v).cell? ⟨ablk (nthA R4 i).1,aoff (nthA R4 i).1+k,none⟩=V.cell? ⟨ablk (nthA R4 i).1,aoff (nthA R4 i).1+k,none⟩ ∧
             (V.setCell ⟨ablk a1,aoff a1+i,none⟩ v).cell? ⟨ablk a1,aoff a1+t,none⟩=V.cell? ⟨ablk a1,aoff a1+t,none⟩:=fun V v=>by
            refine ⟨World.cell?_setCell_other _ _ _ _ fun e=>?_,World.cell?_setCell_other _ _ _ _ (by have:=Hit.out;simp <;> omega)⟩
            have h0 : (nthA R4 i).1 ≠ none:=fun h=>by have:=hpi (by omega);rw [h] at this;cases this
            rcases hOi.apt i hin with h1 | h1
            ·exact h0 h1
            ·have h2:=congrArg Addr.block e
             simp at h2
             first | exact h1 h2 | exact h1 h2.symm
           have Hap:=Lib.hid hap
           have hBlk : W.heap.size≤ablk a1:=(hOi.lt _ (.inl ⟨hOi.ne (by omega),rfl⟩)).1
           have HbX:=Lib.hid hbX
           have HX2 : Hid (∀ V,Below W.heap.size W V→V.cell? ⟨w.heap.size,0,none⟩=some (.int .i64 P)∧V.cell? ⟨w.heap.size,1,none⟩=some (.int .i64 m)∧V.cell? ⟨w.heap.size,2,none⟩=some (.slice am mn cm)):=fun V hV=>⟨(HS.out V hV).1,(HS.out V hV).2.1,(HS.out V hV).2.2.1⟩
           clear hap
           go_wp2_with fail
           refine wp_region_K (fun V=>V.cell? ⟨w.heap.size,0,none⟩=some (.int .i64 P)∧V.cell? ⟨w.heap.size,1,none⟩=some (.int .i64 m)∧V.cell? ⟨w.heap.size,2,none⟩=some (.slice am mn cm)∧V.cell? ⟨ablk a1,aoff a1+i,none⟩=some (.slice (nthA R4 i).1 len (nthA R4 i).2)∧V.cell? ⟨ablk a1,aoff a1+t,none⟩=some (.slice (nthA R4 t).1 len (nthA R4 t).2)∧V.cell? ⟨ablk (nthA R4 i).1,aoff (nthA R4 i).1+k,none⟩=some (.int .i64 p)) 22 (by kernel_rfl) (by exact ⟨d0,d1,d2,ci,ct,ck⟩) fun hI=>?_
           refine wpAnyK_take (i:=0) (v:=?_) rfl (by decide +kernel) (by decide +kernel) (by decide +kernel) (fun _ _ _ h=>h) (Or.inl ⟨by rfl,?_⟩) hI ?_
           rotate_left
           ·intro V hSV;(try dsimp only at hSV);obtain ⟨e0,e1,e2,e3,e4,e5⟩:=hSV;go_simp;(try with_reducible rfl)
           clear hI;intro hI;(try simp only [Act.put,List.setIfInBounds_toArray,List.set_cons_zero,List.set_cons_succ] at hI ⊢)
           refine wpAnyK_take (i:=1) (v:=?_) rfl (by decide +kernel) (by decide +kernel) (by decide +kernel) (fun _ _ _ h=>h) (Or.inl ⟨by rfl,?_⟩) hI ?_
           rotate_left
           ·intro V hSV;(try dsimp only at hSV);obtain ⟨e0,e1,e2,e3,e4,e5⟩:=hSV;go_simp;(try with_reducible rfl)
           clear hI;intro hI;(try simp only [Act.put,List.setIfInBounds_toArray,List.set_cons_zero,List.set_cons_succ] at hI ⊢)
           refine wpAnyK_take (i:=2) (v:=?_) rfl (by decide +kernel) (by decide +kernel) (by decide +kernel) (fun _ _ _ h=>h) (Or.inl ⟨by rfl,?_⟩) hI ?_
           rotate_left
           ·intro V hSV;(try dsimp only at hSV);obtain ⟨e0,e1,e2,e3,e4,e5⟩:=hSV;go_simp;(try with_reducible rfl)
           clear hI;intro hI;(try simp only [Act.put,List.setIfInBounds_toArray,List.set_cons_zero,List.set_cons_succ] at hI ⊢)
           refine wpAnyK_take (i:=3) (v:=?_) rfl (by decide +kernel) (by decide +kernel) (by decide +kernel) (fun _ _ _ h=>h) (Or.inl ⟨by rfl,?_⟩) hI ?_
           rotate_left
           ·intro V hSV;(try dsimp only at hSV);obtain ⟨e0,e1,e2,e3,e4,e5⟩:=hSV;go_simp;(try with_reducible rfl)
           clear hI;intro hI;(try simp only [Act.put,List.setIfInBounds_toArray,List.set_cons_zero,List.set_cons_succ] at hI ⊢)
           refine wpAnyK_take (i:=4) (v:=?_) rfl (by decide +kernel) (by decide +kernel) (by decide +kernel) (fun _ _ _ h=>h) (Or.inl ⟨by rfl,?_⟩) hI ?_
           rotate_left
           ·intro V hSV;(try dsimp only at hSV);obtain ⟨e0,e1,e2,e3,e4,e5⟩:=hSV;go_simp;(try with_reducible rfl)
           clear hI;intro hI;(try simp only [Act.put,List.setIfInBounds_toArray,List.set_cons_zero,List.set_cons_succ] at hI ⊢)
           refine wpAnyK_take (i:=5) (v:=?_) rfl (by decide +kernel) (by decide +kernel) (by decide +kernel) (fun _ _ _ h=>h) (Or.inl ⟨by rfl,?_⟩) hI ?_
           rotate_left
           ·intro V hSV;(try dsimp only at hSV);obtain ⟨e0,e1,e2,e3,e4,e5⟩:=hSV;go_simp;(try with_reducible rfl)
           clear hI;intro hI;(try simp only [Act.put,List.setIfInBounds_toArray,List.set_cons_zero,List.set_cons_succ] at hI ⊢)
           refine wpAnyK_take (i:=6) (v:=?_) rfl (by decide +kernel) (by decide +kernel) (by decide +kernel) (fun _ _ _ h=>h) (Or.inl ⟨by rfl,?_⟩) hI ?_
           rotate_left
           ·intro V hSV;(try dsimp only at hSV);obtain ⟨e0,e1,e2,e3,e4,e5⟩:=hSV;go_simp;(try with_reducible rfl)
           clear hI;intro hI;(try simp only [Act.put,List.setIfInBounds_toArray,List.set_cons_zero,List.set_cons_succ] at hI ⊢)
           refine wpAnyK_take (i:=7) (v:=?_) rfl (by decide +kernel) (by decide +kernel) (by decide +kernel) (fun _ _ _ h=>h) (Or.inl ⟨by rfl,?_⟩) hI ?_
           rotate_left
           ·intro V hSV;(try dsimp only at hSV);obtain ⟨e0,e1,e2,e3,e4,e5⟩:=hSV;go_simp;(try with_reducible rfl)
           clear hI;intro hI;(try simp only [Act.put,List.setIfInBounds_toArray,List.set_cons_zero,List.set_cons_succ] at hI ⊢)
           refine wpAnyK_take (i:=8) (v:=?_) rfl (by decide +kernel) (by decide +kernel) (by decide +kernel) (fun _ _ _ h=>h) (Or.inl ⟨by rfl,?_⟩) hI ?_
           rotate_left
           ·intro V hSV;(try dsimp only at hSV);obtain ⟨e0,e1,e2,e3,e4,e5⟩:=hSV;go_simp;(try with_reducible rfl)
           clear hI;intro hI;(try simp only [Act.put,List.setIfInBounds_toArray,List.set_cons_zero,List.set_cons_succ] at hI ⊢)
           refine wpAnyK_take (i:=9) (v:=?_) rfl (by decide +kernel) (by decide +kernel) (by decide +kernel) (fun _ _ _ h=>h) (Or.inl ⟨by rfl,?_⟩) hI ?_
           rotate_left
           ·intro V hSV;(try dsimp only at hSV);obtain ⟨e0,e1,e2,e3,e4,e5⟩:=hSV;go_simp;(try with_reducible rfl)
           clear hI;intro hI;(try simp only [Act.put,List.setIfInBounds_toArray,List.set_cons_zero,List.set_cons_succ] at hI ⊢)
           refine wpAnyK_take (i:=10) (v:=?_) rfl (by decide +kernel) (by decide +kernel) (by decide +kernel) (fun _ _ _ h=>h) (Or.inl ⟨by rfl,?_⟩) hI ?_
           rotate_left
           ·intro V hSV;(try dsimp only at hSV);obtain ⟨e0,e1,e2,e3,e4,e5⟩:=hSV;go_simp;(try with_reducible rfl)
           clear hI;intro hI;(try simp only [Act.put,List.setIfInBounds_toArray,List.set_cons_zero,List.set_cons_succ] at hI ⊢)
           refine wpAnyK_take (i:=11) (v:=?_) rfl (by decide +kernel) (by decide +kernel) (by decide +kernel) (fun _ _ _ h=>h) (Or.inl ⟨by rfl,?_⟩) hI ?_
           rotate_left
           ·intro V hSV;(try dsimp only at hSV);obtain ⟨e0,e1,e2,e3,e4,e5⟩:=hSV;go_simp;(try with_reducible rfl)
           clear hI;intro hI;(try simp only [Act.put,List.setIfInBounds_toArray,List.set_cons_zero,List.set_cons_succ] at hI ⊢)
           refine wpAnyK_take (i:=12) (v:=?_) rfl (by decide +kernel) (by decide +kernel) (by decide +kernel) (fun _ _ _ h=>h) (Or.inl ⟨by rfl,?_⟩) hI ?_
           rotate_left
           ·intro V hSV;(try dsimp only at hSV);obtain ⟨e0,e1,e2,e3,e4,e5⟩:=hSV;go_simp;(try with_reducible rfl)
           clear hI;intro hI;(try simp only [Act.put,List.setIfInBounds_toArray,List.set_cons_zero,List.set_cons_succ] at hI ⊢)
           refine wpAnyK_take (i:=13) (v:=?_) rfl (by decide +kernel) (by decide +kernel) (by decide +kernel) (fun _ _ _ h=>h) (Or.inl ⟨by rfl,?_⟩) hI ?_
           rotate_left
           ·intro V hSV;(try dsimp only at hSV);obtain ⟨e0,e1,e2,e3,e4,e5⟩:=hSV;go_simp;(try with_reducible rfl)
           clear hI;intro hI;(try simp only [Act.put,List.setIfInBounds_toArray,List.set_cons_zero,List.set_cons_succ] at hI ⊢)
           refine wpAnyK_take (i:=14) (v:=?_) rfl (by decide +kernel) (by decide +kernel) (by decide +kernel) (fun _ _ _ h=>h) (Or.inl ⟨by rfl,?_⟩) hI ?_
           rotate_left
           ·intro V hSV;(try dsimp only at hSV);obtain ⟨e0,e1,e2,e3,e4,e5⟩:=hSV;go_simp;(try with_reducible rfl)
           clear hI;intro hI;(try simp only [Act.put,List.setIfInBounds_toArray,List.set_cons_zero,List.set_cons_succ] at hI ⊢)
           refine wpAnyK_take (i:=16) (v:=?_) rfl (by decide +kernel) (by decide +kernel) (by decide +kernel) (fun _ _ _ h=>h) (Or.inl ⟨by rfl,?_⟩) hI ?_
           rotate_left
           ·intro V hSV;(try dsimp only at hSV);obtain ⟨e0,e1,e2,e3,e4,e5⟩:=hSV;go_simp;(try with_reducible rfl)
           clear hI;intro hI;(try simp only [Act.put,List.setIfInBounds_toArray,List.set_cons_zero,List.set_cons_succ] at hI ⊢)
           refine wpAnyK_take (i:=17) (v:=?_) rfl (by decide +kernel) (by decide +kernel) (by decide +kernel) (fun _ _ _ h=>h) (Or.inl ⟨by rfl,?_⟩) hI ?_
           rotate_left
           ·intro V hSV;(try dsimp only at hSV);obtain ⟨e0,e1,e2,e3,e4,e5⟩:=hSV;go_simp;(try with_reducible rfl)
           clear hI;intro hI;(try simp only [Act.put,List.setIfInBounds_toArray,List.set_cons_zero,List.set_cons_succ] at hI ⊢)
           refine wpAnyK_take (i:=18) (v:=?_) rfl (by decide +kernel) (by decide +kernel) (by decide +kernel) (fun _ _ _ h=>h) (Or.inl ⟨by rfl,?_⟩) hI ?_
           rotate_left
           ·intro V hSV;(try dsimp only at hSV);obtain ⟨e0,e1,e2,e3,e4,e5⟩:=hSV;go_simp;(try with_reducible rfl)
           clear hI;intro hI;(try simp only [Act.put,List.setIfInBounds_toArray,List.set_cons_zero,List.set_cons_succ] at hI ⊢)
           refine wpAnyK_take (i:=19) (v:=?_) rfl (by decide +kernel) (by decide +kernel) (by decide +kernel) (fun _ _ _ h=>h) (Or.inl ⟨by rfl,?_⟩) hI ?_
           rotate_left
           ·intro V hSV;(try dsimp only at hSV);obtain ⟨e0,e1,e2,e3,e4,e5⟩:=hSV;go_simp;(try with_reducible rfl)
           clear hI;intro hI;(try simp only [Act.put,List.setIfInBounds_toArray,List.set_cons_zero,List.set_cons_succ] at hI ⊢)
           refine wpAnyK_op (i:=15) (by decide +kernel) (by omega) hI.1 rfl (fun K hK=>?_)
           go_simp
           go_at_call 176;((with_reducible refine (Hng.out _ (Below.refl _ _).drew).mono ?_);rintro e w4 ⟨rfl,hb4⟩;obtain ⟨q0,q1,q2,q3,q4,q5,q7,q6⟩:=HQ.out w4 (Below.next (Below.refl _ _).drew hb4))
           refine hK.out _ _ (by exact ⟨q0,q1,q2,q3,q4,q5⟩) (fun hI=>?_)
           clear hK K
           refine wpAnyK_op (i:=20) (by decide +kernel) (by omega) hI.1 rfl (fun K hK=>?_)
           go_simp
           go_at_call 23;((with_reducible refine (Had.out _ q6).mono ?_);rintro e w5 ⟨a5,c5,rfl,hown5,hb5⟩;obtain ⟨s0,s1,s2,s3,s4,s5,s7,s6⟩:=HQ.out w5 (Below.next q6 hb5))
           refine hK.out _ _ (by exact ⟨s0,s1,s2,s3,s4,s5⟩) (fun hI=>?_)
           clear hK K
           refine wpAnyK_take (i:=21) (v:=?_) rfl (by decide +kernel) (by decide +kernel) (by decide +kernel) (fun _ _ _ h=>h) (Or.inl ⟨by rfl,?_⟩) hI ?_
           rotate_left
           ·intro V hSV;(try dsimp only at hSV);obtain ⟨e0,e1,e2,e3,e4,e5⟩:=hSV;go_simp;(try with_reducible rfl)
           clear hI;intro hI;(try simp only [Act.put,List.setIfInBounds_toArray,List.set_cons_zero,List.set_cons_succ] at hI ⊢)
           refine wpAnyK_end (i:=22) (by decide +kernel) (by omega) (by decide +kernel) rfl (fun K hK=>?_)
           go_simp
           refine hK.out _ _ ?_
           clear hK K
           have Ho5:=Lib.hid (own_mono hown5 q6.size)
           have Hs6:=Lib.hid s6
           clear hown5 HQ Hng Had q0 q1 q2 q3 q4 q5 q6 q7 s0 s1 s2 s3 s4 s5 s6 s7
           go_wp2_with fail
           go_roundw
           case rel =>
            obtain ⟨R5,hO5,hM5⟩:=HF.out _ _ _ Ho5.out Hs6.out
            exact ⟨i+1,R5,by omega,by go_num,hO5,hMi.trans hM5⟩
           case measure=>simp [intOf] <;> omega
        ·obtain rfl : i=n:=by omega
         have hopX:=hMi.own hopT HoiT.out
         have hoiX : ap ≠ none→¬ OIn a1 R4 (ablk ap):=fun hn=>hMi.not (own_ne hopT hn).2 (HoiT.out hn)
         have HoiX:=Lib.hid hoiX
         have hcn:=cell_new X (.int .i64 k) 3
         have hbn:=below1 X (.cells #[.int .i64 k] 3)
         have hsz:=hbX.size
         clear hoiX
         go_wp2_with (at_builtin;refine wpList_push rfl _ _ 22 3 rfl (.int .i64 0) 8 Tryz.underlying22 infoInt rfl W.heap.size ap t cp _ rfl (hopX.alloc _) ⟨X.heap.size,0,none⟩ 1 (.int .i64 k) rfl hcn rfl (by omega) (by unfold maxLen;omega) (by simp;omega) ?_;intro a3 c3 w3 hown3 hgr hap3)
         go_roundw
         case rel =>
          have hnx : elimTo O L (k+1)=(clearTo O t k L2 i,Pv ++ [(k : Int)]):=by
           rw [elimTo_next hst.out (by rw [HLkn.out,Ht.out];exact hPl),Ht.out,if_neg (by rw [Hf.out,HLkn.out];omega),Hf.out,HL1.out]
          have hne : ∀ b',OIn a1 R4 b'→Apt ap b':=fun b' hb'=>by
           by_cases hn : ap=none
           ·exact .inl hn
           ·exact .inr fun e=>HoiX.out hn (by rw [e];exact hb')
          have hOn:=hOi.keep hbn
          have hO6 : OMat w3 W.heap.size a1 i c1 R4 (clearTo O t k L2 i):=hOn.of_blocks fun b' hb'=>hgr.block b' (hOn.lt b' hb').2 fun e=>(hne b' hb').own t cp e.symm
          have hb3 : Below W.heap.size W w3:=Below.app (Below.trans hbX (hbn.mono hsz)) (hopX.alloc _) hgr (Nat.le_refl _) (Nat.le_trans hsz hbn.size)
          have hrw3:=Rws.clear Hcl.out hrw2 (t:=t) (c:=k) (by rw [Hl2.out];exact hPl) (by omega) i (by rw [Hl2.out];exact hi)
          have ho4 : a3 ≠ none→¬ OIn a1 R4 (ablk a3):=fun hn hI=>by
           rcases hap3 _ (hOn.lt _ hI).2 (hne _ hI) with h1 | h1
           ·exact hn h1
           ·exact h1 rfl
          have hPl2 : (Pv ++ [(k : Int)]).length=t+1:=by rw [List.length_append,Ht.out];rfl
          refine ⟨k+1,R4,a3,c3,clearTo O t k L2 i,Pv ++ [(k : Int)],by omega,by go_num,by rw [hPl2];go_num,by rw [hPl2],hnx.symm,hO6,?_,ho4,hb3,hrw3,by rw [hPl2];omega⟩
          rw [hPl2];simpa using hown3
         case measure=>simp [intOf] <;> omega
     ·obtain rfl : j=n:=by omega
      have Hn : Hid ((Lk,Pv)=elimTo O L (k+1)):=by
       show _=_;rw [elimTo_next hst.out (by rw [HLkn.out,Ht.out];exact hPl),Ht.out,if_pos (by rw [hfr.out,findRow_end (by rw [HLkn.out];exact Nat.le_refl _),HLkn.out])]
      have hjj : decide ((j : Int)<j)=false:=by simp
      go_wp2_with fail
      go_roundw
      case rel=>exact ⟨k+1,R',ap,cp,Lk,Pv,by omega,by go_num,by rw [Ht.out],by rw [Ht.out],Hn.out,hOr,by rw [Ht.out];exact hop,hoi.out,hbr,hrw,by rw [Ht.out];exact hPn⟩
      case measure=>simp [intOf] <;> omega
   ·have hPe : Pv.length=n:=by omega
    have hfull : (Lk,Pv)=elimTo O L cols:=by
     rw [show cols=k+(cols - k) by omega,elimTo_full (by rw [← hst.out,hPe,← Hlen.out]),← hst.out]
    have Hfull:=Lib.hid hfull
    have hPe' : decide ((Pv.length : Int)<n)=false:=by simp;omega
    clear hfull hPe
    go_wp2_with fail
    go_ret2
    exact Hfin.out _ _ _ _ _ _ _ _ Hfull.out (hOr.mono hbW.size) (own_mono hop hbW.size) (Below.next hbW hbr)
  ·obtain rfl : k=cols:=by omega
   have hk' : decide ((k : Int)<k)=false:=by simp
   go_wp2_with fail
   go_ret2
   exact Hfin.out _ _ _ _ _ _ _ _ hst.out (hOr.mono hbW.size) (own_mono hop hbW.size) (Below.next hbW hbr)
end

section
open Go.RowKit
def rmatE (P M : Int) (mod : List Int) (cols : Int) (L : List (List Int)) : Int:=if fieldRB P M mod=true then matE (orderS P M) cols L else 1
set_option maxRecDepth 100000 in
set_option maxHeartbeats 4000000 in
theorem rMatCheck_any (P M : Int) (am : Option Addr) (mn cm : Nat) (mod : List Int) (cols : Int) (a : Option Addr) (n c : Nat) (L : List (List Int)) (w : World) (hmod : Ints w am mn mod) (hi : Mat w a n L) :
  Calls Tryz.prog 141 #[.agg #[.int .i64 P,.int .i64 M,.slice am mn cm],.agg #[.int .i64 cols,.slice a n c]] w fun e w'=>e = .returned (.int .i64 (rmatE P M mod cols L))∧Below w.heap.size w w':=by
 have Hlen:=Lib.hid hi.len
 have hpl:=hi.pl
 have hmax:=hi.max
 unfold maxLen at hmax
 go_enter Tryz.func141,Tryz.ntmps141
 go_wp2_with fail
 obtain ⟨W,hW⟩ : ∃ W : World,W=(w.alloc (.cells #[.int .i64 P,.int .i64 M,.slice am mn cm] 24)).alloc (.cells #[.int .i64 cols,.slice a n c] 73):=⟨_,rfl⟩
 rw [← hW]
 have hbW : Below w.heap.size w W:=by rw [hW];exact below2 _ _ _
 have x0 : Box W w.heap.size [.int .i64 P,.int .i64 M,.slice am mn cm]:=by rw [hW];exact (Box.new _ _ _ rfl).alloc _
 have y0 : Box W (w.heap.size+1) [.int .i64 cols,.slice a n c]:=by rw [hW];exact Box.new _ _ _ (by simp)
 have hS : ∀ V,Below W.heap.size W V→V.cell? ⟨w.heap.size,0,none⟩=some (.int .i64 P)∧V.cell? ⟨w.heap.size,1,none⟩=some (.int .i64 M)∧V.cell? ⟨w.heap.size,2,none⟩=some (.slice am mn cm) ∧
   V.cell? ⟨w.heap.size+1,0,none⟩=some (.int .i64 cols)∧V.cell? ⟨w.heap.size+1,1,none⟩=some (.slice a n c)∧Below W.heap.size W V:=by
  intro V hV
  have x1:=x0.keep hV
  have y1:=y0.keep hV
  exact ⟨x1.cell 0 rfl,x1.cell 1 rfl,x1.cell 2 rfl,y1.cell 0 rfl,y1.cell 1 rfl,hV⟩
 have HS:=Lib.hid hS
 have hiW:=hi.keep hbW
 clear hW x0 y0 hS
 refine (rFieldCheck_any P M am mn cm mod W (hmod.keep hbW)).mono ?_
 rintro e w1 ⟨rfl,hb1⟩
 have hbw1:=Below.next hbW hb1
 by_cases hB : fieldRB P M mod=true
 ·have HB : Hid (rmatE P M mod cols L=matE (orderS P M) cols L):=by show _=_;rw [rmatE,if_pos hB]
  have hE : errField (fieldRB P M mod)=0:=by rw [hB];rfl
  rw [hE]
  obtain ⟨q,hq⟩ : ∃ q,orderS P M=q:=⟨_,rfl⟩
  have Hq:=Lib.hid hq
  rw [hq] at HB
  obtain ⟨d0,d1,d2,d3,d4,_⟩:=HS.out w1 hb1
  clear hB hE hq
  by_cases b1 : cols<0
  ·have Hf : Hid (rmatE P M mod cols L=3):=by show _=_;rw [HB.out,matE,if_pos (.inl b1)]
   have t1 : decide (cols<0)=true:=by simpa using b1
   go_wp2_with fail
   go_ret
   exact ⟨ret_int Hf.out.symm,hbw1⟩
  have t1 : decide (cols<0)=false:=by simpa using b1
  by_cases b2 : 256<cols
  ·have Hf : Hid (rmatE P M mod cols L=3):=by show _=_;rw [HB.out,matE,if_pos (.inr (.inl b2))]
   have t2 : decide (256<cols)=true:=by simpa using b2
   go_wp2_with fail
   go_ret
   exact ⟨ret_int Hf.out.symm,hbw1⟩
  have t2 : decide (256<cols)=false:=by simpa using b2
  by_cases b3 : 256<n
  ·have Hf : Hid (rmatE P M mod cols L=3):=by show _=_;rw [HB.out,matE,if_pos (.inr (.inr (by rw [Hlen.out];exact b3)))]
   have t3 : decide (256<(n : Int))=true:=by simp;omega
   go_wp2_with fail
   go_ret
   exact ⟨ret_int Hf.out.symm,hbw1⟩
  have t3 : decide (256<(n : Int))=false:=by simp;omega
  have Hm : Hid (rmatE P M mod cols L=if shapeQ cols L=false then 3 else if L.all (elsQ q) then 0 else 2):=by
   show _=_;rw [HB.out,matE,if_neg (by rw [Hlen.out];omega)]
  have hi1:=hiW.keep hb1
  clear b1 b2
  go_wp2_with fail
  go_loopw [6] (fun iv wr=>∃ k : Nat,k≤n∧iv = .int .i64 k∧Hid ((L.take k).all (fun r=>decide ((r.length : Int)=cols))=true)∧Drawn w1 wr) (fun iv _=>n - (intOf iv).toNat)
  case atStart=>exact ⟨0,Nat.zero_le _,rfl,by show _=_;simp,Drawn.refl _⟩
  case round =>
   obtain ⟨k,hk,rfl,hall,hd⟩:=hrel
   have hir:=hi1.drawn hd
   have e3:=hd.cell d3
   have e4:=hd.cell d4
   by_cases hlt : k<n
   ·obtain ⟨ra,rn,rc,hcell,hrow⟩:=hir.cell k hlt
    have hkL : k<L.length:=by rw [Hlen.out];exact hlt
    have hrl:=hrow.len
    rw [nthR_getElem hkL] at hrl
    have Hrl:=Lib.hid hrl
    clear hrl
    by_cases he : (rn : Int)=cols
    ·have he' : ((rn : Int) != cols)=false:=by simpa using he
     have Hs : Hid ((L.take (k+1)).all (fun r=>decide ((r.length : Int)=cols))=true):=all_take_succ hkL hall.out (by rw [Hrl.out];simpa using he)
     clear he
     go_wp2_with fail
     go_quiet (fail)
     go_wp2
     go_roundw
     case rel=>exact ⟨k+1,by omega,by go_num,Hs.out,hd.drewN _⟩
     case measure=>simp [intOf] <;> omega
    ·have he' : ((rn : Int) != cols)=true:=by simpa using he
     have Hs : Hid (rmatE P M mod cols L=3):=by
      show _=_;rw [Hm.out,if_pos]
      exact all_false_at hkL (by simp only [Hrl.out];simpa using he)
     clear he
     go_wp2_with fail
     go_quiet (fail)
     go_wp2
     go_ret
     exact ⟨ret_int Hs.out.symm,Below.next hbw1 (hd.drewN _).below⟩
   ·obtain rfl : k=n:=by omega
    have Hm2 : Hid (rmatE P M mod cols L=if L.all (elsQ q) then 0 else 2):=by
     have:=hall.out;rw [List.take_of_length_le (by rw [Hlen.out];exact Nat.le_refl _)] at this
     show _=_;rw [Hm.out,if_neg (by rw [shapeQ,this];simp)]
    have hbr : Below W.heap.size W wr:=Below.next hb1 hd.below
    have hir2:=hir
    clear d0 d1 d2 d3 d4 hall
    go_wp2_with fail
    clear e3 e4
    go_loopw [7] (fun iv wx=>∃ j : Nat,j≤k∧iv = .int .i64 j∧Hid ((L.take j).all (elsQ q)=true)∧Below W.heap.size W wx) (fun iv _=>k - (intOf iv).toNat)
    case atStart=>exact ⟨0,Nat.zero_le _,rfl,by show _=_;simp,hbr⟩
    case round =>
     obtain ⟨j,hj,rfl,hall2,hbx⟩:=hrel
     obtain ⟨d0,d1,d2,d3,d4,_⟩:=HS.out _ hbx
     by_cases hlt : j<k
     ·have hiX:=hiW.keep hbx
      obtain ⟨ra,rn,rc,hcell,hrow⟩:=hiX.cell j hlt
      have hjL : j<L.length:=by rw [Hlen.out];exact hlt
      have HC:=Lib.hid (rEntries_any P M am mn cm ra rn rc (nthR L j) _ (hrow.keep (Below.refl _ _).drew))
      have hSj : ∀ V,Below wr.heap.size wr V→V.cell? ⟨w.heap.size,0,none⟩=some (.int .i64 P)∧V.cell? ⟨w.heap.size,1,none⟩=some (.int .i64 M)∧V.cell? ⟨w.heap.size,2,none⟩=some (.slice am mn cm) ∧
        V.cell? ⟨w.heap.size+1,1,none⟩=some (.slice a k c)∧V.cell? ⟨ablk a,aoff a+j,none⟩=some (.slice ra rn rc):=fun V hV=>by
       obtain ⟨f0,f1,f2,f3,f4,_⟩:=HS.out V (Below.next hbx hV)
       exact ⟨f0,f1,f2,f4,cell_keep hV hcell⟩
      have HSj:=Lib.hid hSj
      have Hbx:=Lib.hid hbx
      rw [Hq.out] at HC
      clear hSj hbx
      by_cases he : elsQ q (nthR L j)=true
      ·have he2 : elsE q (nthR L j)=0:=by rw [elsE,he];rfl
       rw [he2] at HC
       rw [nthR_getElem hjL] at he
       have Hs : Hid ((L.take (j+1)).all (elsQ q)=true):=all_take_succ hjL hall2.out he
       clear he he2
       go_wp2_with fail
       go_region_held3 (fun V=>V.cell? ⟨w.heap.size,0,none⟩=some (.int .i64 P)∧V.cell? ⟨w.heap.size,1,none⟩=some (.int .i64 M)∧V.cell? ⟨w.heap.size,2,none⟩=some (.slice am mn cm) ∧
         V.cell? ⟨w.heap.size+1,1,none⟩=some (.slice a k c)∧V.cell? ⟨ablk a,aoff a+j,none⟩=some (.slice ra rn rc))
        ((refine HSj.out _ ?_;first | exact (Below.refl _ _).drew | exact Below.next (Below.refl _ _).drew hb4))
        (first | (go_at_call 62;((with_reducible refine HC.out.mono ?_);rintro e w4 ⟨rfl,hb4⟩)))
       go_wp2_with fail
       go_roundw
       case rel=>exact ⟨j+1,by omega,by go_num,Hs.out,Below.next Hbx.out (Below.next (Below.refl _ _).drew hb4)⟩
       case measure=>simp [intOf] <;> omega
      ·have he2 : elsE q (nthR L j)=2:=by rw [elsE,if_neg he]
       rw [he2] at HC
       rw [nthR_getElem hjL] at he
       have Hs : Hid (rmatE P M mod cols L=2):=by
        show _=_;rw [Hm2.out,all_false_at hjL (by simpa using he)];rfl
       clear he he2
       go_wp2_with fail
       go_region_held3 (fun V=>V.cell? ⟨w.heap.size,0,none⟩=some (.int .i64 P)∧V.cell? ⟨w.heap.size,1,none⟩=some (.int .i64 M)∧V.cell? ⟨w.heap.size,2,none⟩=some (.slice am mn cm) ∧
         V.cell? ⟨w.heap.size+1,1,none⟩=some (.slice a k c)∧V.cell? ⟨ablk a,aoff a+j,none⟩=some (.slice ra rn rc))
        ((refine HSj.out _ ?_;first | exact (Below.refl _ _).drew | exact Below.next (Below.refl _ _).drew hb4))
        (first | (go_at_call 62;((with_reducible refine HC.out.mono ?_);rintro e w4 ⟨rfl,hb4⟩)))
       go_wp2_with fail
       go_ret
       exact ⟨ret_int Hs.out.symm,Below.next hbW (Below.next Hbx.out (Below.next (Below.refl _ _).drew hb4))⟩
     ·obtain rfl : j=k:=by omega
      have Hs : Hid (rmatE P M mod cols L=0):=by
       have:=hall2.out;rw [List.take_of_length_le (by rw [Hlen.out];exact Nat.le_refl _)] at this
       show _=_;rw [Hm2.out,this];rfl
      go_wp2_with fail
      go_ret
      exact ⟨ret_int Hs.out.symm,Below.next hbW hbx⟩
 ·have hB' : fieldRB P M mod=false:=by simpa using hB
  have Hf : Hid (rmatE P M mod cols L=1):=by show _=_;rw [rmatE,if_neg hB]
  have hE : errField (fieldRB P M mod)=1:=by rw [hB'];rfl
  rw [hE]
  clear hB hB' hE
  go_wp2_with fail
  go_ret
  exact ⟨ret_int Hf.out.symm,hbw1⟩
end

section
open Go.RowKit
set_option maxRecDepth 100000 in
set_option maxHeartbeats 3200000 in
theorem rising_any (N : Int) (a : Option Addr) (n c : Nat) (l : List Int) (w : World) (hi : Ints w a n l) :
  Calls Tryz.prog 79 #[.slice a n c,.int .i64 N] w (QuietBool w (okSet N l)):=by
 have Hlen:=Lib.hid hi.len
 have hpl:=hi.pl
 have hmax:=hi.max
 unfold maxLen at hmax
 go_enter Tryz.func79,Tryz.ntmps79
 go_wp2_with fail
 go_loopw [5] (fun iv wr=>∃ k : Nat,k≤n∧iv = .int .i64 k∧Hid (okTo N l k=true)∧Drawn w wr) (fun iv _=>n - (intOf iv).toNat)
 case atStart=>exact ⟨0,Nat.zero_le _,rfl,by show _=_;simp [okTo],Drawn.refl _⟩
 case round =>
  obtain ⟨j,hj,rfl,hok,hd⟩:=hrel
  have hir:=hi.drawn hd
  by_cases hlt2 : j<n
  ·have cj:=hir.cell j hlt2
   have hjj : (j : Int)<n:=by omega
   have hbad : okAt N l j=false→okSet N l=false:=fun hb=>okTo_no (by rw [Hlen.out];exact hlt2) hb
   have Hbad:=Lib.hid hbad
   clear hbad
   by_cases h0 : 0≤nth l j
   ·have d1 : decide (nth l j<0)=false:=by simp;omega
    by_cases h1 : nth l j<N
    ·have d2 : decide (N≤nth l j)=false:=by simp;omega
     by_cases hj0 : j=0
     ·have Hgood : Hid (okAt N l j=true):=by show _=_;unfold okAt;rw [decide_eq_true h0,decide_eq_true h1];simp [hj0]
      have d3 : decide (0<j)=false:=by simp;omega
      clear hj0
      go_wp2_with fail
      go_quiet (fail)
      go_wp2
      go_roundw
      case rel=>exact ⟨j+1,by omega,by go_num,okTo_succ hok.out Hgood.out,hd.drewN _⟩
      case measure=>simp [intOf] <;> omega
     ·have cp:=hir.cell (j - 1) (by omega)
      have e1 : ((j : Int) - 1).toNat=j - 1:=by omega
      have d3 : decide (0<j)=true:=by simp;omega
      have d4 : (0 : Int)≤(j : Int) - 1:=by omega
      have d5 : (1 : Int)≤(j : Int):=by omega
      have d6 : (j : Int) - 1<n:=by omega
      have kw : IntKind.i64.wrap ((j : Int) - 1)=(j : Int) - 1:=IntWalk.i64_in _ (by omega)
      by_cases h2 : nth l (j - 1)<nth l j
      ·have Hgood : Hid (okAt N l j=true):=by show _=_;unfold okAt;simp [h0,h1,h2]
       have h2' : decide (nth l j≤nth l (j - 1))=false:=by simp;omega
       clear hj0
       go_wp2_with fail
       go_quiet (fail)
       go_wp2
       go_roundw
       case rel=>exact ⟨j+1,by omega,by go_num,okTo_succ hok.out Hgood.out,hd.drewN _⟩
       case measure=>simp [intOf] <;> omega
      ·have Hb : Hid (okSet N l=false):=Hbad.out (by unfold okAt;simp [h2,hj0])
       have h2' : decide (nth l j≤nth l (j - 1))=true:=by simp;omega
       clear hj0
       go_wp2_with fail
       go_quiet (fail)
       go_wp2
       go_ret
       exact ⟨by rw [Hb.out];rfl,hd.drewN _⟩
    ·have Hb : Hid (okSet N l=false):=Hbad.out (by unfold okAt;simp [h1])
     have d2 : decide (N≤nth l j)=true:=by simp;omega
     go_wp2_with fail
     go_quiet (fail)
     go_wp2
     go_ret
     exact ⟨by rw [Hb.out];rfl,hd.drewN _⟩
   ·have Hb : Hid (okSet N l=false):=Hbad.out (by unfold okAt;simp [h0])
    have d1 : decide (nth l j<0)=true:=by simp;omega
    go_wp2_with fail
    go_quiet (fail)
    go_wp2
    go_ret
    exact ⟨by rw [Hb.out];rfl,hd.drewN _⟩
  ·obtain rfl : j=n:=by omega
   have Hg : Hid (okSet N l=true):=by show _=_;rw [okSet,Hlen.out];exact hok.out
   go_wp2_with fail
   go_ret
   exact ⟨by rw [Hg.out];rfl,hd⟩
end

end Go.Proofs.YtcflcogbpnmjeaaGreat
