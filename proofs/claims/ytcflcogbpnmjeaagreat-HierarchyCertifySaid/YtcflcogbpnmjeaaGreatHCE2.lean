/-  -/
import Derived.Test.YtcflcogbpnmjeaaGreatK6
import Derived.Test.YtcflcogbpnmjeaaGreatHCE1
import Derived.Test.YtcflcogbpnmjeaaGreatK7
import Derived.Test.YtcflcogbpnmjeaaGreatK8
import Derived.Test.YtcflcogbpnmjeaaGreatK9
import Derived.StillTail
import Derived.OrdersHeld
import Derived.Deep.RegionHeld
import Derived.Test.YtcflcogbpnmjeaaGreatK1
import Derived.Test.YtcflcogbpnmjeaaGreatK3
namespace Go.Proofs.YtcflcogbpnmjeaaGreat
set_option linter.unusedVariables false
set_option linter.unusedSimpArgs false
set_option linter.unusedSectionVars false

section
open Go.RowKit
def dvJ (P : Int) (low : List Int) (v : Nat) (c : Int) (r : List Int) : Nat→List Int
 | 0=>r
 | j+1=>(dvJ P low v c r j).set (v+j) ((nth (dvJ P low v c r j) (v+j)+(P - c) * nth low j) % P)
def dvT (P : Int) (low : List Int) (n : Nat) (r : List Int) : Nat→List Int
 | 0=>r
 | k+1=>(dvJ P low (n - 1 - k - low.length) (nth (dvT P low n r k) (n - 1 - k)) (dvT P low n r k) low.length).set (n - 1 - k) 0
def dvB (P : Int) (low mod : List Int) : Bool:=(dvT P low (mod.length+1) (mod ++ [1]) (mod.length+1 - low.length)).all fun x=>x == 0
theorem dvJ_len (P : Int) (low : List Int) (v : Nat) (c : Int) (r : List Int) : ∀ j,(dvJ P low v c r j).length=r.length
 | 0=>rfl
 | j+1=>by rw [dvJ,List.length_set,dvJ_len P low v c r j]
theorem dvT_len (P : Int) (low : List Int) (n : Nat) (r : List Int) : ∀ k,(dvT P low n r k).length=r.length
 | 0=>rfl
 | k+1=>by rw [dvT,List.length_set,dvJ_len,dvT_len P low n r k]
theorem dvJ_dig {P : Int} (hP : 0<P) (low : List Int) (v : Nat) (c : Int) {r : List Int} (h : Dig P r) : ∀ j,Dig P (dvJ P low v c r j)
 | 0=>h
 | j+1=>Dig.setMod hP (dvJ_dig hP low v c h j) _ _
theorem dvT_dig {P : Int} (hP : 0<P) (low : List Int) (n : Nat) {r : List Int} (h : Dig P r) : ∀ k,Dig P (dvT P low n r k)
 | 0=>h
 | k+1=>Dig.set (dvJ_dig hP low _ _ (dvT_dig hP low n h k) _) _ (by omega) hP
set_option maxRecDepth 100000 in
set_option maxHeartbeats 4000000 in
theorem rDivides_any (al : Option Addr) (d cl : Nat) (low : List Int) (am : Option Addr) (mn cm : Nat) (mod : List Int) (P : Int) (w : World) (hl : Ints w al d low) (hm : Ints w am mn mod) (hp2 : 2≤P) (hp256 : P≤256)
  (hdl : Dig P low) (hdm : Dig P mod) (hd1 : 1≤d) (hdn : d≤mn) (hmn : mn≤8) :
  Calls Tryz.prog 183 #[.slice al d cl,.slice am mn cm,.int .i64 P] w fun e w'=>e = .returned (.bool (dvB P low mod))∧Below w.heap.size w w':=by
 have hP : 0<P:=by omega
 have Hll:=Lib.hid hl.len
 have Hml:=Lib.hid hm.len
 have hpll:=hl.pl
 have Hdl:=Lib.hid hdl
 have HDB : Hid (dvB P low mod=(dvT P low (mn+1) (mod ++ [1]) (mn+1 - d)).all fun x=>x == 0):=by show _=_;rw [dvB,hm.len,hl.len]
 have HD0 : Hid (Dig P (mod ++ [1])):=hdm.snoc (by omega) (by omega)
 have HL0 : Hid ((mod ++ [1]).length=mn+1):=by show _=_;rw [List.length_append,hm.len];rfl
 have hO1:=own_emp w 3
 have hbe:=below1 w (.cells #[] 3)
 have hme:=hm.keep hbe
 have hpm:=hm.pl
 clear hdl hdm
 go_enter Tryz.func183,Tryz.ntmps183
 go_wp2_with (at_builtin; first
       | (refine wpList_appAll (by rfl) (.tmp 15) (.tmp 16) 22 3 (by rfl) (.int .i64 0) 8 Tryz.underlying22 infoInt (by rfl) w.heap.size _ 0 0 [] (by rfl) hO1 am mn cm (mod.map (Value.int .i64)) (by rfl) hpm (by simp [Hml.out]) (Ints.news hme) (ints_oneCell _ _) (by omega) (by unfold maxLen;omega) (Below.size hbe) ?_;intro a3 c3 w3 hown3 hgr3 hap3;have hb3 : Below w.heap.size w w3:=Below.app (B:=w.heap.size) (e:=3) (xs:=[]) hbe hO1 hgr3 (Nat.le_refl _) (Below.size hbe);rw [Nat.zero_add] at hown3 ⊢;rw [List.nil_append] at hown3)
       | (refine wpList_push rfl _ _ 22 3 rfl (.int .i64 0) 8 Tryz.underlying22 infoInt rfl w.heap.size a3 mn c3 _ rfl (hown3.alloc _) ⟨w3.heap.size,0,none⟩ 1 (.int .i64 1) rfl (cell_new w3 _ _) rfl (by omega) (by unfold maxLen;omega) (by have h1:=Below.size hb3;simp;omega) ?_;intro a1 c1 w1 hown1 hgr1 hap1))
 have hb4 : Below w.heap.size w w1:=Below.app (Below.next hb3 (below1 _ _)) (hown3.alloc _) hgr1 (Nat.le_refl _) (Nat.le_trans hb3.size (Below.size (below1 _ _)))
 have hown : w1.ownsRow w.heap.size 3 1 (.slice a1 (mn+1) c1) (mn+1) ((mod ++ [1]).map (Value.int .i64)):=by simpa using hown1
 have ha1 : a1 ≠ none→w.heap.size≤ablk a1:=fun h=>(own_ne hown h).1
 obtain ⟨n,hn⟩ : ∃ n,mn+1=n:=⟨_,rfl⟩
 have Hn:=Lib.hid hn
 have hn9 : n≤9:=by omega
 have hdn' : d+1≤n:=by omega
 obtain ⟨r0,hr0⟩ : ∃ r0,mod ++ [1]=r0:=⟨_,rfl⟩
 rw [hr0,hn] at hown HDB
 rw [hr0] at HD0
 rw [hr0,hn] at HL0
 have hnv : (((mn+1 : Nat) : Int))=n:=by omega
 have hnv2 : (mn : Int)+1=n:=by omega
 have hlw:=hl.keep hb4
 have hS : ∀ V,Below w.heap.size w V→Ints V al d low:=fun V hV=>hl.keep hV
 have HS:=Lib.hid hS
 rw [hn]
 clear hown1 hgr1 hap1 hown3 hgr3 hap3 hr0 hn hS hO1 hbe hme hlw
 go_wp2_with fail
 clear hnv hnv2
 go_loopw [9] (fun iv wr=>∃ k t : Nat,t+k+1=n∧d≤t+1∧iv = .int .i64 t∧wr.ownsRow w.heap.size 3 1 (.slice a1 n c1) n ((dvT P low n r0 k).map (Value.int .i64))∧Only a1 w1 wr) (fun iv _=>(intOf iv).toNat)
 case atStart=>exact ⟨0,n - 1,by omega,by omega,by have:=Hn.out;congr 1;omega,hown,Only.refl _ _⟩
 case round =>
  obtain ⟨k,t,htk,hdt,rfl,hownk,honlyk⟩:=hrel
  have hbk : Below w.heap.size w wr:=hb4.trans (honlyk.below ha1 hb4.size)
  by_cases hti : d≤t
  ·have Htk:=Lib.hid htk
   have Hrk : Hid (dvT P low n r0 (k+1)=(dvJ P low (t - d) (nth (dvT P low n r0 k) t) (dvT P low n r0 k) d).set t 0):=by
    show _=_;rw [dvT,Hll.out,show n - 1 - k=t by omega]
   have Hrd : Hid (Dig P (dvT P low n r0 k)):=dvT_dig hP low n HD0.out k
   obtain ⟨C2,hC2⟩ : ∃ C2,dvT P low n r0 k=C2:=⟨_,rfl⟩
   rw [hC2] at hownk Hrk Hrd
   have htn : t<n:=by omega
   have hti' : (t : Int)<n:=by omega
   obtain ⟨it0,mt0⟩:=Ints.own hownk
   have c0:=it0.cell t htn
   have hp0:=it0.pl
   have b2:=Hrd.out t
   clear hC2 htk
   go_wp2_with fail
   obtain ⟨cc,hcc⟩ : ∃ cc,nth C2 t=cc:=⟨_,rfl⟩
   rw [hcc] at b2 Hrk
   rw [hcc]
   clear hcc c0 it0 mt0
   go_loopw [11] (fun iv wr=>∃ j : Nat,j≤d∧iv = .int .i64 j∧wr.ownsRow w.heap.size 3 1 (.slice a1 n c1) n ((dvJ P low (t - d) cc C2 j).map (Value.int .i64))∧Only a1 w1 wr) (fun iv _=>d - (intOf iv).toNat)
   case atStart=>exact ⟨0,Nat.zero_le _,rfl,hownk,honlyk⟩
   case round =>
    obtain ⟨j,hj,rfl,hown2,honly2⟩:=hrel
    have hbr2 : Below w.heap.size w wr:=hb4.trans (honly2.below ha1 hb4.size)
    have j1:=HS.out wr hbr2
    by_cases hlt2 : j<d
    ·have Hcj : Hid (dvJ P low (t - d) cc C2 (j+1)=(dvJ P low (t - d) cc C2 j).set (t - d+j) ((nth (dvJ P low (t - d) cc C2 j) (t - d+j)+(P - cc) * nth low j) % P)):=rfl
     have hcd:=dvJ_dig hP low (t - d) cc Hrd.out j
     obtain ⟨T,hT⟩ : ∃ T,dvJ P low (t - d) cc C2 j=T:=⟨_,rfl⟩
     rw [hT] at hown2 Hcj hcd
     clear hT
     obtain ⟨it,mt⟩:=Ints.own hown2
     obtain ⟨u,hu⟩ : ∃ u,t - d+j=u:=⟨_,rfl⟩
     have hun : u<n:=by omega
     have ct:=it.cell u hun
     have cM:=j1.cell j hlt2
     have ft:=(mt (by omega)).2 u hun
     have hplt:=it.pl
     have b1:=hcd u
     have b3:=Hdl.out j
     have hme:=mul_bd (show 0≤P - cc by omega) (show P - cc≤256 by omega) b3.1 (show nth low j≤256 by omega)
     have hP0 : P ≠ 0:=by omega
     rw [hu] at Hcj
     obtain ⟨Z,hZ⟩ : ∃ Z,(nth T u+(P - cc) * nth low j) % P=Z:=⟨_,rfl⟩
     have Hcj2 : Hid (dvJ P low (t - d) cc C2 (j+1)=T.set u Z):=by show _=_;rw [Hcj.out,hZ]
     obtain ⟨v,hv⟩ : ∃ v,t - d=v:=⟨_,rfl⟩
     have r0' : IntKind.i64.wrap ((t : Int) - d)=(v : Int):=by rw [IntWalk.i64_in _ (by omega)];omega
     have r1 : IntKind.i64.wrap ((v : Int)+j)=(u : Int):=by rw [IntWalk.i64_in _ (by omega)];omega
     have r2 : IntKind.i64.wrap (P - cc)=P - cc:=IntWalk.i64_in _ (by omega)
     have r3 : IntKind.i64.wrap ((P - cc) * nth low j)=(P - cc) * nth low j:=IntWalk.i64_in _ (by omega)
     have r4 : IntKind.i64.wrap (nth T u+(P - cc) * nth low j)=nth T u+(P - cc) * nth low j:=IntWalk.i64_in _ (by omega)
     have r5 : (nth T u+(P - cc) * nth low j).tmod P=Z:=by rw [← hZ];exact IntWalk.rem_in _ _ (by omega)
     have q1 : (0 : Int)≤u:=by omega
     have q2 : (u : Int)<n:=by omega
     have q4 : (j : Int)<d:=by omega
     clear hZ hu hv Hcj
     go_wp2_with fail
     go_still_tail 26,(by kernel_rfl)
     change wpList _ _ _ _ _ wr.drew
     generalize hwd : wr.drew=wd
     have fd : wd.frozen? ⟨ablk a1,aoff a1+u,none⟩=false:=by rw [← hwd];exact ft
     have cd : wd.cell? ⟨ablk a1,aoff a1+u,none⟩=some (.int .i64 (nth T u)):=by rw [← hwd];exact ct
     have Hwd:=Lib.hid hwd
     clear hwd r0' r1 r2 r3 r4 r5
     go_wp2_with fail
     go_roundw
     case rel =>
      obtain rfl:=Hwd.out
      have hdr : Drawn wr wr.drew:=(Drawn.refl wr).drew
      refine ⟨j+1,by omega,by go_num,?_,honly2.trans ((Only.drawn hdr).trans (Only.set _ u _ (by intro e;have:=hplt (by omega);rw [e] at this;cases this)))⟩
      have h1:=own_set (w:=wr.drew) hown2 u hun (.int .i64 Z)
      rw [← List.map_set,← Hcj2.out] at h1
      exact h1
     case measure=>simp [intOf] <;> omega
    ·obtain rfl : j=d:=by omega
     obtain ⟨it,mt⟩:=Ints.own hown2
     have ct:=it.cell t htn
     have ft:=(mt (by omega)).2 t htn
     have hplt:=it.pl
     go_wp2_with fail
     go_roundw
     case rel =>
      have h1:=own_set hown2 t htn (.int .i64 0)
      rw [← List.map_set,← Hrk.out] at h1
      exact ⟨k+1,t - 1,by have:=Htk.out;omega,by omega,by congr 1;omega,h1,honly2.trans (Only.set _ t _ (by intro e;have:=hplt (by omega);rw [e] at this;cases this))⟩
     case measure=>simp [intOf] <;> omega
  ·have hkf : k=n - d:=by omega
   have Hfin : Hid (dvB P low mod=(dvT P low n r0 k).all fun x=>x == 0):=by show _=_;rw [HDB.out,hkf]
   have HlT : Hid ((dvT P low n r0 k).length=n):=by show _=_;rw [dvT_len];exact HL0.out
   obtain ⟨C2,hC2⟩ : ∃ C2,dvT P low n r0 k=C2:=⟨_,rfl⟩
   rw [hC2] at hownk Hfin HlT
   have iC:=(Ints.own hownk).1
   have hpC:=iC.pl
   clear hC2 htk hkf hownk
   go_wp2_with fail
   go_loop [12] (fun iv=>∃ j : Nat,j≤n∧iv = .int .i64 j∧Hid ((C2.take j).all (fun x=>x == 0)=true)) (fun iv=>n - (intOf iv).toNat)
   case atStart=>exact ⟨0,Nat.zero_le _,rfl,by show _=_;simp⟩
   case round =>
    obtain ⟨j,hj,rfl,hall⟩:=hrel
    by_cases hlt : j<n
    ·have cj:=iC.cell j hlt
     have hjl : j<C2.length:=by rw [HlT.out];exact hlt
     by_cases hz : nth C2 j=0
     ·have hz' : (nth C2 j != 0)=false:=by simpa using hz
      have Hs : Hid ((C2.take (j+1)).all (fun x=>x == 0)=true):=all_take_succ hjl hall.out (by rw [← nth_getElem hjl,hz];rfl)
      clear hz
      go_wp2_with fail
      go_round
      case rel=>exact ⟨j+1,by omega,by go_num,Hs.out⟩
      case measure=>simp [intOf] <;> omega
     ·have hz' : (nth C2 j != 0)=true:=by simpa using hz
      have Hs : Hid (dvB P low mod=false):=by show _=_;rw [Hfin.out];exact all_false_at hjl (by rw [← nth_getElem hjl];simpa using hz)
      clear hz
      go_wp2_with fail
      go_ret
      exact ⟨ret_bool Hs.out.symm,hbk⟩
    ·obtain rfl : j=n:=by omega
     have Hs : Hid (dvB P low mod=true):=by
      have:=hall.out
      rw [List.take_of_length_le (by rw [HlT.out];exact Nat.le_refl _)] at this
      show _=_;rw [Hfin.out,this]
     go_wp2_with fail
     go_ret
     exact ⟨ret_bool Hs.out.symm,hbk⟩
def irD (P : Int) (mod : List Int) (d q : Nat) : Bool:=(List.range q).all fun v=>!dvB P (digs v P d) mod
def irTo (P : Int) (mod : List Int) (k : Nat) : Bool:=(List.range k).all fun d=>irD P mod (d+1) (P ^ (d+1)).toNat
def irrB (P : Int) (mod : List Int) : Bool:=irTo P mod (mod.length / 2)
theorem range_all_succ {p : Nat→Bool} {k : Nat} (h : (List.range k).all p=true) (hk : p k=true) : (List.range (k+1)).all p=true:=by
 rw [List.range_succ,List.all_append,h];simp [hk]
theorem range_all_no {p : Nat→Bool} {k n : Nat} (hk : k<n) (h : p k=false) : (List.range n).all p=false:=by
 rw [List.all_eq_false];exact ⟨k,List.mem_range.2 hk,by simp [h]⟩
set_option maxRecDepth 100000 in
set_option maxHeartbeats 4000000 in
theorem rIrreducible_any (am : Option Addr) (mn cm : Nat) (mod : List Int) (P : Int) (w : World) (hm : Ints w am mn mod) (hp2 : 2≤P) (hp256 : P≤256) (hdm : Dig P mod) (hmn : mn≤8) (hpw : P ^ mn≤256) :
  Calls Tryz.prog 140 #[.slice am mn cm,.int .i64 P] w fun e w'=>e = .returned (.bool (irrB P mod))∧Below w.heap.size w w':=by
 have Hml:=Lib.hid hm.len
 have Hdm:=Lib.hid hdm
 have HP : Hid (∀ k,k≤mn→1≤P ^ k∧P ^ k≤256):=fun k hk=>⟨by have:=pow_mono (show 1≤P by omega) (Nat.zero_le k);rwa [Int.pow_zero] at this,Int.le_trans (pow_mono (show 1≤P by omega) hk) hpw⟩
 have HI : Hid (irrB P mod=irTo P mod (mn / 2)):=by show _=_;rw [irrB,hm.len]
 clear hdm hpw
 go_enter Tryz.func140,Tryz.ntmps140
 go_wp2_with fail
 go_loopw [5,6] (fun cv dv wr=>∃ d : Nat,1≤d∧2 * d≤mn+2∧dv = .int .i64 d∧cv = .int .i64 (P ^ (d - 1))∧Hid (irTo P mod (d - 1)=true)∧Below w.heap.size w wr) (fun _ dv _=>mn+2 - (intOf dv).toNat)
 case atStart=>exact ⟨1,by omega,by omega,rfl,by simp,by show _=_;simp [irTo],Below.refl _ _⟩
 case round =>
  obtain ⟨d,hd1,hd2,rfl,rfl,hir,hbr⟩:=hrel
  by_cases hlt : 2 * d≤mn
  ·have hpe:=HP.out (d - 1) (by omega)
   have hpe1:=HP.out d (by omega)
   have hps : P ^ d=P ^ (d - 1) * P:=by
    have h1:=Int.pow_succ P (d - 1)
    have h2 : (d - 1).succ=d:=Nat.sub_add_cancel hd1
    rwa [h2] at h1
   obtain ⟨q,hq⟩ : ∃ q : Nat,P ^ d=q:=⟨(P ^ d).toNat,by omega⟩
   have HQ : Hid (irTo P mod d=(irTo P mod (d - 1) && irD P mod d q)):=by
    have e1 : irTo P mod d=(List.range ((d - 1)+1)).all fun d=>irD P mod (d+1) (P ^ (d+1)).toNat:=by rw [Nat.sub_add_cancel hd1];rfl
    show _=_;rw [e1,List.range_succ,List.all_append]
    simp only [List.all_cons,List.all_nil,Bool.and_true]
    rw [Nat.sub_add_cancel hd1,hq];rfl
   have Hps : Hid (P ^ (d - 1) * P=(q : Int)):=by show _=_;rw [← hps,hq]
   have hq256 : q≤256:=by omega
   have Hq:=Lib.hid hq
   have Hlen : Hid (∀ v : Nat,(digs v P d).length=d):=fun v=>digs_length _ _ _
   have Hdd : Hid (∀ v : Nat,Dig P (digs v P d)):=fun v=>Dig.digs (by omega) _ _
   have Hf0 : Hid (∀ v : Nat,v<q→dvB P (digs v P d) mod=true→irrB P mod=false):=fun v hv hd=>by
    rw [HI.out]
    refine range_all_no (k:=d - 1) (by omega) ?_
    rw [Nat.sub_add_cancel hd1,hq,Int.toNat_natCast]
    exact range_all_no hv (by rw [hd];rfl)
   clear hps hpe1 hq
   obtain ⟨pe,hpe'⟩ : ∃ pe,P ^ (d - 1)=pe:=⟨_,rfl⟩
   rw [hpe'] at Hps hpe
   rw [hpe']
   have hps2:=Hps.out
   have hltd : decide (2 * (d : Int)≤mn)=true:=by simp;omega
   have hltn : decide (2 * d≤mn)=true:=by simp;omega
   clear hpe'
   go_wp2_with fail
   clear hps2
   go_loopw [7] (fun vv wx=>∃ v : Nat,v≤q∧vv = .int .i64 v∧Hid ((List.range v).all (fun v=>!dvB P (digs v P d) mod)=true)∧Below w.heap.size w wx) (fun vv _=>q - (intOf vv).toNat)
   case atStart=>exact ⟨0,Nat.zero_le _,rfl,by show _=_;simp,hbr⟩
   case round =>
    obtain ⟨v,hv,rfl,hall,hbx⟩:=hrel
    by_cases hvq : v<q
    ·obtain ⟨D,hD⟩ : ∃ D,digs v P d=D:=⟨_,rfl⟩
     have Hl:=Lib.hid (Hlen.out v)
     have Hg:=Lib.hid (Hdd.out v)
     have Hf:=Lib.hid (Hf0.out v hvq)
     have HDg:=Lib.hid (rdigits_any v P d wr (by omega) (by omega) (by omega) (by omega))
     rw [hD] at Hl Hg Hf HDg
     have HD:=Lib.hid hD
     clear hD
     go_wp2_with fail
     refine HDg.out.mono ?_
     rintro e1 w1 ⟨a1,c1,rfl,hown1,hb1⟩
     rw [Hl.out] at hown1 ⊢
     have hi1:=(Ints.own hown1).1
     have hbx1:=Below.next hbx hb1
     clear hown1
     go_wp2_with fail
     refine (rDivides_any a1 d c1 D am mn cm mod P w1 hi1 (hm.keep hbx1) hp2 hp256 Hg.out Hdm.out hd1 (by omega) hmn).mono ?_
     rintro e2 w2 ⟨rfl,hb2⟩
     have hbx2:=Below.next hbx1 hb2
     by_cases hdv : dvB P D mod=true
     ·have Hf2:=Lib.hid (Hf.out hdv)
      rw [hdv]
      clear hdv
      go_wp2_with fail
      go_ret
      exact ⟨ret_bool Hf2.out.symm,hbx2⟩
     ·have hdv' : dvB P D mod=false:=by simpa using hdv
      have Hs : Hid ((List.range (v+1)).all (fun v=>!dvB P (digs v P d) mod)=true):=range_all_succ hall.out (by rw [HD.out,hdv'];rfl)
      rw [hdv']
      clear hdv hdv'
      go_wp2_with fail
      go_roundw
      case rel=>exact ⟨v+1,by omega,by go_num,Hs.out,hbx2⟩
      case measure=>simp [intOf] <;> omega
    ·obtain rfl : v=q:=by omega
     have Hs : Hid (irTo P mod d=true):=by show _=_;rw [HQ.out,hir.out,irD,hall.out];rfl
     go_wp2_with fail
     go_roundw
     case rel=>exact ⟨d+1,by omega,by omega,by go_num,by rw [Nat.add_sub_cancel,Hq.out],Hs.out,hbx⟩
     case measure=>simp [intOf] <;> omega
  ·have Hs : Hid (irrB P mod=true):=by show _=_;rw [HI.out,show mn / 2=d - 1 by omega];exact hir.out
   go_wp2_with fail
   go_ret
   exact ⟨ret_bool Hs.out.symm,hbr⟩
end

section
open Go.RowKit
set_option maxRecDepth 100000 in
set_option maxHeartbeats 3200000 in
theorem rAddTo_any (P : Int) (m : Nat) (am : Option Addr) (mn cm : Nat) (mod : List Int) (av : Option Addr) (n cv : Nat) (v : List Int) (s : Int) (au : Option Addr) (cu : Nat) (u : List Int) (w : World) (hf : RFld w P m am mn mod) (hs : ElP P m s)
  (hi : Ints w av n v) (hu : Ints w au n u) (hve : ∀ x ∈ v,ElP P m x) (hue : ∀ x ∈ u,ElP P m x) (hn : n≤1000000) :
  Calls Tryz.prog 23 #[.agg #[.int .i64 P,.int .i64 m,.slice am mn cm],.slice av n cv,.int .i64 s,.slice au n cu] w (NewInts w (addRow (rops P m mod) v s u)):=by
 have hrf:=hf.rf
 have Hs:=Lib.hid (hrf.isQ hs)
 have Hvl:=Lib.hid hi.len
 have Hul:=Lib.hid hu.len
 have hplv:=hi.pl
 have hplu:=hu.pl
 have Hev : Hid (∀ k,k<n→isQ (orderS P m) (nth v k)=true):=fun k hk=>hrf.isQ (hve _ (nth_mem (by rw [hi.len];exact hk)))
 have Heu : Hid (∀ k,k<n→isQ (orderS P m) (nth u k)=true):=fun k hk=>hrf.isQ (hue _ (nth_mem (by rw [hu.len];exact hk)))
 have HNl : Hid ((addRow (rops P m mod) v s u).length=n):=by show _=_;rw [addRow_length _ _ _ _ (by rw [hi.len,hu.len]),hi.len]
 have HNn : Hid (∀ k,k<n→nth (addRow (rops P m mod) v s u) k=if nth u k=0 then nth v k else fsum P m (nth v k) (mulR P m mod s (nth u k))):=fun k hk=>nth_addRow (rops P m mod) v s u k (by rw [hi.len,hu.len]) (by rw [hi.len];exact hk)
 obtain ⟨NN,hNN⟩ : ∃ NN,addRow (rops P m mod) v s u=NN:=⟨_,rfl⟩
 rw [hNN] at HNl HNn
 rw [hNN]
 clear hve hue hNN
 go_enter Tryz.func23,Tryz.ntmps23
 go_wp2_with (at_make;refine wpList_mk rfl _ _ 22 3 rfl (.int .i64 0) 8 Tryz.underlying22 infoInt rfl n rfl rfl (by omega) (by unfold maxLen;omega) ?_;intro a1 w1 hown hbel hge hlt)
 obtain ⟨W,hW⟩ : ∃ W : World,W=w.alloc (.cells #[.int .i64 P,.int .i64 m,.slice am mn cm] 24):=⟨_,rfl⟩
 rw [← hW] at hown hbel hge
 have hbW : Below w.heap.size w W:=by rw [hW];exact below1 _ _
 have x0 : Box W w.heap.size [.int .i64 P,.int .i64 m,.slice am mn cm]:=by rw [hW];exact Box.new _ _ _ rfl
 have hfW:=hf.keep hbW
 have hiW:=hi.keep hbW
 have huW:=hu.keep hbW
 have hS : ∀ k,k<n→∀ V,Below W.heap.size W V→V.cell? ⟨w.heap.size,0,none⟩=some (.int .i64 P)∧V.cell? ⟨w.heap.size,1,none⟩=some (.int .i64 m)∧V.cell? ⟨w.heap.size,2,none⟩=some (.slice am mn cm) ∧
   V.cell? ⟨ablk av,aoff av+k,none⟩=some (.int .i64 (nth v k))∧V.cell? ⟨ablk au,aoff au+k,none⟩=some (.int .i64 (nth u k))∧Below W.heap.size W V:=by
  intro k hk V hV
  have x1:=x0.keep hV
  exact ⟨x1.cell 0 rfl,x1.cell 1 rfl,x1.cell 2 rfl,(hiW.keep hV).cell k hk,(huW.keep hV).cell k hk,hV⟩
 have HS:=Lib.hid hS
 clear hW x0 hS
 go_loopw [10] (fun iv wr=>∃ k : Nat,k≤n∧iv = .int .i64 k ∧
   wr.ownsRow W.heap.size 3 1 (.slice a1 n n) n ((fillTo (NN.take k) k n).map (Value.int .i64))∧Below W.heap.size W wr)
  (fun i _=>n - (intOf i).toNat)
 case atStart=>exact ⟨0,Nat.zero_le _,rfl,by simpa [fillTo] using hown,hbel⟩
 case round =>
  obtain ⟨k,hk,rfl,hown,hbel⟩:=hrel
  obtain ⟨hints,hmine⟩:=Ints.own hown
  have hpl1:=hints.pl
  by_cases hlt : k<n
  ·have hB:=(hmine (by omega)).1
   have cc:=hints.cell k hlt
   have cf:=(hmine (by omega)).2 k hlt
   obtain ⟨d0,d1,d2,d3,d4,_⟩:=HS.out k hlt wr hbel
   have hset : ∀ (V : World) (z : Int),z=nth NN k→V.ownsRow W.heap.size 3 1 (.slice a1 n n) n ((fillTo (NN.take k) k n).map (Value.int .i64))→(V.setCell ⟨ablk a1,aoff a1+k,none⟩ (.int .i64 z)).ownsRow W.heap.size 3 1 (.slice a1 n n) n ((fillTo (NN.take (k+1)) (k+1) n).map (Value.int .i64)):=by
    rintro V z rfl hV
    have h:=own_set hV k hlt (.int .i64 (nth NN k))
    rw [← List.map_set,fillTo_set _ _ _ _ (by simp [HNl.out];omega) hlt] at h
    rw [List.take_succ_eq_append_getElem (by rw [HNl.out];omega)]
    rw [nth_getElem (by rw [HNl.out];omega)] at h ⊢
    exact h
   have Hset:=Lib.hid hset
   have HB:=Lib.hid hB
   have hNk:=HNn.out k hlt
   have hown':=own_set hown k hlt (.int .i64 (nth v k))
   by_cases hz : nth u k=0
   ·rw [if_pos hz] at hNk
    have hz' : (nth u k != 0)=false:=by simpa using hz
    have HNk:=Lib.hid hNk
    have dd : (wr.setCell ⟨ablk a1,aoff a1+k,none⟩ (.int .i64 (nth v k))).cell? ⟨ablk au,aoff au+k,none⟩=some (.int .i64 (nth u k)):=(HS.out k hlt _ (hbel.setCell hB _)).2.2.2.2.1
    clear hset hz hNk hown'
    go_wp2_with fail
    go_roundw
    case rel=>exact ⟨k+1,by omega,by go_num,Hset.out _ _ HNk.out.symm hown,hbel.setCell HB.out _⟩
    case measure=>simp [intOf] <;> omega
   ·rw [if_neg hz] at hNk
    have hz' : (nth u k != 0)=true:=by simpa using hz
    have HNk:=Lib.hid hNk
    obtain ⟨U,hU⟩ : ∃ U : World,U=wr.setCell ⟨ablk a1,aoff a1+k,none⟩ (.int .i64 (nth v k)):=⟨_,rfl⟩
    have hbU : Below W.heap.size W U:=by rw [hU];exact hbel.setCell hB _
    have dd : (wr.setCell ⟨ablk a1,aoff a1+k,none⟩ (.int .i64 (nth v k))).cell? ⟨ablk au,aoff au+k,none⟩=some (.int .i64 (nth u k)):=(HS.out k hlt _ (hbel.setCell hB _)).2.2.2.2.1
    rw [← hU] at hown'
    have hmdU:=(hfW.keep hbU).mods
    have Hmd : Hid (∀ V,Below U.heap.size U V→Mods V P m am mn mod):=fun V hV=>hmdU.keep hV
    have HK : Hid (∀ V,Below U.heap.size U V→(∃ y,V.cell? ⟨ablk a1,aoff a1+k,none⟩=some y)∧V.frozen? ⟨ablk a1,aoff a1+k,none⟩=false∧V.ownsRow W.heap.size 3 1 (.slice a1 n n) n (((fillTo (NN.take k) k n).map (Value.int .i64)).set k (.int .i64 (nth v k)))):=fun V hV=>by
     have ho:=own_keep hown' hV
     have h5:=ownsRow_cell ho k hlt
     exact ⟨⟨_,by rw [h5.1,List.getElem?_eq_getElem (by rw [h5.2.2.2.1];exact hlt)]⟩,h5.2.1,ho⟩
    have HbU:=Lib.hid hbU
    have HelM : Hid (isQ (orderS P m) (mulR P m mod s (nth u k))=true):=hrf.isQ (mulR_el hrf mod _ _)
    have HSk : Hid (∀ V,Below W.heap.size W V→V.cell? ⟨w.heap.size,0,none⟩=some (.int .i64 P)∧V.cell? ⟨w.heap.size,1,none⟩=some (.int .i64 m)∧V.cell? ⟨w.heap.size,2,none⟩=some (.slice am mn cm) ∧
     V.cell? ⟨ablk av,aoff av+k,none⟩=some (.int .i64 (nth v k))∧V.cell? ⟨ablk au,aoff au+k,none⟩=some (.int .i64 (nth u k))∧Below W.heap.size W V):=HS.out k hlt
    have hset2 : ∀ V : World,V.ownsRow W.heap.size 3 1 (.slice a1 n n) n (((fillTo (NN.take k) k n).map (Value.int .i64)).set k (.int .i64 (nth v k))) →
      (V.setCell ⟨ablk a1,aoff a1+k,none⟩ (.int .i64 (fsum P m (nth v k) (mulR P m mod s (nth u k))))).ownsRow W.heap.size 3 1 (.slice a1 n n) n ((fillTo (NN.take (k+1)) (k+1) n).map (Value.int .i64)):=by
     intro V hV
     rw [← HNk.out]
     have h:=own_set hV k hlt (.int .i64 (nth NN k))
     rw [List.set_set,← List.map_set,fillTo_set _ _ _ _ (by simp [HNl.out];omega) hlt] at h
     rw [List.take_succ_eq_append_getElem (by rw [HNl.out];omega)]
     rw [nth_getElem (by rw [HNl.out];omega)] at h ⊢
     exact h
    have Hset2:=Lib.hid hset2
    clear hset hz hNk hown' hmdU hbU hset2
    go_wp2_with fail
    rw [← hU]
    clear hU d0 d1 d2 d3 d4 cc cf dd hbel hints hmine hown hB
    go_region_held3 (fun V=>V.cell? ⟨w.heap.size,0,none⟩=some (.int .i64 P)∧V.cell? ⟨w.heap.size,1,none⟩=some (.int .i64 m)∧V.cell? ⟨w.heap.size,2,none⟩=some (.slice am mn cm) ∧
      V.cell? ⟨ablk av,aoff av+k,none⟩=some (.int .i64 (nth v k))∧V.cell? ⟨ablk au,aoff au+k,none⟩=some (.int .i64 (nth u k))∧Below W.heap.size W V)
     ((refine HSk.out _ ?_;first | exact HbU.out.drew | exact Below.next HbU.out hb7 | exact Below.next HbU.out hb9 | exact (Below.next HbU.out hb9).setCell HB.out _))
     (first
      | (go_at_call 64;((with_reducible refine (rMul_any P m am mn cm mod s (nth u k) _ hrf (Hmd.out _ (Below.refl _ _).drew) Hs.out (Heu.out k hlt)).mono ?_);rintro e w4 ⟨rfl,hb4⟩;have hb7 : Below U.heap.size U w4:=Below.next (Below.refl _ _).drew hb4))
      | (go_at_call 63;((with_reducible refine (rAdd_any P m am mn cm (nth v k) (mulR P m mod s (nth u k)) _ hrf (Hev.out k hlt) HelM.out).mono ?_);rintro e w5 ⟨rfl,hb5⟩;have hb9 : Below U.heap.size U w5:=Below.next hb7 hb5;obtain ⟨⟨v9,k9⟩,f9,o9⟩:=HK.out w5 hb9)))
    clear k9 f9
    go_wp2_with fail
    go_roundw
    case rel=>exact ⟨k+1,by omega,by go_num,Hset2.out _ o9,(Below.next HbU.out hb9).setCell HB.out _⟩
    case measure=>simp [intOf] <;> omega
  ·obtain rfl : k=n:=by omega
   have hfin : fillTo (NN.take k) k k=NN:=by rw [fillTo_all,List.take_of_length_le (by rw [HNl.out];exact Nat.le_refl _)]
   rw [hfin] at hown
   clear hfin
   go_wp2_with fail
   go_ret
   exact ⟨a1,k,by rw [HNl.out];rfl,by rw [HNl.out];exact own_mono hown hbW.size,Below.next hbW hbel⟩
set_option maxRecDepth 100000 in
set_option maxHeartbeats 3200000 in
theorem rCopy_any (a : Option Addr) (n c : Nat) (L : List (List Int)) (w : World) (hi : Mat w a n L) (hn : n≤1000000) (hL : ∀ l ∈ L,l.length≤1000000) :
  Calls Tryz.prog 208 #[.slice a n c] w (NewMat w L):=by
 have hpl:=hi.pl
 have Hlen:=Lib.hid hi.len
 have HL:=Lib.hid hL
 clear hL
 go_enter Tryz.func208,Tryz.ntmps208
 go_wp2_with fail
 go_loopw [3,4] (fun sv iv wr=>∃ (k : Nat) (a1 : Option Addr) (c1 : Nat),k≤n∧iv = .int .i64 k∧sv = .slice a1 k c1∧(∃ R,OMat wr w.heap.size a1 k c1 R (L.take k))∧Below w.heap.size w wr) (fun _ iv _=>n - (intOf iv).toNat)
 case atStart=>exact ⟨0,none,0,Nat.zero_le _,rfl,rfl,⟨[],by simpa using OMat.nul w w.heap.size⟩,Below.refl _ _⟩
 case round =>
  obtain ⟨k,a1,c1,hk,rfl,rfl,⟨R,hO⟩,hbr⟩:=hrel
  by_cases hlt : k<n
  ·obtain ⟨ra,rn,rc,hcell,hrow⟩:=(hi.keep hbr).cell k hlt
   have hkL : k<L.length:=by rw [Hlen.out];exact hlt
   have hrl : rn≤1000000:=by rw [← hrow.len,nthR_getElem hkL];exact HL.out _ (List.getElem_mem hkL)
   have hO1:=own_emp wr 3
   have hbe:=below1 wr (.cells #[] 3)
   obtain ⟨l,hl⟩ : ∃ l,nthR L k=l:=⟨_,rfl⟩
   rw [hl] at hrow
   have Htk : Hid (L.take (k+1)=L.take k ++ [l]):=by show _=_;rw [List.take_succ_eq_append_getElem hkL,← hl,nthR_getElem hkL]
   have hrowe:=hrow.keep hbe
   have hcell2:=cell_box hcell (.cells #[] 3)
   have hpr:=hrow.pl
   have Hrl:=Lib.hid hrow.len
   have hsz:=hbr.size
   clear hl
   go_wp2_with (at_builtin;first
    | (refine wpList_appAll (by rfl) (.tmp 12) (.tmp 16) 22 3 (by rfl) (.int .i64 0) 8 Tryz.underlying22 infoInt (by rfl) wr.heap.size _ 0 0 [] (by rfl) hO1 ra rn rc (l.map (Value.int .i64)) (by rfl) hpr (by simp [Hrl.out]) (Ints.news hrowe) (ints_oneCell _ _) (by omega) (by unfold maxLen;omega) (Below.size hbe) ?_;intro a3 c3 w3 hown3 hgr3 hap3;have hb3 : Below wr.heap.size wr w3:=Below.app (B:=wr.heap.size) (e:=3) (xs:=[]) hbe hO1 hgr3 (Nat.le_refl _) (Below.size hbe);rw [Nat.zero_add] at hown3 ⊢;rw [List.nil_append] at hown3)
    | (refine wpList_push rfl _ _ 25 22 rfl (.slice none 0 0) 24 Tryz.underlying25 infoInts rfl w.heap.size a1 k c1 _ rfl ((hO.keep (Below.next hb3 (below1 _ _))).own) ⟨w3.heap.size,0,none⟩ 1 (.slice a3 rn c3) rfl (cell_new w3 _ _) rfl (by omega) (by unfold maxLen;omega) (by have h1:=Below.size hb3;simp;omega) ?_;intro a5 c5 w5 hown5 hgr5 hap5)
    | fail)
   go_roundw
   case rel =>
    have hb4 : Below wr.heap.size wr (w3.alloc (.cells #[.slice a3 rn c3] 22)):=Below.next hb3 (below1 _ _)
    have hO4:=hO.keep hb4
    have hown4 : (w3.alloc (.cells #[.slice a3 rn c3] 22)).ownsRow w.heap.size 3 1 (.slice a3 l.length c3) l.length (l.map (Value.int .i64)):=by
     rw [Hrl.out];exact own_mono (own_keep hown3 (below1 _ _)) hsz
    have hra : a3 ≠ none→¬ OIn a1 R (ablk a3):=fun h0 hI=>by
     have h1:=(own_ne hown3 h0).1
     have h2:=(hO.lt _ hI).2
     omega
    have hP:=OMat.push hO4 hown4 hra (by rw [Hrl.out];exact hown5) hgr5 hap5
    have hb5 : Below w.heap.size w w5:=Below.app (Below.next hbr hb4) hO4.own hgr5 (Nat.le_refl _) (Nat.le_trans hsz hb4.size)
    exact ⟨k+1,a5,c5,by omega,by go_num,rfl,⟨_,by rw [Htk.out];exact hP⟩,hb5⟩
   case measure=>simp [intOf] <;> omega
  ·obtain rfl : k=n:=by omega
   rw [List.take_of_length_le (by rw [Hlen.out];exact Nat.le_refl _)] at hO
   go_wp2_with fail
   go_ret
   exact ⟨a1,c1,R,by rw [Hlen.out];rfl,by rw [Hlen.out];exact hO,hbr⟩
end

section
section
variable {P : Program} {ops : Array Oper} {Q : Exit→Act→World→Prop} {md : Region.Mode} {S : World→Prop} {n : Nat}
def wpAnyK (P : Program) (md : Region.Mode) (ops : Array Oper) (Q : Exit→Act→World→Prop) (S : World→Prop) (n : Nat) : Nat→Array Bool→Act→World→Prop
 | 0,listed,a,w=>Region.ready md ops listed=[]∧Q .normal a w
 | fuel+1,listed,a,w =>
  (Region.ready md ops listed=[]→Q .normal a w) ∧
  ∀ i ∈ Region.ready md ops listed,wpOp P ops Q i (fun a' w'=>(i<n→S w')∧wpAnyK P md ops Q S n fuel (listed.setIfInBounds i true) a' w') a w
theorem wpAny_of_K : ∀ (fuel : Nat) (listed : Array Bool) (a : Act) (w : World),wpAnyK P md ops Q S n fuel listed a w→wpAny P md ops Q fuel listed a w
 | 0,_,_,_,h=>h
 | fuel+1,_,_,_,h=>⟨h.1,fun i hi=>wpOp_mono (fun a' w' h'=>wpAny_of_K fuel _ a' w' h'.2) (h.2 i hi)⟩
theorem wpAnyK_first {i : Nat} {oi : Oper} {v : Value} (hi : ops[i]? = some oi) (hsel : ∀ (j : Nat) (o : Oper) cs b,ops[j]? = some o→o.op ≠ .select cs b)
  (hQ : ∀ c a w,Q (.panic c) (a.put oi.dst v) w→Q (.panic c) a w) (hs : Region.sinkB md ops n=true) (hc : Region.chainB md ops n=true) (hn : n<ops.size) (hin : i<n) :
  ∀ (fuel : Nat) (listed : Array Bool) (a : Act) (w : World),HeadInv md ops n listed →
   (∀ j oj,ops[j]? = some oj→j ≠ i→listed.getD j true=false→(∀ e ∈ oj.after,Region.binds md e=true→e.on ≠ i)→oi.apart ops oj=true) →
   i ∈ Region.ready md ops listed→YieldsIf P ops S oi v a→S w →
   wpAnyK P md ops Q S n fuel (listed.setIfInBounds i true) (a.put oi.dst v) w→wpAnyK P md ops Q S n (fuel+1) listed a w:=by
 intro fuel
 induction fuel with
 | zero =>
  intro listed a w inv _ hr hy hS H
  refine ⟨fun h=>(by rw [h] at hr;cases hr),fun j hj=>?_⟩
  by_cases hji : j=i
  ·subst hji;exact hy.wpOp hi hS ⟨fun _=>hS,H⟩
  ·have:=ready_mono hj hji
   rw [H.1] at this
   cases this
 | succ fuel ih =>
  intro listed a w inv hfree hr hy hS H
  have hun:=(mem_ready.1 hr).1
  refine ⟨fun h=>(by rw [h] at hr;cases hr),fun j hj=>?_⟩
  by_cases hji : j=i
  ·subst hji;exact hy.wpOp hi hS ⟨fun _=>hS,H⟩
  ·have hjn : j<n:=by
    rcases Nat.lt_or_ge j n with h | h
    ·exact h
    ·exact absurd hj (tail_waits hs hc hn inv _ i rfl hin hun j h)
   have h1:=H.2 j (ready_mono hj hji)
   obtain ⟨hjun,oj,hoj,hall⟩:=mem_ready.1 hj
   have hnot : ∀ e ∈ oj.after,Region.binds md e=true→e.on ≠ i:=fun e he hb heq=>by
    have h1:=hall e he hb
    rw [heq,getD_both hun] at h1
    cases h1
   have h2:=wpOp_putIf hoj (hfree j oj hoj hji hjun hnot) (fun cs b=>hsel i oi cs b hi) (fun cs b=>hsel j oj cs b hoj) hQ hy h1
   have hfree' : ∀ k ok,ops[k]? = some ok→k ≠ i→(listed.setIfInBounds j true).getD k true=false →
     (∀ e ∈ ok.after,Region.binds md e=true→e.on ≠ i)→oi.apart ops ok=true:=fun k ok hk hki hku hno=>by
    refine hfree k ok hk hki ?_ hno
    by_cases hjk : j=k
    ·subst hjk;exact hjun
    ·rw [getD_set_ne true hjk] at hku;exact hku
   refine wpOp_mono (fun a' w' h3=>?_) h2
   have hSw:=h3.2.1 hjn
   refine ⟨fun _=>hSw,ih (listed.setIfInBounds j true) a' w' (inv.set hj hjn) hfree' (ready_mono hr (Ne.symm hji)) h3.1 hSw ?_⟩
   rw [Array.setIfInBounds_comm _ _ hji]
   exact h3.2.2
theorem wpAnyK_take {i : Nat} {oi : Oper} {v : Value} {fuel : Nat} {listed : Array Bool} {a : Act} {w : World} (hi : ops[i]? = some oi)
  (hs : (Region.noSelect ops && (Region.sinkB md ops n && (Region.chainB md ops n && (decide (n<ops.size) && decide (i<n)))))=true) (hf : Region.free md ops listed i=true) (hr : (Region.ready md ops listed).contains i=true)
  (hQ : ∀ c a w,Q (.panic c) (a.put oi.dst v) w→Q (.panic c) a w) (hy : YieldsIf P ops S oi v a) (hI : HeadInv md ops n listed∧S w)
  (h : HeadInv md ops n (listed.setIfInBounds i true)∧S w→wpAnyK P md ops Q S n fuel (listed.setIfInBounds i true) (a.put oi.dst v) w) : wpAnyK P md ops Q S n (fuel+1) listed a w:=by
 simp only [Bool.and_eq_true,decide_eq_true_eq] at hs
 have hr' : i ∈ Region.ready md ops listed:=by simpa using hr
 exact wpAnyK_first hi (Region.noSelect_spec hs.1) hQ hs.2.1 hs.2.2.1 hs.2.2.2.1 hs.2.2.2.2 fuel listed a w hI.1 (Region.free_spec hi hf) hr' hy hI.2 (h ⟨hI.1.set hr' hs.2.2.2.2,hI.2⟩)
theorem wpAnyK_one {i : Nat} {fuel : Nat} {listed : Array Bool} {a : Act} {w : World} (hr : Region.ready md ops listed=[i]) (hin : i<n) (hI : HeadInv md ops n listed)
  (h : wpOp P ops Q i (fun a' w'=>S w'∧(HeadInv md ops n (listed.setIfInBounds i true)∧S w'→wpAnyK P md ops Q S n fuel (listed.setIfInBounds i true) a' w')) a w) : wpAnyK P md ops Q S n (fuel+1) listed a w :=
 ⟨fun h0=>(by rw [hr] at h0;cases h0),fun j hj=>by
  rw [hr,List.mem_singleton] at hj;subst hj
  exact wpOp_mono (fun a' w' h'=>⟨fun _=>h'.1,h'.2 ⟨hI.set (by rw [hr];simp) hin,h'.1⟩⟩) h⟩
theorem wpAnyK_last {i : Nat} {fuel : Nat} {listed : Array Bool} {a : Act} {w : World} (hr : Region.ready md ops listed=[i]) (hin : n≤i) (hd : Region.ready md ops (listed.setIfInBounds i true)=[])
  (h : wpOp P ops Q i (fun a' w'=>Q .normal a' w') a w) : wpAnyK P md ops Q S n (fuel+1) listed a w :=
 ⟨fun h0=>(by rw [hr] at h0;cases h0),fun j hj=>by
  rw [hr,List.mem_singleton] at hj;subst hj
  refine wpOp_mono (fun a' w' h'=>⟨fun h1=>by omega,?_⟩) h
  cases fuel with
  | zero=>exact ⟨hd,h'⟩
  | succ f=>exact ⟨fun _=>h',by rw [hd];simp⟩⟩
theorem wpAnyK_op {i : Nat} {o : Oper} {fuel : Nat} {listed : Array Bool} {a : Act} {w : World} (hr : Region.ready md ops listed=[i]) (hin : i<n) (hI : HeadInv md ops n listed) (ho : ops[i]? = some o)
  (h : ∀ K' : Act→World→Prop,Shut (∀ a w,S w→(HeadInv md ops n (listed.setIfInBounds i true)∧S w→wpAnyK P md ops Q S n fuel (listed.setIfInBounds i true) a w)→K' a w)→if Region.wanted o (yielded ops a.tmps)=true then Oper.wp P o a w K' Q else K' (a.put o.dst undef) w) :
  wpAnyK P md ops Q S n (fuel+1) listed a w :=
 wpAnyK_one hr hin hI (wpOp_step ho fun K' hK=>h K' fun a w hS hW=>hK a w ⟨hS,hW⟩)
theorem wpAnyK_end {i : Nat} {o : Oper} {fuel : Nat} {listed : Array Bool} {a : Act} {w : World} (hr : Region.ready md ops listed=[i]) (hin : n≤i) (hd : Region.ready md ops (listed.setIfInBounds i true)=[]) (ho : ops[i]? = some o)
  (h : ∀ K' : Act→World→Prop,Shut (∀ a w,Q .normal a w→K' a w)→if Region.wanted o (yielded ops a.tmps)=true then Oper.wp P o a w K' Q else K' (a.put o.dst undef) w) :
  wpAnyK P md ops Q S n (fuel+1) listed a w :=
 wpAnyK_last hr hin hd (wpOp_step ho fun K' hK=>h K' fun a w hq=>hK a w hq)
theorem headInv0 : HeadInv md ops n (Array.replicate ops.size false) :=
 ⟨by simp,fun j oj _ hl=>(by rw [getD_replicate_false] at hl;cases hl),fun t _ ht=>by
  have:=getD_replicate_false ops.size t
  exact getD_in (by simpa using ht) this⟩
theorem wp_region_K {id : Nat} {a : Act} {w : World} (S : World→Prop) (n : Nat) (hm : P.follows .mixedOrders=true) (hS : S w.drew)
  (h : HeadInv .any ops n (Array.replicate ops.size false)∧S w.drew→wpAnyK P .any ops Q S n ops.size (Array.replicate ops.size false) a w.drew) : (Code.region id ops true).wp P Q a w :=
 wp_region_any hm (wpAny_of_K _ _ _ _ (h ⟨headInv0,hS⟩))
end
end

section
open Go.RowKit
def fieldRB (P M : Int) (mod : List Int) : Bool:=shapeB P M mod && (M == 1 || irrB P mod)
theorem shapeB_no0 {P M : Int} {mod : List Int} (h : orderS P M=0) : shapeB P M mod=false:=by simp [shapeB,h]
theorem shapeB_noP {P M : Int} {mod : List Int} (h : primeB P.toNat=false) : shapeB P M mod=false:=by simp [shapeB,h]
set_option maxRecDepth 100000 in
set_option maxHeartbeats 4000000 in
theorem rFieldCheck_any (P M : Int) (am : Option Addr) (mn cm : Nat) (mod : List Int) (w : World) (hmod : Ints w am mn mod) :
  Calls Tryz.prog 89 #[.agg #[.int .i64 P,.int .i64 M,.slice am mn cm]] w fun e w'=>e = .returned (.int .i64 (errField (fieldRB P M mod)))∧Below w.heap.size w w':=by
 have Hml:=Lib.hid hmod.len
 have hplm:=hmod.pl
 have hmax:=hmod.max
 unfold maxLen at hmax
 go_enter Tryz.func89,Tryz.ntmps89
 go_wp2_with fail
 obtain ⟨W,hW⟩ : ∃ W : World,W=w.alloc (.cells #[.int .i64 P,.int .i64 M,.slice am mn cm] 24):=⟨_,rfl⟩
 rw [← hW]
 have hbW : Below w.heap.size w W:=by rw [hW];exact below1 _ _
 have x0 : Box W w.heap.size [.int .i64 P,.int .i64 M,.slice am mn cm]:=by rw [hW];exact Box.new _ _ _ rfl
 have HX:=Lib.hid x0
 clear hW x0
 refine (rOrder_any P M am mn cm W).mono ?_
 rintro e w1 ⟨rfl,hb1⟩
 have hbw1:=Below.next hbW hb1
 have xU:=HX.out.keep hb1
 have d0:=xU.cell 0 rfl
 have d1:=xU.cell 1 rfl
 have d2:=xU.cell 2 rfl
 have hm1:=(hmod.keep hbW).keep hb1
 clear xU
 by_cases ho : orderS P M=0
 ·have Hf : Hid (errField (fieldRB P M mod)=1):=by show _=_;rw [fieldRB,shapeB_no0 ho];rfl
  rw [ho]
  clear ho
  go_wp2_with fail
  go_ret
  exact ⟨ret_int Hf.out.symm,hbw1⟩
 ·obtain ⟨m,rfl,hrf⟩:=RF.of ho
  have hp2:=hrf.p2
  have hp256:=hrf.p256
  have hm1':=hrf.m1
  have hm8:=hrf.m8
  have hoo : (orderS P m == 0)=false:=by simpa using ho
  have Ho:=Lib.hid ho
  obtain ⟨p,rfl⟩ : ∃ p : Nat,P=p:=⟨P.toNat,by omega⟩
  clear ho
  by_cases hpr : primeB p=true
  ·have Hpr:=Lib.hid hpr
   have Hc:=Lib.hid (rPrime_any p w1 (by omega) (by omega))
   rw [hpr] at Hc
   clear hpr
   have hsh : shapeB p m mod=(if (m : Int)=1 then mod.length == 0 else decide ((mod.length : Int)=m) && mod.all fun c=>decide (0≤c) && decide (c<p)):=by
    have h1 : (orderS p m != 0)=true:=by have:=Ho.out;simpa using this
    rw [shapeB,h1,Int.toNat_natCast,Hpr.out];rfl
   have Hsh:=Lib.hid hsh
   clear hsh
   by_cases hM : m=1
   ·have hM' : ((m : Int) == 1)=true:=by simp [hM]
    have hMi : (m : Int)=1:=by omega
    have HfR : Hid (fieldRB p m mod=(mod.length == 0)):=by show _=_;rw [fieldRB,Hsh.out,if_pos hMi,hM'];simp
    clear hM hMi
    by_cases hl : mn=0
    ·have hl' : ((mn : Int) != 0)=false:=by simp [hl]
     have Hf : Hid (errField (fieldRB p m mod)=0):=by show _=_;rw [HfR.out,Hml.out,hl];rfl
     clear hl
     go_wp2_with (go_at_call 139;refine Hc.out.mono ?_;rintro e w2 ⟨rfl,rfl⟩)
     go_ret
     exact ⟨ret_int Hf.out.symm,hbw1⟩
    ·have hl' : ((mn : Int) != 0)=true:=by simp;omega
     have Hf : Hid (errField (fieldRB p m mod)=1):=by
      show _=_;rw [HfR.out,Hml.out]
      have : (mn == 0)=false:=by simpa using hl
      rw [this];rfl
     clear hl
     go_wp2_with (go_at_call 139;refine Hc.out.mono ?_;rintro e w2 ⟨rfl,rfl⟩)
     go_ret
     exact ⟨ret_int Hf.out.symm,hbw1⟩
   ·have hM' : ((m : Int) == 1)=false:=by simp;omega
    have hMi : ¬ (m : Int)=1:=by omega
    have HfR : Hid (fieldRB p m mod=(decide ((mod.length : Int)=m) && (mod.all fun c=>decide (0≤c) && decide (c<p)) && irrB p mod)):=by
     show _=_;rw [fieldRB,Hsh.out,if_neg hMi,hM'];simp
    clear hM hMi
    by_cases hl : mn=m
    ·have hl' : ((mn : Int) != m)=false:=by simp [hl]
     have HfR2 : Hid (fieldRB p m mod=((mod.all fun c=>decide (0≤c) && decide (c<p)) && irrB p mod)):=by show _=_;rw [HfR.out,Hml.out,hl];simp
     have Hmn : Hid (mn=m):=hl
     have hmnm : (mn : Int)=m:=by omega
     clear hl hmnm
     go_wp2_with (go_at_call 139;refine Hc.out.mono ?_;rintro e w2 ⟨rfl,rfl⟩)
     go_loopw [3] (fun iv wr=>∃ k : Nat,k≤m∧iv = .int .i64 k∧Hid ((mod.take k).all (fun c=>decide (0≤c) && decide (c<p))=true)∧Drawn w1 wr) (fun iv _=>m - (intOf iv).toNat)
     case atStart=>exact ⟨0,Nat.zero_le _,rfl,by show _=_;simp,Drawn.refl _⟩
     case round =>
      obtain ⟨k,hk,rfl,hall,hd⟩:=hrel
      have e0:=hd.cell d0
      have e1:=hd.cell d1
      have e2:=hd.cell d2
      have hmr:=hm1.drawn hd
      by_cases hlt : k<m
      ·have hkmn : k<mn:=by rw [Hmn.out];exact hlt
       have ck:=hmr.cell k hkmn
       have hkl : k<mod.length:=by rw [Hml.out];exact hkmn
       have hkmn' : (k : Int)<mn:=by omega
       by_cases h0 : 0≤nth mod k
       ·have t0 : decide (nth mod k<0)=false:=by simp;omega
        by_cases h1 : nth mod k<p
        ·have t1 : decide ((p : Int)≤nth mod k)=false:=by simp;omega
         have Hs : Hid ((mod.take (k+1)).all (fun c=>decide (0≤c) && decide (c<p))=true):=all_take_succ hkl hall.out (by rw [← nth_getElem hkl];simp [h0,h1])
         go_wp2_with fail
         go_quiet (fail)
         go_wp2
         go_roundw
         case rel=>exact ⟨k+1,by omega,by go_num,Hs.out,hd.drewN _⟩
         case measure=>simp [intOf] <;> omega
        ·have t1 : decide ((p : Int)≤nth mod k)=true:=by simp;omega
         have Hf : Hid (errField (fieldRB p m mod)=1):=by show _=_;rw [HfR2.out,all_false_at hkl (by rw [← nth_getElem hkl];simp [h1])];rfl
         go_wp2_with fail
         go_quiet (fail)
         go_wp2
         go_ret
         exact ⟨ret_int Hf.out.symm,Below.next hbw1 (hd.drewN _).below⟩
       ·have t0 : decide (nth mod k<0)=true:=by simp;omega
        have Hf : Hid (errField (fieldRB p m mod)=1):=by show _=_;rw [HfR2.out,all_false_at hkl (by rw [← nth_getElem hkl];simp [h0])];rfl
        go_wp2_with fail
        go_quiet (fail)
        go_wp2
        go_ret
        exact ⟨ret_int Hf.out.symm,Below.next hbw1 (hd.drewN _).below⟩
      ·obtain rfl : k=m:=by omega
       have Hall : Hid ((mod.all fun c=>decide (0≤c) && decide (c<p))=true):=by
        have:=hall.out
        rwa [List.take_of_length_le (by rw [Hml.out,Hmn.out];exact Nat.le_refl _)] at this
       have HfR3 : Hid (fieldRB p k mod=irrB p mod):=by show _=_;rw [HfR2.out,Hall.out];simp
       have hdig : Dig (p : Int) mod:=Dig.of_mem (by omega) fun x hx=>by
        have:=List.all_eq_true.1 Hall.out x hx
        simpa using this
       have hpw : (p : Int) ^ mn≤256:=by rw [Hmn.out];exact hrf.pw
       have hmn8 : mn≤8:=by rw [Hmn.out];exact hm8
       go_wp2_with fail
       refine (rIrreducible_any am mn cm mod p wr hmr hp2 hp256 hdig hmn8 hpw).mono ?_
       rintro e w4 ⟨rfl,hb4⟩
       have hbw4:=Below.next (Below.next hbw1 hd.below) hb4
       by_cases hir : irrB p mod=true
       ·have Hf : Hid (errField (fieldRB p k mod)=0):=by show _=_;rw [HfR3.out,hir];rfl
        rw [hir]
        clear hir
        go_wp2_with fail
        go_ret
        exact ⟨ret_int Hf.out.symm,hbw4⟩
       ·have hir' : irrB p mod=false:=by simpa using hir
        have Hf : Hid (errField (fieldRB p k mod)=1):=by show _=_;rw [HfR3.out,hir'];rfl
        rw [hir']
        clear hir hir'
        go_wp2_with fail
        go_ret
        exact ⟨ret_int Hf.out.symm,hbw4⟩
    ·have hl' : ((mn : Int) != m)=true:=by simp;omega
     have Hf : Hid (errField (fieldRB p m mod)=1):=by
      show _=_;rw [HfR.out,Hml.out]
      have : decide ((mn : Int)=m)=false:=by simp;omega
      rw [this];rfl
     clear hl
     go_wp2_with (go_at_call 139;refine Hc.out.mono ?_;rintro e w2 ⟨rfl,rfl⟩)
     go_ret
     exact ⟨ret_int Hf.out.symm,hbw1⟩
  ·have hpr' : primeB p=false:=by simpa using hpr
   have Hf : Hid (errField (fieldRB p m mod)=1):=by show _=_;rw [fieldRB,shapeB_noP (by simpa using hpr')];rfl
   have Hc:=Lib.hid (rPrime_any p w1 (by omega) (by omega))
   rw [hpr'] at Hc
   clear hpr hpr'
   go_wp2_with (go_at_call 139;refine Hc.out.mono ?_;rintro e w2 ⟨rfl,rfl⟩)
   go_ret
   exact ⟨ret_int Hf.out.symm,hbw1⟩
end

section
open Go.RowKit
set_option maxRecDepth 100000 in
set_option maxHeartbeats 1600000 in
theorem rEntries_any (P M : Int) (am : Option Addr) (mn cm : Nat) (a : Option Addr) (n c : Nat) (l : List Int) (w : World) (hi : Ints w a n l) :
  Calls Tryz.prog 62 #[.agg #[.int .i64 P,.int .i64 M,.slice am mn cm],.slice a n c] w fun e w'=>e = .returned (.int .i64 (elsE (orderS P M) l))∧Below w.heap.size w w':=by
 have Hlen:=Lib.hid hi.len
 have hpl:=hi.pl
 have hmax:=hi.max
 unfold maxLen at hmax
 go_enter Tryz.func62,Tryz.ntmps62
 go_wp2_with fail
 obtain ⟨W,hW⟩ : ∃ W : World,W=w.alloc (.cells #[.int .i64 P,.int .i64 M,.slice am mn cm] 24):=⟨_,rfl⟩
 rw [← hW]
 have hbW : Below w.heap.size w W:=by rw [hW];exact below1 _ _
 have x0 : Box W w.heap.size [.int .i64 P,.int .i64 M,.slice am mn cm]:=by rw [hW];exact Box.new _ _ _ rfl
 have hiW:=hi.keep hbW
 have hS : ∀ k,k<n→∀ V,Below W.heap.size W V→V.cell? ⟨w.heap.size,0,none⟩=some (.int .i64 P)∧V.cell? ⟨w.heap.size,1,none⟩=some (.int .i64 M)∧V.cell? ⟨w.heap.size,2,none⟩=some (.slice am mn cm)∧V.cell? ⟨ablk a,aoff a+k,none⟩=some (.int .i64 (nth l k))∧Below W.heap.size W V:=by
  intro k hk V hV
  have x1:=x0.keep hV
  exact ⟨x1.cell 0 rfl,x1.cell 1 rfl,x1.cell 2 rfl,(hiW.keep hV).cell k hk,hV⟩
 have HS:=Lib.hid hS
 clear hW x0 hS
 go_loopw [5] (fun iv wr=>∃ k : Nat,k≤n∧iv = .int .i64 k∧Hid ((l.take k).all (isQ (orderS P M))=true)∧Below W.heap.size W wr) (fun iv _=>n - (intOf iv).toNat)
 case atStart=>exact ⟨0,Nat.zero_le _,rfl,by show _=_;simp,Below.refl _ _⟩
 case round =>
  obtain ⟨k,hk,rfl,hall,hbr⟩:=hrel
  by_cases hlt : k<n
  ·have HSk : Hid (∀ V,Below W.heap.size W V→V.cell? ⟨w.heap.size,0,none⟩=some (.int .i64 P)∧V.cell? ⟨w.heap.size,1,none⟩=some (.int .i64 M)∧V.cell? ⟨w.heap.size,2,none⟩=some (.slice am mn cm)∧V.cell? ⟨ablk a,aoff a+k,none⟩=some (.int .i64 (nth l k))∧Below W.heap.size W V):=HS.out k hlt
   have hkl : k<l.length:=by rw [Hlen.out];exact hlt
   have Hbr:=Lib.hid hbr
   have Hq:=Lib.hid (rIs_any P M am mn cm (nth l k))
   clear hbr
   by_cases hq : isQ (orderS P M) (nth l k)=true
   ·have Hs : Hid ((l.take (k+1)).all (isQ (orderS P M))=true):=all_take_succ hkl hall.out (by rw [← nth_getElem hkl];exact hq)
    rw [hq] at Hq
    clear hq
    go_wp2_with fail
    go_region_held3 (fun V=>V.cell? ⟨w.heap.size,0,none⟩=some (.int .i64 P)∧V.cell? ⟨w.heap.size,1,none⟩=some (.int .i64 M)∧V.cell? ⟨w.heap.size,2,none⟩=some (.slice am mn cm)∧V.cell? ⟨ablk a,aoff a+k,none⟩=some (.int .i64 (nth l k))∧Below W.heap.size W V)
     ((refine HSk.out _ ?_;first | exact Hbr.out.drew | exact Below.next Hbr.out.drew hb4))
     (first | (go_at_call 113;((with_reducible refine (Hq.out _).mono ?_);rintro e w4 ⟨rfl,hb4⟩)))
    go_wp2_with fail
    go_roundw
    case rel=>exact ⟨k+1,by omega,by go_num,Hs.out,Below.next Hbr.out.drew hb4⟩
    case measure=>simp [intOf] <;> omega
   ·have hq' : isQ (orderS P M) (nth l k)=false:=by simpa using hq
    have Hs : Hid (elsE (orderS P M) l=2):=by show _=_;rw [elsE,elsQ,all_false_at hkl (by rw [← nth_getElem hkl];exact hq')];rfl
    rw [hq'] at Hq
    clear hq hq'
    go_wp2_with fail
    go_region_held3 (fun V=>V.cell? ⟨w.heap.size,0,none⟩=some (.int .i64 P)∧V.cell? ⟨w.heap.size,1,none⟩=some (.int .i64 M)∧V.cell? ⟨w.heap.size,2,none⟩=some (.slice am mn cm)∧V.cell? ⟨ablk a,aoff a+k,none⟩=some (.int .i64 (nth l k))∧Below W.heap.size W V)
     ((refine HSk.out _ ?_;first | exact Hbr.out.drew | exact Below.next Hbr.out.drew hb4))
     (first | (go_at_call 113;((with_reducible refine (Hq.out _).mono ?_);rintro e w4 ⟨rfl,hb4⟩)))
    go_wp2_with fail
    go_ret
    exact ⟨ret_int Hs.out.symm,Below.next hbW (Below.next Hbr.out.drew hb4)⟩
  ·obtain rfl : k=n:=by omega
   have Hs : Hid (elsE (orderS P M) l=0):=by
    have:=hall.out
    rw [List.take_of_length_le (by rw [Hlen.out];exact Nat.le_refl _)] at this
    show _=_;rw [elsE,elsQ,this];rfl
   go_wp2_with fail
   go_ret
   exact ⟨ret_int Hs.out.symm,Below.next hbW hbr⟩
end

section
section
variable {P : Int} {M : Nat} {low : Nat→Int}
def evL (M : Nat) (low : Nat→Int) (n : Nat) (c : List Int) : Nat→Int:=fun i=>sm n (fun k=>nth c k * shN M low k (eV 0) i)
theorem sm_set {n k : Nat} {c : List Int} {z : Int} (f : Nat→Int) (hk : k<n) (hl : k<c.length) : sm n (fun j=>nth (c.set k z) j * f j)=sm n (fun j=>nth c j * f j)+(z - nth c k) * f k:=by
 have h1 : sm n (fun j=>nth (c.set k z) j * f j)=sm n (fun j=>nth c j * f j+(if j=k then (z - nth c k) * f k else 0)):=sm_congr fun j _=>by
  rw [nth_set _ _ _ _ hl]
  by_cases e : j=k
  ·subst e;rw [if_pos rfl,if_pos rfl,Int.sub_mul];omega
  ·rw [if_neg e,if_neg e];omega
 rw [h1,sm_add]
 congr 1
 rw [sm_single hk fun i _ hne=>if_neg hne,if_pos rfl]
theorem evL_step {n k : Nat} {c : List Int} {d : Int} (hk : k<n) (hl : k<c.length) :
  Cg P (evL M low n (c.set k ((nth c k+d) % P))) (fun i=>evL M low n c i+d * shN M low k (eV 0) i):=fun i=>by
 simp only [evL]
 rw [sm_set (fun j=>shN M low j (eV 0) i) hk hl]
 obtain ⟨e,he⟩:=cg_mod P (nth c k+d)
 refine ⟨e * shN M low k (eV 0) i,?_⟩
 have h1 : (nth c k+d) % P - nth c k=d+P * e:=by omega
 rw [h1,Int.add_mul,Int.mul_assoc]
 omega
theorem cvJ_ev {a b : List Int} {i n : Nat} {c : List Int} (hl : c.length=n) : ∀ j,i+j≤n →
  Cg P (evL M low n (cvJ P a b i c j)) (fun s=>evL M low n c s+sm j (fun j=>nth a i * nth b j * shN M low (i+j) (eV 0) s))
 | 0,_=>Cg.of_eq (by funext s;simp [cvJ,sm])
 | j+1,hj=>by
  have ih:=cvJ_ev (a:=a) (b:=b) (i:=i) hl j (by omega)
  rw [cvJ]
  refine (evL_step (by omega) (by rw [cvJ_len];omega)).trans ((Cg.add ih (Cg.refl P _)).trans (Cg.of_eq ?_))
  funext s
  simp only [sm]
  omega
theorem cvI_ev {a b : List Int} {n : Nat} (hn : 2 * M - 1≤n) (hM : 1≤M) : ∀ i,i≤M →
  Cg P (evL M low n (cvI P a b M n i)) (fun s=>sm i (fun i=>sm M (fun j=>nth a i * nth b j * shN M low (i+j) (eV 0) s)))
 | 0,_=>Cg.of_eq (by
  funext s
  simp only [evL,cvI,sm]
  rw [sm_congr (g:=fun _=>0) fun k _=>by
   have : nth (List.replicate n 0) k=0:=by simp only [nth,List.getD_eq_getElem?_getD,List.getElem?_replicate];split <;> rfl
   rw [this,Int.zero_mul],sm_zero])
 | i+1,hi=>by
  have ih:=cvI_ev (a:=a) (b:=b) hn hM i (by omega)
  rw [cvI]
  refine (cvJ_ev (cvI_len P a b M n i) M (by omega)).trans ((Cg.add ih (Cg.refl P _)).trans (Cg.of_eq ?_))
  funext s
  simp only [sm]
theorem shN_M (hM : 1≤M) : shN M low M (eV 0)=fun i=>if i<M then - low i else 0:=by
 obtain ⟨m,rfl⟩ : ∃ m,M=m+1:=⟨M - 1,by omega⟩
 rw [shN,shN_e m (by omega)]
 funext i
 simp only [shV,eV]
 by_cases h : i<m+1
 ·rw [if_pos h,if_pos h,Nat.add_sub_cancel]
  by_cases h0 : i=0
  ·rw [if_pos h0,if_pos rfl];omega
  ·rw [if_neg h0,if_neg (by omega),if_pos rfl];omega
 ·rw [if_neg h,if_neg h]
theorem lowSum (hM : 1≤M) (t : Nat) : (fun s=>sm M (fun j=>low j * shN M low (t+j) (eV 0) s))=fun s=>- shN M low (t+M) (eV 0) s:=by
 have h1 : (fun s=>sm M (fun j=>low j * shN M low (t+j) (eV 0) s))=shN M low t (fun s=>sm M (fun j=>low j * shN M low j (eV 0) s)):=by
  rw [shN_sm]
  funext s
  refine sm_congr fun j _=>?_
  rw [shN_smul,shN_comp]
 have h2 : (fun s=>sm M (fun j=>low j * shN M low j (eV 0) s))=fun s=>(-1) * shN M low M (eV 0) s:=by
  funext s
  rw [congrFun (shN_M (low:=low) hM) s]
  have h3 : sm M (fun j=>low j * shN M low j (eV 0) s)=sm M (fun j=>low j * eV j s):=sm_congr fun j hj=>by rw [shN_e j hj]
  rw [h3]
  by_cases hs : s<M
  ·rw [sm_single hs fun i _ hne=>by simp only [eV];rw [if_neg (by omega)];omega]
   rw [if_pos hs]
   simp [eV]
  ·rw [if_neg hs,sm_congr (g:=fun _=>0) fun j hj=>by simp only [eV];rw [if_neg (by omega)];omega,sm_zero];rfl
 rw [h1,h2,shN_smul]
 funext s
 rw [← shN_comp]
 omega
theorem rdJ_top {mod : List Int} {i : Nat} {c : List Int} (hi : M≤i) (hl : i<c.length) : ∀ j,j≤M→nth (rdJ P M mod i c j) i=nth c i
 | 0,_=>rfl
 | j+1,hj=>by
  rw [rdJ,nth_set _ _ _ _ (by rw [rdJ_len];omega),if_neg (by omega)]
  exact rdJ_top hi hl j (by omega)
theorem rdJ_ev {mod : List Int} {i : Nat} {c : List Int} (hi : M≤i) (hl : i<c.length) : ∀ j,j≤M →
  Cg P (evL M low i (rdJ P M mod i c j)) (fun s=>evL M low i c s+(- nth c i) * sm j (fun j=>nth mod j * shN M low (i - M+j) (eV 0) s))
 | 0,_=>Cg.of_eq (by funext s;simp [rdJ,sm])
 | j+1,hj=>by
  have ih:=rdJ_ev (mod:=mod) hi hl j (by omega)
  rw [rdJ,rdJ_top hi hl j (by omega)]
  refine (evL_step (by omega) (by rw [rdJ_len];omega)).trans ?_
  refine (Cg.add ih (Cg.refl P _)).trans ?_
  intro s
  simp only [sm]
  generalize sm j (fun j=>nth mod j * shN M low (i - M+j) (eV 0) s)=X
  generalize shN M low (i - M+j) (eV 0) s=Y
  refine ⟨nth mod j * Y,?_⟩
  simp only [Int.mul_add,Int.sub_mul,Int.neg_mul,Int.mul_assoc]
  omega
theorem rdT_ev {mod : List Int} (hM : 1≤M) (hlow : ∀ j,low j=nth mod j) {c : List Int} (hl : c.length=2 * M - 1) : ∀ k,k≤M - 1 →
  Cg P (evL M low (2 * M - 1 - k) (rdT P M mod c k)) (evL M low (2 * M - 1) c)
 | 0,_=>Cg.refl P _
 | k+1,hk=>by
  have ih:=rdT_ev hM hlow hl k (by omega)
  rw [rdT]
  refine Cg.trans ?_ ih
  obtain ⟨i,hi⟩ : ∃ i,2 * M - 2 - k=i:=⟨_,rfl⟩
  rw [hi,show 2 * M - 1 - (k+1)=i by omega,show 2 * M - 1 - k=i+1 by omega]
  refine (rdJ_ev (low:=low) (by omega) (by rw [rdT_len];omega) M (Nat.le_refl _)).trans (Cg.of_eq ?_)
  funext s
  have h1 : sm M (fun j=>low j * shN M low (i - M+j) (eV 0) s) = - shN M low (i - M+M) (eV 0) s:=congrFun (lowSum (low:=low) hM (i - M)) s
  rw [sm_congr (g:=fun j=>low j * shN M low (i - M+j) (eV 0) s) fun j _=>by rw [hlow],h1,show i - M+M=i by omega]
  simp only [evL,sm]
  rw [Int.neg_mul,Int.mul_neg]
  omega
theorem evL_take (c : List Int) (hl : M≤c.length) : evL M low M c=nth (c.take M):=by
 funext s
 simp only [evL]
 rw [sm_congr (g:=fun j=>nth c j * eV j s) fun j hj=>by rw [shN_e j hj]]
 by_cases hs : s<M
 ·rw [sm_single hs fun i _ hne=>by simp only [eV];rw [if_neg (by omega)];omega,nth_take hs]
  simp [eV]
 ·rw [nth_out (by rw [List.length_take];omega),sm_congr (g:=fun _=>0) fun j hj=>by simp only [eV];rw [if_neg (by omega)];omega,sm_zero]
end
theorem mulR_eq {P : Int} {m : Nat} (hf : RF P m) (mod : List Int) (x y : Int) : mulR P m mod x y=mulS P m mod x y:=by
 have hres:=hf.res
 have hP:=hres.pos
 have hm1:=hf.m1
 refine (mulR_el hf mod x y).ext hres (mulS_el hres x y) (Cg.trans ?_ (dV_mulS hP m mod x y).symm)
 have hd : dV P m (mulR P m mod x y)=nth (mulL P m mod (digs x P m) (digs y P m)):=by
  unfold dV mulR
  have:=digs_valu (P:=P) (mulL P m mod (digs x P m) (digs y P m)) (mulL_dig hP m mod _ _)
  rw [mulL_len P mod _ _ hm1] at this
  rw [this]
 rw [hd]
 have hc:=cvI_ev (P:=P) (M:=m) (low:=nth (lowF m mod)) (a:=digs x P m) (b:=digs y P m) (n:=2 * m - 1) (Nat.le_refl _) hm1 m (Nat.le_refl _)
 have hx : Cg P (evL m (nth (lowF m mod)) (2 * m - 1) (cvI P (digs x P m) (digs y P m) m (2 * m - 1) m)) (mulV m (nth (lowF m mod)) (dV P m x) (dV P m y)):=by
  rw [mulV_expand (dV_sh P m y)]
  exact hc
 refine Cg.trans ?_ hx
 unfold mulL
 by_cases h1 : 1<m
 ·have hlow : ∀ j,nth (lowF m mod) j=nth mod j:=fun j=>by rw [lowF,if_pos h1]
  have hr:=rdT_ev (P:=P) hm1 hlow (cvI_len P (digs x P m) (digs y P m) m (2 * m - 1) m) (m - 1) (Nat.le_refl _)
  rw [show 2 * m - 1 - (m - 1)=m by omega,evL_take _ (by rw [rdT_len,cvI_len];omega)] at hr
  exact hr
 ·obtain rfl : m=1:=by omega
  rw [← evL_take (M:=1) (low:=nth (lowF 1 mod)) _ (by rw [rdT_len,cvI_len];omega)]
  exact Cg.refl P _
end

end Go.Proofs.YtcflcogbpnmjeaaGreat
