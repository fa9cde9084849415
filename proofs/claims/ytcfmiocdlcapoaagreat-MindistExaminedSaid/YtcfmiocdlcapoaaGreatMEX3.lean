/-  -/
import Derived.Test.YtcfmiocdlcapoaaGreatK9
import Derived.Test.YtcfmiocdlcapoaaGreatMEX1
import Derived.Test.YtcfmiocdlcapoaaGreatK8
import Derived.Test.YtcfmiocdlcapoaaGreatK10
import Derived.Test.YtcfmiocdlcapoaaGreatK17
import Derived.WalkKit
import Derived.ProofKit
import Derived.OpenShut
import Derived.ShutString
import Derived.ChangeOld
import Derived.Below
import Derived.Deep.Matrix
namespace Go.Proofs.YtcfmiocdlcapoaaGreat
set_option linter.unusedVariables false
set_option linter.unusedSimpArgs false
set_option linter.unusedSectionVars false

section
set_option maxRecDepth 100000
set_option maxHeartbeats 4000000

open Go.RowKit
theorem dvJ_len (P : Int) (low : List Int) (v : Nat) (c : Int) (r : List Int) : ∀j,(dvJ P low v c r j).length=r.length
 | 0=>rfl
 | j+1=>by rw [dvJ,List.length_set,dvJ_len P low v c r j]
theorem dvT_len (P : Int) (low : List Int) (n : Nat) (r : List Int) : ∀k,(dvT P low n r k).length=r.length
 | 0=>rfl
 | k+1=>by rw [dvT,List.length_set,dvJ_len,dvT_len P low n r k]
theorem dvJ_dig {P : Int} (hP : 0<P) (low : List Int) (v : Nat) (c : Int) {r : List Int} (h : Dig P r) : ∀j,Dig P (dvJ P low v c r j)
 | 0=>h
 | j+1=>Dig.setMod hP (dvJ_dig hP low v c h j) _ _
theorem dvT_dig {P : Int} (hP : 0<P) (low : List Int) (n : Nat) {r : List Int} (h : Dig P r) : ∀k,Dig P (dvT P low n r k)
 | 0=>h
 | k+1=>Dig.set (dvJ_dig hP low _ _ (dvT_dig hP low n h k) _) _ (by omega) hP
theorem Dig.snoc {P : Int} {l : List Int} (h : Dig P l) {x : Int} (h0 : 0<=x) (h1 : x<P) : Dig P (l ++ [x]):=by
 intro i
 by_cases hi : i<l.length
 ·have e : nth (l ++ [x]) i=nth l i:=by simp only [nth,List.getD_eq_getElem?_getD];rw [List.getElem?_append_left hi]
  rw [e];exact h i
 ·by_cases hj : i=l.length
  ·subst hj
   have e : nth (l ++ [x]) l.length=x:=by simp [nth]
   rw [e];exact ⟨h0,h1⟩
  ·rw [nth_out (by simp;omega)];omega
theorem rDivides_any (al : Option Addr) (d cl : Nat) (low : List Int) (am : Option Addr) (mn cm : Nat) (mod : List Int) (P : Int) (w : World) (hl : Ints w al d low) (hm : Ints w am mn mod) (hp2 : 2<=P) (hp256 : P<=256)
  (hdl : Dig P low) (hdm : Dig P mod) (hd1 : 1<=d) (hdn : d<=mn) (hmn : mn<=8) :
  Calls Tryz.prog 181 #[.slice al d cl,.slice am mn cm,.int .i64 P] w λe w'=>e = .returned (.bool (dvB P low mod))/\Below w.heap.size w w':=by
 have hP : 0<P:=by omega
 have Hll:=Lib.hid hl.len
 have Hml:=Lib.hid hm.len
 have hpll:=hl.pl
 have Hdl:=Lib.hid hdl
 have HDB : Hid (dvB P low mod=(dvT P low (mn+1) (mod ++ [1]) (mn+1 - d)).all λx=>x == 0):=by show _=_;rw [dvB,hm.len,hl.len]
 have HD0 : Hid (Dig P (mod ++ [1])):=hdm.snoc (by omega) (by omega)
 have HL0 : Hid ((mod ++ [1]).length=mn+1):=by show _=_;rw [List.length_append,hm.len];rfl
 have hO1:=own_emp w 3
 have hbe:=below1 w (.cells #[] 3)
 have hme:=hm.keep hbe
 have hpm:=hm.pl
 clear hdl hdm
 go_enter Tryz.func181,Tryz.ntmps181
 go_wp2_with (at_builtin; first
       | (refine wpList_appAll (by rfl) (.tmp 15) (.tmp 16) 22 3 (by rfl) (.int .i64 0) 8 Tryz.underlying22 infoInt (by rfl) w.heap.size _ 0 0 [] (by rfl) hO1 am mn cm (mod.map (Value.int .i64)) (by rfl) hpm (by simp [Hml.out]) (Ints.news hme) (ints_oneCell _ _) (by omega) (by unfold maxLen;omega) (Below.size hbe) ?_;intro a3 c3 w3 hown3 hgr3 hap3;have hb3 : Below w.heap.size w w3:=Below.app (B:=w.heap.size) (e:=3) (xs:=[]) hbe hO1 hgr3 (Nat.le_refl _) (Below.size hbe);rw [Nat.zero_add] at hown3 ⊢;rw [List.nil_append] at hown3)
       | (refine wpList_push rfl _ _ 22 3 rfl (.int .i64 0) 8 Tryz.underlying22 infoInt rfl w.heap.size a3 mn c3 _ rfl (hown3.alloc _) ⟨w3.heap.size,0,none⟩ 1 (.int .i64 1) rfl (cell_new w3 _ _) rfl (by omega) (by unfold maxLen;omega) (by have h1:=Below.size hb3;simp;omega) ?_;intro a1 c1 w1 hown1 hgr1 hap1))
 have hb4 : Below w.heap.size w w1:=Below.app (Below.next hb3 (below1 _ _)) (hown3.alloc _) hgr1 (Nat.le_refl _) (Nat.le_trans hb3.size (Below.size (below1 _ _)))
 have hown : w1.ownsRow w.heap.size 3 1 (.slice a1 (mn+1) c1) (mn+1) ((mod ++ [1]).map (Value.int .i64)):=by simpa using hown1
 have ha1 : a1 ≠ none->w.heap.size<=ablk a1:=λh=>(own_ne hown h).1
 obtain ⟨n,hn⟩ : ∃n,mn+1=n:=⟨_,rfl⟩
 have Hn:=Lib.hid hn
 have hn9 : n<=9:=by omega
 have hdn' : d+1<=n:=by omega
 obtain ⟨r0,hr0⟩ : ∃r0,mod ++ [1]=r0:=⟨_,rfl⟩
 rw [hr0,hn] at hown HDB
 rw [hr0] at HD0
 rw [hr0,hn] at HL0
 have hnv : (((mn+1 : Nat) : Int))=n:=by omega
 have hnv2 : (mn : Int)+1=n:=by omega
 have hlw:=hl.keep hb4
 have hS : ∀V,Below w.heap.size w V->Ints V al d low:=λV hV=>hl.keep hV
 have HS:=Lib.hid hS
 rw [hn]
 clear hown1 hgr1 hap1 hown3 hgr3 hap3 hr0 hn hS hO1 hbe hme hlw
 go_wp2_with fail
 clear hnv hnv2
 go_loopw [9] (λiv wr=>∃k t : Nat,t+k+1=n/\d<=t+1/\iv = .int .i64 t/\wr.ownsRow w.heap.size 3 1 (.slice a1 n c1) n ((dvT P low n r0 k).map (Value.int .i64))/\Only a1 w1 wr) (λiv _=>(intOf iv).toNat)
 case atStart=>exact ⟨0,n - 1,by omega,by omega,by have:=Hn.out;congr 1;omega,hown,Only.refl _ _⟩
 case round =>
  obtain ⟨k,t,htk,hdt,rfl,hownk,honlyk⟩:=hrel
  have hbk : Below w.heap.size w wr:=hb4.trans (honlyk.below ha1 hb4.size)
  by_cases hti : d<=t
  ·have Htk:=Lib.hid htk
   have Hrk : Hid (dvT P low n r0 (k+1)=(dvJ P low (t - d) (nth (dvT P low n r0 k) t) (dvT P low n r0 k) d).set t 0):=by
    show _=_;rw [dvT,Hll.out,show n - 1 - k=t by omega]
   have Hrd : Hid (Dig P (dvT P low n r0 k)):=dvT_dig hP low n HD0.out k
   obtain ⟨C2,hC2⟩ : ∃C2,dvT P low n r0 k=C2:=⟨_,rfl⟩
   rw [hC2] at hownk Hrk Hrd
   have htn : t<n:=by omega
   have hti' : (t : Int)<n:=by omega
   obtain ⟨it0,mt0⟩:=Ints.own hownk
   have c0:=it0.cell t htn
   have hp0:=it0.pl
   have b2:=Hrd.out t
   clear hC2 htk
   go_wp2_with fail
   obtain ⟨cc,hcc⟩ : ∃cc,nth C2 t=cc:=⟨_,rfl⟩
   rw [hcc] at b2 Hrk
   rw [hcc]
   clear hcc c0 it0 mt0
   go_loopw [11] (λiv wr=>∃j : Nat,j<=d/\iv = .int .i64 j/\wr.ownsRow w.heap.size 3 1 (.slice a1 n c1) n ((dvJ P low (t - d) cc C2 j).map (Value.int .i64))/\Only a1 w1 wr) (λiv _=>d - (intOf iv).toNat)
   case atStart=>exact ⟨0,Nat.zero_le _,rfl,hownk,honlyk⟩
   case round =>
    obtain ⟨j,hj,rfl,hown2,honly2⟩:=hrel
    have hbr2 : Below w.heap.size w wr:=hb4.trans (honly2.below ha1 hb4.size)
    have j1:=HS.out wr hbr2
    by_cases hlt2 : j<d
    ·have Hcj : Hid (dvJ P low (t - d) cc C2 (j+1)=(dvJ P low (t - d) cc C2 j).set (t - d+j) ((nth (dvJ P low (t - d) cc C2 j) (t - d+j)+(P - cc) * nth low j) % P)):=rfl
     have hcd:=dvJ_dig hP low (t - d) cc Hrd.out j
     obtain ⟨T,hT⟩ : ∃T,dvJ P low (t - d) cc C2 j=T:=⟨_,rfl⟩
     rw [hT] at hown2 Hcj hcd
     clear hT
     obtain ⟨it,mt⟩:=Ints.own hown2
     obtain ⟨u,hu⟩ : ∃u,t - d+j=u:=⟨_,rfl⟩
     have hun : u<n:=by omega
     have ct:=it.cell u hun
     have cM:=j1.cell j hlt2
     have ft:=(mt (by omega)).2 u hun
     have hplt:=it.pl
     have b1:=hcd u
     have b3:=Hdl.out j
     have hme:=mul_bd (show 0<=P - cc by omega) (show P - cc<=256 by omega) b3.1 (show nth low j<=256 by omega)
     have hP0 : P ≠ 0:=by omega
     rw [hu] at Hcj
     obtain ⟨Z,hZ⟩ : ∃Z,(nth T u+(P - cc) * nth low j) % P=Z:=⟨_,rfl⟩
     have Hcj2 : Hid (dvJ P low (t - d) cc C2 (j+1)=T.set u Z):=by show _=_;rw [Hcj.out,hZ]
     obtain ⟨v,hv⟩ : ∃v,t - d=v:=⟨_,rfl⟩
     have r0' : IntKind.i64.wrap ((t : Int) - d)=(v : Int):=by rw [IntWalk.i64_in _ (by omega)];omega
     have r1 : IntKind.i64.wrap ((v : Int)+j)=(u : Int):=by rw [IntWalk.i64_in _ (by omega)];omega
     have r2 : IntKind.i64.wrap (P - cc)=P - cc:=IntWalk.i64_in _ (by omega)
     have r3 : IntKind.i64.wrap ((P - cc) * nth low j)=(P - cc) * nth low j:=IntWalk.i64_in _ (by omega)
     have r4 : IntKind.i64.wrap (nth T u+(P - cc) * nth low j)=nth T u+(P - cc) * nth low j:=IntWalk.i64_in _ (by omega)
     have r5 : (nth T u+(P - cc) * nth low j).tmod P=Z:=by rw [<- hZ];exact IntWalk.rem_in _ _ (by omega)
     have q1 : (0 : Int)<=u:=by omega
     have q2 : (u : Int)<n:=by omega
     have q4 : (j : Int)<d:=by omega
     clear hZ hu hv Hcj
     go_wp2_with fail
     go_still_tail 26,(by kernel_rfl)
     change wpList _ _ _ _ _ wr.drew
     generalize hwd : wr.drew=wd
     have fd : wd.frozen? ⟨ablk a1,aoff a1+u,none⟩=false:=by rw [<- hwd];exact ft
     have cd : wd.cell? ⟨ablk a1,aoff a1+u,none⟩=some (.int .i64 (nth T u)):=by rw [<- hwd];exact ct
     have Hwd:=Lib.hid hwd
     clear hwd r0' r1 r2 r3 r4 r5
     go_wp2_with fail
     go_roundw
     case rel =>
      obtain rfl:=Hwd.out
      have hdr : Drawn wr wr.drew:=(Drawn.refl wr).drew
      refine ⟨j+1,by omega,by go_num,?_,honly2.trans ((Only.drawn hdr).trans (Only.set _ u _ (by intro e;have:=hplt (by omega);rw [e] at this;cases this)))⟩
      have h1:=own_set (w:=wr.drew) hown2 u hun (.int .i64 Z)
      rw [<- List.map_set,<- Hcj2.out] at h1
      exact h1
     case measure=>simp [intOf] <;> omega
    ·obtain rfl : j=d:=by omega
     obtain ⟨it,mt⟩:=Ints.own hown2
     have ct:=it.cell t htn
     have ft:=(mt (by omega)).2 t htn
     have hplt:=it.pl
     go_wp2_with fail
     go_roundw
     case rel =>
      have h1:=own_set hown2 t htn (.int .i64 0)
      rw [<- List.map_set,<- Hrk.out] at h1
      exact ⟨k+1,t - 1,by have:=Htk.out;omega,by omega,by congr 1;omega,h1,honly2.trans (Only.set _ t _ (by intro e;have:=hplt (by omega);rw [e] at this;cases this))⟩
     case measure=>simp [intOf] <;> omega
  ·have hkf : k=n - d:=by omega
   have Hfin : Hid (dvB P low mod=(dvT P low n r0 k).all λx=>x == 0):=by show _=_;rw [HDB.out,hkf]
   have HlT : Hid ((dvT P low n r0 k).length=n):=by show _=_;rw [dvT_len];exact HL0.out
   obtain ⟨C2,hC2⟩ : ∃C2,dvT P low n r0 k=C2:=⟨_,rfl⟩
   rw [hC2] at hownk Hfin HlT
   have iC:=(Ints.own hownk).1
   have hpC:=iC.pl
   clear hC2 htk hkf hownk
   go_wp2_with fail
   go_loop [12] (λiv=>∃j : Nat,j<=n/\iv = .int .i64 j/\Hid ((C2.take j).all (λx=>x == 0)=true)) (λiv=>n - (intOf iv).toNat)
   case atStart=>exact ⟨0,Nat.zero_le _,rfl,by show _=_;simp⟩
   case round =>
    obtain ⟨j,hj,rfl,hall⟩:=hrel
    by_cases hlt : j<n
    ·have cj:=iC.cell j hlt
     have hjl : j<C2.length:=by rw [HlT.out];exact hlt
     by_cases hz : nth C2 j=0
     ·have hz' : (nth C2 j != 0)=false:=by simpa using hz
      have Hs : Hid ((C2.take (j+1)).all (λx=>x == 0)=true):=all_take_succ hjl hall.out (by rw [<- nth_getElem hjl,hz];rfl)
      clear hz
      go_wp2_with fail
      go_round
      case rel=>exact ⟨j+1,by omega,by go_num,Hs.out⟩
      case measure=>simp [intOf] <;> omega
     ·have hz' : (nth C2 j != 0)=true:=by simpa using hz
      have Hs : Hid (dvB P low mod=false):=by show _=_;rw [Hfin.out];exact all_false_at hjl (by rw [<- nth_getElem hjl];simpa using hz)
      clear hz
      go_wp2_with fail
      go_ret
      exact ⟨ret_bool Hs.out.symm,hbk⟩
    ·obtain rfl : j=n:=by omega
     have Hs : Hid (dvB P low mod=true):=by
      have:=hall.out
      rw [List.take_of_length_le (by rw [HlT.out];exact Nat.le_refl _)] at this
      show _=_;rw [Hfin.out,this]
     go_wp2_with fail
     go_ret
     exact ⟨ret_bool Hs.out.symm,hbk⟩
theorem range_all_succ {p : Nat->Bool} {k : Nat} (h : (List.range k).all p=true) (hk : p k=true) : (List.range (k+1)).all p=true:=by
 rw [List.range_succ,List.all_append,h];simp [hk]
theorem range_all_no {p : Nat->Bool} {k n : Nat} (hk : k<n) (h : p k=false) : (List.range n).all p=false:=by
 rw [List.all_eq_false];exact ⟨k,List.mem_range.2 hk,by simp [h]⟩
theorem rIrreducible_any (am : Option Addr) (mn cm : Nat) (mod : List Int) (P : Int) (w : World) (hm : Ints w am mn mod) (hp2 : 2<=P) (hp256 : P<=256) (hdm : Dig P mod) (hmn : mn<=8) (hpw : P ^ mn<=256) :
  Calls Tryz.prog 118 #[.slice am mn cm,.int .i64 P] w λe w'=>e = .returned (.bool (irrB P mod))/\Below w.heap.size w w':=by
 have Hml:=Lib.hid hm.len
 have Hdm:=Lib.hid hdm
 have HP : Hid (∀k,k<=mn->1<=P ^ k/\P ^ k<=256):=λk hk=>⟨by have:=pow_mono (show 1<=P by omega) (Nat.zero_le k);rwa [Int.pow_zero] at this,Int.le_trans (pow_mono (show 1<=P by omega) hk) hpw⟩
 have HI : Hid (irrB P mod=irTo P mod (mn / 2)):=by show _=_;rw [irrB,hm.len]
 clear hdm hpw
 go_enter Tryz.func118,Tryz.ntmps118
 go_wp2_with fail
 go_loopw [5,6] (λcv dv wr=>∃d : Nat,1<=d/\2 * d<=mn+2/\dv = .int .i64 d/\cv = .int .i64 (P ^ (d - 1))/\Hid (irTo P mod (d - 1)=true)/\Below w.heap.size w wr) (λ_ dv _=>mn+2 - (intOf dv).toNat)
 case atStart=>exact ⟨1,by omega,by omega,rfl,by simp,by show _=_;simp [irTo],Below.refl _ _⟩
 case round =>
  obtain ⟨d,hd1,hd2,rfl,rfl,hir,hbr⟩:=hrel
  by_cases hlt : 2 * d<=mn
  ·have hpe:=HP.out (d - 1) (by omega)
   have hpe1:=HP.out d (by omega)
   have hps : P ^ d=P ^ (d - 1) * P:=by
    have h1:=Int.pow_succ P (d - 1)
    have h2 : (d - 1).succ=d:=Nat.sub_add_cancel hd1
    rwa [h2] at h1
   obtain ⟨q,hq⟩ : ∃q : Nat,P ^ d=q:=⟨(P ^ d).toNat,by omega⟩
   have HQ : Hid (irTo P mod d=(irTo P mod (d - 1) && irD P mod d q)):=by
    have e1 : irTo P mod d=(List.range ((d - 1)+1)).all λd=>irD P mod (d+1) (P ^ (d+1)).toNat:=by rw [Nat.sub_add_cancel hd1];rfl
    show _=_;rw [e1,List.range_succ,List.all_append]
    simp only [List.all_cons,List.all_nil,Bool.and_true]
    rw [Nat.sub_add_cancel hd1,hq];rfl
   have Hps : Hid (P ^ (d - 1) * P=(q : Int)):=by show _=_;rw [<- hps,hq]
   have hq256 : q<=256:=by omega
   have Hq:=Lib.hid hq
   have Hlen : Hid (∀v : Nat,(digs v P d).length=d):=λv=>digs_length _ _ _
   have Hdd : Hid (∀v : Nat,Dig P (digs v P d)):=λv=>Dig.digs (by omega) _ _
   have Hf0 : Hid (∀v : Nat,v<q->dvB P (digs v P d) mod=true->irrB P mod=false):=λv hv hd=>by
    rw [HI.out]
    refine range_all_no (k:=d - 1) (by omega) ?_
    rw [Nat.sub_add_cancel hd1,hq,Int.toNat_natCast]
    exact range_all_no hv (by rw [hd];rfl)
   clear hps hpe1 hq
   obtain ⟨pe,hpe'⟩ : ∃pe,P ^ (d - 1)=pe:=⟨_,rfl⟩
   rw [hpe'] at Hps hpe
   rw [hpe']
   have hps2:=Hps.out
   have hltd : decide (2 * (d : Int)<=mn)=true:=by simp;omega
   have hltn : decide (2 * d<=mn)=true:=by simp;omega
   clear hpe'
   go_wp2_with fail
   clear hps2
   go_loopw [7] (λvv wx=>∃v : Nat,v<=q/\vv = .int .i64 v/\Hid ((List.range v).all (λv=>!dvB P (digs v P d) mod)=true)/\Below w.heap.size w wx) (λvv _=>q - (intOf vv).toNat)
   case atStart=>exact ⟨0,Nat.zero_le _,rfl,by show _=_;simp,hbr⟩
   case round =>
    obtain ⟨v,hv,rfl,hall,hbx⟩:=hrel
    by_cases hvq : v<q
    ·obtain ⟨D,hD⟩ : ∃D,digs v P d=D:=⟨_,rfl⟩
     have Hl:=Lib.hid (Hlen.out v)
     have Hg:=Lib.hid (Hdd.out v)
     have Hf:=Lib.hid (Hf0.out v hvq)
     have HDg:=Lib.hid (rdigits_any v P d wr (by omega) (by omega) (by omega) (by omega))
     rw [hD] at Hl Hg Hf HDg
     have HD:=Lib.hid hD
     clear hD
     go_wp2_with fail
     refine HDg.out.mono ?_
     rintro e1 w1 ⟨a1,c1,rfl,hown1,hb1⟩
     rw [Hl.out] at hown1 ⊢
     have hi1:=(Ints.own hown1).1
     have hbx1:=Below.next hbx hb1
     clear hown1
     go_wp2_with fail
     refine (rDivides_any a1 d c1 D am mn cm mod P w1 hi1 (hm.keep hbx1) hp2 hp256 Hg.out Hdm.out hd1 (by omega) hmn).mono ?_
     rintro e2 w2 ⟨rfl,hb2⟩
     have hbx2:=Below.next hbx1 hb2
     by_cases hdv : dvB P D mod=true
     ·have Hf2:=Lib.hid (Hf.out hdv)
      rw [hdv]
      clear hdv
      go_wp2_with fail
      go_ret
      exact ⟨ret_bool Hf2.out.symm,hbx2⟩
     ·have hdv' : dvB P D mod=false:=by simpa using hdv
      have Hs : Hid ((List.range (v+1)).all (λv=>!dvB P (digs v P d) mod)=true):=range_all_succ hall.out (by rw [HD.out,hdv'];rfl)
      rw [hdv']
      clear hdv hdv'
      go_wp2_with fail
      go_roundw
      case rel=>exact ⟨v+1,by omega,by go_num,Hs.out,hbx2⟩
      case measure=>simp [intOf] <;> omega
    ·obtain rfl : v=q:=by omega
     have Hs : Hid (irTo P mod d=true):=by show _=_;rw [HQ.out,hir.out,irD,hall.out];rfl
     go_wp2_with fail
     go_roundw
     case rel=>exact ⟨d+1,by omega,by omega,by go_num,by rw [Nat.add_sub_cancel,Hq.out],Hs.out,hbx⟩
     case measure=>simp [intOf] <;> omega
  ·have Hs : Hid (irrB P mod=true):=by show _=_;rw [HI.out,show mn / 2=d - 1 by omega];exact hir.out
   go_wp2_with fail
   go_ret
   exact ⟨ret_bool Hs.out.symm,hbr⟩
end

section
set_option maxRecDepth 100000
set_option maxHeartbeats 4000000

open Go.RowKit
theorem shapeB_no0 {P M : Int} {mod : List Int} (h : orderS P M=0) : shapeB P M mod=false:=by simp [shapeB,h]
theorem shapeB_noP {P M : Int} {mod : List Int} (h : primeB P.toNat=false) : shapeB P M mod=false:=by simp [shapeB,h]
theorem rFieldCheck_any (P M : Int) (am : Option Addr) (mn cm : Nat) (mod : List Int) (w : World) (hmod : Ints w am mn mod) :
  Calls Tryz.prog 57 #[.agg #[.int .i64 P,.int .i64 M,.slice am mn cm]] w λe w'=>e = .returned (.int .i64 (errField (fieldRB P M mod)))/\Below w.heap.size w w':=by
 have Hml:=Lib.hid hmod.len
 have hplm:=hmod.pl
 have hmax:=hmod.max
 unfold maxLen at hmax
 go_enter Tryz.func57,Tryz.ntmps57
 go_wp2_with fail
 obtain ⟨W,hW⟩ : ∃W : World,W=w.alloc (.cells #[.int .i64 P,.int .i64 M,.slice am mn cm] 24):=⟨_,rfl⟩
 rw [<- hW]
 have hbW : Below w.heap.size w W:=by rw [hW];exact below1 _ _
 have x0 : Box W w.heap.size [.int .i64 P,.int .i64 M,.slice am mn cm]:=by rw [hW];exact Box.new _ _ _ rfl
 have HX:=Lib.hid x0
 clear hW x0
 refine (rOrder_any P M am mn cm W).mono ?_
 rintro e w1 ⟨rfl,hb1⟩
 have hbw1:=Below.next hbW hb1
 have xU:=HX.out.keep hb1
 have d0:=xU.cell 0 rfl
 have d1:=xU.cell 1 rfl
 have d2:=xU.cell 2 rfl
 have hm1:=(hmod.keep hbW).keep hb1
 clear xU
 by_cases ho : orderS P M=0
 ·have Hf : Hid (errField (fieldRB P M mod)=1):=by show _=_;rw [fieldRB,shapeB_no0 ho];rfl
  rw [ho]
  clear ho
  go_wp2_with fail
  go_ret
  exact ⟨ret_int Hf.out.symm,hbw1⟩
 ·obtain ⟨m,rfl,hrf⟩:=RF.of ho
  have hp2:=hrf.p2
  have hp256:=hrf.p256
  have hm1':=hrf.m1
  have hm8:=hrf.m8
  have hoo : (orderS P m == 0)=false:=by simpa using ho
  have Ho:=Lib.hid ho
  obtain ⟨p,rfl⟩ : ∃p : Nat,P=p:=⟨P.toNat,by omega⟩
  clear ho
  by_cases hpr : primeB p=true
  ·have Hpr:=Lib.hid hpr
   have Hc:=Lib.hid (rPrime_any p w1 (by omega) (by omega))
   rw [hpr] at Hc
   clear hpr
   have hsh : shapeB p m mod=(if (m : Int)=1 then mod.length == 0 else decide ((mod.length : Int)=m) && mod.all λc=>decide (0<=c) && decide (c<p)):=by
    have h1 : (orderS p m != 0)=true:=by have:=Ho.out;simpa using this
    rw [shapeB,h1,Int.toNat_natCast,Hpr.out];rfl
   have Hsh:=Lib.hid hsh
   clear hsh
   by_cases hM : m=1
   ·have hM' : ((m : Int) == 1)=true:=by simp [hM]
    have hMi : (m : Int)=1:=by omega
    have HfR : Hid (fieldRB p m mod=(mod.length == 0)):=by show _=_;rw [fieldRB,Hsh.out,if_pos hMi,hM'];simp
    clear hM hMi
    by_cases hl : mn=0
    ·have hl' : ((mn : Int) != 0)=false:=by simp [hl]
     have Hf : Hid (errField (fieldRB p m mod)=0):=by show _=_;rw [HfR.out,Hml.out,hl];rfl
     clear hl
     go_wp2_with (go_at_call 117;refine Hc.out.mono ?_;rintro e w2 ⟨rfl,rfl⟩)
     go_ret
     exact ⟨ret_int Hf.out.symm,hbw1⟩
    ·have hl' : ((mn : Int) != 0)=true:=by simp;omega
     have Hf : Hid (errField (fieldRB p m mod)=1):=by
      show _=_;rw [HfR.out,Hml.out]
      have : (mn == 0)=false:=by simpa using hl
      rw [this];rfl
     clear hl
     go_wp2_with (go_at_call 117;refine Hc.out.mono ?_;rintro e w2 ⟨rfl,rfl⟩)
     go_ret
     exact ⟨ret_int Hf.out.symm,hbw1⟩
   ·have hM' : ((m : Int) == 1)=false:=by simp;omega
    have hMi : ¬ (m : Int)=1:=by omega
    have HfR : Hid (fieldRB p m mod=(decide ((mod.length : Int)=m) && (mod.all λc=>decide (0<=c) && decide (c<p)) && irrB p mod)):=by
     show _=_;rw [fieldRB,Hsh.out,if_neg hMi,hM'];simp
    clear hM hMi
    by_cases hl : mn=m
    ·have hl' : ((mn : Int) != m)=false:=by simp [hl]
     have HfR2 : Hid (fieldRB p m mod=((mod.all λc=>decide (0<=c) && decide (c<p)) && irrB p mod)):=by show _=_;rw [HfR.out,Hml.out,hl];simp
     have Hmn : Hid (mn=m):=hl
     have hmnm : (mn : Int)=m:=by omega
     clear hl hmnm
     go_wp2_with (go_at_call 117;refine Hc.out.mono ?_;rintro e w2 ⟨rfl,rfl⟩)
     go_loopw [3] (λiv wr=>∃k : Nat,k<=m/\iv = .int .i64 k/\Hid ((mod.take k).all (λc=>decide (0<=c) && decide (c<p))=true)/\Drawn w1 wr) (λiv _=>m - (intOf iv).toNat)
     case atStart=>exact ⟨0,Nat.zero_le _,rfl,by show _=_;simp,Drawn.refl _⟩
     case round =>
      obtain ⟨k,hk,rfl,hall,hd⟩:=hrel
      have e0:=hd.cell d0
      have e1:=hd.cell d1
      have e2:=hd.cell d2
      have hmr:=hm1.drawn hd
      by_cases hlt : k<m
      ·have hkmn : k<mn:=by rw [Hmn.out];exact hlt
       have ck:=hmr.cell k hkmn
       have hkl : k<mod.length:=by rw [Hml.out];exact hkmn
       have hkmn' : (k : Int)<mn:=by omega
       by_cases h0 : 0<=nth mod k
       ·have t0 : decide (nth mod k<0)=false:=by simp;omega
        by_cases h1 : nth mod k<p
        ·have t1 : decide ((p : Int)<=nth mod k)=false:=by simp;omega
         have Hs : Hid ((mod.take (k+1)).all (λc=>decide (0<=c) && decide (c<p))=true):=all_take_succ hkl hall.out (by rw [<- nth_getElem hkl];simp [h0,h1])
         go_wp2_with fail
         go_quiet (fail)
         go_wp2
         go_roundw
         case rel=>exact ⟨k+1,by omega,by go_num,Hs.out,hd.drewN _⟩
         case measure=>simp [intOf] <;> omega
        ·have t1 : decide ((p : Int)<=nth mod k)=true:=by simp;omega
         have Hf : Hid (errField (fieldRB p m mod)=1):=by show _=_;rw [HfR2.out,all_false_at hkl (by rw [<- nth_getElem hkl];simp [h1])];rfl
         go_wp2_with fail
         go_quiet (fail)
         go_wp2
         go_ret
         exact ⟨ret_int Hf.out.symm,Below.next hbw1 (hd.drewN _).below⟩
       ·have t0 : decide (nth mod k<0)=true:=by simp;omega
        have Hf : Hid (errField (fieldRB p m mod)=1):=by show _=_;rw [HfR2.out,all_false_at hkl (by rw [<- nth_getElem hkl];simp [h0])];rfl
        go_wp2_with fail
        go_quiet (fail)
        go_wp2
        go_ret
        exact ⟨ret_int Hf.out.symm,Below.next hbw1 (hd.drewN _).below⟩
      ·obtain rfl : k=m:=by omega
       have Hall : Hid ((mod.all λc=>decide (0<=c) && decide (c<p))=true):=by
        have:=hall.out
        rwa [List.take_of_length_le (by rw [Hml.out,Hmn.out];exact Nat.le_refl _)] at this
       have HfR3 : Hid (fieldRB p k mod=irrB p mod):=by show _=_;rw [HfR2.out,Hall.out];simp
       have hdig : Dig (p : Int) mod:=Dig.of_mem (by omega) λx hx=>by
        have:=List.all_eq_true.1 Hall.out x hx
        simpa using this
       have hpw : (p : Int) ^ mn<=256:=by rw [Hmn.out];exact hrf.pw
       have hmn8 : mn<=8:=by rw [Hmn.out];exact hm8
       go_wp2_with fail
       refine (rIrreducible_any am mn cm mod p wr hmr hp2 hp256 hdig hmn8 hpw).mono ?_
       rintro e w4 ⟨rfl,hb4⟩
       have hbw4:=Below.next (Below.next hbw1 hd.below) hb4
       by_cases hir : irrB p mod=true
       ·have Hf : Hid (errField (fieldRB p k mod)=0):=by show _=_;rw [HfR3.out,hir];rfl
        rw [hir]
        clear hir
        go_wp2_with fail
        go_ret
        exact ⟨ret_int Hf.out.symm,hbw4⟩
       ·have hir' : irrB p mod=false:=by simpa using hir
        have Hf : Hid (errField (fieldRB p k mod)=1):=by show _=_;rw [HfR3.out,hir'];rfl
        rw [hir']
        clear hir hir'
        go_wp2_with fail
        go_ret
        exact ⟨ret_int Hf.out.symm,hbw4⟩
    ·have hl' : ((mn : Int) != m)=true:=by simp;omega
     have Hf : Hid (errField (fieldRB p m mod)=1):=by
      show _=_;rw [HfR.out,Hml.out]
      have : decide ((mn : Int)=m)=false:=by simp;omega
      rw [this];rfl
     clear hl
     go_wp2_with (go_at_call 117;refine Hc.out.mono ?_;rintro e w2 ⟨rfl,rfl⟩)
     go_ret
     exact ⟨ret_int Hf.out.symm,hbw1⟩
  ·have hpr' : primeB p=false:=by simpa using hpr
   have Hf : Hid (errField (fieldRB p m mod)=1):=by show _=_;rw [fieldRB,shapeB_noP (by simpa using hpr')];rfl
   have Hc:=Lib.hid (rPrime_any p w1 (by omega) (by omega))
   rw [hpr'] at Hc
   clear hpr hpr'
   go_wp2_with (go_at_call 117;refine Hc.out.mono ?_;rintro e w2 ⟨rfl,rfl⟩)
   go_ret
   exact ⟨ret_int Hf.out.symm,hbw1⟩
end

section
set_option maxRecDepth 100000
set_option maxHeartbeats 3200000

open Go.RowKit
theorem rising_any (N : Int) (a : Option Addr) (n c : Nat) (l : List Int) (w : World) (hi : Ints w a n l) :
  Calls Tryz.prog 33 #[.slice a n c,.int .i64 N] w (QuietBool w (okSet N l)):=by
 have Hlen:=Lib.hid hi.len
 have hpl:=hi.pl
 have hmax:=hi.max
 unfold maxLen at hmax
 go_enter Tryz.func33,Tryz.ntmps33
 go_wp2_with fail
 go_loopw [5] (λiv wr=>∃k : Nat,k<=n/\iv = .int .i64 k/\Hid (okTo N l k=true)/\Drawn w wr) (λiv _=>n - (intOf iv).toNat)
 case atStart=>exact ⟨0,Nat.zero_le _,rfl,by show _=_;simp [okTo],Drawn.refl _⟩
 case round =>
  obtain ⟨j,hj,rfl,hok,hd⟩:=hrel
  have hir:=hi.drawn hd
  by_cases hlt2 : j<n
  ·have cj:=hir.cell j hlt2
   have hjj : (j : Int)<n:=by omega
   have hbad : okAt N l j=false->okSet N l=false:=λhb=>okTo_no (by rw [Hlen.out];exact hlt2) hb
   have Hbad:=Lib.hid hbad
   clear hbad
   by_cases h0 : 0<=nth l j
   ·have d1 : decide (nth l j<0)=false:=by simp;omega
    by_cases h1 : nth l j<N
    ·have d2 : decide (N<=nth l j)=false:=by simp;omega
     by_cases hj0 : j=0
     ·have Hgood : Hid (okAt N l j=true):=by show _=_;unfold okAt;rw [decide_eq_true h0,decide_eq_true h1];simp [hj0]
      have d3 : decide (0<j)=false:=by simp;omega
      clear hj0
      go_wp2_with fail
      go_quiet (fail)
      go_wp2
      go_roundw
      case rel=>exact ⟨j+1,by omega,by go_num,okTo_succ hok.out Hgood.out,hd.drewN _⟩
      case measure=>simp [intOf] <;> omega
     ·have cp:=hir.cell (j - 1) (by omega)
      have e1 : ((j : Int) - 1).toNat=j - 1:=by omega
      have d3 : decide (0<j)=true:=by simp;omega
      have d4 : (0 : Int)<=(j : Int) - 1:=by omega
      have d5 : (1 : Int)<=(j : Int):=by omega
      have d6 : (j : Int) - 1<n:=by omega
      have kw : IntKind.i64.wrap ((j : Int) - 1)=(j : Int) - 1:=IntWalk.i64_in _ (by omega)
      by_cases h2 : nth l (j - 1)<nth l j
      ·have Hgood : Hid (okAt N l j=true):=by show _=_;unfold okAt;simp [h0,h1,h2]
       have h2' : decide (nth l j<=nth l (j - 1))=false:=by simp;omega
       clear hj0
       go_wp2_with fail
       go_quiet (fail)
       go_wp2
       go_roundw
       case rel=>exact ⟨j+1,by omega,by go_num,okTo_succ hok.out Hgood.out,hd.drewN _⟩
       case measure=>simp [intOf] <;> omega
      ·have Hb : Hid (okSet N l=false):=Hbad.out (by unfold okAt;simp [h2,hj0])
       have h2' : decide (nth l j<=nth l (j - 1))=true:=by simp;omega
       clear hj0
       go_wp2_with fail
       go_quiet (fail)
       go_wp2
       go_ret
       exact ⟨by rw [Hb.out];rfl,hd.drewN _⟩
    ·have Hb : Hid (okSet N l=false):=Hbad.out (by unfold okAt;simp [h1])
     have d2 : decide (N<=nth l j)=true:=by simp;omega
     go_wp2_with fail
     go_quiet (fail)
     go_wp2
     go_ret
     exact ⟨by rw [Hb.out];rfl,hd.drewN _⟩
   ·have Hb : Hid (okSet N l=false):=Hbad.out (by unfold okAt;simp [h0])
    have d1 : decide (nth l j<0)=true:=by simp;omega
    go_wp2_with fail
    go_quiet (fail)
    go_wp2
    go_ret
    exact ⟨by rw [Hb.out];rfl,hd.drewN _⟩
  ·obtain rfl : j=n:=by omega
   have Hg : Hid (okSet N l=true):=by show _=_;rw [okSet,Hlen.out];exact hok.out
   go_wp2_with fail
   go_ret
   exact ⟨by rw [Hg.out];rfl,hd⟩
end

section
set_option maxRecDepth 100000
set_option maxHeartbeats 3200000

open Go.RowKit
def SomeBool (w : World) (e : Ending) (w' : World) : Prop:=∃z,e = .returned (.bool z)/\Below w.heap.size w w'
theorem rFew9_any (a : Option Addr) (n c K : Nat) (L : List (List Int)) (w : World) (hi : Mat w a n L) (hK : K<=100000) :
  Calls Tryz.prog 63 #[.agg #[.int .i64 0,.slice a n c],.int .i64 K] w (SomeBool w):=by
 have Hlen:=Lib.hid hi.len
 have hpl:=hi.pl
 have hmax:=hi.max
 unfold maxLen at hmax
 go_enter Tryz.func63,Tryz.ntmps63
 go_upto_region 1 with fail
 obtain ⟨W,hW⟩ : ∃W : World,W=w.alloc (.cells #[.int .i64 0,.slice a n c] 82):=⟨_,rfl⟩
 rw [<- hW]
 have hbW : Below w.heap.size w W:=by rw [hW];exact below1 _ _
 have x0 : Box W w.heap.size [.int .i64 0,.slice a n c]:=by rw [hW];exact Box.new _ _ _ rfl
 have c0:=x0.cell 0 rfl
 have c1:=x0.cell 1 rfl
 have hiW:=hi.keep hbW
 have HbW:=Lib.hid hbW
 clear hW x0 hi hbW
 by_cases h1 : K<n
 ·have d1 : decide (K<n)=true:=by simpa using h1
  have d1' : decide ((K : Int)<n)=true:=by simp;omega
  go_wp2_with fail
  go_ret
  exact ⟨_,rfl,HbW.out⟩
 ·have d1 : decide (K<n)=false:=by simpa using h1
  have d1' : decide ((K : Int)<n)=false:=by simp;omega
  go_wp2_with fail
  go_loopw [5,6] (λlv iv wr=>∃k m : Nat,k<=n/\m<=K/\lv = .int .i64 m/\iv = .int .i64 k/\wr=W) (λ_ iv _=>n - (intOf iv).toNat)
  case atStart=>exact ⟨0,K - n,Nat.zero_le _,by omega,by go_num,rfl,rfl⟩
  case round =>
   obtain ⟨k,m,hk,hm,rfl,rfl,rfl⟩:=hrel
   by_cases hlt : k<n
   ·obtain ⟨ra,rn,rc,hcell,hrow⟩:=hiW.cell k hlt
    by_cases h2 : m<rn
    ·have d2 : decide (m<rn)=true:=by simpa using h2
     have d2' : decide ((m : Int)<rn)=true:=by simp;omega
     go_wp2_with fail
     go_ret
     exact ⟨_,rfl,HbW.out⟩
    ·have d2 : decide (m<rn)=false:=by simpa using h2
     have d2' : decide ((m : Int)<rn)=false:=by simp;omega
     have d3 : (rn : Int)<=m:=by omega
     go_wp2_with fail
     go_roundw
     case rel=>exact ⟨k+1,m - rn,by omega,by omega,by go_num,by go_num,by first | rfl | trivial⟩
     case measure=>simp [intOf] <;> omega
   ·obtain rfl : k=n:=by omega
    go_wp2_with fail
    go_ret
    exact ⟨_,rfl,HbW.out⟩
theorem rFew12_any (P M : Int) (am : Option Addr) (mn cm : Nat) (N : Int) (a : Option Addr) (n c K : Nat) (L : List (List Int)) (w : World) (hi : Mat w a n L) (hK : K<=100000) :
  Calls Tryz.prog 28 #[.agg #[.int .i64 P,.int .i64 M,.slice am mn cm,.int .i64 N,.slice a n c],.int .i64 K] w (SomeBool w):=by
 have H:=Lib.hid (λV hV=>rFew9_any a n c K L V (hi.keep hV) hK : ∀V,Below w.heap.size w V->_)
 clear hi
 go_enter Tryz.func28,Tryz.ntmps28
 go_wp2_with fail
 have hbW:=below1 w (.cells #[.int .i64 P,.int .i64 M,.slice am mn cm,.int .i64 N,.slice a n c] 27)
 refine (H.out _ hbW).mono ?_
 rintro e w1 ⟨z,rfl,hb1⟩
 have hF:=Below.next hbW hb1
 go_wp2_with fail
 go_ret
 exact ⟨z,rfl,hF⟩
end

section
set_option maxRecDepth 100000

open Go.ChangeShapes Go.WideShapes Go.ChangeAt Go.RowKit
theorem Tryz.own : ownKnob Tryz.prog.godebug=none:=by kernel_rfl
theorem Tryz.laid : laidOutB Tryz.prog=true:=by kernel_rfl
section
variable {H : Type} {enc : TypeId × Value->H} {W : World} {held : Bool} {fuel : Nat} {cs : List Value} {x : DataW H × List MemPlace}
theorem add_cell {a : Addr} {v : Value} {i : Nat} (h : W.cell? (a.add i)=some v) : W.cell? ⟨a.block,a.off+i,none⟩=some v:=by
 have hs:=World.cell?_spot h
 obtain ⟨b,o,s⟩:=a
 by_cases h0 : i=0
 ·subst h0
  simp only [Addr.add,if_true] at hs h
  subst hs
  exact h
 ·simpa [Addr.add,h0] using h
theorem plain_of {a : Addr} {v : Value} (h : W.cell? (a.add 0)=some v) : a=⟨a.block,a.off,none⟩:=by
 have hs:=World.cell?_spot h
 obtain ⟨b,o,s⟩:=a
 simp only [Addr.add,if_true] at hs
 subst hs
 rfl
theorem nth_take_getD (l : List Int) (n i : Nat) (h : i<n) : nth (l.take n) i=l.getD i 0:=by
 unfold nth
 simp only [List.getD_eq_getElem?_getD,List.getElem?_take]
 rw [if_pos h]
theorem opened_ints (h : DataW.trod enc Tryz.prog W 0 (λ_=>true) held fuel 22 cs=some x) : ∃a n c l,cs=[.slice a n c]/\Ints W a n l:=by
 rcases open_ints Tryz.underlying22 Tryz.underlying3 (by kernel_rfl) h with ⟨hcs,_⟩ | ⟨a,len,cap,zs,hcs,_,hl,hm,hz,_,hcell,_⟩
 ·exact ⟨none,0,0,[],hcs,Ints.nil _ _⟩
 ·simp only [if_true] at hz
  refine ⟨some a,len,cap,zs.take len,hcs,⟨by simp;omega,λh0=>?_,by omega,λi hi=>?_⟩⟩
  ·exact congrArg some (plain_of (hcell 0 (by omega)))
  ·rw [nth_take_getD _ _ _ hi]
   exact add_cell (hcell i (by omega))
theorem opened_mat (h : DataW.trod enc Tryz.prog W 0 (λ_=>true) held fuel 25 cs=some x) : ∃a n c L,cs=[.slice a n c]/\Mat W a n L:=by
 rcases Go.Deep.open_int_rows Tryz.underlying25 Tryz.underlying22 Tryz.underlying3 (by kernel_rfl) (by kernel_rfl) h with ⟨hcs,_⟩ | ⟨a,len,cap,A,Ln,C,Z,hcs,_,hl,hm,_,hrows⟩
 ·exact ⟨none,0,0,[],hcs,⟨rfl,λh0=>by omega,by unfold maxLen;omega,λi hi=>by omega⟩⟩
 ·refine ⟨some a,len,cap,(List.range len).map (λr=>(Z r).take (Ln r)),hcs,⟨by simp,λh0=>congrArg some (plain_of (hrows 0 (by omega)).1),by omega,λr hr=>?_⟩⟩
  obtain ⟨h1,h2,h3,h4,_,h5,h6⟩:=hrows r (by omega)
  refine ⟨A r,Ln r,C r,add_cell h1,?_⟩
  have e : nthR ((List.range len).map (λr=>(Z r).take (Ln r))) r=(Z r).take (Ln r):=by
   unfold nthR
   simp [List.getD_eq_getElem?_getD,List.getElem?_map,List.getElem?_range hr]
  rw [e]
  match hA : A r,h5,h6 with
  | none,h5,_ =>
   have h0 : Ln r=0:=by have:=h5 rfl;omega
   rw [h0]
   exact Ints.nil _ _
  | some b,_,h6 =>
   obtain ⟨_,h7⟩:=h6 b rfl
   exact ⟨by simp;omega,λh0=>congrArg some (plain_of (h7 0 (by omega))),by omega,λi hi=>by
    rw [nth_take_getD _ _ _ hi]
    exact add_cell (h7 i (by omega))⟩
end
section
variable {H : Type} {enc : TypeId × Value->H} {W : World} {held : Bool} {b0 : Nat} {v : Value} {d : DataW H} {p : List MemPlace}
theorem arg_ints (hv : Value.okWide Tryz.prog W .any b0 22 v) (h : DataW.Trod enc Tryz.prog W 0 (λ_=>true) held 22 v d p) : ∃a n c l,v = .slice a n c/\Ints W a n l:=by
 obtain ⟨a,n,c,rfl⟩:=okWide_slice Tryz.underlying22 hv
 obtain ⟨fuel,hf⟩:=h
 obtain ⟨a',n',c',l,e,hi⟩:=opened_ints hf
 simp [Value.cells] at e
 obtain ⟨rfl,rfl,rfl⟩:=e
 exact ⟨_,_,_,l,rfl,hi⟩
theorem arg_code (hv : Value.okWide Tryz.prog W .any b0 27 v) (h : DataW.Trod enc Tryz.prog W 0 (λ_=>true) held 27 v d p) :
  ∃(P M : Int) (am : Option Addr) (mn cm : Nat) (mod : List Int) (N : Int) (a : Option Addr) (n c : Nat) (L : List (List Int)),v = .agg #[.int .i64 P,.int .i64 M,.slice am mn cm,.int .i64 N,.slice a n c]/\Ints W am mn mod/\Mat W a n L:=by
 obtain ⟨cs,rfl,hsz⟩:=okWide_struct Tryz.underlying27 hv
 rw [show Tryz.prog.cellsOf 27 = 5 by kernel_rfl] at hsz
 obtain ⟨l⟩:=cs
 match l,hsz with
 | [v0,v1,v2,v3,v4],_ =>
 obtain ⟨fuel,hf⟩:=h
 obtain ⟨xs,n0,_,_,_,hlen,hfs⟩:=DataW.trod_struct Tryz.underlying27 hf
 obtain ⟨y0,y1,y2,rfl⟩ : ∃y0 y1 y2,xs=[y0,y1,y2]:=by
  match xs,hlen with
  | [y0,y1,y2],_=>exact ⟨y0,y1,y2,rfl⟩
 have k24 : Tryz.prog.cellsOf 24 = 3:=by kernel_rfl
 have k3 : Tryz.prog.cellsOf 3 = 1:=by kernel_rfl
 have k22 : Tryz.prog.cellsOf 22 = 1:=by kernel_rfl
 have k25 : Tryz.prog.cellsOf 25 = 1:=by kernel_rfl
 have g0 : DataW.trod enc Tryz.prog W 0 (λ_=>true) held n0 24 [v0,v1,v2]=some y0:=by simpa [Value.cells,k24] using hfs 0 _ rfl
 have g1 : DataW.trod enc Tryz.prog W 0 (λ_=>true) held n0 3 [v3]=some y1:=by simpa [Value.cells,k3] using hfs 1 _ rfl
 have g2 : DataW.trod enc Tryz.prog W 0 (λ_=>true) held n0 25 [v4]=some y2:=by simpa [Value.cells,k25] using hfs 2 _ rfl
 obtain ⟨xs',n1,_,_,_,hlen',hfs'⟩:=DataW.trod_struct Tryz.underlying24 g0
 obtain ⟨z0,z1,z2,rfl⟩ : ∃z0 z1 z2,xs'=[z0,z1,z2]:=by
  match xs',hlen' with
  | [z0,z1,z2],_=>exact ⟨z0,z1,z2,rfl⟩
 have q0 : DataW.trod enc Tryz.prog W 0 (λ_=>true) held n1 3 [v0]=some z0:=by simpa [k3] using hfs' 0 _ rfl
 have q1 : DataW.trod enc Tryz.prog W 0 (λ_=>true) held n1 3 [v1]=some z1:=by simpa [k3] using hfs' 1 _ rfl
 have q2 : DataW.trod enc Tryz.prog W 0 (λ_=>true) held n1 22 [v2]=some z2:=by simpa [k22] using hfs' 2 _ rfl
 obtain ⟨P,eP,_,_⟩:=DataW.trod_int Tryz.underlying3 q0
 obtain ⟨M,eM,_,_⟩:=DataW.trod_int Tryz.underlying3 q1
 obtain ⟨N,eN,_,_⟩:=DataW.trod_int Tryz.underlying3 g1
 obtain ⟨am,mn,cm,mod,eI,hI⟩:=opened_ints q2
 obtain ⟨a,n,c,L,eL,hL⟩:=opened_mat g2
 simp at eP eM eN eI eL
 subst eP eM eN eI eL
 exact ⟨P,M,am,mn,cm,mod,N,a,n,c,L,rfl,hI,hL⟩
end
end

end Go.Proofs.YtcfmiocdlcapoaaGreat
