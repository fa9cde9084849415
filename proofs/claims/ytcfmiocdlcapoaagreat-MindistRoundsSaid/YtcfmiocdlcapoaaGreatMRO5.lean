import Derived.Test.YtcfmiocdlcapoaaGreatK12
import Derived.Test.YtcfmiocdlcapoaaGreatMRO3
import Derived.Test.YtcfmiocdlcapoaaGreatK10
import Derived.Test.YtcfmiocdlcapoaaGreatMRO4
import Derived.Test.YtcfmiocdlcapoaaGreatK17
import Derived.Test.YtcfmiocdlcapoaaGreatK16
import Derived.Test.YtcfmiocdlcapoaaGreatK9
import Derived.Test.YtcfmiocdlcapoaaGreatMRO1
import Derived.Test.YtcfmiocdlcapoaaGreatK19
import Derived.Test.YtcfmiocdlcapoaaGreatK21
import Derived.Test.YtcfmiocdlcapoaaGreatK18
import Derived.Test.YtcfmiocdlcapoaaGreatK23
import Derived.Test.YtcfmiocdlcapoaaGreatK25
import Derived.Test.YtcfmiocdlcapoaaGreatMRO2
namespace Go.Proofs.YtcfmiocdlcapoaaGreat
set_option linter.unusedVariables false
set_option linter.unusedSimpArgs false
set_option linter.unusedSectionVars false
set_option maxRecDepth 100000
set_option maxHeartbeats 4000000
open Go.RowKit
theorem mc (P M : Int) (am : OA) (mn cm : Nat) (a : OA) (n c : Nat) (l : Lz) (w : World) (hi : Ints w a n l) :
  Calls Tryz.prog 76 #[.agg #[.int .i64 P,.int .i64 M,.slice am mn cm],.slice a n c] w λe w'=>e = .returned (.int .i64 (iH (aK P M) l))/\Below w.heap.size w w':=by
 have Hlen:=Z5 hi.len
 have hpl:=hi.pl
 have hmax:=hi.max
 unfold maxLen at hmax
 go_enter Tryz.func76,Tryz.ntmps76
 go_wp2_with fail
 obtain ⟨W,hW⟩ : ∃W : World,W=w.alloc (.cells #[.int .i64 P,.int .i64 M,.slice am mn cm] 24):=⟨_,rfl⟩
 rw [<- hW]
 have hbW : Below w.heap.size w W:=by rw [hW];exact an _ _
 have x0 : aV W w.heap.size [.int .i64 P,.int .i64 M,.slice am mn cm]:=by rw [hW];exact aV.new _ _ _ rfl
 have hiW:=hi.ah hbW
 have hS : ∀k,k<n->∀V,Below W.heap.size W V->V.cell? ⟨w.heap.size,0,none⟩=some (.int .i64 P)/\V.cell? ⟨w.heap.size,1,none⟩=some (.int .i64 M)/\V.cell? ⟨w.heap.size,2,none⟩=some (.slice am mn cm)/\V.cell? ⟨ablk a,aJ a+k,none⟩=some (.int .i64 (nth l k))/\Below W.heap.size W V:=by
  intro k hk V hV
  have x1:=x0.ah hV
  exact ⟨x1.cell 0 rfl,x1.cell 1 rfl,x1.cell 2 rfl,(hiW.ah hV).cell k hk,hV⟩
 have HS:=Z5 hS
 clear hW x0 hS
 go_loopw [5] (λiv wr=>∃k : Nat,k<=n/\iv = .int .i64 k/\Hid ((l.take k).all (fG (aK P M))=true)/\Below W.heap.size W wr) (λiv _=>n - (intOf iv).toNat)
 case atStart=>exact ⟨0,Nat.zero_le _,rfl,by show _=_;simp,Below.refl _ _⟩
 case round =>
  obtain ⟨k,hk,rfl,hall,hbr⟩:=hrel
  by_cases hlt : k<n
  ·have HSk : Hid (∀V,Below W.heap.size W V->V.cell? ⟨w.heap.size,0,none⟩=some (.int .i64 P)/\V.cell? ⟨w.heap.size,1,none⟩=some (.int .i64 M)/\V.cell? ⟨w.heap.size,2,none⟩=some (.slice am mn cm)/\V.cell? ⟨ablk a,aJ a+k,none⟩=some (.int .i64 (nth l k))/\Below W.heap.size W V):=HS.out k hlt
   have hkl : k<l.length:=by rw [Hlen.out];exact hlt
   have Hbr:=Z5 hbr
   have Hq:=Z5 (oR P M am mn cm (nth l k))
   clear hbr
   by_cases hq : fG (aK P M) (nth l k)=true
   ·have Hs : Hid ((l.take (k+1)).all (fG (aK P M))=true):=bU hkl hall.out (by rw [<- ai hkl];exact hq)
    rw [hq] at Hq
    clear hq
    go_wp2_with fail
    go_region_held3 (λV=>V.cell? ⟨w.heap.size,0,none⟩=some (.int .i64 P)/\V.cell? ⟨w.heap.size,1,none⟩=some (.int .i64 M)/\V.cell? ⟨w.heap.size,2,none⟩=some (.slice am mn cm)/\V.cell? ⟨ablk a,aJ a+k,none⟩=some (.int .i64 (nth l k))/\Below W.heap.size W V)
     ((refine HSk.out _ ?_;first | exact Hbr.out.drew | exact Below.next Hbr.out.drew hb4))
     (first | (go_at_call 145;((with_reducible refine (Hq.out _).mono ?_);rintro e w4 ⟨rfl,hb4⟩)))
    go_wp2_with fail
    go_roundw
    case rel=>exact ⟨k+1,by omega,by go_num,Hs.out,Below.next Hbr.out.drew hb4⟩
    case measure=>simp [intOf] <;> omega
   ·have hq' : fG (aK P M) (nth l k)=false:=by simpa using hq
    have Hs : Hid (iH (aK P M) l=2):=by show _=_;rw [iH,gD,bS hkl (by rw [<- ai hkl];exact hq')];rfl
    rw [hq'] at Hq
    clear hq hq'
    go_wp2_with fail
    go_region_held3 (λV=>V.cell? ⟨w.heap.size,0,none⟩=some (.int .i64 P)/\V.cell? ⟨w.heap.size,1,none⟩=some (.int .i64 M)/\V.cell? ⟨w.heap.size,2,none⟩=some (.slice am mn cm)/\V.cell? ⟨ablk a,aJ a+k,none⟩=some (.int .i64 (nth l k))/\Below W.heap.size W V)
     ((refine HSk.out _ ?_;first | exact Hbr.out.drew | exact Below.next Hbr.out.drew hb4))
     (first | (go_at_call 145;((with_reducible refine (Hq.out _).mono ?_);rintro e w4 ⟨rfl,hb4⟩)))
    go_wp2_with fail
    go_ret
    exact ⟨aF Hs.out.symm,Below.next hbW (Below.next Hbr.out.drew hb4)⟩
  ·obtain rfl : k=n:=by omega
   have Hs : Hid (iH (aK P M) l=0):=by
    have:=hall.out
    rw [List.take_of_length_le (by rw [Hlen.out];exact Nat.le_refl _)] at this
    show _=_;rw [iH,gD,this];rfl
   go_wp2_with fail
   go_ret
   exact ⟨aF Hs.out.symm,Below.next hbW hbr⟩
def cY (P M : Int) (mod : Lz) (cols : Int) (L : Ll) : Int:=if aZ P M mod=true then ew (aK P M) cols L else 1
theorem iM (P M : Int) (am : OA) (mn cm : Nat) (mod : Lz) (cols : Int) (a : OA) (n c : Nat) (L : Ll) (w : World) (hmod : Ints w am mn mod) (hi : bZ w a n L) :
  Calls Tryz.prog 119 #[.agg #[.int .i64 P,.int .i64 M,.slice am mn cm],.agg #[.int .i64 cols,.slice a n c]] w λe w'=>e = .returned (.int .i64 (cY P M mod cols L))/\Below w.heap.size w w':=by
 have Hlen:=Z5 hi.len
 have hpl:=hi.pl
 have hmax:=hi.max
 unfold maxLen at hmax
 go_enter Tryz.func119,Tryz.ntmps119
 go_wp2_with fail
 obtain ⟨W,hW⟩ : ∃W : World,W=(w.alloc (.cells #[.int .i64 P,.int .i64 M,.slice am mn cm] 24)).alloc (.cells #[.int .i64 cols,.slice a n c] 82):=⟨_,rfl⟩
 rw [<- hW]
 have hbW : Below w.heap.size w W:=by rw [hW];exact dH _ _ _
 have x0 : aV W w.heap.size [.int .i64 P,.int .i64 M,.slice am mn cm]:=by rw [hW];exact (aV.new _ _ _ rfl).alloc _
 have y0 : aV W (w.heap.size+1) [.int .i64 cols,.slice a n c]:=by rw [hW];exact aV.new _ _ _ (by simp)
 have hS : ∀V,Below W.heap.size W V->V.cell? ⟨w.heap.size,0,none⟩=some (.int .i64 P)/\V.cell? ⟨w.heap.size,1,none⟩=some (.int .i64 M)/\V.cell? ⟨w.heap.size,2,none⟩=some (.slice am mn cm) /\
   V.cell? ⟨w.heap.size+1,0,none⟩=some (.int .i64 cols)/\V.cell? ⟨w.heap.size+1,1,none⟩=some (.slice a n c)/\Below W.heap.size W V:=by
  intro V hV
  have x1:=x0.ah hV
  have y1:=y0.ah hV
  exact ⟨x1.cell 0 rfl,x1.cell 1 rfl,x1.cell 2 rfl,y1.cell 0 rfl,y1.cell 1 rfl,hV⟩
 have HS:=Z5 hS
 have hiW:=hi.ah hbW
 clear hW x0 y0 hS
 refine (fM P M am mn cm mod W (hmod.ah hbW)).mono ?_
 rintro e w1 ⟨rfl,hb1⟩
 have hbw1:=Below.next hbW hb1
 by_cases hB : aZ P M mod=true
 ·have HB : Hid (cY P M mod cols L=ew (aK P M) cols L):=by show _=_;rw [cY,if_pos hB]
  have hE : bG (aZ P M mod)=0:=by rw [hB];rfl
  rw [hE]
  obtain ⟨q,hq⟩ : ∃q,aK P M=q:=⟨_,rfl⟩
  have Hq:=Z5 hq
  rw [hq] at HB
  obtain ⟨d0,d1,d2,d3,d4,_⟩:=HS.out w1 hb1
  clear hB hE hq
  by_cases b1 : cols<0
  ·have Hf : Hid (cY P M mod cols L=3):=by show _=_;rw [HB.out,ew,if_pos (.inl b1)]
   have t1 : decide (cols<0)=true:=by simpa using b1
   go_wp2_with fail
   go_ret
   exact ⟨aF Hf.out.symm,hbw1⟩
  have t1 : decide (cols<0)=false:=by simpa using b1
  by_cases b2 : 256<cols
  ·have Hf : Hid (cY P M mod cols L=3):=by show _=_;rw [HB.out,ew,if_pos (.inr (.inl b2))]
   have t2 : decide (256<cols)=true:=by simpa using b2
   go_wp2_with fail
   go_ret
   exact ⟨aF Hf.out.symm,hbw1⟩
  have t2 : decide (256<cols)=false:=by simpa using b2
  by_cases b3 : 256<n
  ·have Hf : Hid (cY P M mod cols L=3):=by show _=_;rw [HB.out,ew,if_pos (.inr (.inr (by rw [Hlen.out];exact b3)))]
   have t3 : decide (256<(n : Int))=true:=by simp;omega
   go_wp2_with fail
   go_ret
   exact ⟨aF Hf.out.symm,hbw1⟩
  have t3 : decide (256<(n : Int))=false:=by simp;omega
  have Hm : Hid (cY P M mod cols L=if iA cols L=false then 3 else if L.all (gD q) then 0 else 2):=by
   show _=_;rw [HB.out,ew,if_neg (by rw [Hlen.out];omega)]
  have hi1:=hiW.ah hb1
  clear b1 b2
  go_wp2_with fail
  go_loopw [6] (λiv wr=>∃k : Nat,k<=n/\iv = .int .i64 k/\Hid ((L.take k).all (λr=>decide ((r.length : Int)=cols))=true)/\bd w1 wr) (λiv _=>n - (intOf iv).toNat)
  case atStart=>exact ⟨0,Nat.zero_le _,rfl,by show _=_;simp,bd.refl _⟩
  case round =>
   obtain ⟨k,hk,rfl,hall,hd⟩:=hrel
   have hir:=hi1.drawn hd
   have e3:=hd.cell d3
   have e4:=hd.cell d4
   by_cases hlt : k<n
   ·obtain ⟨ra,rn,rc,hcell,hrow⟩:=hir.cell k hlt
    have hkL : k<L.length:=by rw [Hlen.out];exact hlt
    have hrl:=hrow.len
    rw [aE hkL] at hrl
    have Hrl:=Z5 hrl
    clear hrl
    by_cases he : (rn : Int)=cols
    ·have he' : ((rn : Int) != cols)=false:=by simpa using he
     have Hs : Hid ((L.take (k+1)).all (λr=>decide ((r.length : Int)=cols))=true):=bU hkL hall.out (by rw [Hrl.out];simpa using he)
     clear he
     go_wp2_with fail
     go_quiet (fail)
     go_wp2
     go_roundw
     case rel=>exact ⟨k+1,by omega,by go_num,Hs.out,hd.drewN _⟩
     case measure=>simp [intOf] <;> omega
    ·have he' : ((rn : Int) != cols)=true:=by simpa using he
     have Hs : Hid (cY P M mod cols L=3):=by
      show _=_;rw [Hm.out,if_pos]
      exact bS hkL (by simp only [Hrl.out];simpa using he)
     clear he
     go_wp2_with fail
     go_quiet (fail)
     go_wp2
     go_ret
     exact ⟨aF Hs.out.symm,Below.next hbw1 (hd.drewN _).below⟩
   ·obtain rfl : k=n:=by omega
    have Hm2 : Hid (cY P M mod cols L=if L.all (gD q) then 0 else 2):=by
     have:=hall.out;rw [List.take_of_length_le (by rw [Hlen.out];exact Nat.le_refl _)] at this
     show _=_;rw [Hm.out,if_neg (by rw [iA,this];simp)]
    have hbr : Below W.heap.size W wr:=Below.next hb1 hd.below
    have hir2:=hir
    clear d0 d1 d2 d3 d4 hall
    go_wp2_with fail
    clear e3 e4
    go_loopw [7] (λiv wx=>∃j : Nat,j<=k/\iv = .int .i64 j/\Hid ((L.take j).all (gD q)=true)/\Below W.heap.size W wx) (λiv _=>k - (intOf iv).toNat)
    case atStart=>exact ⟨0,Nat.zero_le _,rfl,by show _=_;simp,hbr⟩
    case round =>
     obtain ⟨j,hj,rfl,hall2,hbx⟩:=hrel
     obtain ⟨d0,d1,d2,d3,d4,_⟩:=HS.out _ hbx
     by_cases hlt : j<k
     ·have hiX:=hiW.ah hbx
      obtain ⟨ra,rn,rc,hcell,hrow⟩:=hiX.cell j hlt
      have hjL : j<L.length:=by rw [Hlen.out];exact hlt
      have HC:=Z5 (mc P M am mn cm ra rn rc (aj L j) _ (hrow.ah (Below.refl _ _).drew))
      have hSj : ∀V,Below wr.heap.size wr V->V.cell? ⟨w.heap.size,0,none⟩=some (.int .i64 P)/\V.cell? ⟨w.heap.size,1,none⟩=some (.int .i64 M)/\V.cell? ⟨w.heap.size,2,none⟩=some (.slice am mn cm) /\
        V.cell? ⟨w.heap.size+1,1,none⟩=some (.slice a k c)/\V.cell? ⟨ablk a,aJ a+j,none⟩=some (.slice ra rn rc):=λV hV=>by
       obtain ⟨f0,f1,f2,f3,f4,_⟩:=HS.out V (Below.next hbx hV)
       exact ⟨f0,f1,f2,f4,aw hV hcell⟩
      have HSj:=Z5 hSj
      have Hbx:=Z5 hbx
      rw [Hq.out] at HC
      clear hSj hbx
      by_cases he : gD q (aj L j)=true
      ·have he2 : iH q (aj L j)=0:=by rw [iH,he];rfl
       rw [he2] at HC
       rw [aE hjL] at he
       have Hs : Hid ((L.take (j+1)).all (gD q)=true):=bU hjL hall2.out he
       clear he he2
       go_wp2_with fail
       go_region_held3 (λV=>V.cell? ⟨w.heap.size,0,none⟩=some (.int .i64 P)/\V.cell? ⟨w.heap.size,1,none⟩=some (.int .i64 M)/\V.cell? ⟨w.heap.size,2,none⟩=some (.slice am mn cm) /\
         V.cell? ⟨w.heap.size+1,1,none⟩=some (.slice a k c)/\V.cell? ⟨ablk a,aJ a+j,none⟩=some (.slice ra rn rc))
        ((refine HSj.out _ ?_;first | exact (Below.refl _ _).drew | exact Below.next (Below.refl _ _).drew hb4))
        (first | (go_at_call 76;((with_reducible refine HC.out.mono ?_);rintro e w4 ⟨rfl,hb4⟩)))
       go_wp2_with fail
       go_roundw
       case rel=>exact ⟨j+1,by omega,by go_num,Hs.out,Below.next Hbx.out (Below.next (Below.refl _ _).drew hb4)⟩
       case measure=>simp [intOf] <;> omega
      ·have he2 : iH q (aj L j)=2:=by rw [iH,if_neg he]
       rw [he2] at HC
       rw [aE hjL] at he
       have Hs : Hid (cY P M mod cols L=2):=by
        show _=_;rw [Hm2.out,bS hjL (by simpa using he)];rfl
       clear he he2
       go_wp2_with fail
       go_region_held3 (λV=>V.cell? ⟨w.heap.size,0,none⟩=some (.int .i64 P)/\V.cell? ⟨w.heap.size,1,none⟩=some (.int .i64 M)/\V.cell? ⟨w.heap.size,2,none⟩=some (.slice am mn cm) /\
         V.cell? ⟨w.heap.size+1,1,none⟩=some (.slice a k c)/\V.cell? ⟨ablk a,aJ a+j,none⟩=some (.slice ra rn rc))
        ((refine HSj.out _ ?_;first | exact (Below.refl _ _).drew | exact Below.next (Below.refl _ _).drew hb4))
        (first | (go_at_call 76;((with_reducible refine HC.out.mono ?_);rintro e w4 ⟨rfl,hb4⟩)))
       go_wp2_with fail
       go_ret
       exact ⟨aF Hs.out.symm,Below.next hbW (Below.next Hbx.out (Below.next (Below.refl _ _).drew hb4))⟩
     ·obtain rfl : j=k:=by omega
      have Hs : Hid (cY P M mod cols L=0):=by
       have:=hall2.out;rw [List.take_of_length_le (by rw [Hlen.out];exact Nat.le_refl _)] at this
       show _=_;rw [Hm2.out,this];rfl
      go_wp2_with fail
      go_ret
      exact ⟨aF Hs.out.symm,Below.next hbW hbx⟩
 ·have hB' : aZ P M mod=false:=by simpa using hB
  have Hf : Hid (cY P M mod cols L=1):=by show _=_;rw [cY,if_neg hB]
  have hE : bG (aZ P M mod)=1:=by rw [hB'];rfl
  rw [hE]
  clear hB hB' hE
  go_wp2_with fail
  go_ret
  exact ⟨aF Hf.out.symm,hbw1⟩
def ma (O : aQ) (L : Ll) (cols : Nat) : Ll:=(aA O L cols).1.take (aA O L cols).2.length
def jK (O : aQ) (L : Ll) (cols : Nat) (w : World) (e : Ending) (w' : World) : Prop :=
 ∃a c ap cp,e = .returned (.tuple #[.slice a (aA O L cols).2.length c,.slice ap (aA O L cols).2.length cp])/\bN w.heap.size w' a (aA O L cols).2.length (ma O L cols) /\
  dj w.heap.size w' ap (aA O L cols).2.length (aA O L cols).2/\Below w.heap.size w w'
theorem jU (P : Int) (m : Nat) (am : OA) (mn cm : Nat) (mod : Lz) (a : OA) (n c cols : Nat) (L : Ll) (w : World) (hf : l5 w P m am mn mod) (hi : bZ w a n L)
  (hR : bH (ee P m) cols L) (hlen : cols<=1000000) (hn : n<=1000000) (hinv : ∀p,ee P m p->p ≠ 0->(ei P m mod p=1 ↔ p=1)) :
  Calls Tryz.prog 120 #[.agg #[.int .i64 P,.int .i64 m,.slice am mn cm],.slice a n c,.int .i64 cols] w (jK (fw P m mod) L cols w):=by
 have Hlen:=Z5 hi.len
 have Hc : Hid (∀V,Below w.heap.size w V->Calls Tryz.prog 183 #[.agg #[.int .i64 P,.int .i64 m,.slice am mn cm],.slice a n c,.int .i64 cols] V (iG (fw P m mod) L cols V)) :=
  λV hV=>nB P m am mn cm mod a n c cols cols L V (hf.ah hV) (hi.ah hV) hR (Nat.le_refl _) hlen hn hinv
 obtain ⟨O,hO⟩ : ∃O,fw P m mod=O:=⟨_,rfl⟩
 rw [hO] at Hc ⊢
 clear hO hinv hR
 go_enter Tryz.func120,Tryz.ntmps120
 go_wp2_with fail
 obtain ⟨W,hW⟩ : ∃W : World,W=w.alloc (.cells #[.int .i64 P,.int .i64 m,.slice am mn cm] 24):=⟨_,rfl⟩
 rw [<- hW]
 have hbW : Below w.heap.size w W:=by rw [hW];exact an _ _
 clear hW
 refine (Hc.out W hbW).mono ?_
 rintro e w1 ⟨a1,c1,R1,ap,cp,rfl,hO1,hp1,hb1⟩
 have hpl:=fZ O L cols
 have hcap:=pR hO1.own
 have hpv:=(dj.own hp1).mono hbW.size
 have hmt:=((bN.own hO1).take (k:=(aA O L cols).2.length) hpl.2).mono hbW.size
 have hF : jK O L cols w (.returned (.tuple #[.slice a1 (aA O L cols).2.length c1,.slice ap (aA O L cols).2.length cp])) w1:=⟨a1,_,ap,cp,rfl,hmt,hpv,Below.next hbW hb1⟩
 have HF:=Z5 hF
 have hle : (aA O L cols).2.length<=c1:=Nat.le_trans hpl.2 hcap
 clear hF hpv hmt hp1 hcap hpl
 generalize (aA O L cols).2.length=k at *
 go_wp2_with fail
 go_ret2
 simpa using HF.out
def dh (P M : Int) (mod : Lz) (cols : Int) (L : Ll) : Int :=
 if cY P M mod cols L=0 then (if ma (fw P M.toNat mod) L cols.toNat=L then 0 else 5) else cY P M mod cols L
theorem ot {P M : Int} {mod : Lz} {cols : Int} {L : Ll} (h : cY P M mod cols L=0) : aZ P M mod=true/\ew (aK P M) cols L=0:=by
 unfold cY at h
 split at h
 ·rename_i h1;exact ⟨h1,h⟩
 ·omega
theorem jb (P M : Int) (am : OA) (mn cm : Nat) (mod : Lz) (cols : Int) (a : OA) (n c : Nat) (L : Ll) (w : World) (hmod : Ints w am mn mod) (hi : bZ w a n L)
  (hinv : aZ P M mod=true->∀p,ee P M.toNat p->p ≠ 0->(ei P M.toNat mod p=1 ↔ p=1)) :
  Calls Tryz.prog 58 #[.agg #[.int .i64 P,.int .i64 M,.slice am mn cm],.agg #[.int .i64 cols,.slice a n c]] w λe w'=>e = .returned (.int .i64 (dh P M mod cols L))/\Below w.heap.size w w':=by
 have Hlen:=Z5 hi.len
 have Hinv:=Z5 hinv
 clear hinv
 go_enter Tryz.func58,Tryz.ntmps58
 go_wp2_with fail
 obtain ⟨W,hW⟩ : ∃W : World,W=(w.alloc (.cells #[.int .i64 P,.int .i64 M,.slice am mn cm] 24)).alloc (.cells #[.int .i64 cols,.slice a n c] 82):=⟨_,rfl⟩
 rw [<- hW]
 have hbW : Below w.heap.size w W:=by rw [hW];exact dH _ _ _
 have x0 : aV W w.heap.size [.int .i64 P,.int .i64 M,.slice am mn cm]:=by rw [hW];exact (aV.new _ _ _ rfl).alloc _
 have y0 : aV W (w.heap.size+1) [.int .i64 cols,.slice a n c]:=by rw [hW];exact aV.new _ _ _ (by simp)
 have HX:=Z5 (And.intro x0 y0)
 have hiW:=hi.ah hbW
 have hmW:=hmod.ah hbW
 clear hW x0 y0
 refine (iM P M am mn cm mod cols a n c L W hmW hiW).mono ?_
 rintro e w1 ⟨rfl,hb1⟩
 have hbw1:=Below.next hbW hb1
 by_cases hE : cY P M mod cols L=0
 ·obtain ⟨hB,hm⟩:=ot hE
  obtain ⟨m,rfl,hrf,hmods⟩:=eW hB
  obtain ⟨k,rfl,hk,hl,hR⟩:=gP hm
  have HE : Hid (dh P m mod k L=if ma (fw P m mod) L k=L then 0 else 5):=by show _=_;rw [dh,if_pos hE,Int.toNat_natCast,Int.toNat_natCast]
  rw [hE]
  have hinv:=Hinv.out hB
  rw [Int.toNat_natCast] at hinv
  have hRw : bH (ee P m) k L:=λr hr=>⟨(hR r hr).1,λx hx=>by have:=(hR r hr).2 x hx;rw [hrf.order] at this;exact this⟩
  have x1:=HX.out.1.ah hb1
  have y1:=HX.out.2.ah hb1
  have d0:=x1.cell 0 rfl
  have d1:=x1.cell 1 rfl
  have d2:=x1.cell 2 rfl
  have d3:=y1.cell 0 rfl
  have d4:=y1.cell 1 rfl
  have hm1:=hmW.ah hb1
  have hi1:=hiW.ah hb1
  have hn : n<=1000000:=by rw [<- Hlen.out];omega
  have HC:=Z5 (jU P m am mn cm mod a n c k L w1 ⟨hrf,hmods w1 am mn hm1⟩ hi1 hRw (by omega) hn hinv)
  clear hE hB hm hmods hR hinv hRw x1 y1
  obtain ⟨O,hO⟩ : ∃O,fw P m mod=O:=⟨_,rfl⟩
  rw [hO] at HC HE
  clear hO
  go_wp2_with fail
  refine HC.out.mono ?_
  rintro e w2 ⟨a2,c2,ap,cp,rfl,hM2,hp2,hb2⟩
  have hbw2:=Below.next hbw1 hb2
  have y2:=(HX.out.2.ah hb1).ah hb2
  have d3:=y2.cell 0 rfl
  have d4:=y2.cell 1 rfl
  have hi2:=hi1.ah hb2
  have hM3:=hM2.kK
  have HS:=Z5 (kJ a2 (aA O L k).2.length c2 (ma O L k) a n c L hM3 hi2)
  clear hM2 hp2 y2
  generalize (aA O L k).2.length=kk at *
  by_cases hc : ma O L k=L
  ·have hc' : decide (ma O L k=L)=true:=by simpa using hc
   have HF : Hid (dh P m mod k L=0):=by show _=_;rw [HE.out,if_pos hc]
   rw [hc'] at HS
   clear hc hc'
   go_wp2_with fail
   refine HS.out.mono ?_
   rintro e w3 ⟨rfl,hd3⟩
   go_wp2_with fail
   go_ret
   exact ⟨aF HF.out.symm,Below.next hbw2 hd3.below⟩
  ·have hc' : decide (ma O L k=L)=false:=by simpa using hc
   have HF : Hid (dh P m mod k L=5):=by show _=_;rw [HE.out,if_neg hc]
   rw [hc'] at HS
   clear hc hc'
   go_wp2_with fail
   refine HS.out.mono ?_
   rintro e w3 ⟨rfl,hd3⟩
   go_wp2_with fail
   go_ret
   exact ⟨aF HF.out.symm,Below.next hbw2 hd3.below⟩
 ·have HE : Hid (dh P M mod cols L=cY P M mod cols L):=by show _=_;rw [dh,if_neg hE]
  have hE' : (cY P M mod cols L != 0)=true:=by simpa using hE
  clear hE
  go_wp2_with fail
  go_ret
  exact ⟨aF HE.out.symm,hbw1⟩
theorem xO {N : Int} (h : N<1) : gJ N=4:=by rw [gJ,if_pos (.inl h)]
theorem xe {N : Int} (h : 64<N) : gJ N=4:=by rw [gJ,if_pos (.inr h)]
theorem pz {N : Int} (h1 : ¬ N<1) (h2 : ¬ 64<N) : gJ N=0:=by rw [gJ,if_neg (by omega)]
def eU (P M : Int) (mod : Lz) (N : Int) (L : Ll) : Int :=
 if aZ P M mod=true then (if gJ N=0 then dh P M mod N L else 4) else 1
theorem fX (P M : Int) (am : OA) (mn cm : Nat) (mod : Lz) (N : Int) (a : OA) (n c : Nat) (L : Ll) (w : World) (hmod : Ints w am mn mod) (hi : bZ w a n L)
  (hinv : aZ P M mod=true->∀p,ee P M.toNat p->p ≠ 0->(ei P M.toNat mod p=1 ↔ p=1)) :
  Calls Tryz.prog 22 #[.agg #[.int .i64 P,.int .i64 M,.slice am mn cm,.int .i64 N,.slice a n c]] w λe w'=>e = .returned (.int .i64 (eU P M mod N L))/\Below w.heap.size w w':=by
 have Hinv:=Z5 hinv
 clear hinv
 go_enter Tryz.func22,Tryz.ntmps22
 go_wp2_with fail
 obtain ⟨W,hW⟩ : ∃W : World,W=w.alloc (.cells #[.int .i64 P,.int .i64 M,.slice am mn cm,.int .i64 N,.slice a n c] 27):=⟨_,rfl⟩
 rw [<- hW]
 have hbW : Below w.heap.size w W:=by rw [hW];exact an _ _
 have x0 : aV W w.heap.size [.int .i64 P,.int .i64 M,.slice am mn cm,.int .i64 N,.slice a n c]:=by rw [hW];exact aV.new _ _ _ rfl
 have HX:=Z5 x0
 clear hW x0
 refine (fM P M am mn cm mod W (hmod.ah hbW)).mono ?_
 rintro e w1 ⟨rfl,hb1⟩
 have hbw1:=Below.next hbW hb1
 by_cases hB : aZ P M mod=true
 ·have hE : bG (aZ P M mod)=0:=by rw [hB];rfl
  rw [hE]
  have HB : Hid (eU P M mod N L=if gJ N=0 then dh P M mod N L else 4):=by show _=_;rw [eU,if_pos hB]
  have x1:=HX.out.ah hb1
  have c0:=x1.cell 0 rfl
  have c1:=x1.cell 1 rfl
  have c2:=x1.cell 2 rfl
  have c3:=x1.cell 3 rfl
  have c4:=x1.cell 4 rfl
  have hm1:=(hmod.ah hbW).ah hb1
  have hi1:=(hi.ah hbW).ah hb1
  clear hE hB x1
  by_cases h1 : N<1
  ·have Hf : Hid (eU P M mod N L=4):=by show _=_;rw [HB.out,xO h1];rfl
   have t1 : decide (N<1)=true:=by simpa using h1
   go_wp2_with fail
   go_ret
   exact ⟨aF Hf.out.symm,hbw1⟩
  ·have t1 : decide (N<1)=false:=by simpa using h1
   by_cases h2 : 64<N
   ·have Hf : Hid (eU P M mod N L=4):=by show _=_;rw [HB.out,xe h2];rfl
    have t2 : decide (64<N)=true:=by simpa using h2
    go_wp2_with fail
    go_ret
    exact ⟨aF Hf.out.symm,hbw1⟩
   ·have t2 : decide (64<N)=false:=by simpa using h2
    have Hf : Hid (eU P M mod N L=dh P M mod N L):=by show _=_;rw [HB.out,pz h1 h2,if_pos rfl]
    clear h1 h2
    go_wp2_with fail
    refine (jb P M am mn cm mod N a n c L w1 hm1 hi1 Hinv.out).mono ?_
    rintro e w2 ⟨rfl,hb2⟩
    go_wp2_with fail
    go_ret
    exact ⟨aF Hf.out.symm,Below.next hbw1 hb2⟩
 ·have hB' : aZ P M mod=false:=by simpa using hB
  have Hf : Hid (eU P M mod N L=1):=by show _=_;rw [eU,if_neg hB]
  have hE : bG (aZ P M mod)=1:=by rw [hB'];rfl
  rw [hE]
  clear hB hB' hE
  go_wp2_with fail
  go_ret
  exact ⟨aF Hf.out.symm,hbw1⟩
theorem iW {P M : Int} {mod : Lz} (h : aZ P M mod=true) : ∀p,ee P M.toNat p->p ≠ 0->(ei P M.toNat mod p=1 ↔ p=1):=by
 obtain ⟨m,rfl,_,_,_,_,h6⟩:=fU (by rw [<- cP];exact h)
 exact h6
theorem o8 (P M : Int) (mod : Lz) (cols : Int) (L : Ll) : cY P M mod cols L=dM P M mod cols L:=by
 unfold cY dM
 rw [cP]
 split
 ·rename_i h
  obtain ⟨m,rfl,_,hq,_⟩:=fU h
  rw [Int.toNat_natCast,hq]
 ·rfl
theorem yj {P M : Int} {mod : Lz} (h : bA P M mod=true) {L : Ll} {m : Nat} (hL : bH (aa P M.toNat mod).El m L) : ma (fw P M.toNat mod) L m=dr (aa P M.toNat mod) L m:=by
 obtain ⟨k,rfl,he,_,hF,hA,_⟩:=fU h
 rw [Int.toNat_natCast] at hL ⊢
 rw [<- he] at hL
 unfold ma dr
 rw [(gg hA hF.cl hL m (Nat.le_refl _)).1]
theorem oq (P M : Int) (mod : Lz) (cols : Int) (L : Ll) : dh P M mod cols L=eC P M mod cols L:=by
 unfold dh eC
 rw [o8]
 split
 ·rename_i h0
  obtain ⟨h1,h2⟩:=eg h0
  obtain ⟨m,rfl,_,_,hR⟩:=gP h2
  rw [Int.toNat_natCast,yj h1 hR]
 ·rfl
theorem lH (P M : Int) (mod : Lz) (N : Int) (L : Ll) : eU P M mod N L=aL P M mod N L:=by
 unfold eU aL
 rw [cP,oq]
theorem Ed (av : OA) (nv cv : Nat) (v : Lz) (ao : OA) (no co : Nat) (Q : Lz) (w : World) (hv : Ints w av nv v) (hq : Ints w ao no Q) (hQ : qp nv Q) (hno : no<=1000000) :
  Calls Tryz.prog 34 #[.slice av nv cv,.slice ao no co] w (cC w (aG Q v)):=by
 have Hql:=Z5 hq.len
 have hplq:=hq.pl
 have hplv:=hv.pl
 have hmq:=hq.max
 have hmv:=hv.max
 have HQ:=Z5 hQ
 have hpk : (aG Q v).length=no:=by rw [aG,List.length_map];exact Hql.out
 have Hpk:=Z5 hpk
 unfold maxLen at hmq hmv
 clear hQ hpk
 go_enter Tryz.func34,Tryz.ntmps34
 go_wp2_with (at_make;refine bV rfl _ _ 22 3 rfl (.int .i64 0) 8 Tryz.underlying22 aX rfl no rfl rfl (by omega) (hq.max) ?_;intro a1 w1 hown hbel hge hlt)
 go_loopw [6] (λiv wr=>∃k : Nat,k<=no/\iv = .int .i64 k /\
   wr.ownsRow w.heap.size 3 1 (.slice a1 no no) no ((bT ((aG Q v).take k) k no).map (Value.int .i64))/\Below w.heap.size w wr)
  (λi _=>no - (intOf i).toNat)
 case atStart=>exact ⟨0,Nat.zero_le _,rfl,by simpa [bT] using hown,hbel⟩
 case round =>
  clear hown hbel
  obtain ⟨k,hk,rfl,hown,hbel⟩:=hrel
  obtain ⟨hints,hmine⟩:=Ints.own hown
  have hpl1:=hints.pl
  by_cases hlt : k<no
  ·have cq:=(hq.ah hbel).cell k hlt
   have hb:=HQ.out k (by rw [Hql.out];exact hlt)
   obtain ⟨z,hz⟩ : ∃z : Nat,nth Q k=z:=⟨(nth Q k).toNat,by omega⟩
   have hzn : z<nv:=by omega
   have cz:=(hv.ah hbel).cell z hzn
   have hf:=(hmine (by omega)).2 k hlt
   have hc2:=hints.cell k hlt
   have hB:=(hmine (by omega)).1
   have Hv : Hid (nth (aG Q v) k=nth v z):=by show _=_;rw [dx Q v (by rw [Hql.out];exact hlt),hz,Int.toNat_natCast]
   rw [hz] at cq
   clear hz hb
   go_wp2_with fail
   go_roundw
   case rel =>
    refine ⟨k+1,by omega,by go_num,?_,hbel.setCell hB _⟩
    have h:=bC hown k hlt (.int .i64 (nth v z))
    rw [<- List.map_set,dC _ _ _ _ (by rw [List.length_take,Hpk.out];omega) hlt] at h
    rw [List.take_succ_eq_append_getElem (by rw [Hpk.out];omega),<- ai,Hv.out]
    exact h
   case measure=>simp [intOf] <;> omega
  ·obtain rfl : k=no:=by omega
   have hfin : bT ((aG Q v).take k) k k=aG Q v:=by rw [eh,List.take_of_length_le (by rw [Hpk.out];exact Nat.le_refl _)]
   rw [hfin] at hown
   clear hfin
   go_wp2_with fail
   go_ret
   exact ⟨a1,k,by rw [Hpk.out];rfl,by rw [Hpk.out];exact hown,hbel⟩
section
variable {O : aQ} {El : Int->Prop} {m : Nat} {R : Ll} {P : Lz}
theorem tV (F : cK O El) (hI : BS.Inv El m ⟨R,P⟩) {v : Lz} (hv : Vc El m v) (hs : RS O El m R (λx=>nth v x)) : ∀k,k<=R.length->RS O El m R (λx=>nth (redTo O R P v k) x)
 | 0,_=>hs
 | k+1,hk=>by
  have hu : Vc El m (redTo O R P v k):=Vc.redTo F hI.ok hv k (show k<=R.length by omega)
  have hp : (nth P k).toNat<m:=hI.ok.pl (show k<R.length by omega)
  have hr : Vc El m (aj R k):=hI.ok.row (show k<R.length by omega)
  refine ((tV F hI hv hs k (by omega)).comb F (.row F (i:=k) (by omega)) (hu.at hp)).congr λx hx=>?_
  rw [redTo,iR F hu hr hp hx,F.mul_comm _ _ (hu.at hp) (hr.at hx)]
theorem tC (F : cK O El) (hR : bH El m R) (hP : nw R P m) (hlen : R.length=P.length) {v : Lz} (hv : Vc El m v) (hs : RS O El m R (λx=>nth v x)) : ∀x,x<m->nth (redTo O R P v R.length) x=0:=by
 have hI:=wo hR hP hlen
 obtain ⟨e,he,h⟩:=tV F hI hv hs R.length (Nat.le_refl _)
 intro x hx
 have h1 : nth (redTo O R P v R.length) x=e (bf R x):=h x hx
 rw [h1]
 refine hP.all F hR hx e he λy hy=>?_
 obtain ⟨j,hj,rfl⟩:=(gV P _ _).1 hy
 rw [<- h _ (by have:=hP.lt j hj;omega)]
 exact hI.place F hv R.length (Nat.le_refl _) j (by omega)
end
theorem vr (m : Nat) (a : OA) (n c : Nat) (L : Ll) (ao : OA) (no co : Nat) (Q : Lz) (w : World) (hi : bZ w a n L) (hq : Ints w ao no Q) (hL : ∀r ∈ L,r.length=m) (hQ : qp m Q) (hn : n<=1000000) (hno : no<=1000000) :
  Calls Tryz.prog 113 #[.slice a n c,.slice ao no co] w λe w'=>∃a1 c1 R,e = .returned (.slice a1 n c1)/\aU w' w.heap.size a1 n c1 R (L.map (aG Q))/\Below w.heap.size w w':=by
 have Hlen:=Z5 hi.len
 have hpla:=hi.pl
 have HLl:=Z5 hL
 have HQ:=Z5 hQ
 obtain ⟨L2,hL2⟩ : ∃L2,L.map (aG Q)=L2:=⟨_,rfl⟩
 have hl2 : L2.length=n:=by rw [<- hL2,List.length_map];exact Hlen.out
 have Hl2:=Z5 hl2
 have HLk : Hid (∀k,k<n->aj L2 k=aG Q (aj L k)):=λk hk=>by rw [<- hL2];exact ql _ L (by rw [Hlen.out];exact hk)
 rw [hL2]
 clear hL2 hl2 hL hQ
 go_enter Tryz.func113,Tryz.ntmps113
 go_wp2_with fail
 go_loopw [5,6] (λsv iv wr=>∃(k : Nat) (a1 : OA) (c1 : Nat),k<=n/\iv = .int .i64 k/\sv = .slice a1 k c1/\(∃R,aU wr w.heap.size a1 k c1 R (L2.take k))/\Below w.heap.size w wr) (λ_ iv _=>n - (intOf iv).toNat)
 case atStart=>exact ⟨0,none,0,Nat.zero_le _,rfl,rfl,⟨[],by simpa using aU.empty w w.heap.size⟩,Below.refl _ _⟩
 case round =>
  obtain ⟨k,a1,c1,hk,rfl,rfl,⟨R,hO⟩,hbr⟩:=hrel
  by_cases hlt : k<n
  ·obtain ⟨ra,rn,rc,hcell,hrow⟩:=(hi.ah hbr).cell k hlt
   have hkL : k<L.length:=by rw [Hlen.out];exact hlt
   have hrl : rn=m:=by rw [<- hrow.len,aE hkL];exact HLl.out _ (List.getElem_mem hkL)
   have Htk : Hid (L2.take (k+1)=L2.take k ++ [aG Q (aj L k)]):=by show _=_;rw [List.take_succ_eq_append_getElem (by rw [Hl2.out];exact hlt),<- HLk.out k hlt,aE (by rw [Hl2.out];exact hlt)]
   obtain ⟨l,hl⟩ : ∃l,aj L k=l:=⟨_,rfl⟩
   rw [hl] at Htk hrow
   have hpk:=Ed ra rn rc l ao no co Q wr hrow (hq.ah hbr) (by rw [hrl];exact HQ.out) hno
   have hsz:=hbr.size
   clear hl hrl
   go_wp2_with fail
   refine hpk.mono ?_
   rintro e w3 ⟨a3,c3,rfl,hown3,hb3⟩
   have hO3:=hO.ah (Below.next hb3 (an w3 (.cells #[.slice a3 (aG Q l).length c3] 22)))
   have hs3 : w.heap.size<=(w3.alloc (.cells #[.slice a3 (aG Q l).length c3] 22)).heap.size:=by have h1:=hb3.size;simp;omega
   clear hpk
   go_wp2_with (at_builtin;refine bk rfl _ _ 25 22 rfl (.slice none 0 0) 24 Tryz.underlying25 ch rfl w.heap.size a1 k c1 _ rfl hO3.own ⟨w3.heap.size,0,none⟩ 1 (.slice a3 (aG Q l).length c3) rfl (br w3 _ _) rfl (by omega) (by unfold maxLen;omega) hs3 ?_;intro a5 c5 w5 hown5 hgr5 hap5)
   go_roundw
   case rel =>
    have hb4 : Below wr.heap.size wr (w3.alloc (.cells #[.slice a3 (aG Q l).length c3] 22)):=Below.next hb3 (an _ _)
    have hown4 : (w3.alloc (.cells #[.slice a3 (aG Q l).length c3] 22)).ownsRow w.heap.size 3 1 (.slice a3 (aG Q l).length c3) (aG Q l).length ((aG Q l).map (Value.int .i64)) :=
     aP (aW hown3 (an _ _)) hsz
    have hra : a3 ≠ none->¬ bL a1 R (ablk a3):=λh0 hI=>by
     have h1:=(aR hown3 h0).1
     have h2:=(hO.lt _ hI).2
     omega
    have hP:=aU.push hO3 hown4 hra hown5 hgr5 hap5
    have hb5 : Below w.heap.size w w5:=Below.app (Below.next hbr hb4) hO3.own hgr5 (Nat.le_refl _) (Nat.le_trans hsz hb4.size)
    exact ⟨k+1,a5,c5,by omega,by go_num,rfl,⟨_,by rw [Htk.out];exact hP⟩,hb5⟩
   case measure=>simp [intOf] <;> omega
  ·obtain rfl : k=n:=by omega
   rw [List.take_of_length_le (by rw [Hl2.out];exact Nat.le_refl _)] at hO
   have HO:=Z5 hO
   clear hO
   go_wp2_with fail
   go_ret
   exact ⟨a1,c1,R,rfl,HO.out,hbr⟩
theorem vp (P M : Int) (am : OA) (mn cm : Nat) (mod : Lz) (m : Nat) (a : OA) (n c : Nat) (L : Ll) (ao : OA) (no co : Nat) (Q : Lz) (w : World) (hmod : Ints w am mn mod) (hi : bZ w a n L) (hq : Ints w ao no Q)
  (hE : aL P M mod m L=0) (hQ : qp m Q) (hno : no<=1000000) :
  Calls Tryz.prog 172 #[.agg #[.int .i64 P,.int .i64 M,.slice am mn cm],.slice a n c,.slice ao no co] w λe w'=>e = .returned (.int .i64 (i7 (aa P M.toNat mod).ops L Q).length)/\Below w.heap.size w w':=by
 have hql:=hq.len
 obtain ⟨N',em,hm1,hm64,F,hR⟩:=ba hE
 obtain rfl : m=N':=by omega
 have hn : n<=256:=by rw [<- hi.len];exact (eJ hE).choose_spec.2.2.2.1
 have hB:=(bh hE).1
 have hinv:=iW (P:=P) (M:=M) (mod:=mod) (by rw [cP];exact hB)
 have hgr:=xh F hR hQ
 have hpr:=fo hR hQ
 rw [hql] at hgr hpr
 obtain ⟨k,rfl,hel,_,hF,hA,_⟩:=fU hB
 obtain ⟨k',e2,hrf,hmods⟩:=eW (by rw [cP];exact hB)
 obtain rfl : k=k':=by omega
 rw [Int.toNat_natCast] at hgr hpr hinv hR ⊢
 have hag:=(gg hA hF.cl (by rw [hel];exact hpr) no (Nat.le_refl _)).1
 rw [hag] at hgr
 rw [<- hel] at hpr
 have HKp : Hid (∀V,Below w.heap.size w V->Calls Tryz.prog 113 #[.slice a n c,.slice ao no co] V λe w'=>Below V.heap.size V w'/\∃a1 c1,e = .returned (.slice a1 n c1)/\bZ w' a1 n (L.map (aG Q))):=λV hV=>by
  refine (vr m a n c L ao no co Q V (hi.ah hV) (hq.ah hV) (λr hr=>(hR r hr).1) hQ (by omega) hno).mono ?_
  rintro e w' ⟨a1,c1,R,rfl,hO,hb⟩
  exact ⟨hb,a1,c1,rfl,hO.kK⟩
 have HCn : Hid (∀V a1 c1,Below w.heap.size w V->bZ V a1 n (L.map (aG Q))->∀V2,Below V.heap.size V V2->Calls Tryz.prog 120 #[.agg #[.int .i64 P,.int .i64 k,.slice am mn cm],.slice a1 n c1,.int .i64 no] V2 λe w' =>
   Below V2.heap.size V2 w'/\∃v ap cp,e = .returned (.tuple #[v,.slice ap (i7 (aa P k mod).ops L Q).length cp])):=λV a1 c1 hV hM V2 hV2=>by
  refine (jU P k am mn cm mod a1 n c1 no (L.map (aG Q)) V2 ⟨hrf,hmods V2 am mn (hmod.ah (Below.next hV hV2))⟩ (hM.ah hV2) hpr hno (by omega) hinv).mono ?_
  rintro e w' ⟨a4,c4,ap,cp,rfl,_,_,hb⟩
  exact ⟨hb,_,ap,cp,by rw [<- hgr]⟩
 obtain ⟨r,hr⟩ : ∃r,(i7 (aa P k mod).ops L Q).length=r:=⟨_,rfl⟩
 rw [hr] at HCn ⊢
 clear hE em F hR hB hinv hgr hpr hel hF hA e2 hrf hmods hag hr hQ hql hmod hi hq
 go_enter Tryz.func172,Tryz.ntmps172
 go_upto_region 1 with fail
 obtain ⟨W,hW⟩ : ∃W : World,W=w.alloc (.cells #[.int .i64 P,.int .i64 k,.slice am mn cm] 24):=⟨_,rfl⟩
 rw [<- hW]
 have hbW : Below w.heap.size w W:=by rw [hW];exact an _ _
 have x0 : aV W w.heap.size [.int .i64 P,.int .i64 k,.slice am mn cm]:=by rw [hW];exact aV.new _ _ _ rfl
 have hS : ∀V,Below W.heap.size W V->V.cell? ⟨w.heap.size,0,none⟩=some (.int .i64 P)/\V.cell? ⟨w.heap.size,1,none⟩=some (.int .i64 k)/\V.cell? ⟨w.heap.size,2,none⟩=some (.slice am mn cm)/\Below W.heap.size W V:=λV hV=>by
  have x1:=x0.ah hV
  exact ⟨x1.cell 0 rfl,x1.cell 1 rfl,x1.cell 2 rfl,hV⟩
 have HS:=Z5 hS
 have HbW:=Z5 hbW
 clear hW x0 hS hbW
 go_region_held3 (λV=>V.cell? ⟨w.heap.size,0,none⟩=some (.int .i64 P)/\V.cell? ⟨w.heap.size,1,none⟩=some (.int .i64 k)/\V.cell? ⟨w.heap.size,2,none⟩=some (.slice am mn cm)/\Below W.heap.size W V)
  ((refine HS.out _ ?_;first | exact (Below.refl _ _).drew | (go_split_ands;exact Below.next (by assumption) (by assumption))))
  (first
   | (go_at_call 113;((with_reducible refine (HKp.out _ (Below.next HbW.out (by go_split_ands;assumption))).mono ?_);rintro e w6 ⟨hb6,a6,c6,rfl,hM6⟩;have hb7 : Below W.heap.size W w6:=(by go_split_ands;exact Below.next (by assumption) hb6);have Hr2:=Z5 (HCn.out w6 a6 c6 (Below.next HbW.out hb7) hM6);clear hM6))
   | (go_at_call 120;((with_reducible refine (Hr2.out _ (by first | exact Below.refl _ _ | exact hb4)).mono ?_);rintro e w8 ⟨hb8,v8,ap8,cp8,rfl⟩)))
 all_goals (
  go_wp2_with fail
  go_ret
  exact ⟨rfl,Below.next HbW.out (by go_split_ands;assumption)⟩)
def ub (P M : Int) (mod : Lz) (N : Int) (L : Ll) (S : Ll) : Int:=if aL P M mod N L=0 then jl N S else aL P M mod N L
theorem C8 (P M : Int) (mod : Lz) (N : Int) (L : Ll) (Q : Lz) : ub P M mod N L [Q]=dR P M mod N L Q:=rfl
theorem jL (P M : Int) (am : OA) (mn cm : Nat) (mod : Lz) (N : Int) (a : OA) (n c : Nat) (L : Ll) (w : World) (hmod : Ints w am mn mod) (hi : bZ w a n L) :
  Calls Tryz.prog 22 #[.agg #[.int .i64 P,.int .i64 M,.slice am mn cm,.int .i64 N,.slice a n c]] w λe w'=>e = .returned (.int .i64 (aL P M mod N L))/\Below w.heap.size w w':=by
 rw [<- lH]
 exact fX P M am mn cm mod N a n c L w hmod hi iW
theorem Eh (P M : Int) (am : OA) (mn cm : Nat) (mod : Lz) (N : Int) (a : OA) (n c : Nat) (L : Ll) (sa : OA) (ns cs : Nat) (S : Ll) (w : World) (hmod : Ints w am mn mod) (hi : bZ w a n L) (hs : bZ w sa ns S) :
  Calls Tryz.prog 110 #[.agg #[.int .i64 P,.int .i64 M,.slice am mn cm,.int .i64 N,.slice a n c],.slice sa ns cs] w λe w'=>e = .returned (.int .i64 (ub P M mod N L S))/\Below w.heap.size w w':=by
 have Hlen:=Z5 hs.len
 have hpl:=hs.pl
 have hmax:=hs.max
 unfold maxLen at hmax
 have HE : Hid (aL P M mod N L ≠ 0->ub P M mod N L S=aL P M mod N L):=λh=>by rw [ub,if_neg h]
 have HZ : Hid (aL P M mod N L=0->ub P M mod N L S=jl N S):=λh=>by rw [ub,if_pos h]
 have HC0 : Hid (∀V,Below w.heap.size w V->Calls Tryz.prog 22 #[.agg #[.int .i64 P,.int .i64 M,.slice am mn cm,.int .i64 N,.slice a n c]] V λe w'=>e = .returned (.int .i64 (aL P M mod N L))/\Below V.heap.size V w') :=
  λV hV=>jL P M am mn cm mod N a n c L V (hmod.ah hV) (hi.ah hV)
 obtain ⟨x,hx⟩ : ∃x,aL P M mod N L=x:=⟨_,rfl⟩
 rw [hx] at HE HZ HC0
 obtain ⟨y,hy⟩ : ∃y,ub P M mod N L S=y:=⟨_,rfl⟩
 rw [hy] at HE HZ ⊢
 clear hx hy hmod hi
 go_enter Tryz.func110,Tryz.ntmps110
 go_wp2_with fail
 obtain ⟨W,hW⟩ : ∃W : World,W=w.alloc (.cells #[.int .i64 P,.int .i64 M,.slice am mn cm,.int .i64 N,.slice a n c] 27):=⟨_,rfl⟩
 rw [<- hW]
 have hbW : Below w.heap.size w W:=by rw [hW];exact an _ _
 have x0 : aV W w.heap.size [.int .i64 P,.int .i64 M,.slice am mn cm,.int .i64 N,.slice a n c]:=by rw [hW];exact aV.new _ _ _ rfl
 have hS : ∀V,Below W.heap.size W V->V.cell? ⟨w.heap.size,3,none⟩=some (.int .i64 N)/\Below W.heap.size W V:=λV hV=>⟨(x0.ah hV).cell 3 rfl,hV⟩
 have HS:=Z5 hS
 have HbW:=Z5 hbW
 have hsW:=hs.ah hbW
 have HC:=Z5 (HC0.out W hbW)
 have c0:=x0.cell 0 rfl
 have c1:=x0.cell 1 rfl
 have c2:=x0.cell 2 rfl
 have c3:=x0.cell 3 rfl
 have c4:=x0.cell 4 rfl
 clear hW x0 hS hs HC0
 go_wp2_with fail
 refine HC.out.mono ?_
 rintro e w1 ⟨rfl,hb1⟩
 clear c0 c1 c2 c3 c4 HC
 go_wp2_with fail
 go_loopw [5,6] (λev iv wr=>∃k : Nat,k<=ns/\iv = .int .i64 k/\Below W.heap.size W wr/\((ev = .int .i64 0/\Hid (x=0/\(S.take k).all (bF N)=true))\/(ev = .int .i64 y/\y ≠ 0))) (λ_ iv _=>ns - (intOf iv).toNat)
 case atStart =>
  refine ⟨0,Nat.zero_le _,rfl,hb1,?_⟩
  by_cases h0 : x=0
  ·exact .inl ⟨by rw [h0],⟨h0,by simp⟩⟩
  ·exact .inr ⟨by rw [HE.out h0],by rw [HE.out h0];exact h0⟩
 case round =>
  obtain ⟨k,hk,rfl,hbr,⟨rfl,hall⟩ | ⟨rfl,hne⟩⟩:=hrel
  ·by_cases hlt : k<ns
   ·obtain ⟨ra,rn,rc,hcell,hrow⟩:=(hsW.ah hbr).cell k hlt
    have hkS : k<S.length:=by rw [Hlen.out];exact hlt
    have Hng : Hid (aj S k=S[k]):=aE hkS
    obtain ⟨z,hz⟩ : ∃z,bF N (aj S k)=z:=⟨_,rfl⟩
    have HR : Hid (∀V,Below wr.heap.size wr V->Calls Tryz.prog 33 #[.slice ra rn rc,.int .i64 N] V λe w'=>e = .returned (.bool z)/\Below V.heap.size V w'):=λV hV=>by
     refine (Bk N ra rn rc _ V (hrow.ah hV)).mono ?_
     rintro e w' ⟨rfl,hd⟩
     exact ⟨by rw [hz],hd.below⟩
    have HS2 : Hid (∀V,Below wr.heap.size wr V->V.cell? ⟨w.heap.size,3,none⟩=some (.int .i64 N)/\V.cell? ⟨ablk sa,aJ sa+k,none⟩=some (.slice ra rn rc)/\Below wr.heap.size wr V):=λV hV=>by
     exact ⟨(HS.out V (Below.next hbr hV)).1,(hV.cell (World.block_lt_of_cell? wr _ hcell)).trans hcell,hV⟩
    have Hz : Hid (bF N S[k]=z):=by show _=_;rw [<- Hng.out];exact hz
    have Hbr:=Z5 hbr
    clear hz hrow hbr Hng
    go_wp2_with fail
    cases z
    ·have Hy : Hid (y=6):=by show _=_;rw [HZ.out hall.out.1,jl,if_neg (by rw [bS hkS Hz.out];simp)]
     go_region_held3 (λV=>V.cell? ⟨w.heap.size,3,none⟩=some (.int .i64 N)/\V.cell? ⟨ablk sa,aJ sa+k,none⟩=some (.slice ra rn rc)/\Below wr.heap.size wr V)
      ((refine HS2.out _ ?_;first | exact (Below.refl _ _).drew | (go_split_ands;exact Below.next (by assumption) (by assumption))))
      (first
       | (go_at_call 33;((with_reducible refine (HR.out _ (by go_split_ands;assumption)).mono ?_);rintro e w6 ⟨rfl,hb6⟩)))
     all_goals (
      go_wp2_with fail
      go_roundw
      case rel=>exact ⟨k+1,by omega,by go_num,Below.next Hbr.out (by go_split_ands;assumption),.inr ⟨by rw [Hy.out],by rw [Hy.out];omega⟩⟩
      case measure=>simp [intOf] <;> omega)
    ·go_region_held3 (λV=>V.cell? ⟨w.heap.size,3,none⟩=some (.int .i64 N)/\V.cell? ⟨ablk sa,aJ sa+k,none⟩=some (.slice ra rn rc)/\Below wr.heap.size wr V)
      ((refine HS2.out _ ?_;first | exact (Below.refl _ _).drew | (go_split_ands;exact Below.next (by assumption) (by assumption))))
      (first
       | (go_at_call 33;((with_reducible refine (HR.out _ (by go_split_ands;assumption)).mono ?_);rintro e w6 ⟨rfl,hb6⟩)))
     all_goals (
      go_wp2_with fail
      go_roundw
      case rel=>exact ⟨k+1,by omega,by go_num,Below.next Hbr.out (by go_split_ands;assumption),.inl ⟨rfl,⟨hall.out.1,bU hkS hall.out.2 Hz.out⟩⟩⟩
      case measure=>simp [intOf] <;> omega)
   ·obtain rfl : k=ns:=by omega
    have Hy : Hid (y=0):=by
     have h:=hall.out.2
     rw [List.take_of_length_le (by rw [Hlen.out];exact Nat.le_refl _)] at h
     show _=_;rw [HZ.out hall.out.1,jl,if_pos h]
    have hF:=Below.next HbW.out hbr
    go_wp2_with fail
    go_ret
    exact ⟨aF Hy.out.symm,hF⟩
  ·have hne' : (y == 0)=false:=by simpa using hne
   have hF:=Below.next HbW.out hbr
   clear hne
   by_cases hlt : k<ns
   ·go_wp2_with fail
    go_ret
    exact ⟨rfl,hF⟩
   ·obtain rfl : k=ns:=by omega
    go_wp2_with fail
    go_ret
    exact ⟨rfl,hF⟩
theorem zI (k : Nat) (w : World) (hk1000 : k<=1000) :
  Calls Tryz.prog 227 #[.int .i64 k] w λe w'=>∃a1 c1 R,e = .returned (.slice a1 k c1)/\aU w' w.heap.size a1 k c1 R (dX k)/\Below w.heap.size w w':=by
 go_enter Tryz.func227,Tryz.ntmps227
 go_wp2_with fail
 go_loopw [3,4] (λov iv wr=>∃(i : Nat) (a1 : OA) (c1 : Nat),i<=k/\iv = .int .i64 i/\ov = .slice a1 i c1/\(∃R,aU wr w.heap.size a1 i c1 R ((dX k).take i))/\Below w.heap.size w wr) (λ_ iv _=>k - (intOf iv).toNat)
 case atStart=>exact ⟨0,none,0,Nat.zero_le _,rfl,rfl,⟨[],by simpa using aU.empty w w.heap.size⟩,Below.refl _ _⟩
 case round =>
  obtain ⟨i,a1,c1,hi,rfl,rfl,⟨R,hO⟩,hbr⟩:=hrel
  by_cases hlt : i<k
  ·have Htk : Hid ((dX k).take (i+1)=(dX k).take i ++ [ez k i]):=by
    show _=_
    rw [List.take_succ_eq_append_getElem (by rw [cA];exact hlt),<- aE (by rw [cA];exact hlt),iw hlt]
   have hsz:=hbr.size
   have hlt2 : (i : Int)<k:=by omega
   go_upto_region 7 with (at_make;refine bV rfl _ _ 22 3 rfl (.int .i64 0) 8 Tryz.underlying22 aX rfl k rfl rfl (by omega) (by unfold maxLen;omega) ?_;intro a5 w5 hown5 hbel5 hge5 hlt5;have hown6 : w5.ownsRow wr.heap.size 3 1 (.slice a5 k k) k ((List.replicate k (0 : Int)).map (Value.int .i64)):=(by rw [List.map_replicate];exact hown5);obtain ⟨hints,hmine⟩:=Ints.own hown6;have hpl5:=hints.pl;have cz:=hints.cell i hlt;have fz:=(hmine (by omega)).2 i hlt;have hBz:=(hmine (by omega)).1)
   have hown7:=bC hown6 i hlt (.int .i64 1)
   rw [<- List.map_set] at hown7
   have hbY:=hbel5.setCell (p:=⟨ablk a5,aJ a5+i,none⟩) hBz (.int .i64 1)
   obtain ⟨Y,hY⟩ : ∃Y,w5.setCell ⟨ablk a5,aJ a5+i,none⟩ (.int .i64 1)=Y:=⟨_,rfl⟩
   rw [hY] at hown7 hbY ⊢
   have hown8 : Y.ownsRow wr.heap.size 3 1 (.slice a5 (ez k i).length k) (ez k i).length ((ez k i).map (Value.int .i64)):=by rw [gq];exact hown7
   have hul:=gq k i
   clear hY hown5 hown6 hints hmine cz fz hBz hown7 hbel5 hge5 hlt5 hpl5
   have hO3:=hO.ah (Below.next hbY (an Y (.cells #[.slice a5 k k] 22)))
   have hs3 : w.heap.size<=(Y.alloc (.cells #[.slice a5 k k] 22)).heap.size:=by have h1:=hbY.size;simp;omega
   go_wp2_with (at_builtin;refine bk rfl _ _ 25 22 rfl (.slice none 0 0) 24 Tryz.underlying25 ch rfl w.heap.size a1 i c1 _ rfl hO3.own ⟨Y.heap.size,0,none⟩ 1 (.slice a5 k k) rfl (br Y _ _) rfl (by omega) (by unfold maxLen;omega) hs3 ?_;intro a6 c6 w6 hown6 hgr6 hap6)
   go_roundw
   case rel =>
    have hb4 : Below wr.heap.size wr (Y.alloc (.cells #[.slice a5 k k] 22)):=Below.next hbY (an _ _)
    have hown4 : (Y.alloc (.cells #[.slice a5 k k] 22)).ownsRow w.heap.size 3 1 (.slice a5 (ez k i).length k) (ez k i).length ((ez k i).map (Value.int .i64)) :=
     aP (aW hown8 (an _ _)) hsz
    have hra : a5 ≠ none->¬ bL a1 R (ablk a5):=λh0 hI=>by
     have h1:=(aR hown8 h0).1
     have h2:=(hO.lt _ hI).2
     omega
    have hP:=aU.push hO3 hown4 hra (by rw [hul];exact hown6) hgr6 hap6
    have hb5 : Below w.heap.size w w6:=Below.app (Below.next hbr hb4) hO3.own hgr6 (Nat.le_refl _) (Nat.le_trans hsz hb4.size)
    exact ⟨i+1,a6,c6,by omega,by go_num,rfl,⟨_,by rw [Htk.out];exact hP⟩,hb5⟩
   case measure=>simp [intOf] <;> omega
  ·obtain rfl : i=k:=by omega
   rw [List.take_of_length_le (by rw [cA];exact Nat.le_refl _)] at hO
   have HO:=Z5 hO
   clear hO
   go_wp2_with fail
   go_ret
   exact ⟨a1,c1,R,rfl,HO.out,hbr⟩
theorem qd (a : OA) (n c : Nat) (Q : Lz) (w : World) (hi : Ints w a n Q) (hn : n<=1000000) :
  Calls Tryz.prog 105 #[.slice a n c] w λe w'=>∃a1 c1,e = .returned (.slice a1 n c1)/\w'.ownsRow w.heap.size 3 1 (.slice a1 n c1) n ((bP Q).map (Value.int .i64))/\Below w.heap.size w w':=by
 have Hlen:=Z5 hi.len
 have hO:=fK w 3
 have hal:=Z5 ((Below.refl w.heap.size w).alloc (Nat.le_refl _) (.cells #[] 3))
 go_enter Tryz.func105,Tryz.ntmps105
 go_upto_region 1 with fail
 iterate 7 go_step
 have hbal:=hal.out
 generalize w.alloc (.cells #[] 3)=W0 at *
 have hiW:=hi.ah hbal
 refine eZ (by rfl) (.tmp 6) (.tmp 7) 22 3 (by rfl) (.int .i64 0) 8 Tryz.underlying22 aX (by rfl) w.heap.size _ 0 0 [] (by rfl) hO a n c (Q.map (Value.int .i64)) (by rfl) hiW.pl (by simp [Hlen.out]) (Ints.news hiW) (ints_oneCell _ _) (by omega) (by unfold maxLen;omega) (Below.size hbal) ?_
 intro a3 c3 w3 hown3 hgr3 hap3
 have hb3 : Below w.heap.size w w3:=Below.app (B:=w.heap.size) (e:=3) (xs:=[]) hbal hO hgr3 (Nat.le_refl _) (Below.size hbal)
 rw [Nat.zero_add] at hown3 ⊢
 rw [List.nil_append] at hown3
 clear hgr3 hap3 hiW hbal hO hal hi
 have H3:=Z5 hown3
 clear hown3
 go_wp2_with fail
 go_loopw [4] (λiv wr=>∃(i : Nat) (X : Lz),1<=i/\i<=n+1/\iv = .int .i64 i/\Hid (X.Perm Q/\zK X i)/\wr.ownsRow w.heap.size 3 1 (.slice a3 n c3) n (X.map (Value.int .i64))/\Below w.heap.size w wr) (λiv _=>n+1 - (intOf iv).toNat)
 case atStart=>exact ⟨1,Q,Nat.le_refl _,by omega,rfl,⟨List.Perm.refl _,λp q h1 h2=>by omega⟩,H3.out,hb3⟩
 case round =>
  clear H3 hb3
  obtain ⟨i,X,hi1,hin,rfl,hX,hown,hbr⟩:=hrel
  have hi1' : (1 : Int)<=i:=by omega
  by_cases hlt : i<n
  ·have hlt' : (i : Int)<n:=by omega
   go_wp2_with fail
   go_loopw [5] (λjv wr2=>∃(j : Nat) (Y : Lz),j<=i/\jv = .int .i64 j/\Hid (Y.Perm Q/\zL Y i j)/\wr2.ownsRow w.heap.size 3 1 (.slice a3 n c3) n (Y.map (Value.int .i64))/\Below w.heap.size w wr2) (λjv _=>(intOf jv).toNat)
   case atStart=>exact ⟨i,X,Nat.le_refl _,rfl,⟨hX.out.1,hX.out.2.start⟩,hown,hbr⟩
   case round =>
    clear hown hbr hX
    obtain ⟨j,Y,hji,rfl,hY,hown,hbr⟩:=hrel
    obtain ⟨hints,hmine⟩:=Ints.own hown
    have hpl:=hints.pl
    have HYl:=Z5 hints.len
    by_cases hj0 : j=0
    ·have d3 : decide (0<j)=false:=by simp;omega
     have Hd : Hid (Y.Perm Q/\zK Y (i+1)):=⟨hY.out.1,hY.out.2.done hji (.inl hj0)⟩
     clear hj0 hints hmine
     have hown2:=λm=>aW hown (bd.below (bd.drewN (bd.refl wr) m))
     have hbr2:=λm=>Below.next hbr (bd.below (bd.drewN (bd.refl wr) m))
     have Hn:=Z5 (And.intro hown2 hbr2)
     clear hown2 hbr2
     go_wp2_with fail
     go_quiet (fail)
     go_wp2
     go_roundw
     case rel=>exact ⟨i+1,Y,by omega,by omega,by go_num,Hd,Hn.out.1 _,Hn.out.2 _⟩
     case measure=>simp [intOf] <;> omega
    ·have d3 : decide (0<j)=true:=by simp;omega
     have d4 : (0 : Int)<=(j : Int) - 1:=by omega
     have d5 : (1 : Int)<=(j : Int):=by omega
     have d6 : (j : Int) - 1<n:=by omega
     have d7 : (j : Int)<n:=by omega
     have e1 : ((j : Int) - 1).toNat=j - 1:=by omega
     have kw : IntKind.i64.wrap ((j : Int) - 1)=(j : Int) - 1:=IntWalk.i64_in _ (by omega)
     have cj:=hints.cell j (by omega)
     have cp:=hints.cell (j - 1) (by omega)
     have hown2:=λm=>aW hown (bd.below (bd.drewN (bd.refl wr) m))
     have hbr2:=λm=>Below.next hbr (bd.below (bd.drewN (bd.refl wr) m))
     have Hn:=Z5 (And.intro hown2 hbr2)
     clear hown2 hbr2
     by_cases h2 : nth Y j<nth Y (j - 1)
     ·have h2' : decide (nth Y j<nth Y (j - 1))=true:=by simpa using h2
      have hjY : j<Y.length:=by rw [HYl.out];omega
      have Hd : Hid ((swp Y j).Perm Q/\zL (swp Y j) i (j - 1)):=⟨(F6 (by omega) hjY).trans hY.out.1,hY.out.2.step (by omega) hji hjY h2⟩
      clear hj0 hints hmine h2 hjY
      go_wp2_with fail
      go_quiet (fail)
      have hown2:=Hn.out.1 nq
      have hbr2:=Hn.out.2 nq
      clear Hn hown hbr cj cp h2'
      generalize wr.drewN nq=W2 at *
      obtain ⟨hints,hmine⟩:=Ints.own hown2
      have cj:=hints.cell j (by omega)
      have cp:=hints.cell (j - 1) (by omega)
      have fj:=(hmine (by omega)).2 j (by omega)
      have fp:=(hmine (by omega)).2 (j - 1) (by omega)
      have hB:=(hmine (by omega)).1
      have k3 : (W2.setCell ⟨ablk a3,aJ a3+j,none⟩ (.int .i64 (nth Y (j - 1)))).cell? ⟨ablk a3,aJ a3+(j - 1),none⟩=some (.int .i64 (nth Y (j - 1))):=by
       rw [World.cell?_setCell_other _ _ _ _ (by simp <;> omega)];exact cp
      have hown3:=bC (bC hown2 j (by omega) (.int .i64 (nth Y (j - 1)))) (j - 1) (by omega) (.int .i64 (nth Y j))
      rw [<- List.map_set,<- List.map_set] at hown3
      have hbr3:=(hbr2.setCell (p:=⟨ablk a3,aJ a3+j,none⟩) hB (.int .i64 (nth Y (j - 1)))).setCell (p:=⟨ablk a3,aJ a3+(j - 1),none⟩) hB (.int .i64 (nth Y j))
      have Hn:=Z5 (And.intro hown3 hbr3)
      clear hown3 hbr3 hints hmine hown2 hbr2
      go_wp2_with fail
      go_region
      go_wp2_with fail
      go_roundw
      case rel=>exact ⟨j - 1,swp Y j,by omega,by go_num,Hd,aW Hn.out.1 (Below.refl _ _).drew,Below.next Hn.out.2 (Below.refl _ _).drew⟩
      case measure=>simp [intOf] <;> omega
     ·have h2' : decide (nth Y j<nth Y (j - 1))=false:=by simpa using h2
      have Hd : Hid (Y.Perm Q/\zK Y (i+1)):=⟨hY.out.1,hY.out.2.done hji (.inr (by omega))⟩
      clear hj0 hints hmine h2
      go_wp2_with fail
      go_quiet (fail)
      go_wp2
      go_roundw
      case rel=>exact ⟨i+1,Y,by omega,by omega,by go_num,Hd,Hn.out.1 _,Hn.out.2 _⟩
      case measure=>simp [intOf] <;> omega
  ·have hXl:=(Ints.own hown).1.len
   have He : Hid (X=bP Q):=hX.out.2.sort (by omega) hX.out.1
   have hF:=Z5 (And.intro hown hbr)
   clear hXl hown hbr
   go_wp2_with fail
   go_ret
   exact ⟨a3,c3,rfl,by rw [<- He.out];exact hF.out.1,hF.out.2⟩
end Go.Proofs.YtcfmiocdlcapoaaGreat
