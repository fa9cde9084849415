/-  -/
import Derived.Test.YtcfmiocdlcapoaaGreatK11
import Derived.Test.YtcfmiocdlcapoaaGreatMSO2
import Derived.Test.YtcfmiocdlcapoaaGreatL1
import Derived.Test.YtcfmiocdlcapoaaGreatK9
import Derived.Test.YtcfmiocdlcapoaaGreatMSO3
import Derived.Test.YtcfmiocdlcapoaaGreatK15
import Derived.Test.YtcfmiocdlcapoaaGreatK16
import Derived.Test.YtcfmiocdlcapoaaGreatK8
import Derived.Test.YtcfmiocdlcapoaaGreatMSO1
import Derived.Test.YtcfmiocdlcapoaaGreatK18
import Derived.Test.YtcfmiocdlcapoaaGreatK24
import Derived.Test.YtcfmiocdlcapoaaGreatK28
import Derived.Test.YtcfmiocdlcapoaaGreatK20
import Derived.Test.YtcfmiocdlcapoaaGreatK25
import Derived.Test.YtcfmiocdlcapoaaGreatK3
import Derived.Test.YtcfmiocdlcapoaaGreatK29
import Derived.Test.YtcfmiocdlcapoaaGreatK31
namespace Go.Proofs.YtcfmiocdlcapoaaGreat
set_option linter.unusedVariables false
set_option linter.unusedSimpArgs false
set_option linter.unusedSectionVars false

section
set_option maxRecDepth 100000
set_option maxHeartbeats 1600000

open Go.RowKit
theorem rEntries_any (P M : Int) (am : Option Addr) (mn cm : Nat) (a : Option Addr) (n c : Nat) (l : List Int) (w : World) (hi : Ints w a n l) :
  Calls Tryz.prog 76 #[.agg #[.int .i64 P,.int .i64 M,.slice am mn cm],.slice a n c] w λe w'=>e = .returned (.int .i64 (elsE (orderS P M) l))/\Below w.heap.size w w':=by
 have Hlen:=Lib.hid hi.len
 have hpl:=hi.pl
 have hmax:=hi.max
 unfold maxLen at hmax
 go_enter Tryz.func76,Tryz.ntmps76
 go_wp2_with fail
 obtain ⟨W,hW⟩ : ∃W : World,W=w.alloc (.cells #[.int .i64 P,.int .i64 M,.slice am mn cm] 24):=⟨_,rfl⟩
 rw [<- hW]
 have hbW : Below w.heap.size w W:=by rw [hW];exact below1 _ _
 have x0 : Box W w.heap.size [.int .i64 P,.int .i64 M,.slice am mn cm]:=by rw [hW];exact Box.new _ _ _ rfl
 have hiW:=hi.keep hbW
 have hS : ∀k,k<n->∀V,Below W.heap.size W V->V.cell? ⟨w.heap.size,0,none⟩=some (.int .i64 P)/\V.cell? ⟨w.heap.size,1,none⟩=some (.int .i64 M)/\V.cell? ⟨w.heap.size,2,none⟩=some (.slice am mn cm)/\V.cell? ⟨ablk a,aoff a+k,none⟩=some (.int .i64 (nth l k))/\Below W.heap.size W V:=by
  intro k hk V hV
  have x1:=x0.keep hV
  exact ⟨x1.cell 0 rfl,x1.cell 1 rfl,x1.cell 2 rfl,(hiW.keep hV).cell k hk,hV⟩
 have HS:=Lib.hid hS
 clear hW x0 hS
 go_loopw [5] (λiv wr=>∃k : Nat,k<=n/\iv = .int .i64 k/\Hid ((l.take k).all (isQ (orderS P M))=true)/\Below W.heap.size W wr) (λiv _=>n - (intOf iv).toNat)
 case atStart=>exact ⟨0,Nat.zero_le _,rfl,by show _=_;simp,Below.refl _ _⟩
 case round =>
  obtain ⟨k,hk,rfl,hall,hbr⟩:=hrel
  by_cases hlt : k<n
  ·have HSk : Hid (∀V,Below W.heap.size W V->V.cell? ⟨w.heap.size,0,none⟩=some (.int .i64 P)/\V.cell? ⟨w.heap.size,1,none⟩=some (.int .i64 M)/\V.cell? ⟨w.heap.size,2,none⟩=some (.slice am mn cm)/\V.cell? ⟨ablk a,aoff a+k,none⟩=some (.int .i64 (nth l k))/\Below W.heap.size W V):=HS.out k hlt
   have hkl : k<l.length:=by rw [Hlen.out];exact hlt
   have Hbr:=Lib.hid hbr
   have Hq:=Lib.hid (rIs_any P M am mn cm (nth l k))
   clear hbr
   by_cases hq : isQ (orderS P M) (nth l k)=true
   ·have Hs : Hid ((l.take (k+1)).all (isQ (orderS P M))=true):=all_take_succ hkl hall.out (by rw [<- nth_getElem hkl];exact hq)
    rw [hq] at Hq
    clear hq
    go_wp2_with fail
    go_region_held3 (λV=>V.cell? ⟨w.heap.size,0,none⟩=some (.int .i64 P)/\V.cell? ⟨w.heap.size,1,none⟩=some (.int .i64 M)/\V.cell? ⟨w.heap.size,2,none⟩=some (.slice am mn cm)/\V.cell? ⟨ablk a,aoff a+k,none⟩=some (.int .i64 (nth l k))/\Below W.heap.size W V)
     ((refine HSk.out _ ?_;first | exact Hbr.out.drew | exact Below.next Hbr.out.drew hb4))
     (first | (go_at_call 145;((with_reducible refine (Hq.out _).mono ?_);rintro e w4 ⟨rfl,hb4⟩)))
    go_wp2_with fail
    go_roundw
    case rel=>exact ⟨k+1,by omega,by go_num,Hs.out,Below.next Hbr.out.drew hb4⟩
    case measure=>simp [intOf] <;> omega
   ·have hq' : isQ (orderS P M) (nth l k)=false:=by simpa using hq
    have Hs : Hid (elsE (orderS P M) l=2):=by show _=_;rw [elsE,elsQ,all_false_at hkl (by rw [<- nth_getElem hkl];exact hq')];rfl
    rw [hq'] at Hq
    clear hq hq'
    go_wp2_with fail
    go_region_held3 (λV=>V.cell? ⟨w.heap.size,0,none⟩=some (.int .i64 P)/\V.cell? ⟨w.heap.size,1,none⟩=some (.int .i64 M)/\V.cell? ⟨w.heap.size,2,none⟩=some (.slice am mn cm)/\V.cell? ⟨ablk a,aoff a+k,none⟩=some (.int .i64 (nth l k))/\Below W.heap.size W V)
     ((refine HSk.out _ ?_;first | exact Hbr.out.drew | exact Below.next Hbr.out.drew hb4))
     (first | (go_at_call 145;((with_reducible refine (Hq.out _).mono ?_);rintro e w4 ⟨rfl,hb4⟩)))
    go_wp2_with fail
    go_ret
    exact ⟨ret_int Hs.out.symm,Below.next hbW (Below.next Hbr.out.drew hb4)⟩
  ·obtain rfl : k=n:=by omega
   have Hs : Hid (elsE (orderS P M) l=0):=by
    have:=hall.out
    rw [List.take_of_length_le (by rw [Hlen.out];exact Nat.le_refl _)] at this
    show _=_;rw [elsE,elsQ,this];rfl
   go_wp2_with fail
   go_ret
   exact ⟨ret_int Hs.out.symm,Below.next hbW hbr⟩
end

section
set_option maxRecDepth 100000
set_option maxHeartbeats 4000000

open Go.RowKit
def rmatE (P M : Int) (mod : List Int) (cols : Int) (L : List (List Int)) : Int:=if fieldRB P M mod=true then matE (orderS P M) cols L else 1
theorem rMatCheck_any (P M : Int) (am : Option Addr) (mn cm : Nat) (mod : List Int) (cols : Int) (a : Option Addr) (n c : Nat) (L : List (List Int)) (w : World) (hmod : Ints w am mn mod) (hi : Mat w a n L) :
  Calls Tryz.prog 119 #[.agg #[.int .i64 P,.int .i64 M,.slice am mn cm],.agg #[.int .i64 cols,.slice a n c]] w λe w'=>e = .returned (.int .i64 (rmatE P M mod cols L))/\Below w.heap.size w w':=by
 have Hlen:=Lib.hid hi.len
 have hpl:=hi.pl
 have hmax:=hi.max
 unfold maxLen at hmax
 go_enter Tryz.func119,Tryz.ntmps119
 go_wp2_with fail
 obtain ⟨W,hW⟩ : ∃W : World,W=(w.alloc (.cells #[.int .i64 P,.int .i64 M,.slice am mn cm] 24)).alloc (.cells #[.int .i64 cols,.slice a n c] 82):=⟨_,rfl⟩
 rw [<- hW]
 have hbW : Below w.heap.size w W:=by rw [hW];exact below2 _ _ _
 have x0 : Box W w.heap.size [.int .i64 P,.int .i64 M,.slice am mn cm]:=by rw [hW];exact (Box.new _ _ _ rfl).alloc _
 have y0 : Box W (w.heap.size+1) [.int .i64 cols,.slice a n c]:=by rw [hW];exact Box.new _ _ _ (by simp)
 have hS : ∀V,Below W.heap.size W V->V.cell? ⟨w.heap.size,0,none⟩=some (.int .i64 P)/\V.cell? ⟨w.heap.size,1,none⟩=some (.int .i64 M)/\V.cell? ⟨w.heap.size,2,none⟩=some (.slice am mn cm) /\
   V.cell? ⟨w.heap.size+1,0,none⟩=some (.int .i64 cols)/\V.cell? ⟨w.heap.size+1,1,none⟩=some (.slice a n c)/\Below W.heap.size W V:=by
  intro V hV
  have x1:=x0.keep hV
  have y1:=y0.keep hV
  exact ⟨x1.cell 0 rfl,x1.cell 1 rfl,x1.cell 2 rfl,y1.cell 0 rfl,y1.cell 1 rfl,hV⟩
 have HS:=Lib.hid hS
 have hiW:=hi.keep hbW
 clear hW x0 y0 hS
 refine (rFieldCheck_any P M am mn cm mod W (hmod.keep hbW)).mono ?_
 rintro e w1 ⟨rfl,hb1⟩
 have hbw1:=Below.next hbW hb1
 by_cases hB : fieldRB P M mod=true
 ·have HB : Hid (rmatE P M mod cols L=matE (orderS P M) cols L):=by show _=_;rw [rmatE,if_pos hB]
  have hE : errField (fieldRB P M mod)=0:=by rw [hB];rfl
  rw [hE]
  obtain ⟨q,hq⟩ : ∃q,orderS P M=q:=⟨_,rfl⟩
  have Hq:=Lib.hid hq
  rw [hq] at HB
  obtain ⟨d0,d1,d2,d3,d4,_⟩:=HS.out w1 hb1
  clear hB hE hq
  by_cases b1 : cols<0
  ·have Hf : Hid (rmatE P M mod cols L=3):=by show _=_;rw [HB.out,matE,if_pos (.inl b1)]
   have t1 : decide (cols<0)=true:=by simpa using b1
   go_wp2_with fail
   go_ret
   exact ⟨ret_int Hf.out.symm,hbw1⟩
  have t1 : decide (cols<0)=false:=by simpa using b1
  by_cases b2 : 256<cols
  ·have Hf : Hid (rmatE P M mod cols L=3):=by show _=_;rw [HB.out,matE,if_pos (.inr (.inl b2))]
   have t2 : decide (256<cols)=true:=by simpa using b2
   go_wp2_with fail
   go_ret
   exact ⟨ret_int Hf.out.symm,hbw1⟩
  have t2 : decide (256<cols)=false:=by simpa using b2
  by_cases b3 : 256<n
  ·have Hf : Hid (rmatE P M mod cols L=3):=by show _=_;rw [HB.out,matE,if_pos (.inr (.inr (by rw [Hlen.out];exact b3)))]
   have t3 : decide (256<(n : Int))=true:=by simp;omega
   go_wp2_with fail
   go_ret
   exact ⟨ret_int Hf.out.symm,hbw1⟩
  have t3 : decide (256<(n : Int))=false:=by simp;omega
  have Hm : Hid (rmatE P M mod cols L=if shapeQ cols L=false then 3 else if L.all (elsQ q) then 0 else 2):=by
   show _=_;rw [HB.out,matE,if_neg (by rw [Hlen.out];omega)]
  have hi1:=hiW.keep hb1
  clear b1 b2
  go_wp2_with fail
  go_loopw [6] (λiv wr=>∃k : Nat,k<=n/\iv = .int .i64 k/\Hid ((L.take k).all (λr=>decide ((r.length : Int)=cols))=true)/\Drawn w1 wr) (λiv _=>n - (intOf iv).toNat)
  case atStart=>exact ⟨0,Nat.zero_le _,rfl,by show _=_;simp,Drawn.refl _⟩
  case round =>
   obtain ⟨k,hk,rfl,hall,hd⟩:=hrel
   have hir:=hi1.drawn hd
   have e3:=hd.cell d3
   have e4:=hd.cell d4
   by_cases hlt : k<n
   ·obtain ⟨ra,rn,rc,hcell,hrow⟩:=hir.cell k hlt
    have hkL : k<L.length:=by rw [Hlen.out];exact hlt
    have hrl:=hrow.len
    rw [nthR_getElem hkL] at hrl
    have Hrl:=Lib.hid hrl
    clear hrl
    by_cases he : (rn : Int)=cols
    ·have he' : ((rn : Int) != cols)=false:=by simpa using he
     have Hs : Hid ((L.take (k+1)).all (λr=>decide ((r.length : Int)=cols))=true):=all_take_succ hkL hall.out (by rw [Hrl.out];simpa using he)
     clear he
     go_wp2_with fail
     go_quiet (fail)
     go_wp2
     go_roundw
     case rel=>exact ⟨k+1,by omega,by go_num,Hs.out,hd.drewN _⟩
     case measure=>simp [intOf] <;> omega
    ·have he' : ((rn : Int) != cols)=true:=by simpa using he
     have Hs : Hid (rmatE P M mod cols L=3):=by
      show _=_;rw [Hm.out,if_pos]
      exact all_false_at hkL (by simp only [Hrl.out];simpa using he)
     clear he
     go_wp2_with fail
     go_quiet (fail)
     go_wp2
     go_ret
     exact ⟨ret_int Hs.out.symm,Below.next hbw1 (hd.drewN _).below⟩
   ·obtain rfl : k=n:=by omega
    have Hm2 : Hid (rmatE P M mod cols L=if L.all (elsQ q) then 0 else 2):=by
     have:=hall.out;rw [List.take_of_length_le (by rw [Hlen.out];exact Nat.le_refl _)] at this
     show _=_;rw [Hm.out,if_neg (by rw [shapeQ,this];simp)]
    have hbr : Below W.heap.size W wr:=Below.next hb1 hd.below
    have hir2:=hir
    clear d0 d1 d2 d3 d4 hall
    go_wp2_with fail
    clear e3 e4
    go_loopw [7] (λiv wx=>∃j : Nat,j<=k/\iv = .int .i64 j/\Hid ((L.take j).all (elsQ q)=true)/\Below W.heap.size W wx) (λiv _=>k - (intOf iv).toNat)
    case atStart=>exact ⟨0,Nat.zero_le _,rfl,by show _=_;simp,hbr⟩
    case round =>
     obtain ⟨j,hj,rfl,hall2,hbx⟩:=hrel
     obtain ⟨d0,d1,d2,d3,d4,_⟩:=HS.out _ hbx
     by_cases hlt : j<k
     ·have hiX:=hiW.keep hbx
      obtain ⟨ra,rn,rc,hcell,hrow⟩:=hiX.cell j hlt
      have hjL : j<L.length:=by rw [Hlen.out];exact hlt
      have HC:=Lib.hid (rEntries_any P M am mn cm ra rn rc (nthR L j) _ (hrow.keep (Below.refl _ _).drew))
      have hSj : ∀V,Below wr.heap.size wr V->V.cell? ⟨w.heap.size,0,none⟩=some (.int .i64 P)/\V.cell? ⟨w.heap.size,1,none⟩=some (.int .i64 M)/\V.cell? ⟨w.heap.size,2,none⟩=some (.slice am mn cm) /\
        V.cell? ⟨w.heap.size+1,1,none⟩=some (.slice a k c)/\V.cell? ⟨ablk a,aoff a+j,none⟩=some (.slice ra rn rc):=λV hV=>by
       obtain ⟨f0,f1,f2,f3,f4,_⟩:=HS.out V (Below.next hbx hV)
       exact ⟨f0,f1,f2,f4,cell_keep hV hcell⟩
      have HSj:=Lib.hid hSj
      have Hbx:=Lib.hid hbx
      rw [Hq.out] at HC
      clear hSj hbx
      by_cases he : elsQ q (nthR L j)=true
      ·have he2 : elsE q (nthR L j)=0:=by rw [elsE,he];rfl
       rw [he2] at HC
       rw [nthR_getElem hjL] at he
       have Hs : Hid ((L.take (j+1)).all (elsQ q)=true):=all_take_succ hjL hall2.out he
       clear he he2
       go_wp2_with fail
       go_region_held3 (λV=>V.cell? ⟨w.heap.size,0,none⟩=some (.int .i64 P)/\V.cell? ⟨w.heap.size,1,none⟩=some (.int .i64 M)/\V.cell? ⟨w.heap.size,2,none⟩=some (.slice am mn cm) /\
         V.cell? ⟨w.heap.size+1,1,none⟩=some (.slice a k c)/\V.cell? ⟨ablk a,aoff a+j,none⟩=some (.slice ra rn rc))
        ((refine HSj.out _ ?_;first | exact (Below.refl _ _).drew | exact Below.next (Below.refl _ _).drew hb4))
        (first | (go_at_call 76;((with_reducible refine HC.out.mono ?_);rintro e w4 ⟨rfl,hb4⟩)))
       go_wp2_with fail
       go_roundw
       case rel=>exact ⟨j+1,by omega,by go_num,Hs.out,Below.next Hbx.out (Below.next (Below.refl _ _).drew hb4)⟩
       case measure=>simp [intOf] <;> omega
      ·have he2 : elsE q (nthR L j)=2:=by rw [elsE,if_neg he]
       rw [he2] at HC
       rw [nthR_getElem hjL] at he
       have Hs : Hid (rmatE P M mod cols L=2):=by
        show _=_;rw [Hm2.out,all_false_at hjL (by simpa using he)];rfl
       clear he he2
       go_wp2_with fail
       go_region_held3 (λV=>V.cell? ⟨w.heap.size,0,none⟩=some (.int .i64 P)/\V.cell? ⟨w.heap.size,1,none⟩=some (.int .i64 M)/\V.cell? ⟨w.heap.size,2,none⟩=some (.slice am mn cm) /\
         V.cell? ⟨w.heap.size+1,1,none⟩=some (.slice a k c)/\V.cell? ⟨ablk a,aoff a+j,none⟩=some (.slice ra rn rc))
        ((refine HSj.out _ ?_;first | exact (Below.refl _ _).drew | exact Below.next (Below.refl _ _).drew hb4))
        (first | (go_at_call 76;((with_reducible refine HC.out.mono ?_);rintro e w4 ⟨rfl,hb4⟩)))
       go_wp2_with fail
       go_ret
       exact ⟨ret_int Hs.out.symm,Below.next hbW (Below.next Hbx.out (Below.next (Below.refl _ _).drew hb4))⟩
     ·obtain rfl : j=k:=by omega
      have Hs : Hid (rmatE P M mod cols L=0):=by
       have:=hall2.out;rw [List.take_of_length_le (by rw [Hlen.out];exact Nat.le_refl _)] at this
       show _=_;rw [Hm2.out,this];rfl
      go_wp2_with fail
      go_ret
      exact ⟨ret_int Hs.out.symm,Below.next hbW hbx⟩
 ·have hB' : fieldRB P M mod=false:=by simpa using hB
  have Hf : Hid (rmatE P M mod cols L=1):=by show _=_;rw [rmatE,if_neg hB]
  have hE : errField (fieldRB P M mod)=1:=by rw [hB'];rfl
  rw [hE]
  clear hB hB' hE
  go_wp2_with fail
  go_ret
  exact ⟨ret_int Hf.out.symm,hbw1⟩
end

section
set_option maxRecDepth 100000
set_option maxHeartbeats 1600000

open Go.RowKit
def canR (O : FOps) (L : List (List Int)) (cols : Nat) : List (List Int):=(elimTo O L cols).1.take (elimTo O L cols).2.length
def RCanonPost (O : FOps) (L : List (List Int)) (cols : Nat) (w : World) (e : Ending) (w' : World) : Prop :=
 ∃a c ap cp,e = .returned (.tuple #[.slice a (elimTo O L cols).2.length c,.slice ap (elimTo O L cols).2.length cp])/\MatN w.heap.size w' a (elimTo O L cols).2.length (canR O L cols) /\
  IntsN w.heap.size w' ap (elimTo O L cols).2.length (elimTo O L cols).2/\Below w.heap.size w w'
theorem rCanon_any (P : Int) (m : Nat) (am : Option Addr) (mn cm : Nat) (mod : List Int) (a : Option Addr) (n c cols : Nat) (L : List (List Int)) (w : World) (hf : RFld w P m am mn mod) (hi : Mat w a n L)
  (hR : Rws (ElP P m) cols L) (hlen : cols<=1000000) (hn : n<=1000000) (hinv : ∀p,ElP P m p->p ≠ 0->(invR P m mod p=1 ↔ p=1)) :
  Calls Tryz.prog 120 #[.agg #[.int .i64 P,.int .i64 m,.slice am mn cm],.slice a n c,.int .i64 cols] w (RCanonPost (rops P m mod) L cols w):=by
 have Hlen:=Lib.hid hi.len
 have Hc : Hid (∀V,Below w.heap.size w V->Calls Tryz.prog 183 #[.agg #[.int .i64 P,.int .i64 m,.slice am mn cm],.slice a n c,.int .i64 cols] V (RElimPost (rops P m mod) L cols V)) :=
  λV hV=>rElim_any P m am mn cm mod a n c cols cols L V (hf.keep hV) (hi.keep hV) hR (Nat.le_refl _) hlen hn hinv
 obtain ⟨O,hO⟩ : ∃O,rops P m mod=O:=⟨_,rfl⟩
 rw [hO] at Hc ⊢
 clear hO hinv hR
 go_enter Tryz.func120,Tryz.ntmps120
 go_wp2_with fail
 obtain ⟨W,hW⟩ : ∃W : World,W=w.alloc (.cells #[.int .i64 P,.int .i64 m,.slice am mn cm] 24):=⟨_,rfl⟩
 rw [<- hW]
 have hbW : Below w.heap.size w W:=by rw [hW];exact below1 _ _
 clear hW
 refine (Hc.out W hbW).mono ?_
 rintro e w1 ⟨a1,c1,R1,ap,cp,rfl,hO1,hp1,hb1⟩
 have hpl:=elimTo_piv O L cols
 have hcap:=own_cap hO1.own
 have hpv:=(IntsN.own hp1).mono hbW.size
 have hmt:=((MatN.own hO1).take (k:=(elimTo O L cols).2.length) hpl.2).mono hbW.size
 have hF : RCanonPost O L cols w (.returned (.tuple #[.slice a1 (elimTo O L cols).2.length c1,.slice ap (elimTo O L cols).2.length cp])) w1:=⟨a1,_,ap,cp,rfl,hmt,hpv,Below.next hbW hb1⟩
 have HF:=Lib.hid hF
 have hle : (elimTo O L cols).2.length<=c1:=Nat.le_trans hpl.2 hcap
 clear hF hpv hmt hp1 hcap hpl
 generalize (elimTo O L cols).2.length=k at *
 go_wp2_with fail
 go_ret2
 simpa using HF.out
def rspaceE (P M : Int) (mod : List Int) (cols : Int) (L : List (List Int)) : Int :=
 if rmatE P M mod cols L=0 then (if canR (rops P M.toNat mod) L cols.toNat=L then 0 else 5) else rmatE P M mod cols L
theorem rmatE_zero {P M : Int} {mod : List Int} {cols : Int} {L : List (List Int)} (h : rmatE P M mod cols L=0) : fieldRB P M mod=true/\matE (orderS P M) cols L=0:=by
 unfold rmatE at h
 split at h
 ·rename_i h1;exact ⟨h1,h⟩
 ·omega
theorem rSpaceCheck_any (P M : Int) (am : Option Addr) (mn cm : Nat) (mod : List Int) (cols : Int) (a : Option Addr) (n c : Nat) (L : List (List Int)) (w : World) (hmod : Ints w am mn mod) (hi : Mat w a n L)
  (hinv : fieldRB P M mod=true->∀p,ElP P M.toNat p->p ≠ 0->(invR P M.toNat mod p=1 ↔ p=1)) :
  Calls Tryz.prog 58 #[.agg #[.int .i64 P,.int .i64 M,.slice am mn cm],.agg #[.int .i64 cols,.slice a n c]] w λe w'=>e = .returned (.int .i64 (rspaceE P M mod cols L))/\Below w.heap.size w w':=by
 have Hlen:=Lib.hid hi.len
 have Hinv:=Lib.hid hinv
 clear hinv
 go_enter Tryz.func58,Tryz.ntmps58
 go_wp2_with fail
 obtain ⟨W,hW⟩ : ∃W : World,W=(w.alloc (.cells #[.int .i64 P,.int .i64 M,.slice am mn cm] 24)).alloc (.cells #[.int .i64 cols,.slice a n c] 82):=⟨_,rfl⟩
 rw [<- hW]
 have hbW : Below w.heap.size w W:=by rw [hW];exact below2 _ _ _
 have x0 : Box W w.heap.size [.int .i64 P,.int .i64 M,.slice am mn cm]:=by rw [hW];exact (Box.new _ _ _ rfl).alloc _
 have y0 : Box W (w.heap.size+1) [.int .i64 cols,.slice a n c]:=by rw [hW];exact Box.new _ _ _ (by simp)
 have HX:=Lib.hid (And.intro x0 y0)
 have hiW:=hi.keep hbW
 have hmW:=hmod.keep hbW
 clear hW x0 y0
 refine (rMatCheck_any P M am mn cm mod cols a n c L W hmW hiW).mono ?_
 rintro e w1 ⟨rfl,hb1⟩
 have hbw1:=Below.next hbW hb1
 by_cases hE : rmatE P M mod cols L=0
 ·obtain ⟨hB,hm⟩:=rmatE_zero hE
  obtain ⟨m,rfl,hrf,hmods⟩:=fieldRB_rf hB
  obtain ⟨k,rfl,hk,hl,hR⟩:=matE_zero hm
  have HE : Hid (rspaceE P m mod k L=if canR (rops P m mod) L k=L then 0 else 5):=by show _=_;rw [rspaceE,if_pos hE,Int.toNat_natCast,Int.toNat_natCast]
  rw [hE]
  have hinv:=Hinv.out hB
  rw [Int.toNat_natCast] at hinv
  have hRw : Rws (ElP P m) k L:=λr hr=>⟨(hR r hr).1,λx hx=>by have:=(hR r hr).2 x hx;rw [hrf.order] at this;exact this⟩
  have x1:=HX.out.1.keep hb1
  have y1:=HX.out.2.keep hb1
  have d0:=x1.cell 0 rfl
  have d1:=x1.cell 1 rfl
  have d2:=x1.cell 2 rfl
  have d3:=y1.cell 0 rfl
  have d4:=y1.cell 1 rfl
  have hm1:=hmW.keep hb1
  have hi1:=hiW.keep hb1
  have hn : n<=1000000:=by rw [<- Hlen.out];omega
  have HC:=Lib.hid (rCanon_any P m am mn cm mod a n c k L w1 ⟨hrf,hmods w1 am mn hm1⟩ hi1 hRw (by omega) hn hinv)
  clear hE hB hm hmods hR hinv hRw x1 y1
  obtain ⟨O,hO⟩ : ∃O,rops P m mod=O:=⟨_,rfl⟩
  rw [hO] at HC HE
  clear hO
  go_wp2_with fail
  refine HC.out.mono ?_
  rintro e w2 ⟨a2,c2,ap,cp,rfl,hM2,hp2,hb2⟩
  have hbw2:=Below.next hbw1 hb2
  have y2:=(HX.out.2.keep hb1).keep hb2
  have d3:=y2.cell 0 rfl
  have d4:=y2.cell 1 rfl
  have hi2:=hi1.keep hb2
  have hM3:=hM2.mat
  have HS:=Lib.hid (rSameRows_any a2 (elimTo O L k).2.length c2 (canR O L k) a n c L hM3 hi2)
  clear hM2 hp2 y2
  generalize (elimTo O L k).2.length=kk at *
  by_cases hc : canR O L k=L
  ·have hc' : decide (canR O L k=L)=true:=by simpa using hc
   have HF : Hid (rspaceE P m mod k L=0):=by show _=_;rw [HE.out,if_pos hc]
   rw [hc'] at HS
   clear hc hc'
   go_wp2_with fail
   refine HS.out.mono ?_
   rintro e w3 ⟨rfl,hd3⟩
   go_wp2_with fail
   go_ret
   exact ⟨ret_int HF.out.symm,Below.next hbw2 hd3.below⟩
  ·have hc' : decide (canR O L k=L)=false:=by simpa using hc
   have HF : Hid (rspaceE P m mod k L=5):=by show _=_;rw [HE.out,if_neg hc]
   rw [hc'] at HS
   clear hc hc'
   go_wp2_with fail
   refine HS.out.mono ?_
   rintro e w3 ⟨rfl,hd3⟩
   go_wp2_with fail
   go_ret
   exact ⟨ret_int HF.out.symm,Below.next hbw2 hd3.below⟩
 ·have HE : Hid (rspaceE P M mod cols L=rmatE P M mod cols L):=by show _=_;rw [rspaceE,if_neg hE]
  have hE' : (rmatE P M mod cols L != 0)=true:=by simpa using hE
  clear hE
  go_wp2_with fail
  go_ret
  exact ⟨ret_int HE.out.symm,hbw1⟩
theorem lenE_lo {N : Int} (h : N<1) : lenE N=4:=by rw [lenE,if_pos (.inl h)]
theorem lenE_hi {N : Int} (h : 64<N) : lenE N=4:=by rw [lenE,if_pos (.inr h)]
theorem lenE_in {N : Int} (h1 : ¬ N<1) (h2 : ¬ 64<N) : lenE N=0:=by rw [lenE,if_neg (by omega)]
def rcodeE (P M : Int) (mod : List Int) (N : Int) (L : List (List Int)) : Int :=
 if fieldRB P M mod=true then (if lenE N=0 then rspaceE P M mod N L else 4) else 1
theorem rCodeCheck_any (P M : Int) (am : Option Addr) (mn cm : Nat) (mod : List Int) (N : Int) (a : Option Addr) (n c : Nat) (L : List (List Int)) (w : World) (hmod : Ints w am mn mod) (hi : Mat w a n L)
  (hinv : fieldRB P M mod=true->∀p,ElP P M.toNat p->p ≠ 0->(invR P M.toNat mod p=1 ↔ p=1)) :
  Calls Tryz.prog 22 #[.agg #[.int .i64 P,.int .i64 M,.slice am mn cm,.int .i64 N,.slice a n c]] w λe w'=>e = .returned (.int .i64 (rcodeE P M mod N L))/\Below w.heap.size w w':=by
 have Hinv:=Lib.hid hinv
 clear hinv
 go_enter Tryz.func22,Tryz.ntmps22
 go_wp2_with fail
 obtain ⟨W,hW⟩ : ∃W : World,W=w.alloc (.cells #[.int .i64 P,.int .i64 M,.slice am mn cm,.int .i64 N,.slice a n c] 27):=⟨_,rfl⟩
 rw [<- hW]
 have hbW : Below w.heap.size w W:=by rw [hW];exact below1 _ _
 have x0 : Box W w.heap.size [.int .i64 P,.int .i64 M,.slice am mn cm,.int .i64 N,.slice a n c]:=by rw [hW];exact Box.new _ _ _ rfl
 have HX:=Lib.hid x0
 clear hW x0
 refine (rFieldCheck_any P M am mn cm mod W (hmod.keep hbW)).mono ?_
 rintro e w1 ⟨rfl,hb1⟩
 have hbw1:=Below.next hbW hb1
 by_cases hB : fieldRB P M mod=true
 ·have hE : errField (fieldRB P M mod)=0:=by rw [hB];rfl
  rw [hE]
  have HB : Hid (rcodeE P M mod N L=if lenE N=0 then rspaceE P M mod N L else 4):=by show _=_;rw [rcodeE,if_pos hB]
  have x1:=HX.out.keep hb1
  have c0:=x1.cell 0 rfl
  have c1:=x1.cell 1 rfl
  have c2:=x1.cell 2 rfl
  have c3:=x1.cell 3 rfl
  have c4:=x1.cell 4 rfl
  have hm1:=(hmod.keep hbW).keep hb1
  have hi1:=(hi.keep hbW).keep hb1
  clear hE hB x1
  by_cases h1 : N<1
  ·have Hf : Hid (rcodeE P M mod N L=4):=by show _=_;rw [HB.out,lenE_lo h1];rfl
   have t1 : decide (N<1)=true:=by simpa using h1
   go_wp2_with fail
   go_ret
   exact ⟨ret_int Hf.out.symm,hbw1⟩
  ·have t1 : decide (N<1)=false:=by simpa using h1
   by_cases h2 : 64<N
   ·have Hf : Hid (rcodeE P M mod N L=4):=by show _=_;rw [HB.out,lenE_hi h2];rfl
    have t2 : decide (64<N)=true:=by simpa using h2
    go_wp2_with fail
    go_ret
    exact ⟨ret_int Hf.out.symm,hbw1⟩
   ·have t2 : decide (64<N)=false:=by simpa using h2
    have Hf : Hid (rcodeE P M mod N L=rspaceE P M mod N L):=by show _=_;rw [HB.out,lenE_in h1 h2,if_pos rfl]
    clear h1 h2
    go_wp2_with fail
    refine (rSpaceCheck_any P M am mn cm mod N a n c L w1 hm1 hi1 Hinv.out).mono ?_
    rintro e w2 ⟨rfl,hb2⟩
    go_wp2_with fail
    go_ret
    exact ⟨ret_int Hf.out.symm,Below.next hbw1 hb2⟩
 ·have hB' : fieldRB P M mod=false:=by simpa using hB
  have Hf : Hid (rcodeE P M mod N L=1):=by show _=_;rw [rcodeE,if_neg hB]
  have hE : errField (fieldRB P M mod)=1:=by rw [hB'];rfl
  rw [hE]
  clear hB hB' hE
  go_wp2_with fail
  go_ret
  exact ⟨ret_int Hf.out.symm,hbw1⟩
end

section
theorem hinv_all {P M : Int} {mod : List Int} (h : fieldRB P M mod=true) : ∀p,ElP P M.toNat p->p ≠ 0->(invR P M.toNat mod p=1 ↔ p=1):=by
 obtain ⟨m,rfl,_,_,_,_,h6⟩:=eq_ops (by rw [<- fieldRB_eq];exact h)
 exact h6
theorem rmatE_eq (P M : Int) (mod : List Int) (cols : Int) (L : List (List Int)) : rmatE P M mod cols L=fmatE P M mod cols L:=by
 unfold rmatE fmatE
 rw [fieldRB_eq]
 split
 ·rename_i h
  obtain ⟨m,rfl,_,hq,_⟩:=eq_ops h
  rw [Int.toNat_natCast,hq]
 ·rfl
theorem canR_eq {P M : Int} {mod : List Int} (h : fieldB P M mod=true) {L : List (List Int)} {m : Nat} (hL : Rws (tblOf P M.toNat mod).El m L) : canR (rops P M.toNat mod) L m=canS (tblOf P M.toNat mod) L m:=by
 obtain ⟨k,rfl,he,_,hF,hA,_⟩:=eq_ops h
 rw [Int.toNat_natCast] at hL ⊢
 rw [<- he] at hL
 unfold canR canS
 rw [(elimTo_agr hA hF.cl hL m (Nat.le_refl _)).1]
theorem rspaceE_eq (P M : Int) (mod : List Int) (cols : Int) (L : List (List Int)) : rspaceE P M mod cols L=spaceE P M mod cols L:=by
 unfold rspaceE spaceE
 rw [rmatE_eq]
 split
 ·rename_i h0
  obtain ⟨h1,h2⟩:=fmatE_zero h0
  obtain ⟨m,rfl,_,_,hR⟩:=matE_zero h2
  rw [Int.toNat_natCast,canR_eq h1 hR]
 ·rfl
theorem rcodeE_eq (P M : Int) (mod : List Int) (N : Int) (L : List (List Int)) : rcodeE P M mod N L=codeE P M mod N L:=by
 unfold rcodeE codeE
 rw [fieldRB_eq,rspaceE_eq]
end

section
section
variable {O : FOps} {El : Int->Prop} {m : Nat} {L : List (List Int)}
theorem rkQ_span (F : Fld O El) (hL : Rws El m L) {Q Q' : List Int} (h : ∀x ∈ gA Q,clV O El L.length (colS L) (gA Q') x) : rkQ O L Q<=rkQ O L Q':=Rk.le (col_clo F hL) (rkQ_rk F hL Q) (rkQ_rk F hL Q') h
end
end

section
theorem kids_mem {C : Clm} {s z t : List Int} {x : Int} (h : x ∈ kidsS C s z t) : x ∈ t/\¬ x ∈ z/\s.length<C.W:=by
 unfold kidsS at h
 split at h
 ·rename_i hl
  rw [List.mem_filter] at h
  exact ⟨h.1,by simpa using h.2,hl⟩
 ·simp at h
end

section
set_option maxRecDepth 100000
set_option maxHeartbeats 4000000

open Go.RowKit
theorem vecM_any (P M : Int) (am : Option Addr) (mn cm : Nat) (mod : List Int) (ax : Option Addr) (cx : Nat) (x : List Int) (m : Nat) (a : Option Addr) (n c : Nat) (L : List (List Int)) (w : World) (hmod : Ints w am mn mod) (hx : Ints w ax n x) (hi : Mat w a n L)
  (hfB : fieldB P M mod=true) (hR : Rws (tblOf P M.toNat mod).El m L) (hxe : ∀k,k<n->(tblOf P M.toNat mod).El (nth x k)) (hm1 : 1<=m) (hm : m<=64) (hn : n<=256) :
  Calls Tryz.prog 72 #[.agg #[.int .i64 P,.int .i64 M,.slice am mn cm],.slice ax n cx,.agg #[.int .i64 m,.slice a n c]] w
   λe w'=>∃a1 c1,e = .returned (.tuple #[.slice a1 m c1,.int .i64 0])/\Ints w' a1 m (cmbTo (tblOf P M.toNat mod).ops m x L n)/\Below w.heap.size w w':=by
 have hLl:=hi.len
 have F:=fieldB_fld hfB
 have hmE1 : matE (tblOf P M.toNat mod).q m L=0:=(fmatE_zero (fmatE_mk hfB (show m<=256 by omega) (show L.length<=256 by omega) hR)).2
 have hel : elsE (tblOf P M.toNat mod).q x=0:=by
  unfold elsE
  rw [if_pos]
  unfold elsQ isQ
  rw [List.all_eq_true]
  intro y hy
  obtain ⟨k,hk,rfl⟩:=List.mem_iff_getElem.1 hy
  have h1:=hxe k (by rw [<- hx.len];exact hk)
  rw [nth_getElem hk] at h1
  unfold Tbl.El at h1
  simp
  exact h1
 have hpla:=hi.pl
 obtain ⟨G,hGG⟩ : ∃G,tblOf P M.toNat mod=G:=⟨_,rfl⟩
 rw [hGG] at hR F hmE1 hxe hel ⊢
 have HK:=Lib.hid (And.intro hfB (And.intro hR (And.intro hmE1 (And.intro hxe (And.intro F hel)))))
 have HGG:=Lib.hid hGG
 clear hfB hR hmE1 hxe F hLl hGG hel
 go_enter Tryz.func72,Tryz.ntmps72
 go_wp2_with fail
 obtain ⟨W,hW⟩ : ∃W : World,W=((w.alloc (.cells #[.int .i64 P,.int .i64 M,.slice am mn cm] 24)).alloc (.cells #[.int .i64 m,.slice a n c] 82)).alloc (.cells #[.int .i64 m,.slice a n c] 82):=⟨_,rfl⟩
 rw [<- hW]
 have hbW : Below w.heap.size w W:=by rw [hW];exact below3 _ _ _ _
 have x1 : Box W (w.heap.size+1) [.int .i64 m,.slice a n c]:=by rw [hW];exact (Box.new _ _ _ (by simp)).alloc _
 have q3 : ∀i v,[Value.int .i64 m,.slice a n c][i]? = some v->W.cell? ⟨w.heap.size+1+1,i,none⟩=some v:=λi v hv=>by
  have h : Box W (w.heap.size+1+1) [.int .i64 m,.slice a n c]:=by rw [hW];exact Box.new _ _ _ (by simp)
  exact h.cell i hv
 have hMs : Mats W (some ⟨w.heap.size+1+1,0,none⟩) 1 [((m : Int),L)]:=⟨rfl,λ_=>rfl,by unfold maxLen;omega,λi hi'=>by
  have : i=0:=by simp at hi';omega
  subst this
  exact ⟨a,n,c,by simpa using q3 0 _ rfl,by simpa using q3 1 _ rfl,hi.keep hbW⟩⟩
 have HX:=Lib.hid x1
 have HbW:=Lib.hid hbW
 clear hW x1 q3
 refine (open_any P M am mn cm mod _ 1 1 _ W (hmod.keep hbW) hMs).mono ?_
 rintro e w1 ⟨hb1,hcase⟩
 have hms : matsE (tblOf P M.toNat mod).q [((m : Int),L)]=0:=by
  rw [HGG.out]
  simp [matsE,HK.out.2.2.1]
 rcases hcase with ⟨hB,_⟩ | ⟨_,er,h0,h1,_⟩ | ⟨_,_,b,rfl,hG,hbl⟩
 ·rw [HK.out.1] at hB;exact absurd hB (by decide)
 ·rw [hms] at h1;exact absurd h1.symm h0
 rw [HGG.out] at hG
 have hbw1:=Below.next hbW hb1
 have r1:=HX.out.keep hb1
 have m0:=r1.cell 0 rfl
 have m1:=r1.cell 1 rfl
 have hnn : ((n : Int) != n)=false:=by simp
 have hx1:=hx.keep hbw1
 have hi1:=hi.keep hbw1
 have he:=entries_any ax n cx x hG hx1
 rw [HK.out.2.2.2.2.2] at he
 have He:=Lib.hid he
 have Hv:=Lib.hid (vec_any ax cx x a n c L m hG HK.out.2.2.2.2.1 hx1 hi1 HK.out.2.2.2.1 HK.out.2.1 hm1 (by omega) (by omega))
 clear hMs hbW r1 hbl hmod hms he hx1 hi1 hG hx hi
 go_wp2_with fail
 refine He.out.mono ?_
 rintro e w2 ⟨rfl,rfl⟩
 go_wp2_with fail
 refine Hv.out.mono ?_
 rintro e w3 ⟨a3,c3,rfl,hown,hb3⟩
 have hF:=Lib.hid (And.intro (Ints.own hown).1 (Below.next hbw1 hb3))
 clear hown
 go_wp2_with fail
 go_ret2
 exact ⟨a3,c3,rfl,hF.out.1,hF.out.2⟩
end

section
theorem nodup_sub_len : ∀ {s T : List Int},s.Nodup->(∀x ∈ s,x ∈ T)->s.length<=T.length
 | [],_,_,_=>Nat.zero_le _
 | x :: s,T,hn,h=>by
  have hx : x ∈ T:=h x (by simp)
  have hn':=List.nodup_cons.1 hn
  have h1 : ∀y ∈ s,y ∈ T.erase x:=λy hy=>(List.mem_erase_of_ne (λ(e : y=x)=>hn'.1 (by rw [<- e];exact hy))).2 (h y (by simp [hy]))
  have h2:=nodup_sub_len hn'.2 h1
  rw [List.length_erase_of_mem hx] at h2
  have : 0<T.length:=List.length_pos_of_mem hx
  simp only [List.length_cons]
  omega
theorem nodup_full {s T : List Int} (hn : s.Nodup) (h : ∀x ∈ s,x ∈ T) (hl : T.length<=s.length) {x : Int} (hx : x ∈ T) : x ∈ s:=by
 refine Classical.byContradiction λhc=>?_
 have:=nodup_sub_len (s:=x :: s) (T:=T) (List.nodup_cons.2 ⟨hc,hn⟩) λy hy=>by
  rcases List.mem_cons.1 hy with rfl | hy
  ·exact hx
  ·exact h y hy
 simp at this;omega
theorem kfol_node {F : List Int->List Int->List (List Int)->Option (List (List Int))} {s T : List Int} : ∀(ks z : List Int) (ts rest : List (List Int)),kfol F s z ks ts=some rest->(∀x ∈ z,¬ x ∈ T)->(∃x ∈ ks,x ∈ T) ->
  ∃k z' ts' rest',k ∈ ks/\k ∈ T/\(∀x ∈ z',¬ x ∈ T)/\F (s ++ [k]) z' ts'=some rest'
 | [],_,_,_,_,_,h=>by obtain ⟨x,hx,_⟩:=h;simp at hx
 | k :: ks,z,ts,rest,h,hz,hk=>by
  rw [kfol] at h
  cases hF : F (s ++ [k]) z ts with
  | none=>rw [hF] at h;cases h
  | some ts' =>
   rw [hF] at h
   by_cases hkT : k ∈ T
   ·exact ⟨k,z,ts,ts',by simp,hkT,hz,hF⟩
   ·obtain ⟨k', z', ts'', rest', h1, h2, h3, h4⟩ := kfol_node ks (z ++ [k]) ts' rest h (λx hx => by
     rcases List.mem_append.1 hx with hx | hx
     ·exact hz x hx
     ·rw [List.mem_singleton.1 hx];exact hkT) (by
     obtain ⟨x,hx,hxT⟩:=hk
     rcases List.mem_cons.1 hx with rfl | hx
     ·exact absurd hxT hkT
     ·exact ⟨x,hx,hxT⟩)
    exact ⟨k', z', ts'', rest', List.mem_cons_of_mem _ h1, h2, h3, h4⟩
variable {O : FOps} {L : List (List Int)} {m : Nat} {C : Clm}
theorem fol_node : ∀(d : Nat) (s z : List Int) (ts rest : List (List Int)),s.length+d=C.W->s.Nodup->folS O L m C d s z ts=some rest->∀T : List Int,T.length<=C.W->(∀x ∈ s,x ∈ T)->(∀x ∈ z,¬ x ∈ T) ->
  ∃s' t,rightS O L m C s' t=true/\s'.Nodup/\(∀x ∈ s',x ∈ T)/\∀x ∈ t,¬ x ∈ T
 | 0,s,z,ts,rest,hd,hn,h,T,hT,hs,hz=>by
  match ts with
  | []=>simp [folS] at h
  | t :: ts =>
   rw [folS] at h
   by_cases hr : rightS O L m C s t=true
   ·exact ⟨s,t,hr,hn,hs,λx hx hxT=>(right_ok hr).2 x hx (nodup_full hn hs (by omega) hxT)⟩
   ·rw [if_neg hr] at h;cases h
 | d+1,s,z,ts,rest,hd,hn,h,T,hT,hs,hz=>by
  match ts with
  | []=>simp [folS] at h
  | t :: ts =>
   rw [folS] at h
   by_cases hr : rightS O L m C s t=true
   ·rw [if_pos hr] at h
    by_cases ht : ∃x ∈ t,x ∈ T
    ·obtain ⟨x,hx,hxT⟩:=ht
     have hxk : x ∈ kidsS C s z t:=by
      unfold kidsS
      rw [if_pos (by omega),List.mem_filter]
      exact ⟨hx,by simpa using λhxz=>hz x hxz hxT⟩
     obtain ⟨k,z',ts',rest',h1,h2,h3,h4⟩:=kfol_node _ _ _ _ h hz ⟨x,hxk,hxT⟩
     have hks:=(right_ok hr).2 k (kids_mem h1).1
     refine fol_node d (s ++ [k]) z' ts' rest' (by simp;omega) ?_ h4 T hT ?_ h3
     ·rw [List.nodup_append]
      exact ⟨hn,by simp,λa ha b hb e=>hks (by rw [List.mem_singleton.1 hb] at e;exact e ▸ ha)⟩
     ·intro y hy
      rcases List.mem_append.1 hy with hy | hy
      ·exact hs y hy
      ·rw [List.mem_singleton.1 hy];exact h2
    ·exact ⟨s,t,hr,hn,hs,λx hx hxT=>ht ⟨x,hx,hxT⟩⟩
   ·rw [if_neg hr] at h;cases h
theorem prov_node {ts : List (List Int)} (h : provS O L m C ts=0) (T : List Int) (hT : T.length<=C.W) : ∃s' t,rightS O L m C s' t=true/\s'.Nodup/\(∀x ∈ s',x ∈ T)/\∀x ∈ t,¬ x ∈ T:=by
 unfold provS at h
 split at h
 ·rename_i hf
  exact fol_node C.W [] [] ts [] (by simp) (by simp) hf T hT (λx hx=>by simp at hx) λx hx=>by simp at hx
 ·cases h
end

section
set_option maxHeartbeats 1600000

open Go.RowKit
theorem rList12_any (P M : Int) (am : Option Addr) (mn cm : Nat) (a : Option Addr) (n c : Nat) (l : List Int) (k : Nat) (w : World) (hi : Ints w a n l) :
  Calls Tryz.prog 36 #[.agg #[.int .i64 P,.int .i64 M,.slice am mn cm],.slice a n c,.int .i64 k] w λe w'=>e = .returned (.int .i64 (lstE (orderS P M) l k))/\Below w.heap.size w w':=by
 have hl:=hi.len
 go_enter Tryz.func36,Tryz.ntmps36
 go_upto_region 1 with fail
 obtain ⟨W,hW⟩ : ∃W : World,W=w.alloc (.cells #[.int .i64 P,.int .i64 M,.slice am mn cm] 24):=⟨_,rfl⟩
 rw [<- hW]
 have hbW : Below w.heap.size w W:=by rw [hW];exact below1 _ _
 have x0 : Box W w.heap.size [.int .i64 P,.int .i64 M,.slice am mn cm]:=by rw [hW];exact Box.new _ _ _ rfl
 have c0:=x0.cell 0 rfl
 have c1:=x0.cell 1 rfl
 have c2:=x0.cell 2 rfl
 clear hW x0
 by_cases h1 : n=k
 ·have HL : Hid (lstE (orderS P M) l k=elsE (orderS P M) l):=by show _=_;rw [lstE,if_pos (by omega)]
  have Hc:=Lib.hid (rEntries_any P M am mn cm a n c l W (hi.keep hbW))
  have h1' : ((n : Int) != k)=false:=by rw [show (n : Int)=k by omega];simp
  clear h1 hl
  generalize elsE (orderS P M) l=er at *
  go_wp2_with fail
  refine Hc.out.mono ?_
  rintro e w1 ⟨rfl,hb1⟩
  have hF:=Below.next hbW hb1
  go_wp2_with fail
  go_ret
  exact ⟨ret_int HL.out.symm,hF⟩
 ·have HL : Hid (lstE (orderS P M) l k=4):=by show _=_;rw [lstE,if_neg (by omega)]
  have h1' : ((n : Int) != k)=true:=by simp only [bne_iff_ne,ne_eq];omega
  clear h1 hl
  go_wp2_with fail
  go_ret
  exact ⟨ret_int HL.out.symm,hbW⟩
end

section
set_option maxRecDepth 100000
set_option maxHeartbeats 4000000

open Go.RowKit
theorem encode_any (P M : Int) (am : Option Addr) (mn cm : Nat) (mod : List Int) (m : Nat) (a : Option Addr) (n c : Nat) (L : List (List Int)) (ax : Option Addr) (nx cx : Nat) (x : List Int) (w : World) (hmod : Ints w am mn mod) (hi : Mat w a n L) (hx : Ints w ax nx x) (hE : codeE P M mod m L=0) :
  Calls Tryz.prog 32 #[.agg #[.int .i64 P,.int .i64 M,.slice am mn cm,.int .i64 m,.slice a n c],.slice ax nx cx] w λe w'=>Below w.heap.size w w' /\
   ((lstE (tblOf P M.toNat mod).q x n ≠ 0/\e = .returned (.tuple #[.slice none 0 0,.int .i64 (lstE (tblOf P M.toNat mod).q x n)])) \/
    (lstE (tblOf P M.toNat mod).q x n=0/\∃a1 c1,e = .returned (.tuple #[.slice a1 m c1,.int .i64 0])/\Ints w' a1 m (cmbTo (tblOf P M.toNat mod).ops m x L n))):=by
 obtain ⟨N',em,hm1,hm64,F,hR⟩:=codeE_fld hE
 obtain rfl : m=N':=by omega
 have hn256 : n<=256:=by rw [<- hi.len];exact (codeE_rws hE).choose_spec.2.2.2.1
 have hfB:=(codeE_zero hE).1
 have HCk : Hid (∀V,Below w.heap.size w V->Calls Tryz.prog 61 #[.agg #[.int .i64 P,.int .i64 M,.slice am mn cm,.int .i64 m,.slice a n c]] V λe w'=>e = .returned (.int .i64 0)/\Below V.heap.size V w'):=λV hV=>by
  have h:=codeCheck_any P M am mn cm mod m a n c L V (hmod.keep hV) (hi.keep hV)
  rw [hE] at h
  exact h
 have HLi : Hid (∀V,Below w.heap.size w V->Calls Tryz.prog 71 #[.agg #[.int .i64 P,.int .i64 M,.slice am mn cm],.slice ax nx cx,.int .i64 n] V λe w'=>e = .returned (.int .i64 (lstE (tblOf P M.toNat mod).q x n))/\Below V.heap.size V w'):=λV hV =>
  codeListG_any P M am mn cm mod ax nx cx x n V (hmod.keep hV) (hx.keep hV) hfB
 have HVe : Hid (lstE (tblOf P M.toNat mod).q x n=0->∀V,Below w.heap.size w V->Calls Tryz.prog 72 #[.agg #[.int .i64 P,.int .i64 M,.slice am mn cm],.slice ax nx cx,.agg #[.int .i64 m,.slice a n c]] V λe w'=>∃a1 c1,e = .returned (.tuple #[.slice a1 m c1,.int .i64 0])/\Ints w' a1 m (cmbTo (tblOf P M.toNat mod).ops m x L n)/\Below V.heap.size V w'):=λhz V hV=>by
  unfold lstE at hz
  by_cases hl : x.length=n
  ·rw [if_pos hl] at hz
   unfold elsE at hz
   by_cases hq : elsQ (tblOf P M.toNat mod).q x=true
   ·have hnx : nx=n:=by rw [<- hx.len];exact hl
    subst hnx
    refine vecM_any P M am mn cm mod ax cx x m a nx c L V (hmod.keep hV) (hx.keep hV) (hi.keep hV) hfB hR (λk hk=>?_) hm1 hm64 hn256
    unfold elsQ isQ at hq
    rw [List.all_eq_true] at hq
    have h1:=hq _ (nth_mem (l:=x) (i:=k) (by omega))
    simp at h1
    unfold Tbl.El
    exact h1
   ·rw [if_neg hq] at hz;omega
  ·rw [if_neg hl] at hz;omega
 obtain ⟨er,her⟩ : ∃er,lstE (tblOf P M.toNat mod).q x n=er:=⟨_,rfl⟩
 obtain ⟨X,hX⟩ : ∃X,cmbTo (tblOf P M.toNat mod).ops m x L n=X:=⟨_,rfl⟩
 rw [her] at HLi HVe ⊢
 rw [hX] at HVe ⊢
 clear her hX hfB hE em F hR hmod hi hx
 go_enter Tryz.func32,Tryz.ntmps32
 go_wp2_with fail
 obtain ⟨W,hW⟩ : ∃W : World,W=w.alloc (.cells #[.int .i64 P,.int .i64 M,.slice am mn cm,.int .i64 m,.slice a n c] 27):=⟨_,rfl⟩
 rw [<- hW]
 have hbW : Below w.heap.size w W:=by rw [hW];exact below1 _ _
 have x0 : Box W w.heap.size [.int .i64 P,.int .i64 M,.slice am mn cm,.int .i64 m,.slice a n c]:=by rw [hW];exact Box.new _ _ _ rfl
 have HS : Hid (∀V,Below W.heap.size W V->V.cell? ⟨w.heap.size,0,none⟩=some (.int .i64 P)/\V.cell? ⟨w.heap.size,1,none⟩=some (.int .i64 M)/\V.cell? ⟨w.heap.size,2,none⟩=some (.slice am mn cm)/\V.cell? ⟨w.heap.size,3,none⟩=some (.int .i64 m)/\V.cell? ⟨w.heap.size,4,none⟩=some (.slice a n c)):=λV hV=>by
  have x1:=x0.keep hV
  exact ⟨x1.cell 0 rfl,x1.cell 1 rfl,x1.cell 2 rfl,x1.cell 3 rfl,x1.cell 4 rfl⟩
 have HbW:=Lib.hid hbW
 have Hck:=Lib.hid (HCk.out W hbW)
 clear hW x0 hbW HCk
 refine Hck.out.mono ?_
 rintro e w1 ⟨rfl,hb1⟩
 obtain ⟨c0,c1,c2,c3,c4⟩:=HS.out w1 hb1
 have Hli:=Lib.hid (HLi.out w1 (Below.next HbW.out hb1))
 clear Hck HLi
 go_wp2_with fail
 refine Hli.out.mono ?_
 rintro e w2 ⟨rfl,hb2⟩
 have hB2:=Below.next hb1 hb2
 clear c0 c1 c2 c3 c4 Hli hb1
 by_cases hz : er=0
 rotate_left
 ·have hz' : (er != 0)=true:=by simpa using hz
  have Hz:=Lib.hid hz
  have hF:=Below.next HbW.out hB2
  clear hz
  go_wp2_with fail
  go_ret2
  exact ⟨hF,.inl ⟨Hz.out,rfl⟩⟩
 subst hz
 have HV:=Lib.hid (HVe.out rfl)
 have HS2 : Hid (∀V,Below w2.heap.size w2 V->V.cell? ⟨w.heap.size,0,none⟩=some (.int .i64 P)/\V.cell? ⟨w.heap.size,1,none⟩=some (.int .i64 M)/\V.cell? ⟨w.heap.size,2,none⟩=some (.slice am mn cm)/\V.cell? ⟨w.heap.size,3,none⟩=some (.int .i64 m)/\V.cell? ⟨w.heap.size,4,none⟩=some (.slice a n c)/\Below w2.heap.size w2 V):=λV hV=>by
  obtain ⟨q0,q1,q2,q3,q4⟩:=HS.out V (Below.next hB2 hV)
  exact ⟨q0,q1,q2,q3,q4,hV⟩
 have Hbw:=Lib.hid (Below.next HbW.out hB2)
 clear HVe hB2 hb2
 go_wp2_with fail
 go_cut [4,5] (λu v wx=>∃a1 c1,u = .slice a1 m c1/\v = .int .i64 0/\Ints wx a1 m X/\Below w2.heap.size w2 wx)
 case first =>
  go_region_held3 (λV=>V.cell? ⟨w.heap.size,0,none⟩=some (.int .i64 P)/\V.cell? ⟨w.heap.size,1,none⟩=some (.int .i64 M)/\V.cell? ⟨w.heap.size,2,none⟩=some (.slice am mn cm)/\V.cell? ⟨w.heap.size,3,none⟩=some (.int .i64 m)/\V.cell? ⟨w.heap.size,4,none⟩=some (.slice a n c)/\Below w2.heap.size w2 V)
   ((refine HS2.out _ ?_;first | exact hb8 | exact hb7 | exact (Below.refl _ _).drew | assumption | (go_split_ands;assumption)))
   (first
    | (go_at_call 73;((with_reducible refine (gen_any P M am mn cm m a n c _).mono ?_);rintro e w7 ⟨rfl,hb7'⟩;have hb7 : Below w2.heap.size w2 w7:=(by go_split_ands;exact Below.next (by assumption) hb7')))
    | (go_at_call 72;((with_reducible refine (HV.out _ (Below.next Hbw.out (by go_split_ands;assumption))).mono ?_);rintro e w8 ⟨a8,k8,rfl,hI8,hb8'⟩;have hb8 : Below w2.heap.size w2 w8:=(by go_split_ands;exact Below.next (by assumption) hb8'))))
  all_goals (go_wp2_with fail;go_meet;exact ⟨a8,k8,rfl,rfl,hI8,hb8⟩)
 obtain ⟨a8,k8,rfl,rfl,hI8,hb8⟩:=hcut
 generalize wc=V at *
 have hF:=Lib.hid (And.intro (Below.next Hbw.out hb8) hI8)
 clear hI8
 go_wp2_with fail
 go_ret2
 first
  | exact ⟨hF.out.1,.inr ⟨rfl,a8,k8,rfl,hF.out.2⟩⟩
  | exact ⟨hF.out.1,a8,⟨k8,rfl⟩,hF.out.2⟩
theorem rWeight25_any (a : Option Addr) (n c : Nat) (l : List Int) (w : World) (h : Ints w a n l) :
  Calls Tryz.prog 20 #[.slice a n c] w λe w'=>e = .returned (.int .i64 (wtL l))/\w'=w:=by
 have Hl:=Lib.hid h.len
 have hpl:=h.pl
 have hmax:=h.max
 unfold maxLen at hmax
 have hle : ∀k,k<=n->(wtL (l.take k) : Int)<=k:=λk hk=>by
  have h1 : wtL (l.take k)<=(l.take k).length:=List.countP_le_length
  rw [List.length_take] at h1
  omega
 have Hle:=Lib.hid hle
 have HT : Hid (wtL (l.take n)=wtL l):=by show _=_;rw [List.take_of_length_le (by rw [Hl.out];exact Nat.le_refl _)]
 clear hle
 go_enter Tryz.func20,Tryz.ntmps20
 go_wp2_with fail
 go_loopw [3,4] (λcv iv wr=>∃k : Nat,k<=n/\iv = .int .i64 k/\cv = .int .i64 (wtL (l.take k))/\wr=w) (λ_ iv _=>n - (intOf iv).toNat)
 case atStart=>exact ⟨0,Nat.zero_le _,rfl,by simp [wtL],rfl⟩
 case round =>
  obtain ⟨k,hk,rfl,rfl,rfl⟩:=hrel
  by_cases hlt : k<n
  ·have ck:=h.cell k hlt
   have hkl : k<l.length:=by rw [Hl.out];exact hlt
   have hst : wtL (l.take (k+1))=wtL (l.take k)+(if nth l k ≠ 0 then 1 else 0):=by
    unfold wtL
    rw [List.take_succ_eq_append_getElem hkl,List.countP_append,List.countP_singleton,nth_getElem hkl]
    simp
   have hb:=Hle.out k hk
   obtain ⟨t,ht⟩ : ∃t,wtL (l.take k)=t:=⟨_,rfl⟩
   obtain ⟨y,hy⟩ : ∃y,nth l k=y:=⟨_,rfl⟩
   rw [ht] at hst hb ⊢
   rw [hy] at hst ck
   clear ht hy hkl
   by_cases h0 : y=0
   ·have hd : (y != 0)=false:=by simpa using h0
    have Hst : Hid (wtL (l.take (k+1))=t):=by show _=_;rw [hst,if_neg (by simpa using h0)];rfl
    clear h0 hst
    go_wp2_with fail
    go_roundw
    case rel=>exact ⟨k+1,by omega,by go_num,by rw [Hst.out],by simp⟩
    case measure=>simp [intOf] <;> omega
   ·have hd : (y != 0)=true:=by simpa using h0
    have Hst : Hid (wtL (l.take (k+1))=t+1):=by show _=_;rw [hst,if_pos h0]
    clear h0 hst
    go_wp2_with fail
    go_roundw
    case rel=>exact ⟨k+1,by omega,by go_num,by rw [Hst.out];go_num,by simp⟩
    case measure=>simp [intOf] <;> omega
  ·obtain rfl : k=n:=by omega
   rw [HT.out]
   go_wp2_with fail
   go_ret
   exact ⟨rfl,rfl⟩
end

section
variable {O : FOps} {El : Int->Prop} {m : Nat} {L : List (List Int)}
theorem rkQ_mono (F : Fld O El) (hL : Rws El m L) {Q Q' : List Int} (h : ∀x ∈ Q,x ∈ Q') : rkQ O L Q<=rkQ O L Q' :=
 rkQ_span F hL λx hx=>by
  obtain ⟨y,hy,e⟩:=mem_gA.1 hx
  exact (col_clo F hL).mem _ _ (mem_gA.2 ⟨y,h y hy,e⟩)
variable {C : Clm}
def sizK (O : FOps) (L : List (List Int)) (m : Nat) (C : Clm) (s : List Int) : Nat:=if C.cos=true then rkQ O L (frTo false s m) else C.M
theorem right_len {s t : List Int} (h : rightS O L m C s t=true) : t.length=sizK O L m C s/\rkQ O L t=t.length:=by
 unfold rightS at h
 rw [Bool.and_eq_true,Bool.and_eq_true,decide_eq_true_eq] at h
 refine ⟨?_,h.2.1⟩
 have h2:=h.2.2
 unfold sizK
 split
 ·rename_i hc
  rw [if_pos hc,Bool.and_eq_true,decide_eq_true_eq] at h2
  exact h2.1.symm
 ·rename_i hc
  rw [if_neg hc,decide_eq_true_eq] at h2
  exact h2
end

section
section
variable {O : FOps} {El : Int->Prop} {m : Nat} {L : List (List Int)} {C : Clm}
theorem prov_rank (F : Fld O El) (hL : Rws El m L) (hc : C.cos=false) {ts : List (List Int)} (h : provS O L m C ts=0) {T Q : List Int} (hT : T.length<=C.W) (hQ : ∀x : Int,0<=x->x<m->¬ x ∈ T->x ∈ Q) : C.M<=rkQ O L Q:=by
 obtain ⟨s',t,hr,hn,hs,ht⟩:=prov_node h T hT
 have h1:=right_len hr
 have h2:=right_ok hr
 have h3 : t.length=C.M:=by
  have h4:=h1.1
  unfold sizK at h4
  rw [if_neg (by rw [hc];decide)] at h4
  exact h4
 have h4:=rkQ_mono F hL (Q:=t) (Q':=Q) λx hx=>by
  obtain ⟨q,hq,rfl⟩:=List.mem_iff_getElem.1 hx
  have h5:=okSet_rng h2.1 q hq
  rw [nth_getElem hq] at h5
  exact hQ _ h5.1 h5.2 (ht _ hx)
 omega
end
def supp (x : List Int) (m : Nat) : List Int:=((List.range m).filter λj=>decide (nth x j ≠ 0)).map Int.ofNat
theorem mem_supp {x : List Int} {m : Nat} {y : Int} : y ∈ supp x m ↔ ∃j : Nat,j<m/\nth x j ≠ 0/\y=j:=by
 unfold supp
 rw [List.mem_map]
 constructor
 ·rintro ⟨j,hj,rfl⟩
  rw [List.mem_filter,List.mem_range] at hj
  exact ⟨j,hj.1,by simpa using hj.2,rfl⟩
 ·rintro ⟨j,h1,h2,rfl⟩
  exact ⟨j,by rw [List.mem_filter,List.mem_range];exact ⟨h1,by simpa using h2⟩,rfl⟩
theorem supp_len {x : List Int} {m : Nat} (h : x.length=m) : (supp x m).length=wtL x:=by
 have e : x=(List.range m).map (nth x):=by
  refine List.ext_getElem (by simp [h]) λi h1 h2=>?_
  rw [List.getElem_map,List.getElem_range,nth_getElem h1]
 unfold supp wtL
 rw [List.length_map,<- List.countP_eq_length_filter]
 conv=>rhs;rw [e,List.countP_map]
 rfl
theorem wtL_zero {x : List Int} : wtL x=0 ↔ ∀k,k<x.length->nth x k=0:=by
 unfold wtL
 rw [List.countP_eq_zero]
 constructor
 ·intro h k hk
  have h1:=h _ (nth_mem hk)
  simpa using h1
 ·intro h y hy
  obtain ⟨k,hk,rfl⟩:=List.mem_iff_getElem.1 hy
  have h1:=h k hk
  rw [nth_getElem hk] at h1
  simp [h1]
section
variable {P M : Int} {mod : List Int} {m : Nat} {L : List (List Int)}
theorem code_piv (hE : codeE P M mod m L=0) : ∃p : List Int,Piv L p m/\L.length=p.length:=by
 obtain ⟨N',e,hm1,hm64,F,hR⟩:=codeE_fld hE
 obtain rfl : m=N':=by omega
 have h6:=(spaceE_zero (codeE_zero hE).2.2.2).2
 rw [Int.toNat_natCast] at h6
 have hcan : canO (tblOf P M.toNat mod).ops m L=L:=h6
 obtain ⟨hPv,hLd⟩:=canO_piv F hR
 have hcl:=canO_len F hR
 rw [hcan] at hPv hcl
 exact ⟨_,hPv,hcl⟩
theorem full_clo (hE : codeE P M mod m L=0) {Q : List Int} (hr : L.length<=rkQ (tblOf P M.toNat mod).ops L Q) (hQ : ∀x ∈ Q,0<=x/\x<(m : Int)) {x : Nat} (hx : x<m) : clV (tblOf P M.toNat mod).ops (tblOf P M.toNat mod).El L.length (colS L) (gA Q) x:=by
 obtain ⟨N',e,hm1,hm64,F,hR⟩:=codeE_fld hE
 obtain rfl : m=N':=by omega
 have hfull:=code_full hE
 refine Classical.byContradiction λhn=>?_
 have h1:=rkQ_out F hR (Q:=Q) (x:=(x : Int)) (by simpa using hn)
 have h2:=Rk.le (col_clo F hR) (rkQ_rk F hR (Q ++ [(x : Int)])) hfull λy hy=>by
  refine (col_clo F hR).mem _ _ ?_
  rw [List.mem_range]
  obtain ⟨z,hz,rfl⟩:=mem_gA.1 hy
  rcases List.mem_append.1 hz with hz | hz
  ·have:=hQ z hz
   omega
  ·rw [List.mem_singleton] at hz;subst hz;simpa using hx
 omega
theorem cmb_piv (hE : codeE P M mod m L=0) {p : List Int} (hp : Piv L p m) (hl : L.length=p.length) {v : List Int} (hv : ∀k,k<L.length->(tblOf P M.toNat mod).El (nth v k)) {k : Nat} (hk : k<L.length) :
  nth (cmbTo (tblOf P M.toNat mod).ops m v L L.length) (nth p k).toNat=nth v k:=by
 obtain ⟨N',e,hm1,hm64,F,hR⟩:=codeE_fld hE
 obtain rfl : m=N':=by omega
 have hpk:=hp.lt k (by omega)
 rw [cmb_dot F hR hv (by omega) _ (Nat.le_refl _)]
 have hone : ∀t,t<L.length->nth (nthR L t) (nth p k).toNat=if t=k then 1 else 0:=λt ht=>hp.one k t (by omega) ht
 have hvj:=hv k hk
 rw [dotN_one F (x:=k) (by
  show (tblOf P M.toNat mod).El ((tblOf P M.toNat mod).ops.mul (nth v k) (nth (nthR L k) (nth p k).toNat))
  rw [hone k hk,if_pos rfl,F.mone hvj];exact hvj) L.length (λq hq hqk=>by
  show (tblOf P M.toNat mod).ops.mul (nth v q) (nth (nthR L q) (nth p k).toNat)=0
  rw [hone q hq,if_neg hqk,F.mzero (hv q hq)]),if_pos hk]
 show (tblOf P M.toNat mod).ops.mul (nth v k) (nth (nthR L k) (nth p k).toNat)=_
 rw [hone k hk,if_pos rfl,F.mone hvj]
theorem zero_msg (hE : codeE P M mod m L=0) {Q : List Int} (hr : L.length<=rkQ (tblOf P M.toNat mod).ops L Q) (hQ : ∀x ∈ Q,0<=x/\x<(m : Int)) {v : List Int} (hv : ∀k,k<L.length->(tblOf P M.toNat mod).El (nth v k))
  (h0 : ∀x ∈ Q,nth (cmbTo (tblOf P M.toNat mod).ops m v L L.length) x.toNat=0) : ∀k,k<L.length->nth v k=0:=λk hk=>by
 obtain ⟨N',e,hm1,hm64,F,hR⟩:=codeE_fld hE
 obtain rfl : m=N':=by omega
 obtain ⟨p,hp,hl⟩:=code_piv hE
 obtain ⟨c1,f,hf,c2⟩:=cmb_rs F hR hv L.length (Nat.le_refl _)
 have hpk:=hp.lt k (by omega)
 rw [<- cmb_piv hE hp hl hv hk]
 have h1 : nth (cmbTo (tblOf P M.toNat mod).ops m v L L.length) (nth p k).toNat=f (colS L (nth p k).toNat):=c2 _ (by omega)
 rw [h1]
 refine full_clo hE hr hQ (x:=(nth p k).toNat) (by omega) f hf λy hy=>?_
 obtain ⟨z,hz,rfl⟩:=mem_gA.1 hy
 have h2:=hQ z hz
 have h3 : nth (cmbTo (tblOf P M.toNat mod).ops m v L L.length) z.toNat=f (colS L z.toNat):=c2 _ (by omega)
 rw [<- h3]
 exact h0 z hz
theorem chk_prov {mm W : Int} {ts : List (List Int)} (h : chkRE P M mod m L mm W ts=0) : codeE P M mod m L=0/\0<=mm/\mm<=L.length/\0<=W/\W<=m/\provS (tblOf P M.toNat mod).ops L m ⟨mm.toNat,W.toNat,false,[]⟩ ts=0:=by
 unfold chkRE at h
 by_cases h0 : rkcE P M mod m L mm W=0
 ·rw [if_pos h0,Int.toNat_natCast] at h
  unfold rkcE at h0
  by_cases hE : codeE P M mod m L=0
  ·rw [if_pos hE] at h0
   by_cases hx : mm<0\/(L.length : Int)<mm\/W<0\/(m : Int)<W
   ·rw [if_pos hx] at h0;cases h0
   ·exact ⟨hE,by omega,by omega,by omega,by omega,h⟩
  ·rw [if_neg hE] at h0;exact absurd h0 hE
 ·rw [if_neg h0] at h;exact absurd h h0
theorem rank_law {mm W : Int} {ts : List (List Int)} (h : chkRE P M mod m L mm W ts=0) {T Q : List Int} (hT : (T.length : Int)<=W) (hQ : ∀x : Int,0<=x->x<m->¬ x ∈ T->x ∈ Q) : mm<=(grS (tblOf P M.toNat mod).ops L Q).length:=by
 obtain ⟨hE,h1,h2,h3,h4,h5⟩:=chk_prov h
 obtain ⟨N',e,hm1,hm64,F,hR⟩:=codeE_fld hE
 obtain rfl : m=N':=by omega
 have h6:=prov_rank F hR rfl h5 (T:=T) (Q:=Q) (by show T.length<=W.toNat;omega) hQ
 have h7 : mm.toNat<=(grS (tblOf P M.toNat mod).ops L Q).length:=h6
 omega
theorem dist_law {d : Int} {ts : List (List Int)} (h : chkRE P M mod m L L.length (wtD m d) ts=0) {v : List Int} (hvl : v.length=L.length) (hv : ∀k,k<L.length->(tblOf P M.toNat mod).El (nth v k)) :
  wtL v=0\/d<=(wtL (cmbTo (tblOf P M.toNat mod).ops m v L L.length) : Int):=by
 obtain ⟨hE,h1,h2,h3,h4,h5⟩:=chk_prov h
 obtain ⟨N',e,hm1,hm64,F,hR⟩:=codeE_fld hE
 obtain rfl : m=N':=by omega
 obtain ⟨c1,_⟩:=cmb_rs F hR hv L.length (Nat.le_refl _)
 have hd : wtD m d=d - 1:=by
  unfold wtD at h3 ⊢
  split
  ·rename_i hh;rw [if_pos hh] at h3;omega
  ·rfl
 by_cases hw : d<=(wtL (cmbTo (tblOf P M.toNat mod).ops m v L L.length) : Int)
 ·exact .inr hw
 ·refine .inl (wtL_zero.2 λk hk=>?_)
  have hs:=supp_len c1.1
  have h6:=rank_law h (T:=supp (cmbTo (tblOf P M.toNat mod).ops m v L L.length) m) (Q:=frTo false (supp (cmbTo (tblOf P M.toNat mod).ops m v L L.length) m) m) (by omega) λx hx0 hxm hxT=>by
   exact (mem_frTo m).2 ⟨x.toNat,by omega,by omega,by rw [Int.toNat_of_nonneg hx0];simpa using hxT⟩
  refine zero_msg hE (Q:=frTo false (supp (cmbTo (tblOf P M.toNat mod).ops m v L L.length) m) m) (by unfold rkQ;omega) (λx hx=>?_) hv (λx hx=>?_) k (by omega)
  ·obtain ⟨j,hj,rfl,_⟩:=(mem_frTo m).1 hx
   omega
  ·obtain ⟨j,hj,rfl,hdj⟩:=(mem_frTo m).1 hx
   refine Classical.byContradiction λhne=>?_
   have hn : ¬ (j : Int) ∈ supp (cmbTo (tblOf P M.toNat mod).ops m v L L.length) m:=by simpa using hdj
   exact hn (mem_supp.2 ⟨j,hj,by simpa using hne,rfl⟩)
end
end

section
open Go.RowKit
theorem rFew26_any (ax : Option Addr) (nx cx : Nat) (ts : List (List Int)) (w : World) (h : Mat w ax nx ts) : Calls Tryz.prog 29 #[.agg #[.slice ax nx cx]] w (SomeBool w):=by
 have HF:=Lib.hid (λV (hV : Below w.heap.size w V)=>rFew9_any ax nx cx 20000 ts V (h.keep hV) (by omega))
 clear h
 go_enter Tryz.func29,Tryz.ntmps29
 go_wp2_with fail
 refine (HF.out _ (below1 _ _)).mono ?_
 rintro e w1 ⟨z,rfl,hb1⟩
 have hF:=Below.next (below1 w (.cells #[.slice ax nx cx] 47)) hb1
 go_wp2_with fail
 go_ret
 exact ⟨z,rfl,hF⟩
end

section
open Go.RowKit
theorem rCheck_any (P M : Int) (am : Option Addr) (mn cm : Nat) (mod : List Int) (N : Int) (a : Option Addr) (n c : Nat) (L : List (List Int)) (w : World) (hmod : Ints w am mn mod) (hi : Mat w a n L) :
  Calls Tryz.prog 22 #[.agg #[.int .i64 P,.int .i64 M,.slice am mn cm,.int .i64 N,.slice a n c]] w λe w'=>e = .returned (.int .i64 (codeE P M mod N L))/\Below w.heap.size w w':=by
 rw [<- rcodeE_eq]
 exact rCodeCheck_any P M am mn cm mod N a n c L w hmod hi hinv_all
end

end Go.Proofs.YtcfmiocdlcapoaaGreat
