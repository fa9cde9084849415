/-  -/
import Derived.Test.YtcfmiocdlcapoaaGreatK12
import Derived.Test.YtcfmiocdlcapoaaGreatMEN2
import Derived.Test.YtcfmiocdlcapoaaGreatK10
import Derived.Test.YtcfmiocdlcapoaaGreatMEN3
import Derived.Test.YtcfmiocdlcapoaaGreatK17
import Derived.Test.YtcfmiocdlcapoaaGreatK16
import Derived.Test.YtcfmiocdlcapoaaGreatK9
import Derived.Test.YtcfmiocdlcapoaaGreatMEN1
import Derived.Test.YtcfmiocdlcapoaaGreatK19
import Derived.Test.YtcfmiocdlcapoaaGreatK21
import Derived.RangeFuncSeq
import Derived.RangeFuncBox
import Derived.RangeFuncLeaves
import Derived.OwnWalkIn
import Derived.TacticsInMore
import Derived.Shelf.RegionOpen
import Derived.Test.YtcfmiocdlcapoaaGreatK4
import Derived.Test.YtcfmiocdlcapoaaGreatK22
import Derived.Test.YtcfmiocdlcapoaaGreatK25
import Derived.Test.YtcfmiocdlcapoaaGreatK26
import Derived.Test.YtcfmiocdlcapoaaGreatK28
import Derived.Test.YtcfmiocdlcapoaaGreatK29
import Derived.Test.YtcfmiocdlcapoaaGreatK31
namespace Go.Proofs.YtcfmiocdlcapoaaGreat
set_option linter.unusedVariables false
set_option linter.unusedSimpArgs false
set_option linter.unusedSectionVars false

section
set_option maxRecDepth 100000
set_option maxHeartbeats 1600000

open Go.RowKit
theorem rEntries_any (P M : Int) (am : Option Addr) (mn cm : Nat) (a : Option Addr) (n c : Nat) (l : List Int) (w : World) (hi : Ints w a n l) :
  Calls Tryz.prog 76 #[.agg #[.int .i64 P,.int .i64 M,.slice am mn cm],.slice a n c] w λe w'=>e = .returned (.int .i64 (elsE (orderS P M) l))/\Below w.heap.size w w':=by
 have Hlen:=Lib.hid hi.len
 have hpl:=hi.pl
 have hmax:=hi.max
 unfold maxLen at hmax
 go_enter Tryz.func76,Tryz.ntmps76
 go_wp2_with fail
 obtain ⟨W,hW⟩ : ∃W : World,W=w.alloc (.cells #[.int .i64 P,.int .i64 M,.slice am mn cm] 24):=⟨_,rfl⟩
 rw [<- hW]
 have hbW : Below w.heap.size w W:=by rw [hW];exact below1 _ _
 have x0 : Box W w.heap.size [.int .i64 P,.int .i64 M,.slice am mn cm]:=by rw [hW];exact Box.new _ _ _ rfl
 have hiW:=hi.keep hbW
 have hS : ∀k,k<n->∀V,Below W.heap.size W V->V.cell? ⟨w.heap.size,0,none⟩=some (.int .i64 P)/\V.cell? ⟨w.heap.size,1,none⟩=some (.int .i64 M)/\V.cell? ⟨w.heap.size,2,none⟩=some (.slice am mn cm)/\V.cell? ⟨ablk a,aoff a+k,none⟩=some (.int .i64 (nth l k))/\Below W.heap.size W V:=by
  intro k hk V hV
  have x1:=x0.keep hV
  exact ⟨x1.cell 0 rfl,x1.cell 1 rfl,x1.cell 2 rfl,(hiW.keep hV).cell k hk,hV⟩
 have HS:=Lib.hid hS
 clear hW x0 hS
 go_loopw [5] (λiv wr=>∃k : Nat,k<=n/\iv = .int .i64 k/\Hid ((l.take k).all (isQ (orderS P M))=true)/\Below W.heap.size W wr) (λiv _=>n - (intOf iv).toNat)
 case atStart=>exact ⟨0,Nat.zero_le _,rfl,by show _=_;simp,Below.refl _ _⟩
 case round =>
  obtain ⟨k,hk,rfl,hall,hbr⟩:=hrel
  by_cases hlt : k<n
  ·have HSk : Hid (∀V,Below W.heap.size W V->V.cell? ⟨w.heap.size,0,none⟩=some (.int .i64 P)/\V.cell? ⟨w.heap.size,1,none⟩=some (.int .i64 M)/\V.cell? ⟨w.heap.size,2,none⟩=some (.slice am mn cm)/\V.cell? ⟨ablk a,aoff a+k,none⟩=some (.int .i64 (nth l k))/\Below W.heap.size W V):=HS.out k hlt
   have hkl : k<l.length:=by rw [Hlen.out];exact hlt
   have Hbr:=Lib.hid hbr
   have Hq:=Lib.hid (rIs_any P M am mn cm (nth l k))
   clear hbr
   by_cases hq : isQ (orderS P M) (nth l k)=true
   ·have Hs : Hid ((l.take (k+1)).all (isQ (orderS P M))=true):=all_take_succ hkl hall.out (by rw [<- nth_getElem hkl];exact hq)
    rw [hq] at Hq
    clear hq
    go_wp2_with fail
    go_region_held3 (λV=>V.cell? ⟨w.heap.size,0,none⟩=some (.int .i64 P)/\V.cell? ⟨w.heap.size,1,none⟩=some (.int .i64 M)/\V.cell? ⟨w.heap.size,2,none⟩=some (.slice am mn cm)/\V.cell? ⟨ablk a,aoff a+k,none⟩=some (.int .i64 (nth l k))/\Below W.heap.size W V)
     ((refine HSk.out _ ?_;first | exact Hbr.out.drew | exact Below.next Hbr.out.drew hb4))
     (first | (go_at_call 145;((with_reducible refine (Hq.out _).mono ?_);rintro e w4 ⟨rfl,hb4⟩)))
    go_wp2_with fail
    go_roundw
    case rel=>exact ⟨k+1,by omega,by go_num,Hs.out,Below.next Hbr.out.drew hb4⟩
    case measure=>simp [intOf] <;> omega
   ·have hq' : isQ (orderS P M) (nth l k)=false:=by simpa using hq
    have Hs : Hid (elsE (orderS P M) l=2):=by show _=_;rw [elsE,elsQ,all_false_at hkl (by rw [<- nth_getElem hkl];exact hq')];rfl
    rw [hq'] at Hq
    clear hq hq'
    go_wp2_with fail
    go_region_held3 (λV=>V.cell? ⟨w.heap.size,0,none⟩=some (.int .i64 P)/\V.cell? ⟨w.heap.size,1,none⟩=some (.int .i64 M)/\V.cell? ⟨w.heap.size,2,none⟩=some (.slice am mn cm)/\V.cell? ⟨ablk a,aoff a+k,none⟩=some (.int .i64 (nth l k))/\Below W.heap.size W V)
     ((refine HSk.out _ ?_;first | exact Hbr.out.drew | exact Below.next Hbr.out.drew hb4))
     (first | (go_at_call 145;((with_reducible refine (Hq.out _).mono ?_);rintro e w4 ⟨rfl,hb4⟩)))
    go_wp2_with fail
    go_ret
    exact ⟨ret_int Hs.out.symm,Below.next hbW (Below.next Hbr.out.drew hb4)⟩
  ·obtain rfl : k=n:=by omega
   have Hs : Hid (elsE (orderS P M) l=0):=by
    have:=hall.out
    rw [List.take_of_length_le (by rw [Hlen.out];exact Nat.le_refl _)] at this
    show _=_;rw [elsE,elsQ,this];rfl
   go_wp2_with fail
   go_ret
   exact ⟨ret_int Hs.out.symm,Below.next hbW hbr⟩
end

section
set_option maxRecDepth 100000
set_option maxHeartbeats 4000000

open Go.RowKit
def rmatE (P M : Int) (mod : List Int) (cols : Int) (L : List (List Int)) : Int:=if fieldRB P M mod=true then matE (orderS P M) cols L else 1
theorem rMatCheck_any (P M : Int) (am : Option Addr) (mn cm : Nat) (mod : List Int) (cols : Int) (a : Option Addr) (n c : Nat) (L : List (List Int)) (w : World) (hmod : Ints w am mn mod) (hi : Mat w a n L) :
  Calls Tryz.prog 119 #[.agg #[.int .i64 P,.int .i64 M,.slice am mn cm],.agg #[.int .i64 cols,.slice a n c]] w λe w'=>e = .returned (.int .i64 (rmatE P M mod cols L))/\Below w.heap.size w w':=by
 have Hlen:=Lib.hid hi.len
 have hpl:=hi.pl
 have hmax:=hi.max
 unfold maxLen at hmax
 go_enter Tryz.func119,Tryz.ntmps119
 go_wp2_with fail
 obtain ⟨W,hW⟩ : ∃W : World,W=(w.alloc (.cells #[.int .i64 P,.int .i64 M,.slice am mn cm] 24)).alloc (.cells #[.int .i64 cols,.slice a n c] 82):=⟨_,rfl⟩
 rw [<- hW]
 have hbW : Below w.heap.size w W:=by rw [hW];exact below2 _ _ _
 have x0 : Box W w.heap.size [.int .i64 P,.int .i64 M,.slice am mn cm]:=by rw [hW];exact (Box.new _ _ _ rfl).alloc _
 have y0 : Box W (w.heap.size+1) [.int .i64 cols,.slice a n c]:=by rw [hW];exact Box.new _ _ _ (by simp)
 have hS : ∀V,Below W.heap.size W V->V.cell? ⟨w.heap.size,0,none⟩=some (.int .i64 P)/\V.cell? ⟨w.heap.size,1,none⟩=some (.int .i64 M)/\V.cell? ⟨w.heap.size,2,none⟩=some (.slice am mn cm) /\
   V.cell? ⟨w.heap.size+1,0,none⟩=some (.int .i64 cols)/\V.cell? ⟨w.heap.size+1,1,none⟩=some (.slice a n c)/\Below W.heap.size W V:=by
  intro V hV
  have x1:=x0.keep hV
  have y1:=y0.keep hV
  exact ⟨x1.cell 0 rfl,x1.cell 1 rfl,x1.cell 2 rfl,y1.cell 0 rfl,y1.cell 1 rfl,hV⟩
 have HS:=Lib.hid hS
 have hiW:=hi.keep hbW
 clear hW x0 y0 hS
 refine (rFieldCheck_any P M am mn cm mod W (hmod.keep hbW)).mono ?_
 rintro e w1 ⟨rfl,hb1⟩
 have hbw1:=Below.next hbW hb1
 by_cases hB : fieldRB P M mod=true
 ·have HB : Hid (rmatE P M mod cols L=matE (orderS P M) cols L):=by show _=_;rw [rmatE,if_pos hB]
  have hE : errField (fieldRB P M mod)=0:=by rw [hB];rfl
  rw [hE]
  obtain ⟨q,hq⟩ : ∃q,orderS P M=q:=⟨_,rfl⟩
  have Hq:=Lib.hid hq
  rw [hq] at HB
  obtain ⟨d0,d1,d2,d3,d4,_⟩:=HS.out w1 hb1
  clear hB hE hq
  by_cases b1 : cols<0
  ·have Hf : Hid (rmatE P M mod cols L=3):=by show _=_;rw [HB.out,matE,if_pos (.inl b1)]
   have t1 : decide (cols<0)=true:=by simpa using b1
   go_wp2_with fail
   go_ret
   exact ⟨ret_int Hf.out.symm,hbw1⟩
  have t1 : decide (cols<0)=false:=by simpa using b1
  by_cases b2 : 256<cols
  ·have Hf : Hid (rmatE P M mod cols L=3):=by show _=_;rw [HB.out,matE,if_pos (.inr (.inl b2))]
   have t2 : decide (256<cols)=true:=by simpa using b2
   go_wp2_with fail
   go_ret
   exact ⟨ret_int Hf.out.symm,hbw1⟩
  have t2 : decide (256<cols)=false:=by simpa using b2
  by_cases b3 : 256<n
  ·have Hf : Hid (rmatE P M mod cols L=3):=by show _=_;rw [HB.out,matE,if_pos (.inr (.inr (by rw [Hlen.out];exact b3)))]
   have t3 : decide (256<(n : Int))=true:=by simp;omega
   go_wp2_with fail
   go_ret
   exact ⟨ret_int Hf.out.symm,hbw1⟩
  have t3 : decide (256<(n : Int))=false:=by simp;omega
  have Hm : Hid (rmatE P M mod cols L=if shapeQ cols L=false then 3 else if L.all (elsQ q) then 0 else 2):=by
   show _=_;rw [HB.out,matE,if_neg (by rw [Hlen.out];omega)]
  have hi1:=hiW.keep hb1
  clear b1 b2
  go_wp2_with fail
  go_loopw [6] (λiv wr=>∃k : Nat,k<=n/\iv = .int .i64 k/\Hid ((L.take k).all (λr=>decide ((r.length : Int)=cols))=true)/\Drawn w1 wr) (λiv _=>n - (intOf iv).toNat)
  case atStart=>exact ⟨0,Nat.zero_le _,rfl,by show _=_;simp,Drawn.refl _⟩
  case round =>
   obtain ⟨k,hk,rfl,hall,hd⟩:=hrel
   have hir:=hi1.drawn hd
   have e3:=hd.cell d3
   have e4:=hd.cell d4
   by_cases hlt : k<n
   ·obtain ⟨ra,rn,rc,hcell,hrow⟩:=hir.cell k hlt
    have hkL : k<L.length:=by rw [Hlen.out];exact hlt
    have hrl:=hrow.len
    rw [nthR_getElem hkL] at hrl
    have Hrl:=Lib.hid hrl
    clear hrl
    by_cases he : (rn : Int)=cols
    ·have he' : ((rn : Int) != cols)=false:=by simpa using he
     have Hs : Hid ((L.take (k+1)).all (λr=>decide ((r.length : Int)=cols))=true):=all_take_succ hkL hall.out (by rw [Hrl.out];simpa using he)
     clear he
     go_wp2_with fail
     go_quiet (fail)
     go_wp2
     go_roundw
     case rel=>exact ⟨k+1,by omega,by go_num,Hs.out,hd.drewN _⟩
     case measure=>simp [intOf] <;> omega
    ·have he' : ((rn : Int) != cols)=true:=by simpa using he
     have Hs : Hid (rmatE P M mod cols L=3):=by
      show _=_;rw [Hm.out,if_pos]
      exact all_false_at hkL (by simp only [Hrl.out];simpa using he)
     clear he
     go_wp2_with fail
     go_quiet (fail)
     go_wp2
     go_ret
     exact ⟨ret_int Hs.out.symm,Below.next hbw1 (hd.drewN _).below⟩
   ·obtain rfl : k=n:=by omega
    have Hm2 : Hid (rmatE P M mod cols L=if L.all (elsQ q) then 0 else 2):=by
     have:=hall.out;rw [List.take_of_length_le (by rw [Hlen.out];exact Nat.le_refl _)] at this
     show _=_;rw [Hm.out,if_neg (by rw [shapeQ,this];simp)]
    have hbr : Below W.heap.size W wr:=Below.next hb1 hd.below
    have hir2:=hir
    clear d0 d1 d2 d3 d4 hall
    go_wp2_with fail
    clear e3 e4
    go_loopw [7] (λiv wx=>∃j : Nat,j<=k/\iv = .int .i64 j/\Hid ((L.take j).all (elsQ q)=true)/\Below W.heap.size W wx) (λiv _=>k - (intOf iv).toNat)
    case atStart=>exact ⟨0,Nat.zero_le _,rfl,by show _=_;simp,hbr⟩
    case round =>
     obtain ⟨j,hj,rfl,hall2,hbx⟩:=hrel
     obtain ⟨d0,d1,d2,d3,d4,_⟩:=HS.out _ hbx
     by_cases hlt : j<k
     ·have hiX:=hiW.keep hbx
      obtain ⟨ra,rn,rc,hcell,hrow⟩:=hiX.cell j hlt
      have hjL : j<L.length:=by rw [Hlen.out];exact hlt
      have HC:=Lib.hid (rEntries_any P M am mn cm ra rn rc (nthR L j) _ (hrow.keep (Below.refl _ _).drew))
      have hSj : ∀V,Below wr.heap.size wr V->V.cell? ⟨w.heap.size,0,none⟩=some (.int .i64 P)/\V.cell? ⟨w.heap.size,1,none⟩=some (.int .i64 M)/\V.cell? ⟨w.heap.size,2,none⟩=some (.slice am mn cm) /\
        V.cell? ⟨w.heap.size+1,1,none⟩=some (.slice a k c)/\V.cell? ⟨ablk a,aoff a+j,none⟩=some (.slice ra rn rc):=λV hV=>by
       obtain ⟨f0,f1,f2,f3,f4,_⟩:=HS.out V (Below.next hbx hV)
       exact ⟨f0,f1,f2,f4,cell_keep hV hcell⟩
      have HSj:=Lib.hid hSj
      have Hbx:=Lib.hid hbx
      rw [Hq.out] at HC
      clear hSj hbx
      by_cases he : elsQ q (nthR L j)=true
      ·have he2 : elsE q (nthR L j)=0:=by rw [elsE,he];rfl
       rw [he2] at HC
       rw [nthR_getElem hjL] at he
       have Hs : Hid ((L.take (j+1)).all (elsQ q)=true):=all_take_succ hjL hall2.out he
       clear he he2
       go_wp2_with fail
       go_region_held3 (λV=>V.cell? ⟨w.heap.size,0,none⟩=some (.int .i64 P)/\V.cell? ⟨w.heap.size,1,none⟩=some (.int .i64 M)/\V.cell? ⟨w.heap.size,2,none⟩=some (.slice am mn cm) /\
         V.cell? ⟨w.heap.size+1,1,none⟩=some (.slice a k c)/\V.cell? ⟨ablk a,aoff a+j,none⟩=some (.slice ra rn rc))
        ((refine HSj.out _ ?_;first | exact (Below.refl _ _).drew | exact Below.next (Below.refl _ _).drew hb4))
        (first | (go_at_call 76;((with_reducible refine HC.out.mono ?_);rintro e w4 ⟨rfl,hb4⟩)))
       go_wp2_with fail
       go_roundw
       case rel=>exact ⟨j+1,by omega,by go_num,Hs.out,Below.next Hbx.out (Below.next (Below.refl _ _).drew hb4)⟩
       case measure=>simp [intOf] <;> omega
      ·have he2 : elsE q (nthR L j)=2:=by rw [elsE,if_neg he]
       rw [he2] at HC
       rw [nthR_getElem hjL] at he
       have Hs : Hid (rmatE P M mod cols L=2):=by
        show _=_;rw [Hm2.out,all_false_at hjL (by simpa using he)];rfl
       clear he he2
       go_wp2_with fail
       go_region_held3 (λV=>V.cell? ⟨w.heap.size,0,none⟩=some (.int .i64 P)/\V.cell? ⟨w.heap.size,1,none⟩=some (.int .i64 M)/\V.cell? ⟨w.heap.size,2,none⟩=some (.slice am mn cm) /\
         V.cell? ⟨w.heap.size+1,1,none⟩=some (.slice a k c)/\V.cell? ⟨ablk a,aoff a+j,none⟩=some (.slice ra rn rc))
        ((refine HSj.out _ ?_;first | exact (Below.refl _ _).drew | exact Below.next (Below.refl _ _).drew hb4))
        (first | (go_at_call 76;((with_reducible refine HC.out.mono ?_);rintro e w4 ⟨rfl,hb4⟩)))
       go_wp2_with fail
       go_ret
       exact ⟨ret_int Hs.out.symm,Below.next hbW (Below.next Hbx.out (Below.next (Below.refl _ _).drew hb4))⟩
     ·obtain rfl : j=k:=by omega
      have Hs : Hid (rmatE P M mod cols L=0):=by
       have:=hall2.out;rw [List.take_of_length_le (by rw [Hlen.out];exact Nat.le_refl _)] at this
       show _=_;rw [Hm2.out,this];rfl
      go_wp2_with fail
      go_ret
      exact ⟨ret_int Hs.out.symm,Below.next hbW hbx⟩
 ·have hB' : fieldRB P M mod=false:=by simpa using hB
  have Hf : Hid (rmatE P M mod cols L=1):=by show _=_;rw [rmatE,if_neg hB]
  have hE : errField (fieldRB P M mod)=1:=by rw [hB'];rfl
  rw [hE]
  clear hB hB' hE
  go_wp2_with fail
  go_ret
  exact ⟨ret_int Hf.out.symm,hbw1⟩
end

section
set_option maxRecDepth 100000
set_option maxHeartbeats 1600000

open Go.RowKit
def canR (O : FOps) (L : List (List Int)) (cols : Nat) : List (List Int):=(elimTo O L cols).1.take (elimTo O L cols).2.length
def RCanonPost (O : FOps) (L : List (List Int)) (cols : Nat) (w : World) (e : Ending) (w' : World) : Prop :=
 ∃a c ap cp,e = .returned (.tuple #[.slice a (elimTo O L cols).2.length c,.slice ap (elimTo O L cols).2.length cp])/\MatN w.heap.size w' a (elimTo O L cols).2.length (canR O L cols) /\
  IntsN w.heap.size w' ap (elimTo O L cols).2.length (elimTo O L cols).2/\Below w.heap.size w w'
theorem rCanon_any (P : Int) (m : Nat) (am : Option Addr) (mn cm : Nat) (mod : List Int) (a : Option Addr) (n c cols : Nat) (L : List (List Int)) (w : World) (hf : RFld w P m am mn mod) (hi : Mat w a n L)
  (hR : Rws (ElP P m) cols L) (hlen : cols<=1000000) (hn : n<=1000000) (hinv : ∀p,ElP P m p->p ≠ 0->(invR P m mod p=1 ↔ p=1)) :
  Calls Tryz.prog 120 #[.agg #[.int .i64 P,.int .i64 m,.slice am mn cm],.slice a n c,.int .i64 cols] w (RCanonPost (rops P m mod) L cols w):=by
 have Hlen:=Lib.hid hi.len
 have Hc : Hid (∀V,Below w.heap.size w V->Calls Tryz.prog 183 #[.agg #[.int .i64 P,.int .i64 m,.slice am mn cm],.slice a n c,.int .i64 cols] V (RElimPost (rops P m mod) L cols V)) :=
  λV hV=>rElim_any P m am mn cm mod a n c cols cols L V (hf.keep hV) (hi.keep hV) hR (Nat.le_refl _) hlen hn hinv
 obtain ⟨O,hO⟩ : ∃O,rops P m mod=O:=⟨_,rfl⟩
 rw [hO] at Hc ⊢
 clear hO hinv hR
 go_enter Tryz.func120,Tryz.ntmps120
 go_wp2_with fail
 obtain ⟨W,hW⟩ : ∃W : World,W=w.alloc (.cells #[.int .i64 P,.int .i64 m,.slice am mn cm] 24):=⟨_,rfl⟩
 rw [<- hW]
 have hbW : Below w.heap.size w W:=by rw [hW];exact below1 _ _
 clear hW
 refine (Hc.out W hbW).mono ?_
 rintro e w1 ⟨a1,c1,R1,ap,cp,rfl,hO1,hp1,hb1⟩
 have hpl:=elimTo_piv O L cols
 have hcap:=own_cap hO1.own
 have hpv:=(IntsN.own hp1).mono hbW.size
 have hmt:=((MatN.own hO1).take (k:=(elimTo O L cols).2.length) hpl.2).mono hbW.size
 have hF : RCanonPost O L cols w (.returned (.tuple #[.slice a1 (elimTo O L cols).2.length c1,.slice ap (elimTo O L cols).2.length cp])) w1:=⟨a1,_,ap,cp,rfl,hmt,hpv,Below.next hbW hb1⟩
 have HF:=Lib.hid hF
 have hle : (elimTo O L cols).2.length<=c1:=Nat.le_trans hpl.2 hcap
 clear hF hpv hmt hp1 hcap hpl
 generalize (elimTo O L cols).2.length=k at *
 go_wp2_with fail
 go_ret2
 simpa using HF.out
def rspaceE (P M : Int) (mod : List Int) (cols : Int) (L : List (List Int)) : Int :=
 if rmatE P M mod cols L=0 then (if canR (rops P M.toNat mod) L cols.toNat=L then 0 else 5) else rmatE P M mod cols L
theorem rmatE_zero {P M : Int} {mod : List Int} {cols : Int} {L : List (List Int)} (h : rmatE P M mod cols L=0) : fieldRB P M mod=true/\matE (orderS P M) cols L=0:=by
 unfold rmatE at h
 split at h
 ·rename_i h1;exact ⟨h1,h⟩
 ·omega
theorem rSpaceCheck_any (P M : Int) (am : Option Addr) (mn cm : Nat) (mod : List Int) (cols : Int) (a : Option Addr) (n c : Nat) (L : List (List Int)) (w : World) (hmod : Ints w am mn mod) (hi : Mat w a n L)
  (hinv : fieldRB P M mod=true->∀p,ElP P M.toNat p->p ≠ 0->(invR P M.toNat mod p=1 ↔ p=1)) :
  Calls Tryz.prog 58 #[.agg #[.int .i64 P,.int .i64 M,.slice am mn cm],.agg #[.int .i64 cols,.slice a n c]] w λe w'=>e = .returned (.int .i64 (rspaceE P M mod cols L))/\Below w.heap.size w w':=by
 have Hlen:=Lib.hid hi.len
 have Hinv:=Lib.hid hinv
 clear hinv
 go_enter Tryz.func58,Tryz.ntmps58
 go_wp2_with fail
 obtain ⟨W,hW⟩ : ∃W : World,W=(w.alloc (.cells #[.int .i64 P,.int .i64 M,.slice am mn cm] 24)).alloc (.cells #[.int .i64 cols,.slice a n c] 82):=⟨_,rfl⟩
 rw [<- hW]
 have hbW : Below w.heap.size w W:=by rw [hW];exact below2 _ _ _
 have x0 : Box W w.heap.size [.int .i64 P,.int .i64 M,.slice am mn cm]:=by rw [hW];exact (Box.new _ _ _ rfl).alloc _
 have y0 : Box W (w.heap.size+1) [.int .i64 cols,.slice a n c]:=by rw [hW];exact Box.new _ _ _ (by simp)
 have HX:=Lib.hid (And.intro x0 y0)
 have hiW:=hi.keep hbW
 have hmW:=hmod.keep hbW
 clear hW x0 y0
 refine (rMatCheck_any P M am mn cm mod cols a n c L W hmW hiW).mono ?_
 rintro e w1 ⟨rfl,hb1⟩
 have hbw1:=Below.next hbW hb1
 by_cases hE : rmatE P M mod cols L=0
 ·obtain ⟨hB,hm⟩:=rmatE_zero hE
  obtain ⟨m,rfl,hrf,hmods⟩:=fieldRB_rf hB
  obtain ⟨k,rfl,hk,hl,hR⟩:=matE_zero hm
  have HE : Hid (rspaceE P m mod k L=if canR (rops P m mod) L k=L then 0 else 5):=by show _=_;rw [rspaceE,if_pos hE,Int.toNat_natCast,Int.toNat_natCast]
  rw [hE]
  have hinv:=Hinv.out hB
  rw [Int.toNat_natCast] at hinv
  have hRw : Rws (ElP P m) k L:=λr hr=>⟨(hR r hr).1,λx hx=>by have:=(hR r hr).2 x hx;rw [hrf.order] at this;exact this⟩
  have x1:=HX.out.1.keep hb1
  have y1:=HX.out.2.keep hb1
  have d0:=x1.cell 0 rfl
  have d1:=x1.cell 1 rfl
  have d2:=x1.cell 2 rfl
  have d3:=y1.cell 0 rfl
  have d4:=y1.cell 1 rfl
  have hm1:=hmW.keep hb1
  have hi1:=hiW.keep hb1
  have hn : n<=1000000:=by rw [<- Hlen.out];omega
  have HC:=Lib.hid (rCanon_any P m am mn cm mod a n c k L w1 ⟨hrf,hmods w1 am mn hm1⟩ hi1 hRw (by omega) hn hinv)
  clear hE hB hm hmods hR hinv hRw x1 y1
  obtain ⟨O,hO⟩ : ∃O,rops P m mod=O:=⟨_,rfl⟩
  rw [hO] at HC HE
  clear hO
  go_wp2_with fail
  refine HC.out.mono ?_
  rintro e w2 ⟨a2,c2,ap,cp,rfl,hM2,hp2,hb2⟩
  have hbw2:=Below.next hbw1 hb2
  have y2:=(HX.out.2.keep hb1).keep hb2
  have d3:=y2.cell 0 rfl
  have d4:=y2.cell 1 rfl
  have hi2:=hi1.keep hb2
  have hM3:=hM2.mat
  have HS:=Lib.hid (rSameRows_any a2 (elimTo O L k).2.length c2 (canR O L k) a n c L hM3 hi2)
  clear hM2 hp2 y2
  generalize (elimTo O L k).2.length=kk at *
  by_cases hc : canR O L k=L
  ·have hc' : decide (canR O L k=L)=true:=by simpa using hc
   have HF : Hid (rspaceE P m mod k L=0):=by show _=_;rw [HE.out,if_pos hc]
   rw [hc'] at HS
   clear hc hc'
   go_wp2_with fail
   refine HS.out.mono ?_
   rintro e w3 ⟨rfl,hd3⟩
   go_wp2_with fail
   go_ret
   exact ⟨ret_int HF.out.symm,Below.next hbw2 hd3.below⟩
  ·have hc' : decide (canR O L k=L)=false:=by simpa using hc
   have HF : Hid (rspaceE P m mod k L=5):=by show _=_;rw [HE.out,if_neg hc]
   rw [hc'] at HS
   clear hc hc'
   go_wp2_with fail
   refine HS.out.mono ?_
   rintro e w3 ⟨rfl,hd3⟩
   go_wp2_with fail
   go_ret
   exact ⟨ret_int HF.out.symm,Below.next hbw2 hd3.below⟩
 ·have HE : Hid (rspaceE P M mod cols L=rmatE P M mod cols L):=by show _=_;rw [rspaceE,if_neg hE]
  have hE' : (rmatE P M mod cols L != 0)=true:=by simpa using hE
  clear hE
  go_wp2_with fail
  go_ret
  exact ⟨ret_int HE.out.symm,hbw1⟩
theorem lenE_lo {N : Int} (h : N<1) : lenE N=4:=by rw [lenE,if_pos (.inl h)]
theorem lenE_hi {N : Int} (h : 64<N) : lenE N=4:=by rw [lenE,if_pos (.inr h)]
theorem lenE_in {N : Int} (h1 : ¬ N<1) (h2 : ¬ 64<N) : lenE N=0:=by rw [lenE,if_neg (by omega)]
def rcodeE (P M : Int) (mod : List Int) (N : Int) (L : List (List Int)) : Int :=
 if fieldRB P M mod=true then (if lenE N=0 then rspaceE P M mod N L else 4) else 1
theorem rCodeCheck_any (P M : Int) (am : Option Addr) (mn cm : Nat) (mod : List Int) (N : Int) (a : Option Addr) (n c : Nat) (L : List (List Int)) (w : World) (hmod : Ints w am mn mod) (hi : Mat w a n L)
  (hinv : fieldRB P M mod=true->∀p,ElP P M.toNat p->p ≠ 0->(invR P M.toNat mod p=1 ↔ p=1)) :
  Calls Tryz.prog 22 #[.agg #[.int .i64 P,.int .i64 M,.slice am mn cm,.int .i64 N,.slice a n c]] w λe w'=>e = .returned (.int .i64 (rcodeE P M mod N L))/\Below w.heap.size w w':=by
 have Hinv:=Lib.hid hinv
 clear hinv
 go_enter Tryz.func22,Tryz.ntmps22
 go_wp2_with fail
 obtain ⟨W,hW⟩ : ∃W : World,W=w.alloc (.cells #[.int .i64 P,.int .i64 M,.slice am mn cm,.int .i64 N,.slice a n c] 27):=⟨_,rfl⟩
 rw [<- hW]
 have hbW : Below w.heap.size w W:=by rw [hW];exact below1 _ _
 have x0 : Box W w.heap.size [.int .i64 P,.int .i64 M,.slice am mn cm,.int .i64 N,.slice a n c]:=by rw [hW];exact Box.new _ _ _ rfl
 have HX:=Lib.hid x0
 clear hW x0
 refine (rFieldCheck_any P M am mn cm mod W (hmod.keep hbW)).mono ?_
 rintro e w1 ⟨rfl,hb1⟩
 have hbw1:=Below.next hbW hb1
 by_cases hB : fieldRB P M mod=true
 ·have hE : errField (fieldRB P M mod)=0:=by rw [hB];rfl
  rw [hE]
  have HB : Hid (rcodeE P M mod N L=if lenE N=0 then rspaceE P M mod N L else 4):=by show _=_;rw [rcodeE,if_pos hB]
  have x1:=HX.out.keep hb1
  have c0:=x1.cell 0 rfl
  have c1:=x1.cell 1 rfl
  have c2:=x1.cell 2 rfl
  have c3:=x1.cell 3 rfl
  have c4:=x1.cell 4 rfl
  have hm1:=(hmod.keep hbW).keep hb1
  have hi1:=(hi.keep hbW).keep hb1
  clear hE hB x1
  by_cases h1 : N<1
  ·have Hf : Hid (rcodeE P M mod N L=4):=by show _=_;rw [HB.out,lenE_lo h1];rfl
   have t1 : decide (N<1)=true:=by simpa using h1
   go_wp2_with fail
   go_ret
   exact ⟨ret_int Hf.out.symm,hbw1⟩
  ·have t1 : decide (N<1)=false:=by simpa using h1
   by_cases h2 : 64<N
   ·have Hf : Hid (rcodeE P M mod N L=4):=by show _=_;rw [HB.out,lenE_hi h2];rfl
    have t2 : decide (64<N)=true:=by simpa using h2
    go_wp2_with fail
    go_ret
    exact ⟨ret_int Hf.out.symm,hbw1⟩
   ·have t2 : decide (64<N)=false:=by simpa using h2
    have Hf : Hid (rcodeE P M mod N L=rspaceE P M mod N L):=by show _=_;rw [HB.out,lenE_in h1 h2,if_pos rfl]
    clear h1 h2
    go_wp2_with fail
    refine (rSpaceCheck_any P M am mn cm mod N a n c L w1 hm1 hi1 Hinv.out).mono ?_
    rintro e w2 ⟨rfl,hb2⟩
    go_wp2_with fail
    go_ret
    exact ⟨ret_int Hf.out.symm,Below.next hbw1 hb2⟩
 ·have hB' : fieldRB P M mod=false:=by simpa using hB
  have Hf : Hid (rcodeE P M mod N L=1):=by show _=_;rw [rcodeE,if_neg hB]
  have hE : errField (fieldRB P M mod)=1:=by rw [hB'];rfl
  rw [hE]
  clear hB hB' hE
  go_wp2_with fail
  go_ret
  exact ⟨ret_int Hf.out.symm,hbw1⟩
end

section
theorem hinv_all {P M : Int} {mod : List Int} (h : fieldRB P M mod=true) : ∀p,ElP P M.toNat p->p ≠ 0->(invR P M.toNat mod p=1 ↔ p=1):=by
 obtain ⟨m,rfl,_,_,_,_,h6⟩:=eq_ops (by rw [<- fieldRB_eq];exact h)
 exact h6
theorem rmatE_eq (P M : Int) (mod : List Int) (cols : Int) (L : List (List Int)) : rmatE P M mod cols L=fmatE P M mod cols L:=by
 unfold rmatE fmatE
 rw [fieldRB_eq]
 split
 ·rename_i h
  obtain ⟨m,rfl,_,hq,_⟩:=eq_ops h
  rw [Int.toNat_natCast,hq]
 ·rfl
theorem canR_eq {P M : Int} {mod : List Int} (h : fieldB P M mod=true) {L : List (List Int)} {m : Nat} (hL : Rws (tblOf P M.toNat mod).El m L) : canR (rops P M.toNat mod) L m=canS (tblOf P M.toNat mod) L m:=by
 obtain ⟨k,rfl,he,_,hF,hA,_⟩:=eq_ops h
 rw [Int.toNat_natCast] at hL ⊢
 rw [<- he] at hL
 unfold canR canS
 rw [(elimTo_agr hA hF.cl hL m (Nat.le_refl _)).1]
theorem rspaceE_eq (P M : Int) (mod : List Int) (cols : Int) (L : List (List Int)) : rspaceE P M mod cols L=spaceE P M mod cols L:=by
 unfold rspaceE spaceE
 rw [rmatE_eq]
 split
 ·rename_i h0
  obtain ⟨h1,h2⟩:=fmatE_zero h0
  obtain ⟨m,rfl,_,_,hR⟩:=matE_zero h2
  rw [Int.toNat_natCast,canR_eq h1 hR]
 ·rfl
theorem rcodeE_eq (P M : Int) (mod : List Int) (N : Int) (L : List (List Int)) : rcodeE P M mod N L=codeE P M mod N L:=by
 unfold rcodeE codeE
 rw [fieldRB_eq,rspaceE_eq]
end

section
def wlkS (O : FOps) (q : Nat) : List (List Int)->List Int->List (List Int)
 | [],u=>[u]
 | r :: L,u=>(List.range q).flatMap λ(a : Nat)=>wlkS O q L (addS O u a r)
def wlkTo (O : FOps) (q : Nat) (r : List Int) (L : List (List Int)) (u : List Int) (a : Nat) : List (List Int):=(List.range a).flatMap λ(i : Nat)=>wlkS O q L (addS O u i r)
theorem wlkTo_succ (O : FOps) (q : Nat) (r : List Int) (L : List (List Int)) (u : List Int) (a : Nat) : wlkTo O q r L u (a+1)=wlkTo O q r L u a ++ wlkS O q L (addS O u a r):=by
 unfold wlkTo
 rw [List.range_succ,List.flatMap_append,List.flatMap_singleton]
theorem wlkS_length (O : FOps) (q : Nat) : ∀(L : List (List Int)) (u : List Int),(wlkS O q L u).length=q ^ L.length
 | [],u=>by simp [wlkS]
 | r :: L,u=>by
  rw [wlkS,List.length_flatMap]
  have h : (List.range q).map (λ(a : Nat)=>(wlkS O q L (addS O u a r)).length)=(List.range q).map λ_=>q ^ L.length:=List.map_congr_left λa _=>wlkS_length O q L _
  rw [h,List.map_const',List.sum_replicate_nat,List.length_range,List.length_cons,Nat.pow_succ,Nat.mul_comm]
theorem wlkTo_length (O : FOps) (q : Nat) (r : List Int) (L : List (List Int)) (u : List Int) (a : Nat) : (wlkTo O q r L u a).length=a * q ^ L.length:=by
 unfold wlkTo
 rw [List.length_flatMap]
 have h : (List.range a).map (λ(i : Nat)=>(wlkS O q L (addS O u i r)).length)=(List.range a).map λ_=>q ^ L.length:=List.map_congr_left λi _=>wlkS_length O q L _
 rw [h,List.map_const',List.sum_replicate_nat,List.length_range]
end

section
set_option maxRecDepth 100000
set_option maxHeartbeats 4000000

open Go.RowKit Go.Shelf
def AtQ (V : World) (B i : Nat) : Prop:=V.cell? ⟨B,0,none⟩=some (.int .i64 i)/\V.frozen? ⟨B,0,none⟩=false
theorem AtQ.of_block {V V' : World} {B i : Nat} (h : AtQ V B i) (hb : V'.heap[B]? = V.heap[B]?) : AtQ V' B i :=
 ⟨(World.cell?_of_block (w:=V) (a:=⟨B,0,none⟩) hb).trans h.1,(World.frozen?_of_block (w:=V) (a:=⟨B,0,none⟩) hb).trans h.2⟩
theorem AtQ.keep {V V' : World} {B i : Nat} (h : AtQ V B i) (hb : Below V.heap.size V V') : AtQ V' B i:=h.of_block (hb.block _ (World.block_lt_of_cell? _ _ h.1))
attribute [local go_sem] Oper.semAt_some
def YOk (l n : Nat) (J : List WX->World->Prop) (M : Nat->Prop) (m : Nat) (pre : List WX) (x : WX) (V : World) : Prop :=
 YieldAt Fence.wide m Tryz.prog l #[.int .i64 (pre.length : Nat),.slice x.a n x.c] V λe V'=>e = .returned (.bool true)/\J (pre ++ [x]) V'/\Moves V V' M M
theorem Moves.setAt (w : World) {I : Nat->Prop} {B : Nat} (hB : I B) (v : Value) : Moves w (w.setCell ⟨B,0,none⟩ v) I I:=by
 have hb0 : Below 0 w (w.setCell ⟨B,0,none⟩ v):=(Below.refl 0 w).setCell (Nat.zero_le _) v
 exact ⟨hb0.os,hb0.tape,hb0.output,hb0.size,λb hb hI=>Below.heap_setCell _ _ _ _ λe=>hI (e ▸ hB),λb hb=>.inl hb⟩
theorem fromLeaf_any {W0 : World} {b : Nat} {G : Tbl} {Bc Bat By Bg Bf l : Nat} {ag : Option Addr} {k cg n : Nat} {L : List (List Int)} {I : Nat->Prop}
  (J : List WX->World->Prop) (M : Nat->Prop) (hMI : ∀x,M x->I x) (hIB : I Bat) (hMB : ¬ M Bat) (hIl : ∀x,I x->x<W0.heap.size)
  (HE : ∀V,Moves W0 V I I->WEnv V b G Bc Bat By Bg Bf l ag k cg L)
  (hJa : ∀pre V V',J pre V->Below V.heap.size V V'->J pre V')
  (hJb : ∀pre V v,(∀x ∈ pre,ablk x.a ≠ Bat)->J pre V->J pre (V.setCell ⟨Bat,0,none⟩ v))
  (N : Nat)
  (hY : ∀m pre x V,Moves W0 V I I->J pre V->pre.length<N->Ints V x.a n x.l->(∀j,I j->j ≠ ablk x.a)->YOk l n J M m pre x V)
  (hN : N<=1000000) (hn : n<=1000000) (hn1 : 1<=n)
  (au : Option Addr) (cu : Nat) (u : List Int) (pre : List WX) (W : World) (hW : Moves W0 W I I) (hJ : J pre W) (hp : ∀x ∈ pre,ablk x.a ≠ Bat)
  (hat0 : AtQ W Bat pre.length) (hu : Ints W au n u) (hau : ∀j,I j->j ≠ ablk au) (hlt : pre.length<N) :
  Calls Tryz.prog 151 #[.int .i64 k,.slice au n cu,.pointer (some ⟨Bc,0,none⟩),.pointer (some ⟨Bat,0,none⟩),.pointer (some ⟨By,0,none⟩),.pointer (some ⟨Bg,0,none⟩),.pointer (some ⟨Bf,0,none⟩)] W
   λe V=>e = .returned (.bool true)/\∃xs : List WX,xs.map WX.l=[u]/\J (pre ++ xs) V/\(∀x ∈ pre ++ xs,ablk x.a ≠ Bat)/\AtQ V Bat (pre ++ xs).length/\Moves W V I I:=by
 obtain rfl : u.length=n:=hu.len
 have E:=HE W hW
 obtain ⟨cgen,hmat,cyl,cgp,hgf,cfr,hltB⟩:=E
 have hat:=hat0.1
 have hfz:=hat0.2
 clear hmat cgp hgf cfr
 have HHE:=Lib.hid HE
 have HJa:=Lib.hid hJa
 have HJb:=Lib.hid hJb
 have HY:=Lib.hid hY
 have Hau:=Lib.hid hau
 have Hp:=Lib.hid hp
 clear HE hJa hJb hY hau hp
 refine (callsIn_wide (n:=8)).1 ?_
 refine callsIn_of_wp Tryz.func151 rfl trivial ?_ rfl
 simp only [Tryz.ntmps151,List.size_toArray,List.length_cons,List.length_nil,Nat.reduceAdd,Nat.reduceSub,Array.replicate_succ,Array.replicate_zero,List.push_toArray,List.append_toArray,List.nil_append,List.cons_append]
 gi_wp2
 obtain ⟨W1,hW1e⟩ : ∃W1,W1=W.setCell ⟨Bat,0,none⟩ (Value.int .i64 ((pre.length : Int)+1)):=⟨_,rfl⟩
 rw [<- hW1e]
 have hm1 : Moves W W1 I I:=by rw [hW1e];exact Moves.setAt _ hIB _
 have hM1:=hW.trans hm1
 have cyl1:=(HHE.out W1 hM1).yl
 have cat1 : W1.cell? ⟨Bat,0,none⟩=some (.int .i64 ((pre.length : Int)+1)):=by rw [hW1e];exact World.cell?_setCell_same' _ _ _ (by rw [hat];rfl)
 have fat1 : W1.frozen? ⟨Bat,0,none⟩=false:=by rw [hW1e,World.frozen?_setCell];exact hfz
 have hu1 : Ints W1 au u.length u:=hu.moves hm1 (λ_ h=>Hau.out _ h rfl)
 have hJ1 : J pre W1:=by rw [hW1e];exact HJb.out _ _ _ Hp.out hJ
 have hudr : Ints W1.drew au u.length u:=hu1.keep (Below.refl _ _).drew
 have HS : Hid (∀V a4 c4,V.ownsRow W1.drew.heap.size 3 1 (.slice a4 u.length c4) u.length (u.map (Value.int .i64))->Below W1.drew.heap.size W1.drew V ->
   V.cell? ⟨By,0,none⟩=some (.func (.yield l) #[] #[])/\V.cell? ⟨Bat,0,none⟩=some (.int .i64 ((pre.length : Int)+1))/\V.frozen? ⟨Bat,0,none⟩=false/\ablk a4 ≠ Bat/\Moves W V I I/\YOk l u.length J M 7 pre ⟨a4,c4,u⟩ V):=by
  intro V a4 c4 ho hb
  have hbV : Below W1.heap.size W1 V:=(Below.refl _ W1).drew.trans hb
  have hMV : Moves W1 V I I:=Moves.of_below hbV I
  obtain ⟨ia,_⟩:=Ints.own ho
  have hne:=own_ne ho (λe=>by have:=ia.pl (by omega);rw [e] at this;cases this)
  have hBl : Bat<W1.heap.size:=(HHE.out W1 hM1).lt
  have hsz : W1.drew.heap.size=W1.heap.size:=rfl
  refine ⟨(HHE.out V (hM1.trans hMV)).yl,(hbV.cell (p:=⟨Bat,0,none⟩) hBl).trans cat1,(hbV.frozen (p:=⟨Bat,0,none⟩) hBl).trans fat1,by show ablk a4 ≠ _;omega,hm1.trans hMV,?_⟩
  refine HY.out 7 pre ⟨a4,c4,u⟩ V (hM1.trans hMV) (HJa.out _ _ _ hJ1 hbV) hlt ia λj hj=>?_
  have h1:=hIl j hj
  have h2:=hM1.size
  show j ≠ ablk a4
  omega
 clear hW1e hJ1 hM1 hu1 hm1 hat
 have hwr : IntKind.i64.wrap ((pre.length : Nat) : Int)=(pre.length : Nat):=IntWalk.i64_in _ (by omega)
 have hmx : Tryz.prog.follows .mixedOrders=true:=by kernel_rfl
 gi_region_with_o (first
  | ((try refine ⟨trivial,?_⟩);gi_at_call 87;refine (callsIn_wide.2 (clone1_any au u.length cu u hudr hn)).mono ?_;rintro e w4 ⟨a4,c4,rfl,ho4,hb4⟩;obtain ⟨cyl4,cat4,fat4,hne4,hm4,fn,tmps,assign,body,hy,hR⟩:=HS.out _ _ _ ho4 hb4)
  | (refine hR.mono ?_;rintro e V ⟨rfl,hJ5,hm5⟩))
 all_goals gi_wp2
 all_goals go_ret
 all_goals exact ⟨rfl,[⟨a4,c4,u⟩],rfl,hJ5,λx hx=>by
   rcases List.mem_append.1 hx with hx | hx
   ·exact Hp.out x hx
   ·rw [List.mem_singleton.1 hx];exact hne4,by
   have h1 : AtQ V Bat (pre.length+1):=AtQ.of_block ⟨cat4,fat4⟩ (hm5.block _ (World.block_lt_of_cell? _ _ cat4) hMB)
   rw [List.length_append];exact h1,hm4.trans (hm5.wide hMI)⟩
end

section
section
variable {O : FOps} {El : Int->Prop} {m : Nat} {L : List (List Int)}
end
def wtU (x : List Int) (U : List Int) (m : Nat) : Nat:=(List.range m).countP λj=>decide (nth x j ≠ 0/\(j : Int) ∈ U)
theorem countP_point {p p' : Nat->Bool} {s : Nat} (h : ∀j,j ≠ s->p j=p' j) : ∀m,(List.range m).countP p'+(if s<m/\p s=true then 1 else 0)=(List.range m).countP p+(if s<m/\p' s=true then 1 else 0)
 | 0=>by simp
 | m+1=>by
  have ih:=countP_point h m
  rw [List.range_succ,List.countP_append,List.countP_append,List.countP_singleton,List.countP_singleton]
  by_cases e : s=m
  ·subst e
   simp at ih
   by_cases h1 : p s=true <;> by_cases h2 : p' s=true <;> simp [h1,h2] <;> omega
  ·have h3:=h m (λe2=>e e2.symm)
   rw [h3]
   by_cases h4 : s<m
   ·simp only [h4,show s<m+1 by omega,true_and] at ih ⊢;omega
   ·simp only [h4,show ¬ s<m+1 by omega,false_and] at ih ⊢;simp at ih ⊢;omega
theorem wtU_one (x U : List Int) (m : Nat) {s : Int} (h0 : 0<=s) (hm : s<m) : wtU x (U ++ [s]) m=wtU x U m+(if nth x s.toNat ≠ 0/\¬ s ∈ U then 1 else 0):=by
 have h:=countP_point (p:=λj=>decide (nth x j ≠ 0/\(j : Int) ∈ U)) (p':=λj=>decide (nth x j ≠ 0/\(j : Int) ∈ U ++ [s])) (s:=s.toNat) (λj hj=>by
  have : ((j : Int) ∈ U ++ [s]) ↔ ((j : Int) ∈ U):=by
   rw [List.mem_append,List.mem_singleton]
   exact ⟨λh=>h.elim id λe=>absurd (by omega) hj,.inl⟩
  simp [this]) m
 have e : ((s.toNat : Nat) : Int)=s:=by omega
 have hlt : s.toNat<m:=by omega
 unfold wtU
 simp only [e,hlt,true_and,decide_eq_true_eq,List.mem_append,List.mem_singleton,or_true,and_true] at h
 have h' : (List.range m).countP (λj=>decide (nth x j ≠ 0/\(j : Int) ∈ U ++ [s]))=(List.range m).countP (λj=>decide (nth x j ≠ 0/\((j : Int) ∈ U\/(j : Int)=s))):=by simp
 rw [h']
 by_cases h1 : nth x s.toNat=0
 ·simp [h1] at h ⊢;exact h
 ·by_cases h2 : s ∈ U
  ·simp [h1,h2] at h ⊢;omega
  ·simp [h1,h2] at h ⊢;omega
theorem wtU_add (x : List Int) (m : Nat) : ∀(S U : List Int),S.Nodup->(∀s ∈ S,0<=s/\s<(m : Int))->wtU x (U ++ S) m=wtU x U m+S.countP λs=>decide (nth x s.toNat ≠ 0/\¬ s ∈ U)
 | [],U,_,_=>by simp
 | s :: S,U,hn,hb=>by
  rw [List.nodup_cons] at hn
  have h1:=hb s (List.mem_cons_self ..)
  have ih:=wtU_add x m S (U ++ [s]) hn.2 λy hy=>hb y (List.mem_cons_of_mem _ hy)
  rw [List.append_assoc,List.singleton_append] at ih
  rw [ih,wtU_one x U m h1.1 h1.2,List.countP_cons]
  have e : S.countP (λy=>decide (nth x y.toNat ≠ 0/\¬ y ∈ U ++ [s]))=S.countP (λy=>decide (nth x y.toNat ≠ 0/\¬ y ∈ U)):=by
   refine List.countP_congr λy hy=>?_
   have : y ≠ s:=λe=>hn.1 (e ▸ hy)
   simp [this]
  rw [e]
  simp only [decide_eq_true_eq]
  omega
theorem wtU_le (x U : List Int) (m : Nat) (hx : x.length=m) : wtU x U m<=wtL x:=by
 have h : wtL x=(List.range m).countP λj=>decide (nth x j ≠ 0):=by
  have e : x=(List.range m).map (nth x):=by
   refine List.ext_getElem (by simp [hx]) λi h1 h2=>?_
   rw [List.getElem_map,List.getElem_range,nth_getElem h1]
  conv=>lhs;rw [wtL,e,List.countP_map]
  rfl
 rw [h]
 exact List.countP_mono_left λj _ h=>by simp at h ⊢;exact h.1
theorem chain_bound {O : FOps} {L : List (List Int)} {m : Nat} {x : List Int} {v : Int} : ∀(T : List (List Int × Int)) (U : List Int),chainF O L m U T->(∀t ∈ T,v<(wtL (pickL t.1 x) : Int)) ->
  flTo L.length v (T.map (·.2)) T.length+wtU x U m<=(wtU x (U ++ (T.map (·.1)).flatten) m : Int)
 | [],U,_,_=>by simp [flTo]
 | t :: T,U,h,hw=>by
  obtain ⟨h1,h2,h3,h4,h5⟩:=h
  have ih:=chain_bound T (U ++ t.1) h5 λy hy=>hw y (List.mem_cons_of_mem _ hy)
  have hl : t.1.length=L.length:=(isB_iff.1 h2).1
  have hin : ∀s ∈ t.1,0<=s/\s<(m : Int):=λs hs=>by
   obtain ⟨k,hk,rfl⟩:=List.mem_iff_getElem.1 hs
   have:=okSet_at h1 hk
   rw [nth_getElem hk] at this
   exact ⟨this.1,this.2.1⟩
  have ha:=wtU_add x m t.1 U (okSet_nodup h1) hin
  have hwt:=hw t (List.mem_cons_self ..)
  have hfl : ∀(r : Int) (R : List Int),∀k,flTo L.length v (r :: R) (k+1)=max 0 (v+1 - (L.length - r))+flTo L.length v R k:=λr R k=>by
   induction k with
   | zero=>simp [flTo,nth]
   | succ k ih=>rw [flTo,ih,flTo];simp [nth];omega
  have hc : (wtL (pickL t.1 x) : Int)<=(t.1.countP λs=>decide (nth x s.toNat ≠ 0/\¬ s ∈ U) : Nat)+(L.length - t.2):=by
   have e1 : wtL (pickL t.1 x)=t.1.countP λs=>decide (nth x s.toNat ≠ 0):=by
    unfold wtL pickL;rw [List.countP_map];rfl
   have e2 : t.2=(t.1.countP (λs=>decide (¬ s ∈ U)) : Nat):=by
    rw [h4,newF_count _ _ _ (Nat.le_refl _),List.take_of_length_le (Nat.le_refl _)]
   have e3 : ∀S : List Int,(S.countP λs=>decide (nth x s.toNat ≠ 0))+S.countP (λs=>decide (¬ s ∈ U))<=(S.countP λs=>decide (nth x s.toNat ≠ 0/\¬ s ∈ U))+S.length:=λS=>by
    induction S with
    | nil=>simp
    | cons s S ih =>
     rw [List.countP_cons,List.countP_cons,List.countP_cons,List.length_cons]
     by_cases p1 : nth x s.toNat=0 <;> by_cases p2 : s ∈ U <;> simp [p1,p2] at ih ⊢ <;> omega
   have:=e3 t.1
   omega
  rw [List.map_cons,List.length_cons,hfl,List.map_cons,List.flatten_cons,<- List.append_assoc]
  omega
theorem fam_bound {P M : Int} {mod : List Int} {m : Nat} {L : List (List Int)} (hE : codeE P M mod m L=0) {x : List Int} (hx : x.length=m) {v : Int} (hv : 0<=v/\v<=(L.length : Int)) (hl : L.length<=64)
  (hw : ∀t ∈ famL (tblOf P M.toNat mod).ops L m,v<(wtL (pickL t.1 x) : Int)) :
  ∃f : Int,flV L.length ((famL (tblOf P M.toNat mod).ops L m).map (·.2)) v=(f,0)/\f<=(wtL x : Int):=by
 obtain ⟨h1,h2⟩:=fam_all hE
 obtain ⟨m',e,hm1,hm64,_,_⟩:=codeE_fld hE
 generalize famL (tblOf P M.toNat mod).ops L m=T at *
 have hb:=chain_bound T [] h1 hw
 have hle:=wtU_le x ([] ++ (T.map (·.1)).flatten) m hx
 have hr : ∀(T : List (List Int × Int)) (U : List Int),chainF (tblOf P M.toNat mod).ops L m U T->(T.map (·.2)).all (flQ L.length)=true:=λT=>by
  induction T with
  | nil=>intro U _;rfl
  | cons t T ih =>
   rintro U ⟨q1,q2,q3,q4,q5⟩
   have hbd:=newF_bd U t.1 t.1.length
   have hl : t.1.length=L.length:=(isB_iff.1 q2).1
   rw [List.map_cons,List.all_cons,ih _ q5,Bool.and_true]
   unfold flQ
   simp;omega
 refine ⟨flTo L.length v (T.map (·.2)) T.length,?_,?_⟩
 ·rw [flV,if_pos,List.length_map]
  refine ⟨?_,hr T [] h1⟩
  unfold flB
  simp [List.length_map]
  omega
 ·omega
end

section
section
variable {O : FOps} {El : Int->Prop} {m : Nat} {R : List (List Int)} {P : List Int}
theorem red_rs (F : Fld O El) (hI : BS.Inv El m ⟨R,P⟩) {v : List Int} (hv : Vc El m v) (hs : RS O El m R (λx=>nth v x)) : ∀k,k<=R.length->RS O El m R (λx=>nth (redTo O R P v k) x)
 | 0,_=>hs
 | k+1,hk=>by
  have hu : Vc El m (redTo O R P v k):=Vc.redTo F hI.ok hv k (show k<=R.length by omega)
  have hp : (nth P k).toNat<m:=hI.ok.pl (show k<R.length by omega)
  have hr : Vc El m (nthR R k):=hI.ok.row (show k<R.length by omega)
  refine ((red_rs F hI hv hs k (by omega)).comb F (.row F (i:=k) (by omega)) (hu.at hp)).congr λx hx=>?_
  rw [redTo,nth_redStep F hu hr hp hx,F.mul_comm _ _ (hu.at hp) (hr.at hx)]
theorem red_zero (F : Fld O El) (hR : Rws El m R) (hP : Piv R P m) (hlen : R.length=P.length) {v : List Int} (hv : Vc El m v) (hs : RS O El m R (λx=>nth v x)) : ∀x,x<m->nth (redTo O R P v R.length) x=0:=by
 have hI:=piv_inv hR hP hlen
 obtain ⟨e,he,h⟩:=red_rs F hI hv hs R.length (Nat.le_refl _)
 intro x hx
 have h1 : nth (redTo O R P v R.length) x=e (colS R x):=h x hx
 rw [h1]
 refine hP.all F hR hx e he λy hy=>?_
 obtain ⟨j,hj,rfl⟩:=(mem_grL P _ _).1 hy
 rw [<- h _ (by have:=hP.lt j hj;omega)]
 exact hI.place F hv R.length (Nat.le_refl _) j (by omega)
end
end

section
set_option maxRecDepth 100000
set_option maxHeartbeats 8000000

open Go.RowKit
def FromOk (J : List WX->World->Prop) (I : Nat->Prop) (W0 : World) (G : Tbl) (Bc Bat By Bg Bf n N : Nat) (R : List (List Int)) (r : Int) (d : Nat) : Prop :=
 ∀(au : Option Addr) (cu : Nat) (u : List Int) (pre : List WX) (W : World),Moves W0 W I I->J pre W->(∀x ∈ pre,ablk x.a ≠ Bat) ->
  AtQ W Bat pre.length->Ints W au n u->(∀j,I j->j ≠ ablk au)->(∀x ∈ u,G.El x)->pre.length+G.q ^ d<=N ->
  Calls Tryz.prog 151 #[.int .i64 r,.slice au n cu,.pointer (some ⟨Bc,0,none⟩),.pointer (some ⟨Bat,0,none⟩),.pointer (some ⟨By,0,none⟩),.pointer (some ⟨Bg,0,none⟩),.pointer (some ⟨Bf,0,none⟩)] W
   λe V=>e = .returned (.bool true)/\∃xs : List WX,xs.map WX.l=wlkS G.ops G.q R u/\J (pre ++ xs) V/\(∀x ∈ pre ++ xs,ablk x.a ≠ Bat)/\AtQ V Bat (pre ++ xs).length/\Moves W V I I
theorem fromNode_any {W0 : World} {b : Nat} {G : Tbl} {Bc Bat By Bg Bf l : Nat} {ag : Option Addr} {k cg n : Nat} {L : List (List Int)} {I : Nat->Prop}
  (J : List WX->World->Prop) (hIB : I Bat) (hIl : ∀x,I x->x<W0.heap.size)
  (HE : ∀V,Moves W0 V I I->WEnv V b G Bc Bat By Bg Bf l ag k cg L)
  (hJa : ∀pre V V',J pre V->Below V.heap.size V V'->J pre V')
  (N : Nat) (hn : n<=1000000) (hn1 : 1<=n) (hL : Rws G.El n L) (hk6 : k<=1000000) (hops : FCl G.ops G.El) (d r : Nat) (hrd : r+(d+1)=k)
  (hI : FromOk J I W0 G Bc Bat By Bg Bf n N (L.drop (r+1)) ((r : Int)+1) d) : FromOk J I W0 G Bc Bat By Bg Bf n N (L.drop r) r (d+1):=by
 intro au cu u pre W hW hJ hp hat hu hau hue hcnt
 obtain rfl : u.length=n:=hu.len
 have hrk : r<k:=by omega
 have E:=HE W hW
 have hLl : L.length=k:=E.mat.len
 have hq2 : 2<=G.q:=E.gf.q2
 have hq256 : G.q<=256:=E.gf.q256
 have Hdrop : Hid (L.drop r=nthR L r :: L.drop (r+1)):=nth_drop_cons L (by omega)
 have Hcnt:=Lib.hid hcnt
 have HI:=Lib.hid hI
 have HJa:=Lib.hid hJa
 have HHE:=Lib.hid HE
 have HIl:=Lib.hid hIl
 have Hau:=Lib.hid hau
 have Hue:=Lib.hid hue
 have HL:=Lib.hid hL
 have Hp:=Lib.hid hp
 have HLl:=Lib.hid hLl
 have Hhat:=Lib.hid hat
 obtain ⟨cgen,hmat,cyl,cgp,hgf,cfr,hltB⟩:=E
 have hne : (decide ((r : Int)=(k : Int)))=false:=by simp;omega
 clear hmat cyl cfr hltB hcnt hI hJa HE hIl hau hue hL hp hat hLl
 go_enter Tryz.func151,Tryz.ntmps151
 go_wp2_with (go_at_call 149;refine (gOrder hgf).mono ?_;rintro e w' ⟨rfl,rfl⟩)
 go_loopw [29] (λiv wr=>∃(t : Nat) (xs : List WX),t<=G.q/\iv = .int .i64 t/\xs.map WX.l=wlkTo G.ops G.q (nthR L r) (L.drop (r+1)) u t/\J (pre ++ xs) wr/\Hid (∀x ∈ pre ++ xs,ablk x.a ≠ Bat) /\
   Hid (AtQ wr Bat (pre ++ xs).length)/\Moves W wr I I) (λiv _=>G.q - (intOf iv).toNat)
 case atStart=>exact ⟨0,[],Nat.zero_le _,rfl,by simp [wlkTo],by rw [List.append_nil];exact hJ,by rw [List.append_nil];exact Hp.out,by rw [List.append_nil];exact Hhat.out,Moves.refl _ _⟩
 case round =>
  obtain ⟨t,xs,ht,rfl,hxs,hJx,hpx,hatx,hmx⟩:=hrel
  by_cases hlt : t<G.q
  ·generalize wr=X1 at *
   have hMX:=hW.trans hmx
   have hux : Ints X1 au u.length u:=hu.moves hmx (λ_ h=>Hau.out _ h rfl)
   have EX:=HHE.out X1 hMX
   obtain ⟨ar,mr,cr,hrow,hrI⟩:=EX.mat.cell r (by omega)
   have Hxs:=Lib.hid hxs
   clear hxs
   have hrl : (nthR L r).length=u.length:=(HL.out _ (nthR_mem (by rw [HLl.out];exact hrk))).1
   obtain rfl : mr=u.length:=by rw [<- hrl];exact hrI.len.symm
   have HrI:=Lib.hid hrI
   have hplG:=EX.mat.pl
   go_wp2_with (go_at_call 87;refine (clone1_any au u.length cu u hux hn).mono ?_;rintro e w4 ⟨a4,c4,rfl,ho4,hb4⟩;have E4:=HHE.out w4 (hMX.trans (Moves.of_below hb4 I));have g4:=E4.gen;have r4:=(hb4.cell (p:=⟨ablk ag,aoff ag+r,none⟩) (World.block_lt_of_cell? _ _ hrow)).trans hrow)
   have hNl:=addS_length G.ops u t (nthR L r) hrl
   have hrE : ∀x ∈ nthR L r,G.El x:=(HL.out _ (nthR_mem (by rw [HLl.out];exact hrk))).2
   have hte : G.El (t : Int):=⟨by omega,by omega⟩
   have hNe:=addS_el hops Hue.out hrE hte hrl
   have hNth : ∀j,j<u.length->nth (addS G.ops u t (nthR L r)) j=if (t : Int) ≠ 0/\nth (nthR L r) j ≠ 0 then G.add (nth u j) (G.mul t (nth (nthR L r) j)) else nth u j:=by
    intro j hj
    by_cases h0 : (t : Int)=0
    ·rw [if_neg (λh=>h.1 h0)];unfold addS;rw [if_pos h0]
    ·rw [nth_addS G.ops u t _ j hrl hj h0]
     by_cases h1 : nth (nthR L r) j=0
     ·rw [if_pos h1,if_neg (λh=>h.2 h1)]
     ·rw [if_neg h1,if_pos ⟨h0,h1⟩];rfl
   have HNl:=Lib.hid hNl
   have HNe:=Lib.hid hNe
   have HNth:=Lib.hid hNth
   have HrE:=Lib.hid hrE
   have Hrl:=Lib.hid hrl
   have Hsuc : Hid (wlkTo G.ops G.q (nthR L r) (L.drop (r+1)) u (t+1)=wlkTo G.ops G.q (nthR L r) (L.drop (r+1)) u t ++ wlkS G.ops G.q (L.drop (r+1)) (addS G.ops u t (nthR L r))):=wlkTo_succ _ _ _ _ _ _
   have hlX : Hid (X1.heap.size ≥ W0.heap.size):=hMX.size
   have Hr : Hid (Ints X1 ar u.length (nthR L r)):=hrI
   clear hNl hNe hNth hrE hrl hux EX E4 g4 r4 hrI HrI hplG
   generalize addS G.ops u t (nthR L r)=Nw at *
   generalize hRo : nthR L r=Ro at *
   have HRo:=Lib.hid hRo
   clear hRo
   go_loopw [40] (λiv wr=>∃kk : Nat,kk<=u.length/\iv = .int .i64 kk/\wr.ownsRow X1.heap.size 3 1 (.slice a4 u.length c4) u.length ((mixTo Nw u kk).map (Value.int .i64))/\Below X1.heap.size X1 wr) (λiv _=>u.length - (intOf iv).toNat)
   case atStart=>exact ⟨0,Nat.zero_le _,rfl,by rw [mixTo_zero];exact ho4,hb4⟩
   case round =>
    obtain ⟨kk,hkk,rfl,hown,hbr⟩:=hrel
    have Er:=HHE.out wr (hMX.trans (Moves.of_below hbr I))
    by_cases hlk : kk<u.length
    ·have hir:=Hr.out.keep hbr
     have hpr:=hir.pl
     have cir:=hir.cell kk hlk
     have hkN : Nw.length=u.length:=HNl.out
     have hval:=HNth.out kk hlk
     have hmix:=nth_mixTo Nw u kk kk hkN (by omega)
     rw [if_neg (by omega)] at hmix
     by_cases hz : (t : Int) ≠ 0/\nth Ro kk ≠ 0
     ·rw [if_pos hz] at hval
      have hset:=mixTo_set Nw u kk hkN hlk
      rw [hval] at hset
      have Hset:=Lib.hid hset
      obtain ⟨hiv,hmv⟩:=Ints.own hown
      have hpv:=hiv.pl
      have cv1:=hiv.cell kk hlk
      have fv1:=(hmv (by omega)).2 kk hlk
      rw [hmix] at cv1
      have elu : G.El (nth u kk):=Hue.out _ (nth_mem hlk)
      have elr : G.El (nth Ro kk):=HrE.out _ (nth_mem (by rw [Hrl.out];exact hlk))
      have cgr:=Er.gp
      have hGr:=Er.gf
      have elm : ∀x y,G.El (G.mul x y):=λx y=>Tbl.mul_el hGr x y
      have HG : Hid (GFw wr.drew b G/\∀n,GFw (wr.drewN n) b G):=⟨hGr.keep (Below.refl _ _).drew,λn=>hGr.drewN n⟩
      have hz1 : ((t : Int) != 0)=true:=by simpa using hz.1
      have hz2 : (nth Ro kk != 0)=true:=by simpa using hz.2
      have Hiv:=Lib.hid hiv
      clear hval hmix hset hkN hz Er hGr hir hiv hmv
      go_wp2_with fail
      go_region_law ((first
       | (go_simp;go_at_call 153;((with_reducible refine (gMul t (nth Ro kk) HG.out.1 hte elr).mono ?_);rintro e w4 ⟨m4,rfl,rfl⟩))
       | (go_simp;go_at_call 153;((with_reducible refine (gMul t (nth Ro kk) (HG.out.2 _) hte elr).mono ?_);rintro e w4 ⟨m4,rfl,rfl⟩))
       | (go_simp;go_at_call 152;((with_reducible refine (gAdd (nth u kk) (G.mul t (nth Ro kk)) (HG.out.2 _) elu (elm _ _)).mono ?_);rintro e w4 ⟨m5,rfl,rfl⟩))))
      all_goals (
       go_wp2_with fail
       go_roundw
       case rel =>
        have hdr : Drawn wr (wr.drewN (1+m4+m5)):=⟨_,rfl⟩
        have h1:=own_set (w:=wr.drewN (1+m4+m5)) hown kk hlk (.int .i64 (G.add (nth u kk) (G.mul t (nth Ro kk))))
        rw [<- List.map_set,Hset.out] at h1
        have hlo:=(own_ne hown (λe=>by have:=hpv (by omega);rw [e] at this;cases this)).1
        exact ⟨kk+1,by omega,by go_num,h1,(hbr.trans (hdr.below.mono hbr.size)).trans ((Below.refl _ _).setCell (p:=⟨ablk a4,aoff a4+kk,none⟩) hlo _)⟩
       case measure=>simp [intOf] <;> omega)
     ·rw [if_neg hz] at hval
      have hsame:=mixTo_same Nw u kk hkN hlk hval
      have Hsame:=Lib.hid hsame
      by_cases h0 : (t : Int)=0
      ·have hz1 : ((t : Int) != 0)=false:=by simpa using h0
       clear hval hmix hsame hkN hz h0 Er
       go_wp2_with fail
       go_roundw
       case rel=>exact ⟨kk+1,by omega,by go_num,by rw [Hsame.out];exact hown,hbr⟩
       case measure=>simp [intOf] <;> omega
      ·have hz1 : ((t : Int) != 0)=true:=by simpa using h0
       have hz2 : (nth Ro kk != 0)=false:=by
        have : nth Ro kk=0:=by
         by_cases h1 : nth Ro kk=0
         ·exact h1
         ·exact absurd ⟨h0,h1⟩ hz
        simpa using this
       clear hval hmix hsame hkN hz h0 Er
       go_wp2_with fail
       go_roundw
       case rel=>exact ⟨kk+1,by omega,by go_num,by rw [Hsame.out];exact hown,hbr⟩
       case measure=>simp [intOf] <;> omega
    ·obtain rfl : kk=u.length:=by omega
     rw [mixTo_all Nw u _ HNl.out rfl] at hown
     have hMr : Moves X1 wr I I:=Moves.of_below hbr I
     have hfr:=Er.fr
     have hJr:=HJa.out _ _ _ hJx hbr
     have hatr : AtQ wr Bat (pre ++ xs).length:=AtQ.keep hatx.out hbr
     obtain ⟨hiv,_⟩:=Ints.own hown
     have hblk : ∀j,I j->j ≠ ablk a4:=λj hj=>by
      have h1:=HIl.out j hj
      have h2:=(own_ne hown (λe=>by have:=hiv.pl (by omega);rw [e] at this;cases this)).1
      have h3 : X1.heap.size ≥ W0.heap.size:=hlX
      omega
     have hxl : xs.length=t * G.q ^ d:=by
      have h1:=congrArg List.length Hxs.out
      rw [List.length_map,wlkTo_length,List.length_drop,HLl.out,show k - (r+1)=d by omega] at h1
      exact h1
     have hcnt2 : (pre ++ xs).length+G.q ^ d<=N:=by
      have h1:=Hcnt.out
      have h2 : (t+1) * G.q ^ d<=G.q * G.q ^ d:=Nat.mul_le_mul_right _ (by omega)
      rw [Nat.pow_succ,Nat.mul_comm] at h1
      rw [Nat.add_mul,Nat.one_mul] at h2
      rw [List.length_append,hxl]
      omega
     have Hc:=Lib.hid (HI.out a4 c4 Nw (pre ++ xs) wr (hMX.trans hMr) hJr hpx.out hatr hiv hblk HNe.out hcnt2)
     clear hiv hblk hxl hcnt2 hatr hJr Er
     go_wp2_with (go_at_call 151;refine Hc.out.mono ?_;rintro e V ⟨rfl,xs2,hx2,hJ2,hp2,hat2,hm2⟩)
     have Hx2:=Lib.hid hx2
     have Hp2:=Lib.hid hp2
     have Hat2:=Lib.hid hat2
     clear hx2 hp2 hat2
     go_wp2_with fail
     go_roundw
     case rel=>exact ⟨t+1,xs ++ xs2,by omega,by go_num,by rw [List.map_append,Hxs.out,Hx2.out,<- Hsuc.out,HRo.out],by rw [<- List.append_assoc];exact hJ2,by rw [<- List.append_assoc];exact Hp2.out,by rw [<- List.append_assoc];exact Hat2.out,hmx.trans (hMr.trans hm2)⟩
     case measure=>simp [intOf] <;> omega
  ·obtain rfl : t=G.q:=by omega
   go_wp2_with fail
   go_ret
   refine ⟨rfl,xs,?_,hJx,hpx.out,hatx.out,hmx⟩
   rw [hxs,Hdrop.out];rfl
theorem from_any {W0 : World} {b : Nat} {G : Tbl} {Bc Bat By Bg Bf l : Nat} {ag : Option Addr} {k cg n : Nat} {L : List (List Int)} {I : Nat->Prop}
  (J : List WX->World->Prop) (M : Nat->Prop) (hMI : ∀x,M x->I x) (hIB : I Bat) (hMB : ¬ M Bat) (hIl : ∀x,I x->x<W0.heap.size)
  (HE : ∀V,Moves W0 V I I->WEnv V b G Bc Bat By Bg Bf l ag k cg L)
  (hJa : ∀pre V V',J pre V->Below V.heap.size V V'->J pre V')
  (hJb : ∀pre V v,(∀x ∈ pre,ablk x.a ≠ Bat)->J pre V->J pre (V.setCell ⟨Bat,0,none⟩ v))
  (N : Nat)
  (hY : ∀m pre x V,Moves W0 V I I->J pre V->pre.length<N->Ints V x.a n x.l->(∀j,I j->j ≠ ablk x.a)->YOk l n J M m pre x V)
  (hN : N<=1000000) (hn : n<=1000000) (hn1 : 1<=n) (hL : Rws G.El n L) (hk6 : k<=1000000) (hops : FCl G.ops G.El) : ∀(d r : Nat),r+d=k ->
   FromOk J I W0 G Bc Bat By Bg Bf n N (L.drop r) r d
 | 0,r,hr=>by
  obtain rfl : r=k:=hr
  intro au cu u pre W hW hJ hp hat hu hau hue hcnt
  refine (fromLeaf_any J M hMI hIB hMB hIl HE hJa hJb N hY hN hn hn1 au cu u pre W hW hJ hp hat hu hau (by rw [Nat.pow_zero] at hcnt;omega)).mono ?_
  rintro e V ⟨he,xs,h1,h2⟩
  refine ⟨he,xs,?_,h2⟩
  rw [h1,List.drop_of_length_le (by rw [(HE W hW).mat.len];exact Nat.le_refl _)]
  rfl
 | d+1,r,hr=>fromNode_any J hIB hIl HE hJa N hn hn1 hL hk6 hops d r hr (from_any J M hMI hIB hMB hIl HE hJa hJb N hY hN hn hn1 hL hk6 hops d (r+1) (by omega))
end

section
section
variable {O : FOps} {El : Int->Prop} {m : Nat} {L : List (List Int)} {C : Clm}
end
theorem wtL_zero {x : List Int} : wtL x=0 ↔ ∀k,k<x.length->nth x k=0:=by
 unfold wtL
 rw [List.countP_eq_zero]
 constructor
 ·intro h k hk
  have h1:=h _ (nth_mem hk)
  simpa using h1
 ·intro h y hy
  obtain ⟨k,hk,rfl⟩:=List.mem_iff_getElem.1 hy
  have h1:=h k hk
  rw [nth_getElem hk] at h1
  simp [h1]
section
variable {P M : Int} {mod : List Int} {m : Nat} {L : List (List Int)}
theorem code_piv (hE : codeE P M mod m L=0) : ∃p : List Int,Piv L p m/\L.length=p.length:=by
 obtain ⟨N',e,hm1,hm64,F,hR⟩:=codeE_fld hE
 obtain rfl : m=N':=by omega
 have h6:=(spaceE_zero (codeE_zero hE).2.2.2).2
 rw [Int.toNat_natCast] at h6
 have hcan : canO (tblOf P M.toNat mod).ops m L=L:=h6
 obtain ⟨hPv,hLd⟩:=canO_piv F hR
 have hcl:=canO_len F hR
 rw [hcan] at hPv hcl
 exact ⟨_,hPv,hcl⟩
theorem cmb_piv (hE : codeE P M mod m L=0) {p : List Int} (hp : Piv L p m) (hl : L.length=p.length) {v : List Int} (hv : ∀k,k<L.length->(tblOf P M.toNat mod).El (nth v k)) {k : Nat} (hk : k<L.length) :
  nth (cmbTo (tblOf P M.toNat mod).ops m v L L.length) (nth p k).toNat=nth v k:=by
 obtain ⟨N',e,hm1,hm64,F,hR⟩:=codeE_fld hE
 obtain rfl : m=N':=by omega
 have hpk:=hp.lt k (by omega)
 rw [cmb_dot F hR hv (by omega) _ (Nat.le_refl _)]
 have hone : ∀t,t<L.length->nth (nthR L t) (nth p k).toNat=if t=k then 1 else 0:=λt ht=>hp.one k t (by omega) ht
 have hvj:=hv k hk
 rw [dotN_one F (x:=k) (by
  show (tblOf P M.toNat mod).El ((tblOf P M.toNat mod).ops.mul (nth v k) (nth (nthR L k) (nth p k).toNat))
  rw [hone k hk,if_pos rfl,F.mone hvj];exact hvj) L.length (λq hq hqk=>by
  show (tblOf P M.toNat mod).ops.mul (nth v q) (nth (nthR L q) (nth p k).toNat)=0
  rw [hone q hq,if_neg hqk,F.mzero (hv q hq)]),if_pos hk]
 show (tblOf P M.toNat mod).ops.mul (nth v k) (nth (nthR L k) (nth p k).toNat)=_
 rw [hone k hk,if_pos rfl,F.mone hvj]
end
end

section
open Go.RowKit
theorem rCheck_any (P M : Int) (am : Option Addr) (mn cm : Nat) (mod : List Int) (N : Int) (a : Option Addr) (n c : Nat) (L : List (List Int)) (w : World) (hmod : Ints w am mn mod) (hi : Mat w a n L) :
  Calls Tryz.prog 22 #[.agg #[.int .i64 P,.int .i64 M,.slice am mn cm,.int .i64 N,.slice a n c]] w λe w'=>e = .returned (.int .i64 (codeE P M mod N L))/\Below w.heap.size w w':=by
 rw [<- rcodeE_eq]
 exact rCodeCheck_any P M am mn cm mod N a n c L w hmod hi hinv_all
end

section
open Go.RowKit
section
variable {O : FOps} {El : Int->Prop} {m : Nat} {A B L : List (List Int)}
theorem RS.cmb (F : Fld O El) (hL : Rws El m L) {f : Nat->Int} (h : RS O El m L f) : ∃v,Vc El L.length v/\∀x,x<m->f x=nth (cmbTo O m v L L.length) x:=by
 obtain ⟨e,he,h2⟩:=h
 obtain ⟨c,hc⟩ : ∃c,((List.range L.length).map λt=>e (unitR L.length t))=c:=⟨_,rfl⟩
 have hcl : c.length=L.length:=by rw [<- hc];simp
 have hcn : ∀t,t<L.length->nth c t=e (unitR L.length t):=λt ht=>by rw [<- hc,nth_mapRange _ _ _ ht]
 have hcv : Vc El L.length c:=⟨hcl,λy hy=>by
  obtain ⟨t,ht,rfl⟩:=List.mem_iff_getElem.1 hy
  rw [<- nth_getElem ht,hcn t (by omega)]
  exact he.el _ (unitR_vc F _ _)⟩
 refine ⟨c,hcv,λx hx=>?_⟩
 rw [h2 x hx,form_unit F he (colS_vc hL F.zero x),cmb_dot F hL (λk hk=>hcv.at hk) hx _ (Nat.le_refl _)]
 exact dotN_congr _ λp hp=>⟨(hcn p hp).symm,nth_colS _ _ _ hp⟩
end
end

end Go.Proofs.YtcfmiocdlcapoaaGreat
