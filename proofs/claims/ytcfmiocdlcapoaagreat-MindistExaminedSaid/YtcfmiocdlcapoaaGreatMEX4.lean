/-  -/
import Derived.Test.YtcfmiocdlcapoaaGreatK12
import Derived.Test.YtcfmiocdlcapoaaGreatMEX2
import Derived.Test.YtcfmiocdlcapoaaGreatK10
import Derived.Test.YtcfmiocdlcapoaaGreatMEX3
import Derived.Test.YtcfmiocdlcapoaaGreatK17
import Derived.Test.YtcfmiocdlcapoaaGreatK16
import Derived.Test.YtcfmiocdlcapoaaGreatK9
import Derived.Test.YtcfmiocdlcapoaaGreatMEX1
import Derived.Test.YtcfmiocdlcapoaaGreatK19
import Derived.Test.YtcfmiocdlcapoaaGreatK22
import Derived.Test.YtcfmiocdlcapoaaGreatK25
import Derived.Test.YtcfmiocdlcapoaaGreatK21
import Derived.Test.YtcfmiocdlcapoaaGreatK28
import Derived.Test.YtcfmiocdlcapoaaGreatK29
import Derived.Test.YtcfmiocdlcapoaaGreatK31
import Derived.Test.YtcfmiocdlcapoaaGreatK4
namespace Go.Proofs.YtcfmiocdlcapoaaGreat
set_option linter.unusedVariables false
set_option linter.unusedSimpArgs false
set_option linter.unusedSectionVars false

section
set_option maxRecDepth 100000
set_option maxHeartbeats 1600000

open Go.RowKit
theorem rEntries_any (P M : Int) (am : Option Addr) (mn cm : Nat) (a : Option Addr) (n c : Nat) (l : List Int) (w : World) (hi : Ints w a n l) :
  Calls Tryz.prog 76 #[.agg #[.int .i64 P,.int .i64 M,.slice am mn cm],.slice a n c] w λe w'=>e = .returned (.int .i64 (elsE (orderS P M) l))/\Below w.heap.size w w':=by
 have Hlen:=Lib.hid hi.len
 have hpl:=hi.pl
 have hmax:=hi.max
 unfold maxLen at hmax
 go_enter Tryz.func76,Tryz.ntmps76
 go_wp2_with fail
 obtain ⟨W,hW⟩ : ∃W : World,W=w.alloc (.cells #[.int .i64 P,.int .i64 M,.slice am mn cm] 24):=⟨_,rfl⟩
 rw [<- hW]
 have hbW : Below w.heap.size w W:=by rw [hW];exact below1 _ _
 have x0 : Box W w.heap.size [.int .i64 P,.int .i64 M,.slice am mn cm]:=by rw [hW];exact Box.new _ _ _ rfl
 have hiW:=hi.keep hbW
 have hS : ∀k,k<n->∀V,Below W.heap.size W V->V.cell? ⟨w.heap.size,0,none⟩=some (.int .i64 P)/\V.cell? ⟨w.heap.size,1,none⟩=some (.int .i64 M)/\V.cell? ⟨w.heap.size,2,none⟩=some (.slice am mn cm)/\V.cell? ⟨ablk a,aoff a+k,none⟩=some (.int .i64 (nth l k))/\Below W.heap.size W V:=by
  intro k hk V hV
  have x1:=x0.keep hV
  exact ⟨x1.cell 0 rfl,x1.cell 1 rfl,x1.cell 2 rfl,(hiW.keep hV).cell k hk,hV⟩
 have HS:=Lib.hid hS
 clear hW x0 hS
 go_loopw [5] (λiv wr=>∃k : Nat,k<=n/\iv = .int .i64 k/\Hid ((l.take k).all (isQ (orderS P M))=true)/\Below W.heap.size W wr) (λiv _=>n - (intOf iv).toNat)
 case atStart=>exact ⟨0,Nat.zero_le _,rfl,by show _=_;simp,Below.refl _ _⟩
 case round =>
  obtain ⟨k,hk,rfl,hall,hbr⟩:=hrel
  by_cases hlt : k<n
  ·have HSk : Hid (∀V,Below W.heap.size W V->V.cell? ⟨w.heap.size,0,none⟩=some (.int .i64 P)/\V.cell? ⟨w.heap.size,1,none⟩=some (.int .i64 M)/\V.cell? ⟨w.heap.size,2,none⟩=some (.slice am mn cm)/\V.cell? ⟨ablk a,aoff a+k,none⟩=some (.int .i64 (nth l k))/\Below W.heap.size W V):=HS.out k hlt
   have hkl : k<l.length:=by rw [Hlen.out];exact hlt
   have Hbr:=Lib.hid hbr
   have Hq:=Lib.hid (rIs_any P M am mn cm (nth l k))
   clear hbr
   by_cases hq : isQ (orderS P M) (nth l k)=true
   ·have Hs : Hid ((l.take (k+1)).all (isQ (orderS P M))=true):=all_take_succ hkl hall.out (by rw [<- nth_getElem hkl];exact hq)
    rw [hq] at Hq
    clear hq
    go_wp2_with fail
    go_region_held3 (λV=>V.cell? ⟨w.heap.size,0,none⟩=some (.int .i64 P)/\V.cell? ⟨w.heap.size,1,none⟩=some (.int .i64 M)/\V.cell? ⟨w.heap.size,2,none⟩=some (.slice am mn cm)/\V.cell? ⟨ablk a,aoff a+k,none⟩=some (.int .i64 (nth l k))/\Below W.heap.size W V)
     ((refine HSk.out _ ?_;first | exact Hbr.out.drew | exact Below.next Hbr.out.drew hb4))
     (first | (go_at_call 145;((with_reducible refine (Hq.out _).mono ?_);rintro e w4 ⟨rfl,hb4⟩)))
    go_wp2_with fail
    go_roundw
    case rel=>exact ⟨k+1,by omega,by go_num,Hs.out,Below.next Hbr.out.drew hb4⟩
    case measure=>simp [intOf] <;> omega
   ·have hq' : isQ (orderS P M) (nth l k)=false:=by simpa using hq
    have Hs : Hid (elsE (orderS P M) l=2):=by show _=_;rw [elsE,elsQ,all_false_at hkl (by rw [<- nth_getElem hkl];exact hq')];rfl
    rw [hq'] at Hq
    clear hq hq'
    go_wp2_with fail
    go_region_held3 (λV=>V.cell? ⟨w.heap.size,0,none⟩=some (.int .i64 P)/\V.cell? ⟨w.heap.size,1,none⟩=some (.int .i64 M)/\V.cell? ⟨w.heap.size,2,none⟩=some (.slice am mn cm)/\V.cell? ⟨ablk a,aoff a+k,none⟩=some (.int .i64 (nth l k))/\Below W.heap.size W V)
     ((refine HSk.out _ ?_;first | exact Hbr.out.drew | exact Below.next Hbr.out.drew hb4))
     (first | (go_at_call 145;((with_reducible refine (Hq.out _).mono ?_);rintro e w4 ⟨rfl,hb4⟩)))
    go_wp2_with fail
    go_ret
    exact ⟨ret_int Hs.out.symm,Below.next hbW (Below.next Hbr.out.drew hb4)⟩
  ·obtain rfl : k=n:=by omega
   have Hs : Hid (elsE (orderS P M) l=0):=by
    have:=hall.out
    rw [List.take_of_length_le (by rw [Hlen.out];exact Nat.le_refl _)] at this
    show _=_;rw [elsE,elsQ,this];rfl
   go_wp2_with fail
   go_ret
   exact ⟨ret_int Hs.out.symm,Below.next hbW hbr⟩
end

section
set_option maxRecDepth 100000
set_option maxHeartbeats 4000000

open Go.RowKit
def rmatE (P M : Int) (mod : List Int) (cols : Int) (L : List (List Int)) : Int:=if fieldRB P M mod=true then matE (orderS P M) cols L else 1
theorem rMatCheck_any (P M : Int) (am : Option Addr) (mn cm : Nat) (mod : List Int) (cols : Int) (a : Option Addr) (n c : Nat) (L : List (List Int)) (w : World) (hmod : Ints w am mn mod) (hi : Mat w a n L) :
  Calls Tryz.prog 119 #[.agg #[.int .i64 P,.int .i64 M,.slice am mn cm],.agg #[.int .i64 cols,.slice a n c]] w λe w'=>e = .returned (.int .i64 (rmatE P M mod cols L))/\Below w.heap.size w w':=by
 have Hlen:=Lib.hid hi.len
 have hpl:=hi.pl
 have hmax:=hi.max
 unfold maxLen at hmax
 go_enter Tryz.func119,Tryz.ntmps119
 go_wp2_with fail
 obtain ⟨W,hW⟩ : ∃W : World,W=(w.alloc (.cells #[.int .i64 P,.int .i64 M,.slice am mn cm] 24)).alloc (.cells #[.int .i64 cols,.slice a n c] 82):=⟨_,rfl⟩
 rw [<- hW]
 have hbW : Below w.heap.size w W:=by rw [hW];exact below2 _ _ _
 have x0 : Box W w.heap.size [.int .i64 P,.int .i64 M,.slice am mn cm]:=by rw [hW];exact (Box.new _ _ _ rfl).alloc _
 have y0 : Box W (w.heap.size+1) [.int .i64 cols,.slice a n c]:=by rw [hW];exact Box.new _ _ _ (by simp)
 have hS : ∀V,Below W.heap.size W V->V.cell? ⟨w.heap.size,0,none⟩=some (.int .i64 P)/\V.cell? ⟨w.heap.size,1,none⟩=some (.int .i64 M)/\V.cell? ⟨w.heap.size,2,none⟩=some (.slice am mn cm) /\
   V.cell? ⟨w.heap.size+1,0,none⟩=some (.int .i64 cols)/\V.cell? ⟨w.heap.size+1,1,none⟩=some (.slice a n c)/\Below W.heap.size W V:=by
  intro V hV
  have x1:=x0.keep hV
  have y1:=y0.keep hV
  exact ⟨x1.cell 0 rfl,x1.cell 1 rfl,x1.cell 2 rfl,y1.cell 0 rfl,y1.cell 1 rfl,hV⟩
 have HS:=Lib.hid hS
 have hiW:=hi.keep hbW
 clear hW x0 y0 hS
 refine (rFieldCheck_any P M am mn cm mod W (hmod.keep hbW)).mono ?_
 rintro e w1 ⟨rfl,hb1⟩
 have hbw1:=Below.next hbW hb1
 by_cases hB : fieldRB P M mod=true
 ·have HB : Hid (rmatE P M mod cols L=matE (orderS P M) cols L):=by show _=_;rw [rmatE,if_pos hB]
  have hE : errField (fieldRB P M mod)=0:=by rw [hB];rfl
  rw [hE]
  obtain ⟨q,hq⟩ : ∃q,orderS P M=q:=⟨_,rfl⟩
  have Hq:=Lib.hid hq
  rw [hq] at HB
  obtain ⟨d0,d1,d2,d3,d4,_⟩:=HS.out w1 hb1
  clear hB hE hq
  by_cases b1 : cols<0
  ·have Hf : Hid (rmatE P M mod cols L=3):=by show _=_;rw [HB.out,matE,if_pos (.inl b1)]
   have t1 : decide (cols<0)=true:=by simpa using b1
   go_wp2_with fail
   go_ret
   exact ⟨ret_int Hf.out.symm,hbw1⟩
  have t1 : decide (cols<0)=false:=by simpa using b1
  by_cases b2 : 256<cols
  ·have Hf : Hid (rmatE P M mod cols L=3):=by show _=_;rw [HB.out,matE,if_pos (.inr (.inl b2))]
   have t2 : decide (256<cols)=true:=by simpa using b2
   go_wp2_with fail
   go_ret
   exact ⟨ret_int Hf.out.symm,hbw1⟩
  have t2 : decide (256<cols)=false:=by simpa using b2
  by_cases b3 : 256<n
  ·have Hf : Hid (rmatE P M mod cols L=3):=by show _=_;rw [HB.out,matE,if_pos (.inr (.inr (by rw [Hlen.out];exact b3)))]
   have t3 : decide (256<(n : Int))=true:=by simp;omega
   go_wp2_with fail
   go_ret
   exact ⟨ret_int Hf.out.symm,hbw1⟩
  have t3 : decide (256<(n : Int))=false:=by simp;omega
  have Hm : Hid (rmatE P M mod cols L=if shapeQ cols L=false then 3 else if L.all (elsQ q) then 0 else 2):=by
   show _=_;rw [HB.out,matE,if_neg (by rw [Hlen.out];omega)]
  have hi1:=hiW.keep hb1
  clear b1 b2
  go_wp2_with fail
  go_loopw [6] (λiv wr=>∃k : Nat,k<=n/\iv = .int .i64 k/\Hid ((L.take k).all (λr=>decide ((r.length : Int)=cols))=true)/\Drawn w1 wr) (λiv _=>n - (intOf iv).toNat)
  case atStart=>exact ⟨0,Nat.zero_le _,rfl,by show _=_;simp,Drawn.refl _⟩
  case round =>
   obtain ⟨k,hk,rfl,hall,hd⟩:=hrel
   have hir:=hi1.drawn hd
   have e3:=hd.cell d3
   have e4:=hd.cell d4
   by_cases hlt : k<n
   ·obtain ⟨ra,rn,rc,hcell,hrow⟩:=hir.cell k hlt
    have hkL : k<L.length:=by rw [Hlen.out];exact hlt
    have hrl:=hrow.len
    rw [nthR_getElem hkL] at hrl
    have Hrl:=Lib.hid hrl
    clear hrl
    by_cases he : (rn : Int)=cols
    ·have he' : ((rn : Int) != cols)=false:=by simpa using he
     have Hs : Hid ((L.take (k+1)).all (λr=>decide ((r.length : Int)=cols))=true):=all_take_succ hkL hall.out (by rw [Hrl.out];simpa using he)
     clear he
     go_wp2_with fail
     go_quiet (fail)
     go_wp2
     go_roundw
     case rel=>exact ⟨k+1,by omega,by go_num,Hs.out,hd.drewN _⟩
     case measure=>simp [intOf] <;> omega
    ·have he' : ((rn : Int) != cols)=true:=by simpa using he
     have Hs : Hid (rmatE P M mod cols L=3):=by
      show _=_;rw [Hm.out,if_pos]
      exact all_false_at hkL (by simp only [Hrl.out];simpa using he)
     clear he
     go_wp2_with fail
     go_quiet (fail)
     go_wp2
     go_ret
     exact ⟨ret_int Hs.out.symm,Below.next hbw1 (hd.drewN _).below⟩
   ·obtain rfl : k=n:=by omega
    have Hm2 : Hid (rmatE P M mod cols L=if L.all (elsQ q) then 0 else 2):=by
     have:=hall.out;rw [List.take_of_length_le (by rw [Hlen.out];exact Nat.le_refl _)] at this
     show _=_;rw [Hm.out,if_neg (by rw [shapeQ,this];simp)]
    have hbr : Below W.heap.size W wr:=Below.next hb1 hd.below
    have hir2:=hir
    clear d0 d1 d2 d3 d4 hall
    go_wp2_with fail
    clear e3 e4
    go_loopw [7] (λiv wx=>∃j : Nat,j<=k/\iv = .int .i64 j/\Hid ((L.take j).all (elsQ q)=true)/\Below W.heap.size W wx) (λiv _=>k - (intOf iv).toNat)
    case atStart=>exact ⟨0,Nat.zero_le _,rfl,by show _=_;simp,hbr⟩
    case round =>
     obtain ⟨j,hj,rfl,hall2,hbx⟩:=hrel
     obtain ⟨d0,d1,d2,d3,d4,_⟩:=HS.out _ hbx
     by_cases hlt : j<k
     ·have hiX:=hiW.keep hbx
      obtain ⟨ra,rn,rc,hcell,hrow⟩:=hiX.cell j hlt
      have hjL : j<L.length:=by rw [Hlen.out];exact hlt
      have HC:=Lib.hid (rEntries_any P M am mn cm ra rn rc (nthR L j) _ (hrow.keep (Below.refl _ _).drew))
      have hSj : ∀V,Below wr.heap.size wr V->V.cell? ⟨w.heap.size,0,none⟩=some (.int .i64 P)/\V.cell? ⟨w.heap.size,1,none⟩=some (.int .i64 M)/\V.cell? ⟨w.heap.size,2,none⟩=some (.slice am mn cm) /\
        V.cell? ⟨w.heap.size+1,1,none⟩=some (.slice a k c)/\V.cell? ⟨ablk a,aoff a+j,none⟩=some (.slice ra rn rc):=λV hV=>by
       obtain ⟨f0,f1,f2,f3,f4,_⟩:=HS.out V (Below.next hbx hV)
       exact ⟨f0,f1,f2,f4,cell_keep hV hcell⟩
      have HSj:=Lib.hid hSj
      have Hbx:=Lib.hid hbx
      rw [Hq.out] at HC
      clear hSj hbx
      by_cases he : elsQ q (nthR L j)=true
      ·have he2 : elsE q (nthR L j)=0:=by rw [elsE,he];rfl
       rw [he2] at HC
       rw [nthR_getElem hjL] at he
       have Hs : Hid ((L.take (j+1)).all (elsQ q)=true):=all_take_succ hjL hall2.out he
       clear he he2
       go_wp2_with fail
       go_region_held3 (λV=>V.cell? ⟨w.heap.size,0,none⟩=some (.int .i64 P)/\V.cell? ⟨w.heap.size,1,none⟩=some (.int .i64 M)/\V.cell? ⟨w.heap.size,2,none⟩=some (.slice am mn cm) /\
         V.cell? ⟨w.heap.size+1,1,none⟩=some (.slice a k c)/\V.cell? ⟨ablk a,aoff a+j,none⟩=some (.slice ra rn rc))
        ((refine HSj.out _ ?_;first | exact (Below.refl _ _).drew | exact Below.next (Below.refl _ _).drew hb4))
        (first | (go_at_call 76;((with_reducible refine HC.out.mono ?_);rintro e w4 ⟨rfl,hb4⟩)))
       go_wp2_with fail
       go_roundw
       case rel=>exact ⟨j+1,by omega,by go_num,Hs.out,Below.next Hbx.out (Below.next (Below.refl _ _).drew hb4)⟩
       case measure=>simp [intOf] <;> omega
      ·have he2 : elsE q (nthR L j)=2:=by rw [elsE,if_neg he]
       rw [he2] at HC
       rw [nthR_getElem hjL] at he
       have Hs : Hid (rmatE P M mod cols L=2):=by
        show _=_;rw [Hm2.out,all_false_at hjL (by simpa using he)];rfl
       clear he he2
       go_wp2_with fail
       go_region_held3 (λV=>V.cell? ⟨w.heap.size,0,none⟩=some (.int .i64 P)/\V.cell? ⟨w.heap.size,1,none⟩=some (.int .i64 M)/\V.cell? ⟨w.heap.size,2,none⟩=some (.slice am mn cm) /\
         V.cell? ⟨w.heap.size+1,1,none⟩=some (.slice a k c)/\V.cell? ⟨ablk a,aoff a+j,none⟩=some (.slice ra rn rc))
        ((refine HSj.out _ ?_;first | exact (Below.refl _ _).drew | exact Below.next (Below.refl _ _).drew hb4))
        (first | (go_at_call 76;((with_reducible refine HC.out.mono ?_);rintro e w4 ⟨rfl,hb4⟩)))
       go_wp2_with fail
       go_ret
       exact ⟨ret_int Hs.out.symm,Below.next hbW (Below.next Hbx.out (Below.next (Below.refl _ _).drew hb4))⟩
     ·obtain rfl : j=k:=by omega
      have Hs : Hid (rmatE P M mod cols L=0):=by
       have:=hall2.out;rw [List.take_of_length_le (by rw [Hlen.out];exact Nat.le_refl _)] at this
       show _=_;rw [Hm2.out,this];rfl
      go_wp2_with fail
      go_ret
      exact ⟨ret_int Hs.out.symm,Below.next hbW hbx⟩
 ·have hB' : fieldRB P M mod=false:=by simpa using hB
  have Hf : Hid (rmatE P M mod cols L=1):=by show _=_;rw [rmatE,if_neg hB]
  have hE : errField (fieldRB P M mod)=1:=by rw [hB'];rfl
  rw [hE]
  clear hB hB' hE
  go_wp2_with fail
  go_ret
  exact ⟨ret_int Hf.out.symm,hbw1⟩
end

section
set_option maxRecDepth 100000
set_option maxHeartbeats 1600000

open Go.RowKit
def canR (O : FOps) (L : List (List Int)) (cols : Nat) : List (List Int):=(elimTo O L cols).1.take (elimTo O L cols).2.length
def RCanonPost (O : FOps) (L : List (List Int)) (cols : Nat) (w : World) (e : Ending) (w' : World) : Prop :=
 ∃a c ap cp,e = .returned (.tuple #[.slice a (elimTo O L cols).2.length c,.slice ap (elimTo O L cols).2.length cp])/\MatN w.heap.size w' a (elimTo O L cols).2.length (canR O L cols) /\
  IntsN w.heap.size w' ap (elimTo O L cols).2.length (elimTo O L cols).2/\Below w.heap.size w w'
theorem rCanon_any (P : Int) (m : Nat) (am : Option Addr) (mn cm : Nat) (mod : List Int) (a : Option Addr) (n c cols : Nat) (L : List (List Int)) (w : World) (hf : RFld w P m am mn mod) (hi : Mat w a n L)
  (hR : Rws (ElP P m) cols L) (hlen : cols<=1000000) (hn : n<=1000000) (hinv : ∀p,ElP P m p->p ≠ 0->(invR P m mod p=1 ↔ p=1)) :
  Calls Tryz.prog 120 #[.agg #[.int .i64 P,.int .i64 m,.slice am mn cm],.slice a n c,.int .i64 cols] w (RCanonPost (rops P m mod) L cols w):=by
 have Hlen:=Lib.hid hi.len
 have Hc : Hid (∀V,Below w.heap.size w V->Calls Tryz.prog 183 #[.agg #[.int .i64 P,.int .i64 m,.slice am mn cm],.slice a n c,.int .i64 cols] V (RElimPost (rops P m mod) L cols V)) :=
  λV hV=>rElim_any P m am mn cm mod a n c cols cols L V (hf.keep hV) (hi.keep hV) hR (Nat.le_refl _) hlen hn hinv
 obtain ⟨O,hO⟩ : ∃O,rops P m mod=O:=⟨_,rfl⟩
 rw [hO] at Hc ⊢
 clear hO hinv hR
 go_enter Tryz.func120,Tryz.ntmps120
 go_wp2_with fail
 obtain ⟨W,hW⟩ : ∃W : World,W=w.alloc (.cells #[.int .i64 P,.int .i64 m,.slice am mn cm] 24):=⟨_,rfl⟩
 rw [<- hW]
 have hbW : Below w.heap.size w W:=by rw [hW];exact below1 _ _
 clear hW
 refine (Hc.out W hbW).mono ?_
 rintro e w1 ⟨a1,c1,R1,ap,cp,rfl,hO1,hp1,hb1⟩
 have hpl:=elimTo_piv O L cols
 have hcap:=own_cap hO1.own
 have hpv:=(IntsN.own hp1).mono hbW.size
 have hmt:=((MatN.own hO1).take (k:=(elimTo O L cols).2.length) hpl.2).mono hbW.size
 have hF : RCanonPost O L cols w (.returned (.tuple #[.slice a1 (elimTo O L cols).2.length c1,.slice ap (elimTo O L cols).2.length cp])) w1:=⟨a1,_,ap,cp,rfl,hmt,hpv,Below.next hbW hb1⟩
 have HF:=Lib.hid hF
 have hle : (elimTo O L cols).2.length<=c1:=Nat.le_trans hpl.2 hcap
 clear hF hpv hmt hp1 hcap hpl
 generalize (elimTo O L cols).2.length=k at *
 go_wp2_with fail
 go_ret2
 simpa using HF.out
def rspaceE (P M : Int) (mod : List Int) (cols : Int) (L : List (List Int)) : Int :=
 if rmatE P M mod cols L=0 then (if canR (rops P M.toNat mod) L cols.toNat=L then 0 else 5) else rmatE P M mod cols L
theorem rmatE_zero {P M : Int} {mod : List Int} {cols : Int} {L : List (List Int)} (h : rmatE P M mod cols L=0) : fieldRB P M mod=true/\matE (orderS P M) cols L=0:=by
 unfold rmatE at h
 split at h
 ·rename_i h1;exact ⟨h1,h⟩
 ·omega
theorem rSpaceCheck_any (P M : Int) (am : Option Addr) (mn cm : Nat) (mod : List Int) (cols : Int) (a : Option Addr) (n c : Nat) (L : List (List Int)) (w : World) (hmod : Ints w am mn mod) (hi : Mat w a n L)
  (hinv : fieldRB P M mod=true->∀p,ElP P M.toNat p->p ≠ 0->(invR P M.toNat mod p=1 ↔ p=1)) :
  Calls Tryz.prog 58 #[.agg #[.int .i64 P,.int .i64 M,.slice am mn cm],.agg #[.int .i64 cols,.slice a n c]] w λe w'=>e = .returned (.int .i64 (rspaceE P M mod cols L))/\Below w.heap.size w w':=by
 have Hlen:=Lib.hid hi.len
 have Hinv:=Lib.hid hinv
 clear hinv
 go_enter Tryz.func58,Tryz.ntmps58
 go_wp2_with fail
 obtain ⟨W,hW⟩ : ∃W : World,W=(w.alloc (.cells #[.int .i64 P,.int .i64 M,.slice am mn cm] 24)).alloc (.cells #[.int .i64 cols,.slice a n c] 82):=⟨_,rfl⟩
 rw [<- hW]
 have hbW : Below w.heap.size w W:=by rw [hW];exact below2 _ _ _
 have x0 : Box W w.heap.size [.int .i64 P,.int .i64 M,.slice am mn cm]:=by rw [hW];exact (Box.new _ _ _ rfl).alloc _
 have y0 : Box W (w.heap.size+1) [.int .i64 cols,.slice a n c]:=by rw [hW];exact Box.new _ _ _ (by simp)
 have HX:=Lib.hid (And.intro x0 y0)
 have hiW:=hi.keep hbW
 have hmW:=hmod.keep hbW
 clear hW x0 y0
 refine (rMatCheck_any P M am mn cm mod cols a n c L W hmW hiW).mono ?_
 rintro e w1 ⟨rfl,hb1⟩
 have hbw1:=Below.next hbW hb1
 by_cases hE : rmatE P M mod cols L=0
 ·obtain ⟨hB,hm⟩:=rmatE_zero hE
  obtain ⟨m,rfl,hrf,hmods⟩:=fieldRB_rf hB
  obtain ⟨k,rfl,hk,hl,hR⟩:=matE_zero hm
  have HE : Hid (rspaceE P m mod k L=if canR (rops P m mod) L k=L then 0 else 5):=by show _=_;rw [rspaceE,if_pos hE,Int.toNat_natCast,Int.toNat_natCast]
  rw [hE]
  have hinv:=Hinv.out hB
  rw [Int.toNat_natCast] at hinv
  have hRw : Rws (ElP P m) k L:=λr hr=>⟨(hR r hr).1,λx hx=>by have:=(hR r hr).2 x hx;rw [hrf.order] at this;exact this⟩
  have x1:=HX.out.1.keep hb1
  have y1:=HX.out.2.keep hb1
  have d0:=x1.cell 0 rfl
  have d1:=x1.cell 1 rfl
  have d2:=x1.cell 2 rfl
  have d3:=y1.cell 0 rfl
  have d4:=y1.cell 1 rfl
  have hm1:=hmW.keep hb1
  have hi1:=hiW.keep hb1
  have hn : n<=1000000:=by rw [<- Hlen.out];omega
  have HC:=Lib.hid (rCanon_any P m am mn cm mod a n c k L w1 ⟨hrf,hmods w1 am mn hm1⟩ hi1 hRw (by omega) hn hinv)
  clear hE hB hm hmods hR hinv hRw x1 y1
  obtain ⟨O,hO⟩ : ∃O,rops P m mod=O:=⟨_,rfl⟩
  rw [hO] at HC HE
  clear hO
  go_wp2_with fail
  refine HC.out.mono ?_
  rintro e w2 ⟨a2,c2,ap,cp,rfl,hM2,hp2,hb2⟩
  have hbw2:=Below.next hbw1 hb2
  have y2:=(HX.out.2.keep hb1).keep hb2
  have d3:=y2.cell 0 rfl
  have d4:=y2.cell 1 rfl
  have hi2:=hi1.keep hb2
  have hM3:=hM2.mat
  have HS:=Lib.hid (rSameRows_any a2 (elimTo O L k).2.length c2 (canR O L k) a n c L hM3 hi2)
  clear hM2 hp2 y2
  generalize (elimTo O L k).2.length=kk at *
  by_cases hc : canR O L k=L
  ·have hc' : decide (canR O L k=L)=true:=by simpa using hc
   have HF : Hid (rspaceE P m mod k L=0):=by show _=_;rw [HE.out,if_pos hc]
   rw [hc'] at HS
   clear hc hc'
   go_wp2_with fail
   refine HS.out.mono ?_
   rintro e w3 ⟨rfl,hd3⟩
   go_wp2_with fail
   go_ret
   exact ⟨ret_int HF.out.symm,Below.next hbw2 hd3.below⟩
  ·have hc' : decide (canR O L k=L)=false:=by simpa using hc
   have HF : Hid (rspaceE P m mod k L=5):=by show _=_;rw [HE.out,if_neg hc]
   rw [hc'] at HS
   clear hc hc'
   go_wp2_with fail
   refine HS.out.mono ?_
   rintro e w3 ⟨rfl,hd3⟩
   go_wp2_with fail
   go_ret
   exact ⟨ret_int HF.out.symm,Below.next hbw2 hd3.below⟩
 ·have HE : Hid (rspaceE P M mod cols L=rmatE P M mod cols L):=by show _=_;rw [rspaceE,if_neg hE]
  have hE' : (rmatE P M mod cols L != 0)=true:=by simpa using hE
  clear hE
  go_wp2_with fail
  go_ret
  exact ⟨ret_int HE.out.symm,hbw1⟩
theorem lenE_lo {N : Int} (h : N<1) : lenE N=4:=by rw [lenE,if_pos (.inl h)]
theorem lenE_hi {N : Int} (h : 64<N) : lenE N=4:=by rw [lenE,if_pos (.inr h)]
theorem lenE_in {N : Int} (h1 : ¬ N<1) (h2 : ¬ 64<N) : lenE N=0:=by rw [lenE,if_neg (by omega)]
def rcodeE (P M : Int) (mod : List Int) (N : Int) (L : List (List Int)) : Int :=
 if fieldRB P M mod=true then (if lenE N=0 then rspaceE P M mod N L else 4) else 1
theorem rCodeCheck_any (P M : Int) (am : Option Addr) (mn cm : Nat) (mod : List Int) (N : Int) (a : Option Addr) (n c : Nat) (L : List (List Int)) (w : World) (hmod : Ints w am mn mod) (hi : Mat w a n L)
  (hinv : fieldRB P M mod=true->∀p,ElP P M.toNat p->p ≠ 0->(invR P M.toNat mod p=1 ↔ p=1)) :
  Calls Tryz.prog 22 #[.agg #[.int .i64 P,.int .i64 M,.slice am mn cm,.int .i64 N,.slice a n c]] w λe w'=>e = .returned (.int .i64 (rcodeE P M mod N L))/\Below w.heap.size w w':=by
 have Hinv:=Lib.hid hinv
 clear hinv
 go_enter Tryz.func22,Tryz.ntmps22
 go_wp2_with fail
 obtain ⟨W,hW⟩ : ∃W : World,W=w.alloc (.cells #[.int .i64 P,.int .i64 M,.slice am mn cm,.int .i64 N,.slice a n c] 27):=⟨_,rfl⟩
 rw [<- hW]
 have hbW : Below w.heap.size w W:=by rw [hW];exact below1 _ _
 have x0 : Box W w.heap.size [.int .i64 P,.int .i64 M,.slice am mn cm,.int .i64 N,.slice a n c]:=by rw [hW];exact Box.new _ _ _ rfl
 have HX:=Lib.hid x0
 clear hW x0
 refine (rFieldCheck_any P M am mn cm mod W (hmod.keep hbW)).mono ?_
 rintro e w1 ⟨rfl,hb1⟩
 have hbw1:=Below.next hbW hb1
 by_cases hB : fieldRB P M mod=true
 ·have hE : errField (fieldRB P M mod)=0:=by rw [hB];rfl
  rw [hE]
  have HB : Hid (rcodeE P M mod N L=if lenE N=0 then rspaceE P M mod N L else 4):=by show _=_;rw [rcodeE,if_pos hB]
  have x1:=HX.out.keep hb1
  have c0:=x1.cell 0 rfl
  have c1:=x1.cell 1 rfl
  have c2:=x1.cell 2 rfl
  have c3:=x1.cell 3 rfl
  have c4:=x1.cell 4 rfl
  have hm1:=(hmod.keep hbW).keep hb1
  have hi1:=(hi.keep hbW).keep hb1
  clear hE hB x1
  by_cases h1 : N<1
  ·have Hf : Hid (rcodeE P M mod N L=4):=by show _=_;rw [HB.out,lenE_lo h1];rfl
   have t1 : decide (N<1)=true:=by simpa using h1
   go_wp2_with fail
   go_ret
   exact ⟨ret_int Hf.out.symm,hbw1⟩
  ·have t1 : decide (N<1)=false:=by simpa using h1
   by_cases h2 : 64<N
   ·have Hf : Hid (rcodeE P M mod N L=4):=by show _=_;rw [HB.out,lenE_hi h2];rfl
    have t2 : decide (64<N)=true:=by simpa using h2
    go_wp2_with fail
    go_ret
    exact ⟨ret_int Hf.out.symm,hbw1⟩
   ·have t2 : decide (64<N)=false:=by simpa using h2
    have Hf : Hid (rcodeE P M mod N L=rspaceE P M mod N L):=by show _=_;rw [HB.out,lenE_in h1 h2,if_pos rfl]
    clear h1 h2
    go_wp2_with fail
    refine (rSpaceCheck_any P M am mn cm mod N a n c L w1 hm1 hi1 Hinv.out).mono ?_
    rintro e w2 ⟨rfl,hb2⟩
    go_wp2_with fail
    go_ret
    exact ⟨ret_int Hf.out.symm,Below.next hbw1 hb2⟩
 ·have hB' : fieldRB P M mod=false:=by simpa using hB
  have Hf : Hid (rcodeE P M mod N L=1):=by show _=_;rw [rcodeE,if_neg hB]
  have hE : errField (fieldRB P M mod)=1:=by rw [hB'];rfl
  rw [hE]
  clear hB hB' hE
  go_wp2_with fail
  go_ret
  exact ⟨ret_int Hf.out.symm,hbw1⟩
end

section
theorem hinv_all {P M : Int} {mod : List Int} (h : fieldRB P M mod=true) : ∀p,ElP P M.toNat p->p ≠ 0->(invR P M.toNat mod p=1 ↔ p=1):=by
 obtain ⟨m,rfl,_,_,_,_,h6⟩:=eq_ops (by rw [<- fieldRB_eq];exact h)
 exact h6
theorem rmatE_eq (P M : Int) (mod : List Int) (cols : Int) (L : List (List Int)) : rmatE P M mod cols L=fmatE P M mod cols L:=by
 unfold rmatE fmatE
 rw [fieldRB_eq]
 split
 ·rename_i h
  obtain ⟨m,rfl,_,hq,_⟩:=eq_ops h
  rw [Int.toNat_natCast,hq]
 ·rfl
theorem canR_eq {P M : Int} {mod : List Int} (h : fieldB P M mod=true) {L : List (List Int)} {m : Nat} (hL : Rws (tblOf P M.toNat mod).El m L) : canR (rops P M.toNat mod) L m=canS (tblOf P M.toNat mod) L m:=by
 obtain ⟨k,rfl,he,_,hF,hA,_⟩:=eq_ops h
 rw [Int.toNat_natCast] at hL ⊢
 rw [<- he] at hL
 unfold canR canS
 rw [(elimTo_agr hA hF.cl hL m (Nat.le_refl _)).1]
theorem rspaceE_eq (P M : Int) (mod : List Int) (cols : Int) (L : List (List Int)) : rspaceE P M mod cols L=spaceE P M mod cols L:=by
 unfold rspaceE spaceE
 rw [rmatE_eq]
 split
 ·rename_i h0
  obtain ⟨h1,h2⟩:=fmatE_zero h0
  obtain ⟨m,rfl,_,_,hR⟩:=matE_zero h2
  rw [Int.toNat_natCast,canR_eq h1 hR]
 ·rfl
theorem rcodeE_eq (P M : Int) (mod : List Int) (N : Int) (L : List (List Int)) : rcodeE P M mod N L=codeE P M mod N L:=by
 unfold rcodeE codeE
 rw [fieldRB_eq,rspaceE_eq]
end

section
set_option maxRecDepth 100000
set_option maxHeartbeats 1600000

open Go.RowKit
theorem rPick_any (av : Option Addr) (nv cv : Nat) (v : List Int) (ao : Option Addr) (no co : Nat) (Q : List Int) (w : World) (hv : Ints w av nv v) (hq : Ints w ao no Q) (hQ : InN nv Q) (hno : no<=1000000) :
  Calls Tryz.prog 34 #[.slice av nv cv,.slice ao no co] w (NewInts w (pickL Q v)):=by
 have Hql:=Lib.hid hq.len
 have hplq:=hq.pl
 have hplv:=hv.pl
 have hmq:=hq.max
 have hmv:=hv.max
 have HQ:=Lib.hid hQ
 have hpk : (pickL Q v).length=no:=by rw [pickL,List.length_map];exact Hql.out
 have Hpk:=Lib.hid hpk
 unfold maxLen at hmq hmv
 clear hQ hpk
 go_enter Tryz.func34,Tryz.ntmps34
 go_wp2_with (at_make;refine wpList_mk rfl _ _ 22 3 rfl (.int .i64 0) 8 Tryz.underlying22 infoInt rfl no rfl rfl (by omega) (hq.max) ?_;intro a1 w1 hown hbel hge hlt)
 go_loopw [6] (λiv wr=>∃k : Nat,k<=no/\iv = .int .i64 k /\
   wr.ownsRow w.heap.size 3 1 (.slice a1 no no) no ((fillTo ((pickL Q v).take k) k no).map (Value.int .i64))/\Below w.heap.size w wr)
  (λi _=>no - (intOf i).toNat)
 case atStart=>exact ⟨0,Nat.zero_le _,rfl,by simpa [fillTo] using hown,hbel⟩
 case round =>
  clear hown hbel
  obtain ⟨k,hk,rfl,hown,hbel⟩:=hrel
  obtain ⟨hints,hmine⟩:=Ints.own hown
  have hpl1:=hints.pl
  by_cases hlt : k<no
  ·have cq:=(hq.keep hbel).cell k hlt
   have hb:=HQ.out k (by rw [Hql.out];exact hlt)
   obtain ⟨z,hz⟩ : ∃z : Nat,nth Q k=z:=⟨(nth Q k).toNat,by omega⟩
   have hzn : z<nv:=by omega
   have cz:=(hv.keep hbel).cell z hzn
   have hf:=(hmine (by omega)).2 k hlt
   have hc2:=hints.cell k hlt
   have hB:=(hmine (by omega)).1
   have Hv : Hid (nth (pickL Q v) k=nth v z):=by show _=_;rw [nth_pickL Q v (by rw [Hql.out];exact hlt),hz,Int.toNat_natCast]
   rw [hz] at cq
   clear hz hb
   go_wp2_with fail
   go_roundw
   case rel =>
    refine ⟨k+1,by omega,by go_num,?_,hbel.setCell hB _⟩
    have h:=own_set hown k hlt (.int .i64 (nth v z))
    rw [<- List.map_set,fillTo_set _ _ _ _ (by rw [List.length_take,Hpk.out];omega) hlt] at h
    rw [List.take_succ_eq_append_getElem (by rw [Hpk.out];omega),<- nth_getElem,Hv.out]
    exact h
   case measure=>simp [intOf] <;> omega
  ·obtain rfl : k=no:=by omega
   have hfin : fillTo ((pickL Q v).take k) k k=pickL Q v:=by rw [fillTo_all,List.take_of_length_le (by rw [Hpk.out];exact Nat.le_refl _)]
   rw [hfin] at hown
   clear hfin
   go_wp2_with fail
   go_ret
   exact ⟨a1,k,by rw [Hpk.out];rfl,by rw [Hpk.out];exact hown,hbel⟩
end

section
section
variable {O : FOps} {El : Int->Prop} {m : Nat} {L : List (List Int)}
end
def wtU (x : List Int) (U : List Int) (m : Nat) : Nat:=(List.range m).countP λj=>decide (nth x j ≠ 0/\(j : Int) ∈ U)
theorem countP_point {p p' : Nat->Bool} {s : Nat} (h : ∀j,j ≠ s->p j=p' j) : ∀m,(List.range m).countP p'+(if s<m/\p s=true then 1 else 0)=(List.range m).countP p+(if s<m/\p' s=true then 1 else 0)
 | 0=>by simp
 | m+1=>by
  have ih:=countP_point h m
  rw [List.range_succ,List.countP_append,List.countP_append,List.countP_singleton,List.countP_singleton]
  by_cases e : s=m
  ·subst e
   simp at ih
   by_cases h1 : p s=true <;> by_cases h2 : p' s=true <;> simp [h1,h2] <;> omega
  ·have h3:=h m (λe2=>e e2.symm)
   rw [h3]
   by_cases h4 : s<m
   ·simp only [h4,show s<m+1 by omega,true_and] at ih ⊢;omega
   ·simp only [h4,show ¬ s<m+1 by omega,false_and] at ih ⊢;simp at ih ⊢;omega
theorem wtU_one (x U : List Int) (m : Nat) {s : Int} (h0 : 0<=s) (hm : s<m) : wtU x (U ++ [s]) m=wtU x U m+(if nth x s.toNat ≠ 0/\¬ s ∈ U then 1 else 0):=by
 have h:=countP_point (p:=λj=>decide (nth x j ≠ 0/\(j : Int) ∈ U)) (p':=λj=>decide (nth x j ≠ 0/\(j : Int) ∈ U ++ [s])) (s:=s.toNat) (λj hj=>by
  have : ((j : Int) ∈ U ++ [s]) ↔ ((j : Int) ∈ U):=by
   rw [List.mem_append,List.mem_singleton]
   exact ⟨λh=>h.elim id λe=>absurd (by omega) hj,.inl⟩
  simp [this]) m
 have e : ((s.toNat : Nat) : Int)=s:=by omega
 have hlt : s.toNat<m:=by omega
 unfold wtU
 simp only [e,hlt,true_and,decide_eq_true_eq,List.mem_append,List.mem_singleton,or_true,and_true] at h
 have h' : (List.range m).countP (λj=>decide (nth x j ≠ 0/\(j : Int) ∈ U ++ [s]))=(List.range m).countP (λj=>decide (nth x j ≠ 0/\((j : Int) ∈ U\/(j : Int)=s))):=by simp
 rw [h']
 by_cases h1 : nth x s.toNat=0
 ·simp [h1] at h ⊢;exact h
 ·by_cases h2 : s ∈ U
  ·simp [h1,h2] at h ⊢;omega
  ·simp [h1,h2] at h ⊢;omega
theorem wtU_add (x : List Int) (m : Nat) : ∀(S U : List Int),S.Nodup->(∀s ∈ S,0<=s/\s<(m : Int))->wtU x (U ++ S) m=wtU x U m+S.countP λs=>decide (nth x s.toNat ≠ 0/\¬ s ∈ U)
 | [],U,_,_=>by simp
 | s :: S,U,hn,hb=>by
  rw [List.nodup_cons] at hn
  have h1:=hb s (List.mem_cons_self ..)
  have ih:=wtU_add x m S (U ++ [s]) hn.2 λy hy=>hb y (List.mem_cons_of_mem _ hy)
  rw [List.append_assoc,List.singleton_append] at ih
  rw [ih,wtU_one x U m h1.1 h1.2,List.countP_cons]
  have e : S.countP (λy=>decide (nth x y.toNat ≠ 0/\¬ y ∈ U ++ [s]))=S.countP (λy=>decide (nth x y.toNat ≠ 0/\¬ y ∈ U)):=by
   refine List.countP_congr λy hy=>?_
   have : y ≠ s:=λe=>hn.1 (e ▸ hy)
   simp [this]
  rw [e]
  simp only [decide_eq_true_eq]
  omega
theorem wtU_le (x U : List Int) (m : Nat) (hx : x.length=m) : wtU x U m<=wtL x:=by
 have h : wtL x=(List.range m).countP λj=>decide (nth x j ≠ 0):=by
  have e : x=(List.range m).map (nth x):=by
   refine List.ext_getElem (by simp [hx]) λi h1 h2=>?_
   rw [List.getElem_map,List.getElem_range,nth_getElem h1]
  conv=>lhs;rw [wtL,e,List.countP_map]
  rfl
 rw [h]
 exact List.countP_mono_left λj _ h=>by simp at h ⊢;exact h.1
theorem chain_bound {O : FOps} {L : List (List Int)} {m : Nat} {x : List Int} {v : Int} : ∀(T : List (List Int × Int)) (U : List Int),chainF O L m U T->(∀t ∈ T,v<(wtL (pickL t.1 x) : Int)) ->
  flTo L.length v (T.map (·.2)) T.length+wtU x U m<=(wtU x (U ++ (T.map (·.1)).flatten) m : Int)
 | [],U,_,_=>by simp [flTo]
 | t :: T,U,h,hw=>by
  obtain ⟨h1,h2,h3,h4,h5⟩:=h
  have ih:=chain_bound T (U ++ t.1) h5 λy hy=>hw y (List.mem_cons_of_mem _ hy)
  have hl : t.1.length=L.length:=(isB_iff.1 h2).1
  have hin : ∀s ∈ t.1,0<=s/\s<(m : Int):=λs hs=>by
   obtain ⟨k,hk,rfl⟩:=List.mem_iff_getElem.1 hs
   have:=okSet_at h1 hk
   rw [nth_getElem hk] at this
   exact ⟨this.1,this.2.1⟩
  have ha:=wtU_add x m t.1 U (okSet_nodup h1) hin
  have hwt:=hw t (List.mem_cons_self ..)
  have hfl : ∀(r : Int) (R : List Int),∀k,flTo L.length v (r :: R) (k+1)=max 0 (v+1 - (L.length - r))+flTo L.length v R k:=λr R k=>by
   induction k with
   | zero=>simp [flTo,nth]
   | succ k ih=>rw [flTo,ih,flTo];simp [nth];omega
  have hc : (wtL (pickL t.1 x) : Int)<=(t.1.countP λs=>decide (nth x s.toNat ≠ 0/\¬ s ∈ U) : Nat)+(L.length - t.2):=by
   have e1 : wtL (pickL t.1 x)=t.1.countP λs=>decide (nth x s.toNat ≠ 0):=by
    unfold wtL pickL;rw [List.countP_map];rfl
   have e2 : t.2=(t.1.countP (λs=>decide (¬ s ∈ U)) : Nat):=by
    rw [h4,newF_count _ _ _ (Nat.le_refl _),List.take_of_length_le (Nat.le_refl _)]
   have e3 : ∀S : List Int,(S.countP λs=>decide (nth x s.toNat ≠ 0))+S.countP (λs=>decide (¬ s ∈ U))<=(S.countP λs=>decide (nth x s.toNat ≠ 0/\¬ s ∈ U))+S.length:=λS=>by
    induction S with
    | nil=>simp
    | cons s S ih =>
     rw [List.countP_cons,List.countP_cons,List.countP_cons,List.length_cons]
     by_cases p1 : nth x s.toNat=0 <;> by_cases p2 : s ∈ U <;> simp [p1,p2] at ih ⊢ <;> omega
   have:=e3 t.1
   omega
  rw [List.map_cons,List.length_cons,hfl,List.map_cons,List.flatten_cons,<- List.append_assoc]
  omega
theorem fam_bound {P M : Int} {mod : List Int} {m : Nat} {L : List (List Int)} (hE : codeE P M mod m L=0) {x : List Int} (hx : x.length=m) {v : Int} (hv : 0<=v/\v<=(L.length : Int)) (hl : L.length<=64)
  (hw : ∀t ∈ famL (tblOf P M.toNat mod).ops L m,v<(wtL (pickL t.1 x) : Int)) :
  ∃f : Int,flV L.length ((famL (tblOf P M.toNat mod).ops L m).map (·.2)) v=(f,0)/\f<=(wtL x : Int):=by
 obtain ⟨h1,h2⟩:=fam_all hE
 obtain ⟨m',e,hm1,hm64,_,_⟩:=codeE_fld hE
 generalize famL (tblOf P M.toNat mod).ops L m=T at *
 have hb:=chain_bound T [] h1 hw
 have hle:=wtU_le x ([] ++ (T.map (·.1)).flatten) m hx
 have hr : ∀(T : List (List Int × Int)) (U : List Int),chainF (tblOf P M.toNat mod).ops L m U T->(T.map (·.2)).all (flQ L.length)=true:=λT=>by
  induction T with
  | nil=>intro U _;rfl
  | cons t T ih =>
   rintro U ⟨q1,q2,q3,q4,q5⟩
   have hbd:=newF_bd U t.1 t.1.length
   have hl : t.1.length=L.length:=(isB_iff.1 q2).1
   rw [List.map_cons,List.all_cons,ih _ q5,Bool.and_true]
   unfold flQ
   simp;omega
 refine ⟨flTo L.length v (T.map (·.2)) T.length,?_,?_⟩
 ·rw [flV,if_pos,List.length_map]
  refine ⟨?_,hr T [] h1⟩
  unfold flB
  simp [List.length_map]
  omega
 ·omega
end

section
section
variable {O : FOps} {El : Int->Prop} {m : Nat} {R : List (List Int)} {P : List Int}
theorem red_rs (F : Fld O El) (hI : BS.Inv El m ⟨R,P⟩) {v : List Int} (hv : Vc El m v) (hs : RS O El m R (λx=>nth v x)) : ∀k,k<=R.length->RS O El m R (λx=>nth (redTo O R P v k) x)
 | 0,_=>hs
 | k+1,hk=>by
  have hu : Vc El m (redTo O R P v k):=Vc.redTo F hI.ok hv k (show k<=R.length by omega)
  have hp : (nth P k).toNat<m:=hI.ok.pl (show k<R.length by omega)
  have hr : Vc El m (nthR R k):=hI.ok.row (show k<R.length by omega)
  refine ((red_rs F hI hv hs k (by omega)).comb F (.row F (i:=k) (by omega)) (hu.at hp)).congr λx hx=>?_
  rw [redTo,nth_redStep F hu hr hp hx,F.mul_comm _ _ (hu.at hp) (hr.at hx)]
theorem red_zero (F : Fld O El) (hR : Rws El m R) (hP : Piv R P m) (hlen : R.length=P.length) {v : List Int} (hv : Vc El m v) (hs : RS O El m R (λx=>nth v x)) : ∀x,x<m->nth (redTo O R P v R.length) x=0:=by
 have hI:=piv_inv hR hP hlen
 obtain ⟨e,he,h⟩:=red_rs F hI hv hs R.length (Nat.le_refl _)
 intro x hx
 have h1 : nth (redTo O R P v R.length) x=e (colS R x):=h x hx
 rw [h1]
 refine hP.all F hR hx e he λy hy=>?_
 obtain ⟨j,hj,rfl⟩:=(mem_grL P _ _).1 hy
 rw [<- h _ (by have:=hP.lt j hj;omega)]
 exact hI.place F hv R.length (Nat.le_refl _) j (by omega)
end
end

section
section
variable {O : FOps} {El : Int->Prop} {m : Nat} {L : List (List Int)} {C : Clm}
end
theorem wtL_zero {x : List Int} : wtL x=0 ↔ ∀k,k<x.length->nth x k=0:=by
 unfold wtL
 rw [List.countP_eq_zero]
 constructor
 ·intro h k hk
  have h1:=h _ (nth_mem hk)
  simpa using h1
 ·intro h y hy
  obtain ⟨k,hk,rfl⟩:=List.mem_iff_getElem.1 hy
  have h1:=h k hk
  rw [nth_getElem hk] at h1
  simp [h1]
section
variable {P M : Int} {mod : List Int} {m : Nat} {L : List (List Int)}
theorem code_piv (hE : codeE P M mod m L=0) : ∃p : List Int,Piv L p m/\L.length=p.length:=by
 obtain ⟨N',e,hm1,hm64,F,hR⟩:=codeE_fld hE
 obtain rfl : m=N':=by omega
 have h6:=(spaceE_zero (codeE_zero hE).2.2.2).2
 rw [Int.toNat_natCast] at h6
 have hcan : canO (tblOf P M.toNat mod).ops m L=L:=h6
 obtain ⟨hPv,hLd⟩:=canO_piv F hR
 have hcl:=canO_len F hR
 rw [hcan] at hPv hcl
 exact ⟨_,hPv,hcl⟩
theorem cmb_piv (hE : codeE P M mod m L=0) {p : List Int} (hp : Piv L p m) (hl : L.length=p.length) {v : List Int} (hv : ∀k,k<L.length->(tblOf P M.toNat mod).El (nth v k)) {k : Nat} (hk : k<L.length) :
  nth (cmbTo (tblOf P M.toNat mod).ops m v L L.length) (nth p k).toNat=nth v k:=by
 obtain ⟨N',e,hm1,hm64,F,hR⟩:=codeE_fld hE
 obtain rfl : m=N':=by omega
 have hpk:=hp.lt k (by omega)
 rw [cmb_dot F hR hv (by omega) _ (Nat.le_refl _)]
 have hone : ∀t,t<L.length->nth (nthR L t) (nth p k).toNat=if t=k then 1 else 0:=λt ht=>hp.one k t (by omega) ht
 have hvj:=hv k hk
 rw [dotN_one F (x:=k) (by
  show (tblOf P M.toNat mod).El ((tblOf P M.toNat mod).ops.mul (nth v k) (nth (nthR L k) (nth p k).toNat))
  rw [hone k hk,if_pos rfl,F.mone hvj];exact hvj) L.length (λq hq hqk=>by
  show (tblOf P M.toNat mod).ops.mul (nth v q) (nth (nthR L q) (nth p k).toNat)=0
  rw [hone q hq,if_neg hqk,F.mzero (hv q hq)]),if_pos hk]
 show (tblOf P M.toNat mod).ops.mul (nth v k) (nth (nthR L k) (nth p k).toNat)=_
 rw [hone k hk,if_pos rfl,F.mone hvj]
end
end

section
def addAll (O : FOps) : List Int->List Int->List (List Int)->List Int
 | u,a :: s,r :: R=>addAll O (addS O u a r) s R
 | u,_,_=>u
variable {O : FOps} {m : Nat}
theorem addAll_cmb {v : List Int} {L : List (List Int)} (h : v.length=L.length) : ∀(d j : Nat),j+d=L.length->addAll O (cmbTo O m v L j) (v.drop j) (L.drop j)=cmbTo O m v L L.length
 | 0,j,hj=>by
  obtain rfl : j=L.length:=by omega
  rw [List.drop_of_length_le (Nat.le_refl _),List.drop_of_length_le (by omega)]
  rfl
 | d+1,j,hj=>by
  rw [List.drop_eq_getElem_cons (show j<v.length by omega),List.drop_eq_getElem_cons (show j<L.length by omega),addAll]
  rw [<- addAll_cmb h d (j+1) (by omega)]
  congr 1
  rw [cmbTo,nth_getElem (show j<v.length by omega),nthR_getElem (show j<L.length by omega)]
  rfl
end

section
open Go.RowKit
theorem rCheck_any (P M : Int) (am : Option Addr) (mn cm : Nat) (mod : List Int) (N : Int) (a : Option Addr) (n c : Nat) (L : List (List Int)) (w : World) (hmod : Ints w am mn mod) (hi : Mat w a n L) :
  Calls Tryz.prog 22 #[.agg #[.int .i64 P,.int .i64 M,.slice am mn cm,.int .i64 N,.slice a n c]] w λe w'=>e = .returned (.int .i64 (codeE P M mod N L))/\Below w.heap.size w w':=by
 rw [<- rcodeE_eq]
 exact rCodeCheck_any P M am mn cm mod N a n c L w hmod hi hinv_all
end

section
open Go.RowKit
section
variable {O : FOps} {El : Int->Prop} {m : Nat} {A B L : List (List Int)}
theorem RS.cmb (F : Fld O El) (hL : Rws El m L) {f : Nat->Int} (h : RS O El m L f) : ∃v,Vc El L.length v/\∀x,x<m->f x=nth (cmbTo O m v L L.length) x:=by
 obtain ⟨e,he,h2⟩:=h
 obtain ⟨c,hc⟩ : ∃c,((List.range L.length).map λt=>e (unitR L.length t))=c:=⟨_,rfl⟩
 have hcl : c.length=L.length:=by rw [<- hc];simp
 have hcn : ∀t,t<L.length->nth c t=e (unitR L.length t):=λt ht=>by rw [<- hc,nth_mapRange _ _ _ ht]
 have hcv : Vc El L.length c:=⟨hcl,λy hy=>by
  obtain ⟨t,ht,rfl⟩:=List.mem_iff_getElem.1 hy
  rw [<- nth_getElem ht,hcn t (by omega)]
  exact he.el _ (unitR_vc F _ _)⟩
 refine ⟨c,hcv,λx hx=>?_⟩
 rw [h2 x hx,form_unit F he (colS_vc hL F.zero x),cmb_dot F hL (λk hk=>hcv.at hk) hx _ (Nat.le_refl _)]
 exact dotN_congr _ λp hp=>⟨(hcn p hp).symm,nth_colS _ _ _ hp⟩
end
end

section
open Go.RowKit
theorem mem_elsN {q : Nat} {x : Int} : x ∈ elsN q ↔ 1<=x/\x<q:=by
 unfold elsN
 rw [List.mem_map]
 constructor
 ·rintro ⟨i,hi,rfl⟩
  rw [List.mem_range] at hi
  omega
 ·intro h
  exact ⟨(x - 1).toNat,by rw [List.mem_range];omega,by omega⟩
end

section
open Go.RowKit
theorem cmpM_self : ∀a : List Int,cmpL a a=0
 | []=>rfl
 | x :: a=>by rw [cmpL,if_neg (by omega),if_neg (by omega),cmpM_self a]
theorem cmpM_anti : ∀a b : List Int,cmpL b a = - cmpL a b
 | [],[]=>rfl
 | [],_ :: _=>rfl
 | _ :: _,[]=>rfl
 | x :: a,y :: b=>by
  rw [cmpL,cmpL]
  by_cases h1 : x<y
  ·rw [if_neg (by omega),if_pos h1,if_pos h1];rfl
  ·by_cases h2 : y<x
   ·rw [if_pos h2,if_neg h1,if_pos h2]
   ·rw [if_neg h2,if_neg h1,if_neg h1,if_neg h2,cmpM_anti a b]
theorem cmpM_le : ∀ {a b c : List Int},cmpL a b<=0->cmpL b c<=0->cmpL a c<=0
 | [],_,[],_,_=>by rw [cmpL];omega
 | [],_,_ :: _,_,_=>by rw [cmpL];omega
 | _ :: _,[],_,h,_=>by rw [cmpL] at h;omega
 | _ :: _,_ :: _,[],_,h=>by rw [cmpL] at h;omega
 | x :: a,y :: b,z :: c,h,h'=>by
  rw [cmpL] at h h' ⊢
  by_cases h1 : x<y
  ·by_cases h3 : z<y
   ·rw [if_neg (by omega),if_pos h3] at h';omega
   ·rw [if_pos (by omega)];omega
  ·rw [if_neg h1] at h
   by_cases h2 : y<x
   ·rw [if_pos h2] at h;omega
   ·rw [if_neg h2] at h
    by_cases h3 : y<z
    ·rw [if_pos (by omega)];omega
    ·rw [if_neg h3] at h'
     by_cases h4 : z<y
     ·rw [if_pos h4] at h';omega
     ·rw [if_neg h4] at h'
      rw [if_neg (by omega),if_neg (by omega)]
      exact cmpM_le h h'
def leK (b x : List Int) : Prop:=wtL b<wtL x\/(wtL b=wtL x/\cmpL b x<=0)
theorem leK.refl (b : List Int) : leK b b:=.inr ⟨rfl,by rw [cmpM_self];omega⟩
theorem leK.trans {a b c : List Int} (h : leK a b) (h' : leK b c) : leK a c:=by
 rcases h with h | ⟨h,g⟩
 ·rcases h' with h' | ⟨h',_⟩
  ·exact .inl (by omega)
  ·exact .inl (by omega)
 ·rcases h' with h' | ⟨h',g'⟩
  ·exact .inl (by omega)
  ·exact .inr ⟨by omega,cmpM_le g g'⟩
theorem leK.wt {a b : List Int} (h : leK a b) : wtL a<=wtL b:=by rcases h with h | ⟨h,_⟩ <;> omega
theorem wtM_zero {x : List Int} : wtL x=0 ↔ ∀y ∈ x,y=0:=by
 unfold wtL
 rw [List.countP_eq_zero]
 constructor
 ·intro h y hy;have:=h y hy;simpa using this
 ·intro h y hy;rw [h y hy];simp
theorem wtM_nil : wtL []=0:=rfl
theorem fnz_lt {v : List Int} (h : wtL v ≠ 0) : fnz v<v.length:=by
 refine Decidable.byContradiction λhn=>h (wtM_zero.2 λy hy=>?_)
 obtain ⟨i,hi,rfl⟩:=List.mem_iff_getElem.1 hy
 have:=fnz_zero v i (by omega)
 rwa [nth_getElem hi] at this
theorem wtM_cons (x : Int) (l : List Int) : wtL (x :: l)=wtL l+if x=0 then 0 else 1:=by
 unfold wtL
 rw [List.countP_cons]
 by_cases h : x=0 <;> simp [h]
section
variable {O : FOps} {El : Int->Prop} {m : Nat}
theorem inv_ne (F : Fld O El) {a : Int} (ha : El a) (h0 : a ≠ 0) : El (O.inv a)/\O.inv a ≠ 0:=by
 have hi:=F.cl.inv a ha h0
 refine ⟨hi,λe=>?_⟩
 have h1:=F.mul_inv a ha h0
 rw [e,F.mzero ha] at h1
 have h2:=F.one_mul a ha
 rw [<- h1,F.zmul ha] at h2
 exact h0 h2.symm
theorem scl_zero (F : Fld O El) {s x : Int} (hs : El s) (h0 : s ≠ 0) (hx : El x) : O.mul s x=0 ↔ x=0 :=
 ⟨λh=>F.mul_ne hs hx h0 h,λh=>by rw [h,F.mzero hs]⟩
theorem wtL_scl (F : Fld O El) {s : Int} (hs : El s) (h0 : s ≠ 0) : ∀ {x : List Int},(∀y ∈ x,El y)->wtL (x.map (O.mul s))=wtL x
 | [],_=>rfl
 | y :: x,h=>by
  rw [List.map_cons,wtM_cons,wtM_cons,wtL_scl F hs h0 λz hz=>h z (by simp [hz])]
  simp [scl_zero F hs h0 (h y (by simp))]
theorem fnz_scl (F : Fld O El) {s : Int} (hs : El s) (h0 : s ≠ 0) : ∀ {x : List Int},(∀y ∈ x,El y)->fnz (x.map (O.mul s))=fnz x
 | [],_=>rfl
 | y :: x,h=>by
  rw [List.map_cons,fnz,fnz,fnz_scl F hs h0 λz hz=>h z (by simp [hz])]
  simp [scl_zero F hs h0 (h y (by simp))]
theorem first_el {v : List Int} (hv : Vc El m v) (h : wtL v ≠ 0) : El (nth v (fnz v))/\nth v (fnz v) ≠ 0 :=
 ⟨hv.at (by rw [<- hv.1];exact fnz_lt h),fnz_ne v (fnz_lt h)⟩
theorem monS_eq (O : FOps) (v : List Int) : monS O v=v.map (O.mul (O.inv (nth v (fnz v)))):=rfl
theorem monS_wt (F : Fld O El) {v : List Int} (hv : Vc El m v) (h : wtL v ≠ 0) : wtL (monS O v)=wtL v:=by
 obtain ⟨h1,h2⟩:=first_el hv h
 obtain ⟨h3,h4⟩:=inv_ne F h1 h2
 rw [monS_eq,wtL_scl F h3 h4 hv.2]
theorem inv_mul (F : Fld O El) {a b : Int} (ha : El a) (hb : El b) (h1 : a ≠ 0) (h2 : b ≠ 0) : O.mul (O.inv (O.mul a b)) a=O.inv b:=by
 have hab:=F.cl.mul a b ha hb
 have h0 : O.mul a b ≠ 0:=λe=>h2 (F.mul_ne ha hb h1 e)
 obtain ⟨i1,_⟩:=inv_ne F hab h0
 obtain ⟨i2,_⟩:=inv_ne F hb h2
 have hx:=F.cl.mul _ _ i1 ha
 have e1 : O.mul (O.mul (O.inv (O.mul a b)) a) b=1:=by
  rw [F.mul_assoc _ _ _ i1 ha hb,F.mul_comm _ _ i1 hab,F.mul_inv _ hab h0]
 rw [<- F.mone hx,<- F.mul_inv b hb h2,<- F.mul_assoc _ _ _ hx hb i2,e1,F.one_mul _ i2]
theorem monS_scl (F : Fld O El) {s : Int} (hs : El s) (h0 : s ≠ 0) {v : List Int} (hv : Vc El m v) (h : wtL v ≠ 0) : monS O (v.map (O.mul s))=monS O v:=by
 obtain ⟨h1,h2⟩:=first_el hv h
 have hl:=fnz_lt h
 rw [monS_eq,monS_eq,fnz_scl F hs h0 hv.2,nth_scl O v s hl,List.map_map]
 refine List.map_congr_left λx hx=>?_
 have hxe:=hv.2 x hx
 obtain ⟨i1,_⟩:=inv_ne F (F.cl.mul _ _ hs h1) λe=>h2 (F.mul_ne hs h1 h0 e)
 show O.mul _ (O.mul s x)=_
 rw [<- F.mul_assoc _ _ _ i1 hs hxe,inv_mul F hs h1 h0 h2]
theorem monS_first (F : Fld O El) {v : List Int} (hv : Vc El m v) (h : wtL v ≠ 0) : nth (monS O v) (fnz (monS O v))=1:=by
 obtain ⟨h1,h2⟩:=first_el hv h
 obtain ⟨h3,h4⟩:=inv_ne F h1 h2
 rw [monS_eq,fnz_scl F h3 h4 hv.2,nth_scl O v _ (fnz_lt h),F.mul_comm _ _ h3 h1,F.mul_inv _ h1 h2]
theorem monS_idem (F : Fld O El) {v : List Int} (hv : Vc El m v) (h : wtL v ≠ 0) : monS O (monS O v)=monS O v:=by
 obtain ⟨h1,h2⟩:=first_el hv h
 obtain ⟨h3,h4⟩:=inv_ne F h1 h2
 rw [monS_eq O v,monS_scl F h3 h4 hv h,monS_eq]
theorem look_spec (F : Fld O El) {b w : List Int} (hw : Vc El m w) (h0 : wtL w ≠ 0) :
  ((lookS O b w=b/\wtL b ≠ 0)\/lookS O b w=monS O w)/\wtL (lookS O b w) ≠ 0/\leK (lookS O b w) (monS O w)/\(wtL b ≠ 0->leK (lookS O b w) b):=by
 have hm:=monS_wt F hw h0
 unfold lookS
 by_cases h1 : wtL w=0\/(wtL b ≠ 0/\wtL b<wtL w)
 ·rw [if_pos h1]
  obtain ⟨g1,g2⟩:=h1.resolve_left h0
  exact ⟨.inl ⟨rfl,g1⟩,g1,.inl (by omega),λ_=>leK.refl b⟩
 ·rw [if_neg h1]
  by_cases h2 : wtL b=0\/wtL w<wtL b\/cmpL (monS O w) b<0
  ·rw [if_pos h2]
   refine ⟨.inr rfl,by omega,leK.refl _,λhb=>?_⟩
   rcases h2 with h2 | h2 | h2
   ·exact absurd h2 hb
   ·exact .inl (by omega)
   ·by_cases e : wtL w<wtL b
    ·exact .inl (by omega)
    ·refine .inr ⟨?_,by omega⟩
     have : ¬ wtL b<wtL w:=λe2=>h1 (.inr ⟨hb,e2⟩)
     omega
  ·rw [if_neg h2]
   have hb : wtL b ≠ 0:=λe=>h2 (.inl e)
   have e1 : ¬ wtL b<wtL w:=λe2=>h1 (.inr ⟨hb,e2⟩)
   have e2 : ¬ wtL w<wtL b:=λe=>h2 (.inr (.inl e))
   have e3 : ¬ cmpL (monS O w) b<0:=λe=>h2 (.inr (.inr e))
   refine ⟨.inl ⟨rfl,hb⟩,hb,.inr ⟨by omega,?_⟩,λ_=>leK.refl b⟩
   rw [cmpM_anti];omega
theorem fold_spec (F : Fld O El) : ∀(l : List (List Int)) (b : List Int),(∀y ∈ l,Vc El m y/\wtL y ≠ 0) ->
  ((l.foldl (lookS O) b=b\/∃y ∈ l,l.foldl (lookS O) b=monS O y))/\(∀y ∈ l,leK (l.foldl (lookS O) b) (monS O y))/\(wtL b ≠ 0->leK (l.foldl (lookS O) b) b)/\(l ≠ []\/wtL b ≠ 0->wtL (l.foldl (lookS O) b) ≠ 0)
 | [],b,_=>⟨.inl rfl,by simp,λ_=>leK.refl b,λh=>by rcases h with h | h;exact absurd rfl h;exact h⟩
 | y :: l,b,h=>by
  obtain ⟨hy,hy0⟩:=h y (by simp)
  obtain ⟨a1,a2,a3,a4⟩:=look_spec F (b:=b) hy hy0
  obtain ⟨b1,b2,b3,b4⟩:=fold_spec F l (lookS O b y) λz hz=>h z (by simp [hz])
  rw [List.foldl_cons]
  refine ⟨?_,λz hz=>?_,λhb=>(b3 a2).trans (a4 hb),λ_=>b4 (.inr a2)⟩
  ·rcases b1 with e | ⟨z,hz,e⟩
   ·rcases a1 with ⟨e2,_⟩ | e2
    ·exact .inl (by rw [e,e2])
    ·exact .inr ⟨y,by simp,by rw [e,e2]⟩
   ·exact .inr ⟨z,by simp [hz],e⟩
  ·rcases List.mem_cons.1 hz with rfl | hz
   ·exact (b3 a2).trans a3
   ·exact b2 z hz
def FC (cs c0 : List Int) : List Int->Prop
 | []=>True
 | a :: c=>if a=0 then FC cs c0 c else a ∈ c0/\∀b ∈ c,b ≠ 0->b ∈ cs
theorem FC_self {cs : List Int} : ∀ {c : List Int},FC cs cs c ↔ ∀b ∈ c,b ≠ 0->b ∈ cs
 | []=>by simp [FC]
 | a :: c=>by
  rw [FC]
  by_cases h : a=0
  ·rw [if_pos h,FC_self]
   constructor
   ·intro h1 b hb hb0
    rcases List.mem_cons.1 hb with rfl | hb
    ·exact absurd h hb0
    ·exact h1 b hb hb0
   ·intro h1 b hb hb0;exact h1 b (by simp [hb]) hb0
  ·rw [if_neg h]
   constructor
   ·rintro ⟨h1,h2⟩ b hb hb0
    rcases List.mem_cons.1 hb with rfl | hb
    ·exact h1
    ·exact h2 b hb hb0
   ·intro h1;exact ⟨h1 a (by simp) h,λb hb hb0=>h1 b (by simp [hb]) hb0⟩
theorem mem_sumL (O : FOps) {cs c0 : List Int} (h0 : ∀a ∈ c0,a ≠ 0) (l : Nat) (hf : ∀R v y,y ∈ sumS O cs l R v ↔ ∃c : List Int,c.length=R.length/\wtL c=l/\(∀b ∈ c,b ≠ 0->b ∈ cs)/\y=addAll O v c R) :
  ∀(R : List (List Int)) (v y : List Int),y ∈ sumL O (sumS O cs l) c0 R v ↔ ∃c : List Int,c.length=R.length/\wtL c=l+1/\FC cs c0 c/\y=addAll O v c R
 | [],v,y=>by
  rw [sumL]
  constructor
  ·intro h;simp at h
  ·rintro ⟨c,hc,h1,_⟩
   rw [List.eq_nil_of_length_eq_zero hc,wtM_nil] at h1
   omega
 | r :: R,v,y=>by
  rw [sumL,List.mem_append,List.mem_flatMap,mem_sumL O h0 l hf R v y]
  constructor
  ·rintro (⟨a,ha,h⟩ | ⟨c,h1,h2,h3,h4⟩)
   ·obtain ⟨c,h1,h2,h3,h4⟩:=(hf _ _ _).1 h
    have ha0:=h0 a ha
    exact ⟨a :: c,by simp [h1],by rw [wtM_cons,if_neg ha0];omega,by rw [FC,if_neg ha0];exact ⟨ha,h3⟩,h4⟩
   ·exact ⟨0 :: c,by simp [h1],by rw [wtM_cons,if_pos rfl];omega,by rw [FC,if_pos rfl];exact h3,by rw [h4,addAll,addS,if_pos rfl]⟩
  ·rintro ⟨c,h1,h2,h3,h4⟩
   match c,h1,h2,h3,h4 with
   | a :: c,h1,h2,h3,h4 =>
    rw [wtM_cons] at h2
    rw [FC] at h3
    rw [addAll] at h4
    by_cases ha : a=0
    ·rw [if_pos ha] at h2 h3
     rw [addS,if_pos ha] at h4
     exact .inr ⟨c,by simpa using h1,by omega,h3,h4⟩
    ·rw [if_neg ha] at h2 h3
     exact .inl ⟨a,h3.1,(hf _ _ _).2 ⟨c,by simpa using h1,by omega,h3.2,h4⟩⟩
theorem addAll_zero (O : FOps) : ∀(c : List Int) (R : List (List Int)) (v : List Int),(∀y ∈ c,y=0)->addAll O v c R=v
 | [],_,_,_=>by simp [addAll]
 | _ :: _,[],_,_=>by simp [addAll]
 | a :: c,r :: R,v,h=>by
  rw [addAll,addS,if_pos (h a (by simp)),addAll_zero O c R v λy hy=>h y (by simp [hy])]
theorem mem_sumS (O : FOps) {cs : List Int} (h0 : ∀a ∈ cs,a ≠ 0) : ∀(l : Nat) (R : List (List Int)) (v y : List Int),y ∈ sumS O cs l R v ↔ ∃c : List Int,c.length=R.length/\wtL c=l/\(∀b ∈ c,b ≠ 0->b ∈ cs)/\y=addAll O v c R
 | 0,R,v,y=>by
  rw [sumS,List.mem_singleton]
  constructor
  ·rintro rfl
   refine ⟨List.replicate R.length 0,by simp,wtM_zero.2 λy hy=>(List.mem_replicate.1 hy).2,λb hb hb0=>absurd (List.mem_replicate.1 hb).2 hb0,?_⟩
   rw [addAll_zero O _ _ _ λy hy=>(List.mem_replicate.1 hy).2]
  ·rintro ⟨c,h1,h2,_,h4⟩
   rw [h4,addAll_zero O _ _ _ (wtM_zero.1 h2)]
 | l+1,R,v,y=>by
  rw [sumS,mem_sumL O h0 l (mem_sumS O h0 l) R v y]
  constructor
  ·rintro ⟨c,h1,h2,h3,h4⟩;exact ⟨c,h1,h2,FC_self.1 h3,h4⟩
  ·rintro ⟨c,h1,h2,h3,h4⟩;exact ⟨c,h1,h2,FC_self.2 h3,h4⟩
theorem FC_first {cs : List Int} : ∀ {c : List Int},wtL c ≠ 0->(FC cs [1] c ↔ nth c (fnz c)=1/\∀j,fnz c<j->j<c.length->nth c j ≠ 0->nth c j ∈ cs)
 | [],h=>absurd rfl h
 | a :: c,h=>by
  rw [FC,fnz]
  by_cases ha : a=0
  ·rw [wtM_cons,if_pos ha] at h
   rw [if_pos ha,if_pos ha,FC_first (by omega)]
   constructor
   ·rintro ⟨h1,h2⟩
    refine ⟨by simpa [nth] using h1,λj h3 h4 h5=>?_⟩
    match j,h3,h4,h5 with
    | j+1,h3,h4,h5=>simpa [nth] using h2 j (by omega) (by simpa using h4) (by simpa [nth] using h5)
   ·rintro ⟨h1,h2⟩
    refine ⟨by simpa [nth] using h1,λj h3 h4 h5=>?_⟩
    simpa [nth] using h2 (j+1) (by omega) (by simpa using h4) (by simpa [nth] using h5)
  ·rw [if_neg ha,if_neg ha]
   constructor
   ·rintro ⟨h1,h2⟩
    refine ⟨by simpa [nth] using h1,λj h3 h4 h5=>?_⟩
    match j,h3,h4,h5 with
    | j+1,h3,h4,h5 =>
     have h6 : j<c.length:=by simpa using h4
     have e : nth (a :: c) (j+1)=nth c j:=by simp [nth]
     rw [e] at h5 ⊢
     exact h2 _ (nth_mem h6) h5
   ·rintro ⟨h1,h2⟩
    refine ⟨by simpa [nth] using h1,λb hb hb0=>?_⟩
    obtain ⟨j,hj,rfl⟩:=List.mem_iff_getElem.1 hb
    have e : nth (a :: c) (j+1)=nth c j:=by simp [nth]
    have:=h2 (j+1) (by omega) (by simpa using hj) (by rw [e,nth_getElem hj];exact hb0)
    rwa [e,nth_getElem hj] at this
end
end

section
theorem words_law {P M : Int} {mod : List Int} {m : Nat} {L : List (List Int)} (hE : codeE P M mod m L=0) {Q : List Int} (hQ : InN m Q) (hl : Q.length=L.length) (hg : (grS (tblOf P M.toNat mod).ops L Q).length=Q.length)
  {v : List Int} (hvl : v.length=L.length) (hv : ∀k,k<L.length->(tblOf P M.toNat mod).El (nth v k)) :
  Vc (tblOf P M.toNat mod).El m (cmbTo (tblOf P M.toNat mod).ops m v (sysL (tblOf P M.toNat mod).ops m L Q) L.length) /\
  (∀i,i<m->nth (redTo (tblOf P M.toNat mod).ops L (pivS (tblOf P M.toNat mod) L m) (cmbTo (tblOf P M.toNat mod).ops m v (sysL (tblOf P M.toNat mod).ops m L Q) L.length) L.length) i=0) /\
  pickL Q (cmbTo (tblOf P M.toNat mod).ops m v (sysL (tblOf P M.toNat mod).ops m L Q) L.length)=v:=by
 obtain ⟨N',e,hm1,hm64,F,hR⟩:=codeE_fld hE
 obtain rfl : m=N':=by omega
 have h6:=(spaceE_zero (codeE_zero hE).2.2.2).2
 rw [Int.toNat_natCast] at h6
 have hcan : canO (tblOf P M.toNat mod).ops m L=L:=h6
 obtain ⟨hPv,_⟩:=canO_piv F hR
 have hcl:=canO_len F hR
 rw [hcan] at hPv hcl
 have hform:=λi hi=>sys_form F hR hQ hl hg i hi
 obtain ⟨hSr,hSl,hSu,_⟩:=sys_law hE hQ hl hg
 obtain ⟨c1,c2⟩:=cmb_rs F hSr (x:=v) (λk hk=>hv k (by omega)) L.length (by omega)
 have hSL : RSub (tblOf P M.toNat mod).ops (tblOf P M.toNat mod).El m (sysL (tblOf P M.toNat mod).ops m L Q) L:=λi hi=>by
  obtain ⟨e,he,hy,_⟩:=hform i (by omega)
  exact ⟨e,he,hy⟩
 refine ⟨c1,red_zero F hR hPv hcl c1 (hSL.rs c2),?_⟩
 refine nth_ext (by rw [hvl,<- hl];simp [pickL]) λj hj=>?_
 have hj2 : j<Q.length:=by simpa [pickL] using hj
 have hqj:=hQ j hj2
 rw [nth_pickL Q _ hj2,cmb_dot F hSr (λk hk=>hv k (by omega)) (by omega) _ (by omega)]
 have hone : ∀t,t<L.length->nth (nthR (sysL (tblOf P M.toNat mod).ops m L Q) t) (nth Q j).toNat=if t=j then 1 else 0:=λt ht=>by
  obtain ⟨e',_,hy',hj'⟩:=hform t ht
  rw [hy' _ (by omega),hj' j hj2]
 have hvj:=hv j (by omega)
 rw [dotN_one F (x:=j) (by
  show (tblOf P M.toNat mod).El ((tblOf P M.toNat mod).ops.mul (nth v j) (nth (nthR (sysL (tblOf P M.toNat mod).ops m L Q) j) (nth Q j).toNat))
  rw [hone j (by omega),if_pos rfl,F.mone hvj];exact hvj) L.length (λp hp hpj=>by
  show (tblOf P M.toNat mod).ops.mul (nth v p) (nth (nthR (sysL (tblOf P M.toNat mod).ops m L Q) p) (nth Q j).toNat)=0
  rw [hone p hp,if_neg hpj,F.mzero (hv p hp)]),if_pos (by omega)]
 show (tblOf P M.toNat mod).ops.mul (nth v j) (nth (nthR (sysL (tblOf P M.toNat mod).ops m L Q) j) (nth Q j).toNat)=_
 rw [hone j (by omega),if_pos rfl,F.mone hvj]
end

end Go.Proofs.YtcfmiocdlcapoaaGreat
