/-  -/
import Derived.Test.YtcfmiocdlcapoaaGreatK11
import Derived.Test.YtcfmiocdlcapoaaGreatMCK3
import Derived.Test.YtcfmiocdlcapoaaGreatL1
import Derived.Test.YtcfmiocdlcapoaaGreatK9
import Derived.Test.YtcfmiocdlcapoaaGreatMCK4
import Derived.Test.YtcfmiocdlcapoaaGreatK15
import Derived.Test.YtcfmiocdlcapoaaGreatK16
import Derived.Test.YtcfmiocdlcapoaaGreatK8
import Derived.Test.YtcfmiocdlcapoaaGreatMCK1
import Derived.Test.YtcfmiocdlcapoaaGreatK18
import Derived.Test.YtcfmiocdlcapoaaGreatK20
import Derived.Test.YtcfmiocdlcapoaaGreatK17
import Derived.Test.YtcfmiocdlcapoaaGreatK22
import Derived.Test.YtcfmiocdlcapoaaGreatK24
import Derived.Test.YtcfmiocdlcapoaaGreatMCK2
namespace Go.Proofs.YtcfmiocdlcapoaaGreat
set_option linter.unusedVariables false
set_option linter.unusedSimpArgs false
set_option linter.unusedSectionVars false

section
set_option maxRecDepth 100000
set_option maxHeartbeats 1600000

open Go.RowKit
theorem rEntries_any (P M : Int) (am : Option Addr) (mn cm : Nat) (a : Option Addr) (n c : Nat) (l : List Int) (w : World) (hi : Ints w a n l) :
  Calls Tryz.prog 76 #[.agg #[.int .i64 P,.int .i64 M,.slice am mn cm],.slice a n c] w λe w'=>e = .returned (.int .i64 (elsE (orderS P M) l))/\Below w.heap.size w w':=by
 have Hlen:=Lib.hid hi.len
 have hpl:=hi.pl
 have hmax:=hi.max
 unfold maxLen at hmax
 go_enter Tryz.func76,Tryz.ntmps76
 go_wp2_with fail
 obtain ⟨W,hW⟩ : ∃W : World,W=w.alloc (.cells #[.int .i64 P,.int .i64 M,.slice am mn cm] 24):=⟨_,rfl⟩
 rw [<- hW]
 have hbW : Below w.heap.size w W:=by rw [hW];exact below1 _ _
 have x0 : Box W w.heap.size [.int .i64 P,.int .i64 M,.slice am mn cm]:=by rw [hW];exact Box.new _ _ _ rfl
 have hiW:=hi.keep hbW
 have hS : ∀k,k<n->∀V,Below W.heap.size W V->V.cell? ⟨w.heap.size,0,none⟩=some (.int .i64 P)/\V.cell? ⟨w.heap.size,1,none⟩=some (.int .i64 M)/\V.cell? ⟨w.heap.size,2,none⟩=some (.slice am mn cm)/\V.cell? ⟨ablk a,aoff a+k,none⟩=some (.int .i64 (nth l k))/\Below W.heap.size W V:=by
  intro k hk V hV
  have x1:=x0.keep hV
  exact ⟨x1.cell 0 rfl,x1.cell 1 rfl,x1.cell 2 rfl,(hiW.keep hV).cell k hk,hV⟩
 have HS:=Lib.hid hS
 clear hW x0 hS
 go_loopw [5] (λiv wr=>∃k : Nat,k<=n/\iv = .int .i64 k/\Hid ((l.take k).all (isQ (orderS P M))=true)/\Below W.heap.size W wr) (λiv _=>n - (intOf iv).toNat)
 case atStart=>exact ⟨0,Nat.zero_le _,rfl,by show _=_;simp,Below.refl _ _⟩
 case round =>
  obtain ⟨k,hk,rfl,hall,hbr⟩:=hrel
  by_cases hlt : k<n
  ·have HSk : Hid (∀V,Below W.heap.size W V->V.cell? ⟨w.heap.size,0,none⟩=some (.int .i64 P)/\V.cell? ⟨w.heap.size,1,none⟩=some (.int .i64 M)/\V.cell? ⟨w.heap.size,2,none⟩=some (.slice am mn cm)/\V.cell? ⟨ablk a,aoff a+k,none⟩=some (.int .i64 (nth l k))/\Below W.heap.size W V):=HS.out k hlt
   have hkl : k<l.length:=by rw [Hlen.out];exact hlt
   have Hbr:=Lib.hid hbr
   have Hq:=Lib.hid (rIs_any P M am mn cm (nth l k))
   clear hbr
   by_cases hq : isQ (orderS P M) (nth l k)=true
   ·have Hs : Hid ((l.take (k+1)).all (isQ (orderS P M))=true):=all_take_succ hkl hall.out (by rw [<- nth_getElem hkl];exact hq)
    rw [hq] at Hq
    clear hq
    go_wp2_with fail
    go_region_held3 (λV=>V.cell? ⟨w.heap.size,0,none⟩=some (.int .i64 P)/\V.cell? ⟨w.heap.size,1,none⟩=some (.int .i64 M)/\V.cell? ⟨w.heap.size,2,none⟩=some (.slice am mn cm)/\V.cell? ⟨ablk a,aoff a+k,none⟩=some (.int .i64 (nth l k))/\Below W.heap.size W V)
     ((refine HSk.out _ ?_;first | exact Hbr.out.drew | exact Below.next Hbr.out.drew hb4))
     (first | (go_at_call 145;((with_reducible refine (Hq.out _).mono ?_);rintro e w4 ⟨rfl,hb4⟩)))
    go_wp2_with fail
    go_roundw
    case rel=>exact ⟨k+1,by omega,by go_num,Hs.out,Below.next Hbr.out.drew hb4⟩
    case measure=>simp [intOf] <;> omega
   ·have hq' : isQ (orderS P M) (nth l k)=false:=by simpa using hq
    have Hs : Hid (elsE (orderS P M) l=2):=by show _=_;rw [elsE,elsQ,all_false_at hkl (by rw [<- nth_getElem hkl];exact hq')];rfl
    rw [hq'] at Hq
    clear hq hq'
    go_wp2_with fail
    go_region_held3 (λV=>V.cell? ⟨w.heap.size,0,none⟩=some (.int .i64 P)/\V.cell? ⟨w.heap.size,1,none⟩=some (.int .i64 M)/\V.cell? ⟨w.heap.size,2,none⟩=some (.slice am mn cm)/\V.cell? ⟨ablk a,aoff a+k,none⟩=some (.int .i64 (nth l k))/\Below W.heap.size W V)
     ((refine HSk.out _ ?_;first | exact Hbr.out.drew | exact Below.next Hbr.out.drew hb4))
     (first | (go_at_call 145;((with_reducible refine (Hq.out _).mono ?_);rintro e w4 ⟨rfl,hb4⟩)))
    go_wp2_with fail
    go_ret
    exact ⟨ret_int Hs.out.symm,Below.next hbW (Below.next Hbr.out.drew hb4)⟩
  ·obtain rfl : k=n:=by omega
   have Hs : Hid (elsE (orderS P M) l=0):=by
    have:=hall.out
    rw [List.take_of_length_le (by rw [Hlen.out];exact Nat.le_refl _)] at this
    show _=_;rw [elsE,elsQ,this];rfl
   go_wp2_with fail
   go_ret
   exact ⟨ret_int Hs.out.symm,Below.next hbW hbr⟩
end

section
set_option maxRecDepth 100000
set_option maxHeartbeats 4000000

open Go.RowKit
def rmatE (P M : Int) (mod : List Int) (cols : Int) (L : List (List Int)) : Int:=if fieldRB P M mod=true then matE (orderS P M) cols L else 1
theorem rMatCheck_any (P M : Int) (am : Option Addr) (mn cm : Nat) (mod : List Int) (cols : Int) (a : Option Addr) (n c : Nat) (L : List (List Int)) (w : World) (hmod : Ints w am mn mod) (hi : Mat w a n L) :
  Calls Tryz.prog 119 #[.agg #[.int .i64 P,.int .i64 M,.slice am mn cm],.agg #[.int .i64 cols,.slice a n c]] w λe w'=>e = .returned (.int .i64 (rmatE P M mod cols L))/\Below w.heap.size w w':=by
 have Hlen:=Lib.hid hi.len
 have hpl:=hi.pl
 have hmax:=hi.max
 unfold maxLen at hmax
 go_enter Tryz.func119,Tryz.ntmps119
 go_wp2_with fail
 obtain ⟨W,hW⟩ : ∃W : World,W=(w.alloc (.cells #[.int .i64 P,.int .i64 M,.slice am mn cm] 24)).alloc (.cells #[.int .i64 cols,.slice a n c] 82):=⟨_,rfl⟩
 rw [<- hW]
 have hbW : Below w.heap.size w W:=by rw [hW];exact below2 _ _ _
 have x0 : Box W w.heap.size [.int .i64 P,.int .i64 M,.slice am mn cm]:=by rw [hW];exact (Box.new _ _ _ rfl).alloc _
 have y0 : Box W (w.heap.size+1) [.int .i64 cols,.slice a n c]:=by rw [hW];exact Box.new _ _ _ (by simp)
 have hS : ∀V,Below W.heap.size W V->V.cell? ⟨w.heap.size,0,none⟩=some (.int .i64 P)/\V.cell? ⟨w.heap.size,1,none⟩=some (.int .i64 M)/\V.cell? ⟨w.heap.size,2,none⟩=some (.slice am mn cm) /\
   V.cell? ⟨w.heap.size+1,0,none⟩=some (.int .i64 cols)/\V.cell? ⟨w.heap.size+1,1,none⟩=some (.slice a n c)/\Below W.heap.size W V:=by
  intro V hV
  have x1:=x0.keep hV
  have y1:=y0.keep hV
  exact ⟨x1.cell 0 rfl,x1.cell 1 rfl,x1.cell 2 rfl,y1.cell 0 rfl,y1.cell 1 rfl,hV⟩
 have HS:=Lib.hid hS
 have hiW:=hi.keep hbW
 clear hW x0 y0 hS
 refine (rFieldCheck_any P M am mn cm mod W (hmod.keep hbW)).mono ?_
 rintro e w1 ⟨rfl,hb1⟩
 have hbw1:=Below.next hbW hb1
 by_cases hB : fieldRB P M mod=true
 ·have HB : Hid (rmatE P M mod cols L=matE (orderS P M) cols L):=by show _=_;rw [rmatE,if_pos hB]
  have hE : errField (fieldRB P M mod)=0:=by rw [hB];rfl
  rw [hE]
  obtain ⟨q,hq⟩ : ∃q,orderS P M=q:=⟨_,rfl⟩
  have Hq:=Lib.hid hq
  rw [hq] at HB
  obtain ⟨d0,d1,d2,d3,d4,_⟩:=HS.out w1 hb1
  clear hB hE hq
  by_cases b1 : cols<0
  ·have Hf : Hid (rmatE P M mod cols L=3):=by show _=_;rw [HB.out,matE,if_pos (.inl b1)]
   have t1 : decide (cols<0)=true:=by simpa using b1
   go_wp2_with fail
   go_ret
   exact ⟨ret_int Hf.out.symm,hbw1⟩
  have t1 : decide (cols<0)=false:=by simpa using b1
  by_cases b2 : 256<cols
  ·have Hf : Hid (rmatE P M mod cols L=3):=by show _=_;rw [HB.out,matE,if_pos (.inr (.inl b2))]
   have t2 : decide (256<cols)=true:=by simpa using b2
   go_wp2_with fail
   go_ret
   exact ⟨ret_int Hf.out.symm,hbw1⟩
  have t2 : decide (256<cols)=false:=by simpa using b2
  by_cases b3 : 256<n
  ·have Hf : Hid (rmatE P M mod cols L=3):=by show _=_;rw [HB.out,matE,if_pos (.inr (.inr (by rw [Hlen.out];exact b3)))]
   have t3 : decide (256<(n : Int))=true:=by simp;omega
   go_wp2_with fail
   go_ret
   exact ⟨ret_int Hf.out.symm,hbw1⟩
  have t3 : decide (256<(n : Int))=false:=by simp;omega
  have Hm : Hid (rmatE P M mod cols L=if shapeQ cols L=false then 3 else if L.all (elsQ q) then 0 else 2):=by
   show _=_;rw [HB.out,matE,if_neg (by rw [Hlen.out];omega)]
  have hi1:=hiW.keep hb1
  clear b1 b2
  go_wp2_with fail
  go_loopw [6] (λiv wr=>∃k : Nat,k<=n/\iv = .int .i64 k/\Hid ((L.take k).all (λr=>decide ((r.length : Int)=cols))=true)/\Drawn w1 wr) (λiv _=>n - (intOf iv).toNat)
  case atStart=>exact ⟨0,Nat.zero_le _,rfl,by show _=_;simp,Drawn.refl _⟩
  case round =>
   obtain ⟨k,hk,rfl,hall,hd⟩:=hrel
   have hir:=hi1.drawn hd
   have e3:=hd.cell d3
   have e4:=hd.cell d4
   by_cases hlt : k<n
   ·obtain ⟨ra,rn,rc,hcell,hrow⟩:=hir.cell k hlt
    have hkL : k<L.length:=by rw [Hlen.out];exact hlt
    have hrl:=hrow.len
    rw [nthR_getElem hkL] at hrl
    have Hrl:=Lib.hid hrl
    clear hrl
    by_cases he : (rn : Int)=cols
    ·have he' : ((rn : Int) != cols)=false:=by simpa using he
     have Hs : Hid ((L.take (k+1)).all (λr=>decide ((r.length : Int)=cols))=true):=all_take_succ hkL hall.out (by rw [Hrl.out];simpa using he)
     clear he
     go_wp2_with fail
     go_quiet (fail)
     go_wp2
     go_roundw
     case rel=>exact ⟨k+1,by omega,by go_num,Hs.out,hd.drewN _⟩
     case measure=>simp [intOf] <;> omega
    ·have he' : ((rn : Int) != cols)=true:=by simpa using he
     have Hs : Hid (rmatE P M mod cols L=3):=by
      show _=_;rw [Hm.out,if_pos]
      exact all_false_at hkL (by simp only [Hrl.out];simpa using he)
     clear he
     go_wp2_with fail
     go_quiet (fail)
     go_wp2
     go_ret
     exact ⟨ret_int Hs.out.symm,Below.next hbw1 (hd.drewN _).below⟩
   ·obtain rfl : k=n:=by omega
    have Hm2 : Hid (rmatE P M mod cols L=if L.all (elsQ q) then 0 else 2):=by
     have:=hall.out;rw [List.take_of_length_le (by rw [Hlen.out];exact Nat.le_refl _)] at this
     show _=_;rw [Hm.out,if_neg (by rw [shapeQ,this];simp)]
    have hbr : Below W.heap.size W wr:=Below.next hb1 hd.below
    have hir2:=hir
    clear d0 d1 d2 d3 d4 hall
    go_wp2_with fail
    clear e3 e4
    go_loopw [7] (λiv wx=>∃j : Nat,j<=k/\iv = .int .i64 j/\Hid ((L.take j).all (elsQ q)=true)/\Below W.heap.size W wx) (λiv _=>k - (intOf iv).toNat)
    case atStart=>exact ⟨0,Nat.zero_le _,rfl,by show _=_;simp,hbr⟩
    case round =>
     obtain ⟨j,hj,rfl,hall2,hbx⟩:=hrel
     obtain ⟨d0,d1,d2,d3,d4,_⟩:=HS.out _ hbx
     by_cases hlt : j<k
     ·have hiX:=hiW.keep hbx
      obtain ⟨ra,rn,rc,hcell,hrow⟩:=hiX.cell j hlt
      have hjL : j<L.length:=by rw [Hlen.out];exact hlt
      have HC:=Lib.hid (rEntries_any P M am mn cm ra rn rc (nthR L j) _ (hrow.keep (Below.refl _ _).drew))
      have hSj : ∀V,Below wr.heap.size wr V->V.cell? ⟨w.heap.size,0,none⟩=some (.int .i64 P)/\V.cell? ⟨w.heap.size,1,none⟩=some (.int .i64 M)/\V.cell? ⟨w.heap.size,2,none⟩=some (.slice am mn cm) /\
        V.cell? ⟨w.heap.size+1,1,none⟩=some (.slice a k c)/\V.cell? ⟨ablk a,aoff a+j,none⟩=some (.slice ra rn rc):=λV hV=>by
       obtain ⟨f0,f1,f2,f3,f4,_⟩:=HS.out V (Below.next hbx hV)
       exact ⟨f0,f1,f2,f4,cell_keep hV hcell⟩
      have HSj:=Lib.hid hSj
      have Hbx:=Lib.hid hbx
      rw [Hq.out] at HC
      clear hSj hbx
      by_cases he : elsQ q (nthR L j)=true
      ·have he2 : elsE q (nthR L j)=0:=by rw [elsE,he];rfl
       rw [he2] at HC
       rw [nthR_getElem hjL] at he
       have Hs : Hid ((L.take (j+1)).all (elsQ q)=true):=all_take_succ hjL hall2.out he
       clear he he2
       go_wp2_with fail
       go_region_held3 (λV=>V.cell? ⟨w.heap.size,0,none⟩=some (.int .i64 P)/\V.cell? ⟨w.heap.size,1,none⟩=some (.int .i64 M)/\V.cell? ⟨w.heap.size,2,none⟩=some (.slice am mn cm) /\
         V.cell? ⟨w.heap.size+1,1,none⟩=some (.slice a k c)/\V.cell? ⟨ablk a,aoff a+j,none⟩=some (.slice ra rn rc))
        ((refine HSj.out _ ?_;first | exact (Below.refl _ _).drew | exact Below.next (Below.refl _ _).drew hb4))
        (first | (go_at_call 76;((with_reducible refine HC.out.mono ?_);rintro e w4 ⟨rfl,hb4⟩)))
       go_wp2_with fail
       go_roundw
       case rel=>exact ⟨j+1,by omega,by go_num,Hs.out,Below.next Hbx.out (Below.next (Below.refl _ _).drew hb4)⟩
       case measure=>simp [intOf] <;> omega
      ·have he2 : elsE q (nthR L j)=2:=by rw [elsE,if_neg he]
       rw [he2] at HC
       rw [nthR_getElem hjL] at he
       have Hs : Hid (rmatE P M mod cols L=2):=by
        show _=_;rw [Hm2.out,all_false_at hjL (by simpa using he)];rfl
       clear he he2
       go_wp2_with fail
       go_region_held3 (λV=>V.cell? ⟨w.heap.size,0,none⟩=some (.int .i64 P)/\V.cell? ⟨w.heap.size,1,none⟩=some (.int .i64 M)/\V.cell? ⟨w.heap.size,2,none⟩=some (.slice am mn cm) /\
         V.cell? ⟨w.heap.size+1,1,none⟩=some (.slice a k c)/\V.cell? ⟨ablk a,aoff a+j,none⟩=some (.slice ra rn rc))
        ((refine HSj.out _ ?_;first | exact (Below.refl _ _).drew | exact Below.next (Below.refl _ _).drew hb4))
        (first | (go_at_call 76;((with_reducible refine HC.out.mono ?_);rintro e w4 ⟨rfl,hb4⟩)))
       go_wp2_with fail
       go_ret
       exact ⟨ret_int Hs.out.symm,Below.next hbW (Below.next Hbx.out (Below.next (Below.refl _ _).drew hb4))⟩
     ·obtain rfl : j=k:=by omega
      have Hs : Hid (rmatE P M mod cols L=0):=by
       have:=hall2.out;rw [List.take_of_length_le (by rw [Hlen.out];exact Nat.le_refl _)] at this
       show _=_;rw [Hm2.out,this];rfl
      go_wp2_with fail
      go_ret
      exact ⟨ret_int Hs.out.symm,Below.next hbW hbx⟩
 ·have hB' : fieldRB P M mod=false:=by simpa using hB
  have Hf : Hid (rmatE P M mod cols L=1):=by show _=_;rw [rmatE,if_neg hB]
  have hE : errField (fieldRB P M mod)=1:=by rw [hB'];rfl
  rw [hE]
  clear hB hB' hE
  go_wp2_with fail
  go_ret
  exact ⟨ret_int Hf.out.symm,hbw1⟩
end

section
set_option maxRecDepth 100000
set_option maxHeartbeats 1600000

open Go.RowKit
def canR (O : FOps) (L : List (List Int)) (cols : Nat) : List (List Int):=(elimTo O L cols).1.take (elimTo O L cols).2.length
def RCanonPost (O : FOps) (L : List (List Int)) (cols : Nat) (w : World) (e : Ending) (w' : World) : Prop :=
 ∃a c ap cp,e = .returned (.tuple #[.slice a (elimTo O L cols).2.length c,.slice ap (elimTo O L cols).2.length cp])/\MatN w.heap.size w' a (elimTo O L cols).2.length (canR O L cols) /\
  IntsN w.heap.size w' ap (elimTo O L cols).2.length (elimTo O L cols).2/\Below w.heap.size w w'
theorem rCanon_any (P : Int) (m : Nat) (am : Option Addr) (mn cm : Nat) (mod : List Int) (a : Option Addr) (n c cols : Nat) (L : List (List Int)) (w : World) (hf : RFld w P m am mn mod) (hi : Mat w a n L)
  (hR : Rws (ElP P m) cols L) (hlen : cols<=1000000) (hn : n<=1000000) (hinv : ∀p,ElP P m p->p ≠ 0->(invR P m mod p=1 ↔ p=1)) :
  Calls Tryz.prog 120 #[.agg #[.int .i64 P,.int .i64 m,.slice am mn cm],.slice a n c,.int .i64 cols] w (RCanonPost (rops P m mod) L cols w):=by
 have Hlen:=Lib.hid hi.len
 have Hc : Hid (∀V,Below w.heap.size w V->Calls Tryz.prog 183 #[.agg #[.int .i64 P,.int .i64 m,.slice am mn cm],.slice a n c,.int .i64 cols] V (RElimPost (rops P m mod) L cols V)) :=
  λV hV=>rElim_any P m am mn cm mod a n c cols cols L V (hf.keep hV) (hi.keep hV) hR (Nat.le_refl _) hlen hn hinv
 obtain ⟨O,hO⟩ : ∃O,rops P m mod=O:=⟨_,rfl⟩
 rw [hO] at Hc ⊢
 clear hO hinv hR
 go_enter Tryz.func120,Tryz.ntmps120
 go_wp2_with fail
 obtain ⟨W,hW⟩ : ∃W : World,W=w.alloc (.cells #[.int .i64 P,.int .i64 m,.slice am mn cm] 24):=⟨_,rfl⟩
 rw [<- hW]
 have hbW : Below w.heap.size w W:=by rw [hW];exact below1 _ _
 clear hW
 refine (Hc.out W hbW).mono ?_
 rintro e w1 ⟨a1,c1,R1,ap,cp,rfl,hO1,hp1,hb1⟩
 have hpl:=elimTo_piv O L cols
 have hcap:=own_cap hO1.own
 have hpv:=(IntsN.own hp1).mono hbW.size
 have hmt:=((MatN.own hO1).take (k:=(elimTo O L cols).2.length) hpl.2).mono hbW.size
 have hF : RCanonPost O L cols w (.returned (.tuple #[.slice a1 (elimTo O L cols).2.length c1,.slice ap (elimTo O L cols).2.length cp])) w1:=⟨a1,_,ap,cp,rfl,hmt,hpv,Below.next hbW hb1⟩
 have HF:=Lib.hid hF
 have hle : (elimTo O L cols).2.length<=c1:=Nat.le_trans hpl.2 hcap
 clear hF hpv hmt hp1 hcap hpl
 generalize (elimTo O L cols).2.length=k at *
 go_wp2_with fail
 go_ret2
 simpa using HF.out
def rspaceE (P M : Int) (mod : List Int) (cols : Int) (L : List (List Int)) : Int :=
 if rmatE P M mod cols L=0 then (if canR (rops P M.toNat mod) L cols.toNat=L then 0 else 5) else rmatE P M mod cols L
theorem rmatE_zero {P M : Int} {mod : List Int} {cols : Int} {L : List (List Int)} (h : rmatE P M mod cols L=0) : fieldRB P M mod=true/\matE (orderS P M) cols L=0:=by
 unfold rmatE at h
 split at h
 ·rename_i h1;exact ⟨h1,h⟩
 ·omega
theorem rSpaceCheck_any (P M : Int) (am : Option Addr) (mn cm : Nat) (mod : List Int) (cols : Int) (a : Option Addr) (n c : Nat) (L : List (List Int)) (w : World) (hmod : Ints w am mn mod) (hi : Mat w a n L)
  (hinv : fieldRB P M mod=true->∀p,ElP P M.toNat p->p ≠ 0->(invR P M.toNat mod p=1 ↔ p=1)) :
  Calls Tryz.prog 58 #[.agg #[.int .i64 P,.int .i64 M,.slice am mn cm],.agg #[.int .i64 cols,.slice a n c]] w λe w'=>e = .returned (.int .i64 (rspaceE P M mod cols L))/\Below w.heap.size w w':=by
 have Hlen:=Lib.hid hi.len
 have Hinv:=Lib.hid hinv
 clear hinv
 go_enter Tryz.func58,Tryz.ntmps58
 go_wp2_with fail
 obtain ⟨W,hW⟩ : ∃W : World,W=(w.alloc (.cells #[.int .i64 P,.int .i64 M,.slice am mn cm] 24)).alloc (.cells #[.int .i64 cols,.slice a n c] 82):=⟨_,rfl⟩
 rw [<- hW]
 have hbW : Below w.heap.size w W:=by rw [hW];exact below2 _ _ _
 have x0 : Box W w.heap.size [.int .i64 P,.int .i64 M,.slice am mn cm]:=by rw [hW];exact (Box.new _ _ _ rfl).alloc _
 have y0 : Box W (w.heap.size+1) [.int .i64 cols,.slice a n c]:=by rw [hW];exact Box.new _ _ _ (by simp)
 have HX:=Lib.hid (And.intro x0 y0)
 have hiW:=hi.keep hbW
 have hmW:=hmod.keep hbW
 clear hW x0 y0
 refine (rMatCheck_any P M am mn cm mod cols a n c L W hmW hiW).mono ?_
 rintro e w1 ⟨rfl,hb1⟩
 have hbw1:=Below.next hbW hb1
 by_cases hE : rmatE P M mod cols L=0
 ·obtain ⟨hB,hm⟩:=rmatE_zero hE
  obtain ⟨m,rfl,hrf,hmods⟩:=fieldRB_rf hB
  obtain ⟨k,rfl,hk,hl,hR⟩:=matE_zero hm
  have HE : Hid (rspaceE P m mod k L=if canR (rops P m mod) L k=L then 0 else 5):=by show _=_;rw [rspaceE,if_pos hE,Int.toNat_natCast,Int.toNat_natCast]
  rw [hE]
  have hinv:=Hinv.out hB
  rw [Int.toNat_natCast] at hinv
  have hRw : Rws (ElP P m) k L:=λr hr=>⟨(hR r hr).1,λx hx=>by have:=(hR r hr).2 x hx;rw [hrf.order] at this;exact this⟩
  have x1:=HX.out.1.keep hb1
  have y1:=HX.out.2.keep hb1
  have d0:=x1.cell 0 rfl
  have d1:=x1.cell 1 rfl
  have d2:=x1.cell 2 rfl
  have d3:=y1.cell 0 rfl
  have d4:=y1.cell 1 rfl
  have hm1:=hmW.keep hb1
  have hi1:=hiW.keep hb1
  have hn : n<=1000000:=by rw [<- Hlen.out];omega
  have HC:=Lib.hid (rCanon_any P m am mn cm mod a n c k L w1 ⟨hrf,hmods w1 am mn hm1⟩ hi1 hRw (by omega) hn hinv)
  clear hE hB hm hmods hR hinv hRw x1 y1
  obtain ⟨O,hO⟩ : ∃O,rops P m mod=O:=⟨_,rfl⟩
  rw [hO] at HC HE
  clear hO
  go_wp2_with fail
  refine HC.out.mono ?_
  rintro e w2 ⟨a2,c2,ap,cp,rfl,hM2,hp2,hb2⟩
  have hbw2:=Below.next hbw1 hb2
  have y2:=(HX.out.2.keep hb1).keep hb2
  have d3:=y2.cell 0 rfl
  have d4:=y2.cell 1 rfl
  have hi2:=hi1.keep hb2
  have hM3:=hM2.mat
  have HS:=Lib.hid (rSameRows_any a2 (elimTo O L k).2.length c2 (canR O L k) a n c L hM3 hi2)
  clear hM2 hp2 y2
  generalize (elimTo O L k).2.length=kk at *
  by_cases hc : canR O L k=L
  ·have hc' : decide (canR O L k=L)=true:=by simpa using hc
   have HF : Hid (rspaceE P m mod k L=0):=by show _=_;rw [HE.out,if_pos hc]
   rw [hc'] at HS
   clear hc hc'
   go_wp2_with fail
   refine HS.out.mono ?_
   rintro e w3 ⟨rfl,hd3⟩
   go_wp2_with fail
   go_ret
   exact ⟨ret_int HF.out.symm,Below.next hbw2 hd3.below⟩
  ·have hc' : decide (canR O L k=L)=false:=by simpa using hc
   have HF : Hid (rspaceE P m mod k L=5):=by show _=_;rw [HE.out,if_neg hc]
   rw [hc'] at HS
   clear hc hc'
   go_wp2_with fail
   refine HS.out.mono ?_
   rintro e w3 ⟨rfl,hd3⟩
   go_wp2_with fail
   go_ret
   exact ⟨ret_int HF.out.symm,Below.next hbw2 hd3.below⟩
 ·have HE : Hid (rspaceE P M mod cols L=rmatE P M mod cols L):=by show _=_;rw [rspaceE,if_neg hE]
  have hE' : (rmatE P M mod cols L != 0)=true:=by simpa using hE
  clear hE
  go_wp2_with fail
  go_ret
  exact ⟨ret_int HE.out.symm,hbw1⟩
theorem lenE_lo {N : Int} (h : N<1) : lenE N=4:=by rw [lenE,if_pos (.inl h)]
theorem lenE_hi {N : Int} (h : 64<N) : lenE N=4:=by rw [lenE,if_pos (.inr h)]
theorem lenE_in {N : Int} (h1 : ¬ N<1) (h2 : ¬ 64<N) : lenE N=0:=by rw [lenE,if_neg (by omega)]
def rcodeE (P M : Int) (mod : List Int) (N : Int) (L : List (List Int)) : Int :=
 if fieldRB P M mod=true then (if lenE N=0 then rspaceE P M mod N L else 4) else 1
theorem rCodeCheck_any (P M : Int) (am : Option Addr) (mn cm : Nat) (mod : List Int) (N : Int) (a : Option Addr) (n c : Nat) (L : List (List Int)) (w : World) (hmod : Ints w am mn mod) (hi : Mat w a n L)
  (hinv : fieldRB P M mod=true->∀p,ElP P M.toNat p->p ≠ 0->(invR P M.toNat mod p=1 ↔ p=1)) :
  Calls Tryz.prog 22 #[.agg #[.int .i64 P,.int .i64 M,.slice am mn cm,.int .i64 N,.slice a n c]] w λe w'=>e = .returned (.int .i64 (rcodeE P M mod N L))/\Below w.heap.size w w':=by
 have Hinv:=Lib.hid hinv
 clear hinv
 go_enter Tryz.func22,Tryz.ntmps22
 go_wp2_with fail
 obtain ⟨W,hW⟩ : ∃W : World,W=w.alloc (.cells #[.int .i64 P,.int .i64 M,.slice am mn cm,.int .i64 N,.slice a n c] 27):=⟨_,rfl⟩
 rw [<- hW]
 have hbW : Below w.heap.size w W:=by rw [hW];exact below1 _ _
 have x0 : Box W w.heap.size [.int .i64 P,.int .i64 M,.slice am mn cm,.int .i64 N,.slice a n c]:=by rw [hW];exact Box.new _ _ _ rfl
 have HX:=Lib.hid x0
 clear hW x0
 refine (rFieldCheck_any P M am mn cm mod W (hmod.keep hbW)).mono ?_
 rintro e w1 ⟨rfl,hb1⟩
 have hbw1:=Below.next hbW hb1
 by_cases hB : fieldRB P M mod=true
 ·have hE : errField (fieldRB P M mod)=0:=by rw [hB];rfl
  rw [hE]
  have HB : Hid (rcodeE P M mod N L=if lenE N=0 then rspaceE P M mod N L else 4):=by show _=_;rw [rcodeE,if_pos hB]
  have x1:=HX.out.keep hb1
  have c0:=x1.cell 0 rfl
  have c1:=x1.cell 1 rfl
  have c2:=x1.cell 2 rfl
  have c3:=x1.cell 3 rfl
  have c4:=x1.cell 4 rfl
  have hm1:=(hmod.keep hbW).keep hb1
  have hi1:=(hi.keep hbW).keep hb1
  clear hE hB x1
  by_cases h1 : N<1
  ·have Hf : Hid (rcodeE P M mod N L=4):=by show _=_;rw [HB.out,lenE_lo h1];rfl
   have t1 : decide (N<1)=true:=by simpa using h1
   go_wp2_with fail
   go_ret
   exact ⟨ret_int Hf.out.symm,hbw1⟩
  ·have t1 : decide (N<1)=false:=by simpa using h1
   by_cases h2 : 64<N
   ·have Hf : Hid (rcodeE P M mod N L=4):=by show _=_;rw [HB.out,lenE_hi h2];rfl
    have t2 : decide (64<N)=true:=by simpa using h2
    go_wp2_with fail
    go_ret
    exact ⟨ret_int Hf.out.symm,hbw1⟩
   ·have t2 : decide (64<N)=false:=by simpa using h2
    have Hf : Hid (rcodeE P M mod N L=rspaceE P M mod N L):=by show _=_;rw [HB.out,lenE_in h1 h2,if_pos rfl]
    clear h1 h2
    go_wp2_with fail
    refine (rSpaceCheck_any P M am mn cm mod N a n c L w1 hm1 hi1 Hinv.out).mono ?_
    rintro e w2 ⟨rfl,hb2⟩
    go_wp2_with fail
    go_ret
    exact ⟨ret_int Hf.out.symm,Below.next hbw1 hb2⟩
 ·have hB' : fieldRB P M mod=false:=by simpa using hB
  have Hf : Hid (rcodeE P M mod N L=1):=by show _=_;rw [rcodeE,if_neg hB]
  have hE : errField (fieldRB P M mod)=1:=by rw [hB'];rfl
  rw [hE]
  clear hB hB' hE
  go_wp2_with fail
  go_ret
  exact ⟨ret_int Hf.out.symm,hbw1⟩
end

section
theorem hinv_all {P M : Int} {mod : List Int} (h : fieldRB P M mod=true) : ∀p,ElP P M.toNat p->p ≠ 0->(invR P M.toNat mod p=1 ↔ p=1):=by
 obtain ⟨m,rfl,_,_,_,_,h6⟩:=eq_ops (by rw [<- fieldRB_eq];exact h)
 exact h6
theorem rmatE_eq (P M : Int) (mod : List Int) (cols : Int) (L : List (List Int)) : rmatE P M mod cols L=fmatE P M mod cols L:=by
 unfold rmatE fmatE
 rw [fieldRB_eq]
 split
 ·rename_i h
  obtain ⟨m,rfl,_,hq,_⟩:=eq_ops h
  rw [Int.toNat_natCast,hq]
 ·rfl
theorem canR_eq {P M : Int} {mod : List Int} (h : fieldB P M mod=true) {L : List (List Int)} {m : Nat} (hL : Rws (tblOf P M.toNat mod).El m L) : canR (rops P M.toNat mod) L m=canS (tblOf P M.toNat mod) L m:=by
 obtain ⟨k,rfl,he,_,hF,hA,_⟩:=eq_ops h
 rw [Int.toNat_natCast] at hL ⊢
 rw [<- he] at hL
 unfold canR canS
 rw [(elimTo_agr hA hF.cl hL m (Nat.le_refl _)).1]
theorem rspaceE_eq (P M : Int) (mod : List Int) (cols : Int) (L : List (List Int)) : rspaceE P M mod cols L=spaceE P M mod cols L:=by
 unfold rspaceE spaceE
 rw [rmatE_eq]
 split
 ·rename_i h0
  obtain ⟨h1,h2⟩:=fmatE_zero h0
  obtain ⟨m,rfl,_,_,hR⟩:=matE_zero h2
  rw [Int.toNat_natCast,canR_eq h1 hR]
 ·rfl
theorem rcodeE_eq (P M : Int) (mod : List Int) (N : Int) (L : List (List Int)) : rcodeE P M mod N L=codeE P M mod N L:=by
 unfold rcodeE codeE
 rw [fieldRB_eq,rspaceE_eq]
end

section
set_option maxRecDepth 100000
set_option maxHeartbeats 1600000

open Go.RowKit
theorem rPick_any (av : Option Addr) (nv cv : Nat) (v : List Int) (ao : Option Addr) (no co : Nat) (Q : List Int) (w : World) (hv : Ints w av nv v) (hq : Ints w ao no Q) (hQ : InN nv Q) (hno : no<=1000000) :
  Calls Tryz.prog 34 #[.slice av nv cv,.slice ao no co] w (NewInts w (pickL Q v)):=by
 have Hql:=Lib.hid hq.len
 have hplq:=hq.pl
 have hplv:=hv.pl
 have hmq:=hq.max
 have hmv:=hv.max
 have HQ:=Lib.hid hQ
 have hpk : (pickL Q v).length=no:=by rw [pickL,List.length_map];exact Hql.out
 have Hpk:=Lib.hid hpk
 unfold maxLen at hmq hmv
 clear hQ hpk
 go_enter Tryz.func34,Tryz.ntmps34
 go_wp2_with (at_make;refine wpList_mk rfl _ _ 22 3 rfl (.int .i64 0) 8 Tryz.underlying22 infoInt rfl no rfl rfl (by omega) (hq.max) ?_;intro a1 w1 hown hbel hge hlt)
 go_loopw [6] (λiv wr=>∃k : Nat,k<=no/\iv = .int .i64 k /\
   wr.ownsRow w.heap.size 3 1 (.slice a1 no no) no ((fillTo ((pickL Q v).take k) k no).map (Value.int .i64))/\Below w.heap.size w wr)
  (λi _=>no - (intOf i).toNat)
 case atStart=>exact ⟨0,Nat.zero_le _,rfl,by simpa [fillTo] using hown,hbel⟩
 case round =>
  clear hown hbel
  obtain ⟨k,hk,rfl,hown,hbel⟩:=hrel
  obtain ⟨hints,hmine⟩:=Ints.own hown
  have hpl1:=hints.pl
  by_cases hlt : k<no
  ·have cq:=(hq.keep hbel).cell k hlt
   have hb:=HQ.out k (by rw [Hql.out];exact hlt)
   obtain ⟨z,hz⟩ : ∃z : Nat,nth Q k=z:=⟨(nth Q k).toNat,by omega⟩
   have hzn : z<nv:=by omega
   have cz:=(hv.keep hbel).cell z hzn
   have hf:=(hmine (by omega)).2 k hlt
   have hc2:=hints.cell k hlt
   have hB:=(hmine (by omega)).1
   have Hv : Hid (nth (pickL Q v) k=nth v z):=by show _=_;rw [nth_pickL Q v (by rw [Hql.out];exact hlt),hz,Int.toNat_natCast]
   rw [hz] at cq
   clear hz hb
   go_wp2_with fail
   go_roundw
   case rel =>
    refine ⟨k+1,by omega,by go_num,?_,hbel.setCell hB _⟩
    have h:=own_set hown k hlt (.int .i64 (nth v z))
    rw [<- List.map_set,fillTo_set _ _ _ _ (by rw [List.length_take,Hpk.out];omega) hlt] at h
    rw [List.take_succ_eq_append_getElem (by rw [Hpk.out];omega),<- nth_getElem,Hv.out]
    exact h
   case measure=>simp [intOf] <;> omega
  ·obtain rfl : k=no:=by omega
   have hfin : fillTo ((pickL Q v).take k) k k=pickL Q v:=by rw [fillTo_all,List.take_of_length_le (by rw [Hpk.out];exact Nat.le_refl _)]
   rw [hfin] at hown
   clear hfin
   go_wp2_with fail
   go_ret
   exact ⟨a1,k,by rw [Hpk.out];rfl,by rw [Hpk.out];exact hown,hbel⟩
end

section
section
variable {O : FOps} {El : Int->Prop} {m : Nat} {R : List (List Int)} {P : List Int}
theorem red_rs (F : Fld O El) (hI : BS.Inv El m ⟨R,P⟩) {v : List Int} (hv : Vc El m v) (hs : RS O El m R (λx=>nth v x)) : ∀k,k<=R.length->RS O El m R (λx=>nth (redTo O R P v k) x)
 | 0,_=>hs
 | k+1,hk=>by
  have hu : Vc El m (redTo O R P v k):=Vc.redTo F hI.ok hv k (show k<=R.length by omega)
  have hp : (nth P k).toNat<m:=hI.ok.pl (show k<R.length by omega)
  have hr : Vc El m (nthR R k):=hI.ok.row (show k<R.length by omega)
  refine ((red_rs F hI hv hs k (by omega)).comb F (.row F (i:=k) (by omega)) (hu.at hp)).congr λx hx=>?_
  rw [redTo,nth_redStep F hu hr hp hx,F.mul_comm _ _ (hu.at hp) (hr.at hx)]
theorem red_zero (F : Fld O El) (hR : Rws El m R) (hP : Piv R P m) (hlen : R.length=P.length) {v : List Int} (hv : Vc El m v) (hs : RS O El m R (λx=>nth v x)) : ∀x,x<m->nth (redTo O R P v R.length) x=0:=by
 have hI:=piv_inv hR hP hlen
 obtain ⟨e,he,h⟩:=red_rs F hI hv hs R.length (Nat.le_refl _)
 intro x hx
 have h1 : nth (redTo O R P v R.length) x=e (colS R x):=h x hx
 rw [h1]
 refine hP.all F hR hx e he λy hy=>?_
 obtain ⟨j,hj,rfl⟩:=(mem_grL P _ _).1 hy
 rw [<- h _ (by have:=hP.lt j hj;omega)]
 exact hI.place F hv R.length (Nat.le_refl _) j (by omega)
end
end

section
set_option maxRecDepth 100000
set_option maxHeartbeats 4000000

open Go.RowKit
theorem rKeep_any (m : Nat) (a : Option Addr) (n c : Nat) (L : List (List Int)) (ao : Option Addr) (no co : Nat) (Q : List Int) (w : World) (hi : Mat w a n L) (hq : Ints w ao no Q) (hL : ∀r ∈ L,r.length=m) (hQ : InN m Q) (hn : n<=1000000) (hno : no<=1000000) :
  Calls Tryz.prog 113 #[.slice a n c,.slice ao no co] w λe w'=>∃a1 c1 R,e = .returned (.slice a1 n c1)/\OMat w' w.heap.size a1 n c1 R (L.map (pickL Q))/\Below w.heap.size w w':=by
 have Hlen:=Lib.hid hi.len
 have hpla:=hi.pl
 have HLl:=Lib.hid hL
 have HQ:=Lib.hid hQ
 obtain ⟨L2,hL2⟩ : ∃L2,L.map (pickL Q)=L2:=⟨_,rfl⟩
 have hl2 : L2.length=n:=by rw [<- hL2,List.length_map];exact Hlen.out
 have Hl2:=Lib.hid hl2
 have HLk : Hid (∀k,k<n->nthR L2 k=pickL Q (nthR L k)):=λk hk=>by rw [<- hL2];exact nthR_map _ L (by rw [Hlen.out];exact hk)
 rw [hL2]
 clear hL2 hl2 hL hQ
 go_enter Tryz.func113,Tryz.ntmps113
 go_wp2_with fail
 go_loopw [5,6] (λsv iv wr=>∃(k : Nat) (a1 : Option Addr) (c1 : Nat),k<=n/\iv = .int .i64 k/\sv = .slice a1 k c1/\(∃R,OMat wr w.heap.size a1 k c1 R (L2.take k))/\Below w.heap.size w wr) (λ_ iv _=>n - (intOf iv).toNat)
 case atStart=>exact ⟨0,none,0,Nat.zero_le _,rfl,rfl,⟨[],by simpa using OMat.empty w w.heap.size⟩,Below.refl _ _⟩
 case round =>
  obtain ⟨k,a1,c1,hk,rfl,rfl,⟨R,hO⟩,hbr⟩:=hrel
  by_cases hlt : k<n
  ·obtain ⟨ra,rn,rc,hcell,hrow⟩:=(hi.keep hbr).cell k hlt
   have hkL : k<L.length:=by rw [Hlen.out];exact hlt
   have hrl : rn=m:=by rw [<- hrow.len,nthR_getElem hkL];exact HLl.out _ (List.getElem_mem hkL)
   have Htk : Hid (L2.take (k+1)=L2.take k ++ [pickL Q (nthR L k)]):=by show _=_;rw [List.take_succ_eq_append_getElem (by rw [Hl2.out];exact hlt),<- HLk.out k hlt,nthR_getElem (by rw [Hl2.out];exact hlt)]
   obtain ⟨l,hl⟩ : ∃l,nthR L k=l:=⟨_,rfl⟩
   rw [hl] at Htk hrow
   have hpk:=rPick_any ra rn rc l ao no co Q wr hrow (hq.keep hbr) (by rw [hrl];exact HQ.out) hno
   have hsz:=hbr.size
   clear hl hrl
   go_wp2_with fail
   refine hpk.mono ?_
   rintro e w3 ⟨a3,c3,rfl,hown3,hb3⟩
   have hO3:=hO.keep (Below.next hb3 (below1 w3 (.cells #[.slice a3 (pickL Q l).length c3] 22)))
   have hs3 : w.heap.size<=(w3.alloc (.cells #[.slice a3 (pickL Q l).length c3] 22)).heap.size:=by have h1:=hb3.size;simp;omega
   clear hpk
   go_wp2_with (at_builtin;refine wpList_push rfl _ _ 25 22 rfl (.slice none 0 0) 24 Tryz.underlying25 infoInts rfl w.heap.size a1 k c1 _ rfl hO3.own ⟨w3.heap.size,0,none⟩ 1 (.slice a3 (pickL Q l).length c3) rfl (cell_new w3 _ _) rfl (by omega) (by unfold maxLen;omega) hs3 ?_;intro a5 c5 w5 hown5 hgr5 hap5)
   go_roundw
   case rel =>
    have hb4 : Below wr.heap.size wr (w3.alloc (.cells #[.slice a3 (pickL Q l).length c3] 22)):=Below.next hb3 (below1 _ _)
    have hown4 : (w3.alloc (.cells #[.slice a3 (pickL Q l).length c3] 22)).ownsRow w.heap.size 3 1 (.slice a3 (pickL Q l).length c3) (pickL Q l).length ((pickL Q l).map (Value.int .i64)) :=
     own_mono (own_keep hown3 (below1 _ _)) hsz
    have hra : a3 ≠ none->¬ OIn a1 R (ablk a3):=λh0 hI=>by
     have h1:=(own_ne hown3 h0).1
     have h2:=(hO.lt _ hI).2
     omega
    have hP:=OMat.push hO3 hown4 hra hown5 hgr5 hap5
    have hb5 : Below w.heap.size w w5:=Below.app (Below.next hbr hb4) hO3.own hgr5 (Nat.le_refl _) (Nat.le_trans hsz hb4.size)
    exact ⟨k+1,a5,c5,by omega,by go_num,rfl,⟨_,by rw [Htk.out];exact hP⟩,hb5⟩
   case measure=>simp [intOf] <;> omega
  ·obtain rfl : k=n:=by omega
   rw [List.take_of_length_le (by rw [Hl2.out];exact Nat.le_refl _)] at hO
   have HO:=Lib.hid hO
   clear hO
   go_wp2_with fail
   go_ret
   exact ⟨a1,c1,R,rfl,HO.out,hbr⟩
theorem rOf25_any (P M : Int) (am : Option Addr) (mn cm : Nat) (mod : List Int) (m : Nat) (a : Option Addr) (n c : Nat) (L : List (List Int)) (ao : Option Addr) (no co : Nat) (Q : List Int) (w : World) (hmod : Ints w am mn mod) (hi : Mat w a n L) (hq : Ints w ao no Q)
  (hE : codeE P M mod m L=0) (hQ : InN m Q) (hno : no<=1000000) :
  Calls Tryz.prog 172 #[.agg #[.int .i64 P,.int .i64 M,.slice am mn cm],.slice a n c,.slice ao no co] w λe w'=>e = .returned (.int .i64 (grS (tblOf P M.toNat mod).ops L Q).length)/\Below w.heap.size w w':=by
 have hql:=hq.len
 obtain ⟨N',em,hm1,hm64,F,hR⟩:=codeE_fld hE
 obtain rfl : m=N':=by omega
 have hn : n<=256:=by rw [<- hi.len];exact (codeE_rws hE).choose_spec.2.2.2.1
 have hB:=(codeE_zero hE).1
 have hinv:=hinv_all (P:=P) (M:=M) (mod:=mod) (by rw [fieldRB_eq];exact hB)
 have hgr:=elim_gr F hR hQ
 have hpr:=pick_rws hR hQ
 rw [hql] at hgr hpr
 obtain ⟨k,rfl,hel,_,hF,hA,_⟩:=eq_ops hB
 obtain ⟨k',e2,hrf,hmods⟩:=fieldRB_rf (by rw [fieldRB_eq];exact hB)
 obtain rfl : k=k':=by omega
 rw [Int.toNat_natCast] at hgr hpr hinv hR ⊢
 have hag:=(elimTo_agr hA hF.cl (by rw [hel];exact hpr) no (Nat.le_refl _)).1
 rw [hag] at hgr
 rw [<- hel] at hpr
 have HKp : Hid (∀V,Below w.heap.size w V->Calls Tryz.prog 113 #[.slice a n c,.slice ao no co] V λe w'=>Below V.heap.size V w'/\∃a1 c1,e = .returned (.slice a1 n c1)/\Mat w' a1 n (L.map (pickL Q))):=λV hV=>by
  refine (rKeep_any m a n c L ao no co Q V (hi.keep hV) (hq.keep hV) (λr hr=>(hR r hr).1) hQ (by omega) hno).mono ?_
  rintro e w' ⟨a1,c1,R,rfl,hO,hb⟩
  exact ⟨hb,a1,c1,rfl,hO.mat⟩
 have HCn : Hid (∀V a1 c1,Below w.heap.size w V->Mat V a1 n (L.map (pickL Q))->∀V2,Below V.heap.size V V2->Calls Tryz.prog 120 #[.agg #[.int .i64 P,.int .i64 k,.slice am mn cm],.slice a1 n c1,.int .i64 no] V2 λe w' =>
   Below V2.heap.size V2 w'/\∃v ap cp,e = .returned (.tuple #[v,.slice ap (grS (tblOf P k mod).ops L Q).length cp])):=λV a1 c1 hV hM V2 hV2=>by
  refine (rCanon_any P k am mn cm mod a1 n c1 no (L.map (pickL Q)) V2 ⟨hrf,hmods V2 am mn (hmod.keep (Below.next hV hV2))⟩ (hM.keep hV2) hpr hno (by omega) hinv).mono ?_
  rintro e w' ⟨a4,c4,ap,cp,rfl,_,_,hb⟩
  exact ⟨hb,_,ap,cp,by rw [<- hgr]⟩
 obtain ⟨r,hr⟩ : ∃r,(grS (tblOf P k mod).ops L Q).length=r:=⟨_,rfl⟩
 rw [hr] at HCn ⊢
 clear hE em F hR hB hinv hgr hpr hel hF hA e2 hrf hmods hag hr hQ hql hmod hi hq
 go_enter Tryz.func172,Tryz.ntmps172
 go_upto_region 1 with fail
 obtain ⟨W,hW⟩ : ∃W : World,W=w.alloc (.cells #[.int .i64 P,.int .i64 k,.slice am mn cm] 24):=⟨_,rfl⟩
 rw [<- hW]
 have hbW : Below w.heap.size w W:=by rw [hW];exact below1 _ _
 have x0 : Box W w.heap.size [.int .i64 P,.int .i64 k,.slice am mn cm]:=by rw [hW];exact Box.new _ _ _ rfl
 have hS : ∀V,Below W.heap.size W V->V.cell? ⟨w.heap.size,0,none⟩=some (.int .i64 P)/\V.cell? ⟨w.heap.size,1,none⟩=some (.int .i64 k)/\V.cell? ⟨w.heap.size,2,none⟩=some (.slice am mn cm)/\Below W.heap.size W V:=λV hV=>by
  have x1:=x0.keep hV
  exact ⟨x1.cell 0 rfl,x1.cell 1 rfl,x1.cell 2 rfl,hV⟩
 have HS:=Lib.hid hS
 have HbW:=Lib.hid hbW
 clear hW x0 hS hbW
 go_region_held3 (λV=>V.cell? ⟨w.heap.size,0,none⟩=some (.int .i64 P)/\V.cell? ⟨w.heap.size,1,none⟩=some (.int .i64 k)/\V.cell? ⟨w.heap.size,2,none⟩=some (.slice am mn cm)/\Below W.heap.size W V)
  ((refine HS.out _ ?_;first | exact (Below.refl _ _).drew | (go_split_ands;exact Below.next (by assumption) (by assumption))))
  (first
   | (go_at_call 113;((with_reducible refine (HKp.out _ (Below.next HbW.out (by go_split_ands;assumption))).mono ?_);rintro e w6 ⟨hb6,a6,c6,rfl,hM6⟩;have hb7 : Below W.heap.size W w6:=(by go_split_ands;exact Below.next (by assumption) hb6);have Hr2:=Lib.hid (HCn.out w6 a6 c6 (Below.next HbW.out hb7) hM6);clear hM6))
   | (go_at_call 120;((with_reducible refine (Hr2.out _ (by first | exact Below.refl _ _ | exact hb4)).mono ?_);rintro e w8 ⟨hb8,v8,ap8,cp8,rfl⟩)))
 all_goals (
  go_wp2_with fail
  go_ret
  exact ⟨rfl,Below.next HbW.out (by go_split_ands;assumption)⟩)
end

section
open Go.RowKit
theorem rCheck_any (P M : Int) (am : Option Addr) (mn cm : Nat) (mod : List Int) (N : Int) (a : Option Addr) (n c : Nat) (L : List (List Int)) (w : World) (hmod : Ints w am mn mod) (hi : Mat w a n L) :
  Calls Tryz.prog 22 #[.agg #[.int .i64 P,.int .i64 M,.slice am mn cm,.int .i64 N,.slice a n c]] w λe w'=>e = .returned (.int .i64 (codeE P M mod N L))/\Below w.heap.size w w':=by
 rw [<- rcodeE_eq]
 exact rCodeCheck_any P M am mn cm mod N a n c L w hmod hi hinv_all
end

section
open Go.RowKit
theorem set_in {m : Nat} {Q : List Int} (h : okSet m Q=true) : InN m Q:=λj hj=>⟨(okSet_at h hj).1,(okSet_at h hj).2.1⟩
end

section
theorem kids_mem {C : Clm} {s z t : List Int} {x : Int} (h : x ∈ kidsS C s z t) : x ∈ t/\¬ x ∈ z/\s.length<C.W:=by
 unfold kidsS at h
 split at h
 ·rename_i hl
  rw [List.mem_filter] at h
  exact ⟨h.1,by simpa using h.2,hl⟩
 ·simp at h
end

section
open Go.RowKit
def inTo (l : List Int) (v : Int) (k : Nat) : Bool:=decide (v ∈ l.take k)
theorem inTo_succ {l : List Int} {k : Nat} (v : Int) (h : k<l.length) : inTo l v (k+1)=(inTo l v k || decide (nth l k=v)):=by
 unfold inTo
 rw [List.take_succ_eq_append_getElem h,nth_getElem h]
 simp only [List.mem_append,List.mem_singleton,Bool.decide_or]
 congr 1
 simp [eq_comm]
theorem inTo_all {l : List Int} {n : Nat} (v : Int) (h : l.length=n) : inTo l v n=decide (v ∈ l):=by
 unfold inTo
 rw [List.take_of_length_le (by omega)]
end

section
set_option maxRecDepth 100000
set_option maxHeartbeats 3200000

open Go.RowKit
theorem rIn26_any (a : Option Addr) (n c : Nat) (l : List Int) (v : Int) (w : World) (h : Ints w a n l) :
  Calls Tryz.prog 265 #[.slice a n c,.int .i64 v] w λe w'=>e = .returned (.bool (decide (v ∈ l)))/\w'=w:=by
 have Hl:=Lib.hid h.len
 have hpl:=h.pl
 have hmax:=h.max
 unfold maxLen at hmax
 go_enter Tryz.func265,Tryz.ntmps265
 go_wp2_with fail
 go_loopw [5] (λiv wr=>∃k : Nat,k<=n/\iv = .int .i64 k/\Hid (inTo l v k=false)/\wr=w) (λi _=>n - (intOf i).toNat)
 case atStart=>exact ⟨0,Nat.zero_le _,rfl,by show _=_;simp [inTo],rfl⟩
 case round =>
  obtain ⟨k,hk,rfl,hno,rfl⟩:=hrel
  by_cases hlt : k<n
  ·have c1:=h.cell k hlt
   have Hs:=Lib.hid (inTo_succ (l:=l) v (show k<l.length by rw [Hl.out];exact hlt))
   by_cases he : nth l k=v
   ·have he' : (nth l k == v)=true:=by rw [he];simp
    have Hm : Hid (decide (v ∈ l)=true):=by show _=_;rw [<- he];simpa using nth_mem (show k<l.length by rw [Hl.out];exact hlt)
    clear he
    go_wp2_with fail
    go_ret
    exact ⟨ret_bool Hm.out.symm,rfl⟩
   ·have he' : (nth l k == v)=false:=by simpa using he
    have Hn2 : Hid (inTo l v (k+1)=false):=by show _=_;rw [Hs.out,hno.out,decide_eq_false he];rfl
    clear he
    go_wp2_with fail
    go_roundw
    case rel=>exact ⟨k+1,by omega,by go_num,Hn2.out,by simp⟩
    case measure=>simp [intOf] <;> omega
  ·obtain rfl : k=n:=by omega
   have Hm : Hid (decide (v ∈ l)=false):=by show _=_;rw [<- inTo_all v Hl.out];exact hno.out
   go_wp2_with fail
   go_ret
   exact ⟨ret_bool Hm.out.symm,rfl⟩
theorem ints_one (l : List Int) : ∀u ∈ l.map (Value.int .i64),u.oneCell'=true:=λu hu=>by
 obtain ⟨x,_,rfl⟩:=List.mem_map.1 hu
 rfl
theorem rWith26_any (a : Option Addr) (n c : Nat) (l : List Int) (b : Option Addr) (m cb : Nat) (l2 : List Int) (w : World) (ha : Ints w a n l) (hb : Ints w b m l2) (hn : n<=1000000) (hm : m<=1000000) :
  Calls Tryz.prog 236 #[.slice a n c,.slice b m cb] w λe w'=>∃a2 c2,e = .returned (.slice a2 (n+m) c2)/\w'.ownsRow w.heap.size 3 1 (.slice a2 (n+m) c2) (n+m) ((l ++ l2).map (Value.int .i64))/\Below w.heap.size w w':=by
 have hb1:=below1 w (.cells #[] 3)
 have ha1:=ha.keep hb1
 have hb2:=hb.keep hb1
 have hal:=ha.len
 have hbl:=hb.len
 have hO:=own_emp w 3
 go_enter Tryz.func236,Tryz.ntmps236
 go_wp2_with (at_builtin;first
  | (refine wpList_appAll rfl _ _ 22 3 rfl (.int .i64 0) 8 Tryz.underlying22 infoInt rfl w.heap.size _ 0 0 [] rfl hO a n c (l.map (Value.int .i64)) rfl ha1.pl (by simp [hal]) (Ints.news ha1) (ints_one l) (by omega) (by unfold maxLen;omega) hb1.size ?_;intro a1 c1 w1 hown1 hgr1 hap1;rw [Nat.zero_add] at hown1 ⊢;rw [List.nil_append] at hown1;have hbw1 : Below w.heap.size w w1:=Below.app hb1 hO hgr1 (Nat.le_refl _) hb1.size;have hb3:=hb.keep hbw1)
  | (refine wpList_appAll rfl _ _ 22 3 rfl (.int .i64 0) 8 Tryz.underlying22 infoInt rfl w.heap.size a1 n c1 (l.map (Value.int .i64)) rfl hown1 b m cb (l2.map (Value.int .i64)) rfl hb3.pl (by simp [hbl]) (Ints.news hb3) (ints_one l2) (by omega) (by unfold maxLen;omega) hbw1.size ?_;intro a2 c2 w2 hown2 hgr2 hap2))
 go_ret
 exact ⟨a2,c2,rfl,by rw [List.map_append];exact hown2,Below.app hbw1 hown1 hgr2 (Nat.le_refl _) hbw1.size⟩
def rclV (P M : Int) (am : Option Addr) (mn cm : Nat) (m : Nat) (a : Option Addr) (n c : Nat) (ay : Option Addr) (ny cy : Nat) (C : Clm) : Value :=
 .agg #[.int .i64 P,.int .i64 M,.slice am mn cm,.int .i64 m,.slice a n c,.int .i64 C.M,.int .i64 C.W,.slice ay ny cy,.bool C.cos]
theorem rKids26_any (P M : Int) (am : Option Addr) (mn cm : Nat) (m : Nat) (a : Option Addr) (n c : Nat) (ay : Option Addr) (ny cy : Nat) (C : Clm) (sa : Option Addr) (ns cs : Nat) (s : List Int) (az : Option Addr) (nz cz : Nat) (z : List Int) (at' : Option Addr) (nt ct : Nat) (t : List Int) (w : World)
  (hs : Ints w sa ns s) (hz : Ints w az nz z) (ht : Ints w at' nt t) (hnt : nt<=1000000) :
  Calls Tryz.prog 238 #[rclV P M am mn cm m a n c ay ny cy C,.slice sa ns cs,.slice az nz cz,.slice at' nt ct] w (NewInts w (kidsS C s z t)):=by
 have Htl:=Lib.hid ht.len
 have Hsl:=Lib.hid hs.len
 have hplt:=ht.pl
 obtain ⟨K,hK⟩ : ∃K,kidsS C s z t=K:=⟨_,rfl⟩
 rw [hK]
 have HK:=Lib.hid hK
 unfold rclV
 clear hK
 go_enter Tryz.func238,Tryz.ntmps238
 go_wp2_with fail
 obtain ⟨U,hU⟩ : ∃U : World,U=w.alloc (.cells #[.int .i64 P,.int .i64 M,.slice am mn cm,.int .i64 m,.slice a n c,.int .i64 C.M,.int .i64 C.W,.slice ay ny cy,.bool C.cos] 196):=⟨_,rfl⟩
 rw [<- hU]
 have hbU : Below w.heap.size w U:=by rw [hU];exact below1 _ _
 have x0 : Box U w.heap.size [.int .i64 P,.int .i64 M,.slice am mn cm,.int .i64 m,.slice a n c,.int .i64 C.M,.int .i64 C.W,.slice ay ny cy,.bool C.cos]:=by rw [hU];exact Box.new _ _ _ rfl
 have HX:=Lib.hid x0
 have hsU : w.heap.size<U.heap.size:=x0.1
 clear hU x0
 go_loopw [9,10] (λqv iv wr=>∃(k : Nat) (aq : Option Addr) (cq : Nat) (out : List Int),k<=nt/\iv = .int .i64 k/\qv = .slice aq out.length cq/\Hid (K=out ++ (if s.length<C.W then (t.drop k).filter (λx=>decide (¬ x ∈ z)) else []))/\out.length<=k /\
   wr.ownsRow U.heap.size 3 1 (.slice aq out.length cq) out.length (out.map (Value.int .i64))/\Below U.heap.size U wr)
  (λ_ iv _=>nt - (intOf iv).toNat)
 case atStart=>exact ⟨0,none,0,[],Nat.zero_le _,rfl,rfl,(show _=_ by rw [<- HK.out,kidsS,List.drop_zero,List.nil_append]),Nat.zero_le _,own_none,Below.refl _ _⟩
 case round =>
  obtain ⟨k,aq,cq,out,hk,rfl,rfl,hst,hln,hop,hbr⟩:=hrel
  generalize wr=V at *
  have c6:=(HX.out.keep hbr).cell 6 rfl
  by_cases hlt : k<nt
  ·by_cases hW : ns<C.W
   ·have d1 : decide ((ns : Int)<(C.W : Int))=true:=by simp;omega
    have ck:=(ht.keep (Below.next hbU hbr)).cell k hlt
    have hktl : k<t.length:=by rw [Htl.out];exact hlt
    have Hdk:=Lib.hid (show t.drop k=nth t k :: t.drop (k+1) by rw [nth_getElem hktl];exact List.drop_eq_getElem_cons hktl)
    have HI:=Lib.hid (rIn26_any az nz cz z (nth t k) V (hz.keep (Below.next hbU hbr)))
    have hlsW : s.length<C.W:=by rw [Hsl.out];exact hW
    by_cases hm1 : nth t k ∈ z
    ·have hmd : decide (nth t k ∈ z)=true:=by simpa using hm1
     rw [hmd] at HI
     have Hst : Hid (K=out ++ (if s.length<C.W then (t.drop (k+1)).filter (λx=>decide (¬ x ∈ z)) else [])):=by
      show _=_
      rw [hst.out,Hdk.out,if_pos hlsW,if_pos hlsW,List.filter_cons_of_neg (by simpa using hm1)]
     clear hm1 hmd hlsW
     go_wp2_with fail
     refine HI.out.mono ?_
     rintro e w6 ⟨rfl,rfl⟩
     go_wp2_with fail
     go_roundw
     case rel=>exact ⟨k+1,aq,cq,out,by omega,by go_num,rfl,Hst.out,by omega,hop,hbr⟩
     case measure=>simp [intOf] <;> omega
    ·have hmd : decide (nth t k ∈ z)=false:=by simpa using hm1
     rw [hmd] at HI
     have Hst : Hid (K=(out ++ [nth t k]) ++ (if s.length<C.W then (t.drop (k+1)).filter (λx=>decide (¬ x ∈ z)) else [])):=by
      show _=_
      rw [hst.out,Hdk.out,if_pos hlsW,if_pos hlsW,List.filter_cons_of_pos (by simpa using hm1),List.append_assoc];rfl
     obtain ⟨x,hx⟩ : ∃x,nth t k=x:=⟨_,rfl⟩
     rw [hx] at ck Hst HI
     have hcn:=cell_new V (.int .i64 x) 3
     have hbn:=below1 V (.cells #[.int .i64 x] 3)
     have hszV:=hbr.size
     clear hm1 hmd hlsW hx
     go_wp2_with fail
     refine HI.out.mono ?_
     rintro e w6 ⟨rfl,rfl⟩
     go_wp2_with (at_builtin;refine wpList_push rfl _ _ 22 3 rfl (.int .i64 0) 8 Tryz.underlying22 infoInt rfl U.heap.size aq out.length cq _ rfl (hop.alloc _) ⟨w6.heap.size,0,none⟩ 1 (.int .i64 x) rfl hcn rfl (by omega) (by unfold maxLen;omega) (by simp;omega) ?_;intro a5 c5 w5 hown5 hgr5 hap5)
     go_roundw
     case rel =>
      have hb5 : Below U.heap.size U w5:=Below.app (Below.trans hbr (hbn.mono hszV)) (hop.alloc _) hgr5 (Nat.le_refl _) (Nat.le_trans hszV hbn.size)
      exact ⟨k+1,a5,c5,out ++ [x],by omega,by go_num,by simp,Hst.out,by simp;omega,by simpa using hown5,hb5⟩
     case measure=>simp [intOf] <;> omega
   ·have d1 : decide ((ns : Int)<(C.W : Int))=false:=by simp;omega
    have Ho : Hid (K=out):=by show _=_;rw [hst.out,if_neg (by rw [Hsl.out];exact hW),List.append_nil]
    have hop2:=own_mono hop hbU.size
    have hF:=Below.next hbU hbr
    go_wp2_with fail
    go_ret
    exact ⟨aq,cq,by rw [Ho.out];rfl,by rw [Ho.out];exact hop2,hF⟩
  ·obtain rfl : k=nt:=by omega
   have Ho : Hid (K=out):=by
    show _=_
    rw [hst.out,List.drop_of_length_le (by rw [Htl.out];exact Nat.le_refl _)]
    split <;> simp
   have hop2:=own_mono hop hbU.size
   have hF:=Below.next hbU hbr
   go_wp2_with fail
   go_ret
   exact ⟨aq,cq,by rw [Ho.out];rfl,by rw [Ho.out];exact hop2,hF⟩
end

section
set_option maxRecDepth 100000
set_option maxHeartbeats 3200000

open Go.RowKit
theorem rRight26_any (P M : Int) (am : Option Addr) (mn cm : Nat) (mod : List Int) (m : Nat) (a : Option Addr) (n c : Nat) (L : List (List Int)) (ay : Option Addr) (ny cy : Nat) (C : Clm) (sa : Option Addr) (ns cs : Nat) (s : List Int) (at' : Option Addr) (nt ct : Nat) (t : List Int) (w : World)
  (hmod : Ints w am mn mod) (hi : Mat w a n L) (hE : codeE P M mod m L=0) (hc : C.cos=false) (hs : Ints w sa ns s) (ht : Ints w at' nt t) :
  Calls Tryz.prog 237 #[rclV P M am mn cm m a n c ay ny cy C,.slice sa ns cs,.slice at' nt ct] w λe w'=>e = .returned (.bool (rightS (tblOf P M.toNat mod).ops L m C s t))/\Below w.heap.size w w':=by
 have Htl:=Lib.hid ht.len
 have hplt:=ht.pl
 have hmax:=ht.max
 unfold maxLen at hmax
 obtain ⟨RS,hRS⟩ : ∃RS,rightS (tblOf P M.toNat mod).ops L m C s t=RS:=⟨_,rfl⟩
 rw [hRS]
 have HRS : Hid (RS=(setOk m s t && (decide ((grS (tblOf P M.toNat mod).ops L t).length=t.length) && decide (t.length=C.M)))):=by
  show _=_
  rw [<- hRS,rightS,hc]
  simp only [Bool.false_eq_true,if_false]
 have Hm:=Lib.hid (codeE_rws hE)
 unfold rclV
 rw [hc]
 clear hRS hc
 go_enter Tryz.func237,Tryz.ntmps237
 go_wp2_with fail
 obtain ⟨U,hU⟩ : ∃U : World,U=w.alloc (.cells #[.int .i64 P,.int .i64 M,.slice am mn cm,.int .i64 m,.slice a n c,.int .i64 C.M,.int .i64 C.W,.slice ay ny cy,.bool false] 196):=⟨_,rfl⟩
 rw [<- hU]
 have hbU : Below w.heap.size w U:=by rw [hU];exact below1 _ _
 have x0 : Box U w.heap.size [.int .i64 P,.int .i64 M,.slice am mn cm,.int .i64 m,.slice a n c,.int .i64 C.M,.int .i64 C.W,.slice ay ny cy,.bool false]:=by rw [hU];exact Box.new _ _ _ rfl
 have HS : Hid (∀V,Below U.heap.size U V->V.cell? ⟨w.heap.size,0,none⟩=some (.int .i64 P)/\V.cell? ⟨w.heap.size,1,none⟩=some (.int .i64 M)/\V.cell? ⟨w.heap.size,2,none⟩=some (.slice am mn cm)/\V.cell? ⟨w.heap.size,3,none⟩=some (.int .i64 m)/\V.cell? ⟨w.heap.size,4,none⟩=some (.slice a n c) /\
   V.cell? ⟨w.heap.size,5,none⟩=some (.int .i64 C.M)/\V.cell? ⟨w.heap.size,8,none⟩=some (.bool false)):=λV hV=>by
  have x1:=x0.keep hV
  exact ⟨x1.cell 0 rfl,x1.cell 1 rfl,x1.cell 2 rfl,x1.cell 3 rfl,x1.cell 4 rfl,x1.cell 5 rfl,x1.cell 8 rfl⟩
 clear hU x0
 refine (rising_any m at' nt ct t U (ht.keep hbU)).mono ?_
 rintro e w1 ⟨rfl,hd1⟩
 have hb1 : Below U.heap.size U w1:=hd1.below
 have hbw1:=Below.next hbU hb1
 obtain ⟨zo,hzo⟩ : ∃zo,okSet m t=zo:=⟨_,rfl⟩
 rw [hzo]
 cases zo
 ·have HF : Hid (RS=false):=by show _=_;rw [HRS.out,setOk,hzo];rfl
  clear hzo
  go_wp2_with fail
  go_ret
  exact ⟨by rw [HF.out];rfl,hbw1⟩
 have Hok:=Lib.hid hzo
 clear hzo
 have ht1:=ht.keep hbw1
 have hs1:=hs.keep hbw1
 go_wp2_with fail
 go_loop [7] (λiv=>∃k : Nat,k<=nt/\iv = .int .i64 k/\Hid (∀j,j<k->¬ nth t j ∈ s)) (λiv=>nt - (intOf iv).toNat)
 case atStart=>exact ⟨0,Nat.zero_le _,rfl,λj hj=>by omega⟩
 case round =>
  obtain ⟨k,hk,rfl,hno⟩:=hrel
  generalize w1=wr at *
  by_cases hlt : k<nt
  ·have ck:=ht1.cell k hlt
   have HI:=Lib.hid (rIn26_any sa ns cs s (nth t k) wr hs1)
   by_cases hm1 : nth t k ∈ s
   ·have hmd : decide (nth t k ∈ s)=true:=by simpa using hm1
    rw [hmd] at HI
    have HF : Hid (RS=false):=by
     show _=_
     have h1 : t.all (λx=>decide (¬ x ∈ s))=false:=by
      rw [List.all_eq_false]
      exact ⟨nth t k,nth_mem (by rw [Htl.out];exact hlt),by simpa using hm1⟩
     rw [HRS.out,setOk,h1,Bool.and_false];rfl
    clear hm1 hmd
    go_wp2_with fail
    refine HI.out.mono ?_
    rintro e w6 ⟨rfl,rfl⟩
    go_wp2_with fail
    go_ret
    exact ⟨by rw [HF.out];rfl,hbw1⟩
   ·have hmd : decide (nth t k ∈ s)=false:=by simpa using hm1
    rw [hmd] at HI
    have Hno2 : Hid (∀j,j<k+1->¬ nth t j ∈ s):=λj hj=>by
     by_cases e : j=k
     ·rw [e];exact hm1
     ·exact hno.out j (by omega)
    clear hm1 hmd hno
    go_wp2_with fail
    refine HI.out.mono ?_
    rintro e w6 ⟨rfl,rfl⟩
    go_wp2_with fail
    go_round
    case rel=>exact ⟨k+1,by omega,by go_num,Hno2.out⟩
    case measure=>simp [intOf] <;> omega
  ·have hkn : k=nt:=by omega
   subst hkn
   have hset : setOk m s t=true:=by
    rw [setOk,Hok.out,Bool.true_and,List.all_eq_true]
    intro x hx
    obtain ⟨j,hj,rfl⟩:=List.mem_iff_getElem.1 hx
    have h1:=hno.out j (by rw [<- Htl.out];exact hj)
    rw [nth_getElem hj] at h1
    simpa using h1
   obtain ⟨m',hm',hm1,hm2,_,_⟩:=Hm.out
   have hklen : k<=64:=by
    have h1:=okSet_len Hok.out (by omega)
    rw [Htl.out] at h1
    omega
   have HO:=Lib.hid (rOf25_any P M am mn cm mod m a n c L at' k ct t wr (hmod.keep hbw1) (hi.keep hbw1) ht1 hE (set_in Hok.out) (by omega))
   have HR2 : Hid (RS=(decide ((grS (tblOf P M.toNat mod).ops L t).length=k) && decide (k=C.M))):=by show _=_;rw [HRS.out,hset,Bool.true_and,Htl.out]
   obtain ⟨r1,hr1⟩ : ∃r1,(grS (tblOf P M.toNat mod).ops L t).length=r1:=⟨_,rfl⟩
   rw [hr1] at HO HR2
   obtain ⟨c0,c1,c2,c3,c4,c5,c8⟩:=HS.out wr hb1
   clear hset hr1 hm' hm1 hm2
   go_wp2_with fail
   refine HO.out.mono ?_
   rintro e w2 ⟨rfl,hb2⟩
   have hb12:=Below.next hb1 hb2
   have hbF:=Below.next hbU hb12
   clear c0 c1 c2 c3 c4 c5 c8
   obtain ⟨c0,c1,c2,c3,c4,c5,c8⟩:=HS.out w2 hb12
   by_cases hrr : r1=k
   ·have hne : ((r1 : Int) != k)=false:=by simp [hrr]
    by_cases hM : k=C.M
    ·have HF : Hid (RS=true):=by show _=_;rw [HR2.out,decide_eq_true hrr,decide_eq_true hM];rfl
     have hd : ((k : Int) == C.M)=true:=by simp [hM]
     clear hrr hM
     go_wp2_with fail
     go_ret
     exact ⟨by rw [HF.out];rfl,hbF⟩
    ·have HF : Hid (RS=false):=by show _=_;rw [HR2.out,decide_eq_false hM,Bool.and_false]
     have hd : ((k : Int) == C.M)=false:=by simp;omega
     clear hrr hM
     go_wp2_with fail
     go_ret
     exact ⟨by rw [HF.out];rfl,hbF⟩
   ·have HF : Hid (RS=false):=by show _=_;rw [HR2.out,decide_eq_false hrr];rfl
    have hne : ((r1 : Int) != k)=true:=by simp;omega
    clear hrr
    go_wp2_with fail
    go_ret
    exact ⟨by rw [HF.out];rfl,hbF⟩
def RightK (P M : Int) (am : Option Addr) (mn cm : Nat) (mod : List Int) (m : Nat) (a : Option Addr) (n c : Nat) (L : List (List Int)) (ay : Option Addr) (ny cy : Nat) (C : Clm) (w0 : World) : Prop :=
 ∀(V : World) (sa : Option Addr) (ns cs : Nat) (s : List Int) (at' : Option Addr) (nt ct : Nat) (t : List Int),ns<=64->Below w0.heap.size w0 V->Ints V sa ns s->Ints V at' nt t ->
  Calls Tryz.prog 237 #[rclV P M am mn cm m a n c ay ny cy C,.slice sa ns cs,.slice at' nt ct] V λe w'=>e = .returned (.bool (rightS (tblOf P M.toNat mod).ops L m C s t))/\Below V.heap.size V w'
theorem rightK_rank {P M : Int} {am : Option Addr} {mn cm : Nat} {mod : List Int} {m : Nat} {a : Option Addr} {n c : Nat} {L : List (List Int)} {ay : Option Addr} {ny cy : Nat} {C : Clm} {w0 : World}
  (hmod : Ints w0 am mn mod) (hi : Mat w0 a n L) (hE : codeE P M mod m L=0) (hc : C.cos=false) : RightK P M am mn cm mod m a n c L ay ny cy C w0:=λV sa ns cs s at' nt ct t _ hV hs ht =>
 rRight26_any P M am mn cm mod m a n c L ay ny cy C sa ns cs s at' nt ct t V (hmod.keep hV) (hi.keep hV) hE hc hs ht
end

end Go.Proofs.YtcfmiocdlcapoaaGreat
