/-  -/
import Derived.Test.YtcfmiocdlcapoaaGreatK12
import Derived.Test.YtcfmiocdlcapoaaGreatMSI3
import Derived.Test.YtcfmiocdlcapoaaGreatK10
import Derived.Test.YtcfmiocdlcapoaaGreatMSI4
import Derived.Test.YtcfmiocdlcapoaaGreatK17
import Derived.Test.YtcfmiocdlcapoaaGreatK16
import Derived.Test.YtcfmiocdlcapoaaGreatMSI2
import Derived.Test.YtcfmiocdlcapoaaGreatK9
import Derived.Test.YtcfmiocdlcapoaaGreatMSI1
import Derived.Test.YtcfmiocdlcapoaaGreatK19
namespace Go.Proofs.YtcfmiocdlcapoaaGreat
set_option linter.unusedVariables false
set_option linter.unusedSimpArgs false
set_option linter.unusedSectionVars false

section
set_option maxRecDepth 100000
set_option maxHeartbeats 1600000

open Go.RowKit
theorem rEntries_any (P M : Int) (am : Option Addr) (mn cm : Nat) (a : Option Addr) (n c : Nat) (l : List Int) (w : World) (hi : Ints w a n l) :
  Calls Tryz.prog 76 #[.agg #[.int .i64 P,.int .i64 M,.slice am mn cm],.slice a n c] w λe w'=>e = .returned (.int .i64 (elsE (orderS P M) l))/\Below w.heap.size w w':=by
 have Hlen:=Lib.hid hi.len
 have hpl:=hi.pl
 have hmax:=hi.max
 unfold maxLen at hmax
 go_enter Tryz.func76,Tryz.ntmps76
 go_wp2_with fail
 obtain ⟨W,hW⟩ : ∃W : World,W=w.alloc (.cells #[.int .i64 P,.int .i64 M,.slice am mn cm] 24):=⟨_,rfl⟩
 rw [<- hW]
 have hbW : Below w.heap.size w W:=by rw [hW];exact below1 _ _
 have x0 : Box W w.heap.size [.int .i64 P,.int .i64 M,.slice am mn cm]:=by rw [hW];exact Box.new _ _ _ rfl
 have hiW:=hi.keep hbW
 have hS : ∀k,k<n->∀V,Below W.heap.size W V->V.cell? ⟨w.heap.size,0,none⟩=some (.int .i64 P)/\V.cell? ⟨w.heap.size,1,none⟩=some (.int .i64 M)/\V.cell? ⟨w.heap.size,2,none⟩=some (.slice am mn cm)/\V.cell? ⟨ablk a,aoff a+k,none⟩=some (.int .i64 (nth l k))/\Below W.heap.size W V:=by
  intro k hk V hV
  have x1:=x0.keep hV
  exact ⟨x1.cell 0 rfl,x1.cell 1 rfl,x1.cell 2 rfl,(hiW.keep hV).cell k hk,hV⟩
 have HS:=Lib.hid hS
 clear hW x0 hS
 go_loopw [5] (λiv wr=>∃k : Nat,k<=n/\iv = .int .i64 k/\Hid ((l.take k).all (isQ (orderS P M))=true)/\Below W.heap.size W wr) (λiv _=>n - (intOf iv).toNat)
 case atStart=>exact ⟨0,Nat.zero_le _,rfl,by show _=_;simp,Below.refl _ _⟩
 case round =>
  obtain ⟨k,hk,rfl,hall,hbr⟩:=hrel
  by_cases hlt : k<n
  ·have HSk : Hid (∀V,Below W.heap.size W V->V.cell? ⟨w.heap.size,0,none⟩=some (.int .i64 P)/\V.cell? ⟨w.heap.size,1,none⟩=some (.int .i64 M)/\V.cell? ⟨w.heap.size,2,none⟩=some (.slice am mn cm)/\V.cell? ⟨ablk a,aoff a+k,none⟩=some (.int .i64 (nth l k))/\Below W.heap.size W V):=HS.out k hlt
   have hkl : k<l.length:=by rw [Hlen.out];exact hlt
   have Hbr:=Lib.hid hbr
   have Hq:=Lib.hid (rIs_any P M am mn cm (nth l k))
   clear hbr
   by_cases hq : isQ (orderS P M) (nth l k)=true
   ·have Hs : Hid ((l.take (k+1)).all (isQ (orderS P M))=true):=all_take_succ hkl hall.out (by rw [<- nth_getElem hkl];exact hq)
    rw [hq] at Hq
    clear hq
    go_wp2_with fail
    go_region_held3 (λV=>V.cell? ⟨w.heap.size,0,none⟩=some (.int .i64 P)/\V.cell? ⟨w.heap.size,1,none⟩=some (.int .i64 M)/\V.cell? ⟨w.heap.size,2,none⟩=some (.slice am mn cm)/\V.cell? ⟨ablk a,aoff a+k,none⟩=some (.int .i64 (nth l k))/\Below W.heap.size W V)
     ((refine HSk.out _ ?_;first | exact Hbr.out.drew | exact Below.next Hbr.out.drew hb4))
     (first | (go_at_call 145;((with_reducible refine (Hq.out _).mono ?_);rintro e w4 ⟨rfl,hb4⟩)))
    go_wp2_with fail
    go_roundw
    case rel=>exact ⟨k+1,by omega,by go_num,Hs.out,Below.next Hbr.out.drew hb4⟩
    case measure=>simp [intOf] <;> omega
   ·have hq' : isQ (orderS P M) (nth l k)=false:=by simpa using hq
    have Hs : Hid (elsE (orderS P M) l=2):=by show _=_;rw [elsE,elsQ,all_false_at hkl (by rw [<- nth_getElem hkl];exact hq')];rfl
    rw [hq'] at Hq
    clear hq hq'
    go_wp2_with fail
    go_region_held3 (λV=>V.cell? ⟨w.heap.size,0,none⟩=some (.int .i64 P)/\V.cell? ⟨w.heap.size,1,none⟩=some (.int .i64 M)/\V.cell? ⟨w.heap.size,2,none⟩=some (.slice am mn cm)/\V.cell? ⟨ablk a,aoff a+k,none⟩=some (.int .i64 (nth l k))/\Below W.heap.size W V)
     ((refine HSk.out _ ?_;first | exact Hbr.out.drew | exact Below.next Hbr.out.drew hb4))
     (first | (go_at_call 145;((with_reducible refine (Hq.out _).mono ?_);rintro e w4 ⟨rfl,hb4⟩)))
    go_wp2_with fail
    go_ret
    exact ⟨ret_int Hs.out.symm,Below.next hbW (Below.next Hbr.out.drew hb4)⟩
  ·obtain rfl : k=n:=by omega
   have Hs : Hid (elsE (orderS P M) l=0):=by
    have:=hall.out
    rw [List.take_of_length_le (by rw [Hlen.out];exact Nat.le_refl _)] at this
    show _=_;rw [elsE,elsQ,this];rfl
   go_wp2_with fail
   go_ret
   exact ⟨ret_int Hs.out.symm,Below.next hbW hbr⟩
end

section
set_option maxRecDepth 100000
set_option maxHeartbeats 4000000

open Go.RowKit
def rmatE (P M : Int) (mod : List Int) (cols : Int) (L : List (List Int)) : Int:=if fieldRB P M mod=true then matE (orderS P M) cols L else 1
theorem rMatCheck_any (P M : Int) (am : Option Addr) (mn cm : Nat) (mod : List Int) (cols : Int) (a : Option Addr) (n c : Nat) (L : List (List Int)) (w : World) (hmod : Ints w am mn mod) (hi : Mat w a n L) :
  Calls Tryz.prog 119 #[.agg #[.int .i64 P,.int .i64 M,.slice am mn cm],.agg #[.int .i64 cols,.slice a n c]] w λe w'=>e = .returned (.int .i64 (rmatE P M mod cols L))/\Below w.heap.size w w':=by
 have Hlen:=Lib.hid hi.len
 have hpl:=hi.pl
 have hmax:=hi.max
 unfold maxLen at hmax
 go_enter Tryz.func119,Tryz.ntmps119
 go_wp2_with fail
 obtain ⟨W,hW⟩ : ∃W : World,W=(w.alloc (.cells #[.int .i64 P,.int .i64 M,.slice am mn cm] 24)).alloc (.cells #[.int .i64 cols,.slice a n c] 82):=⟨_,rfl⟩
 rw [<- hW]
 have hbW : Below w.heap.size w W:=by rw [hW];exact below2 _ _ _
 have x0 : Box W w.heap.size [.int .i64 P,.int .i64 M,.slice am mn cm]:=by rw [hW];exact (Box.new _ _ _ rfl).alloc _
 have y0 : Box W (w.heap.size+1) [.int .i64 cols,.slice a n c]:=by rw [hW];exact Box.new _ _ _ (by simp)
 have hS : ∀V,Below W.heap.size W V->V.cell? ⟨w.heap.size,0,none⟩=some (.int .i64 P)/\V.cell? ⟨w.heap.size,1,none⟩=some (.int .i64 M)/\V.cell? ⟨w.heap.size,2,none⟩=some (.slice am mn cm) /\
   V.cell? ⟨w.heap.size+1,0,none⟩=some (.int .i64 cols)/\V.cell? ⟨w.heap.size+1,1,none⟩=some (.slice a n c)/\Below W.heap.size W V:=by
  intro V hV
  have x1:=x0.keep hV
  have y1:=y0.keep hV
  exact ⟨x1.cell 0 rfl,x1.cell 1 rfl,x1.cell 2 rfl,y1.cell 0 rfl,y1.cell 1 rfl,hV⟩
 have HS:=Lib.hid hS
 have hiW:=hi.keep hbW
 clear hW x0 y0 hS
 refine (rFieldCheck_any P M am mn cm mod W (hmod.keep hbW)).mono ?_
 rintro e w1 ⟨rfl,hb1⟩
 have hbw1:=Below.next hbW hb1
 by_cases hB : fieldRB P M mod=true
 ·have HB : Hid (rmatE P M mod cols L=matE (orderS P M) cols L):=by show _=_;rw [rmatE,if_pos hB]
  have hE : errField (fieldRB P M mod)=0:=by rw [hB];rfl
  rw [hE]
  obtain ⟨q,hq⟩ : ∃q,orderS P M=q:=⟨_,rfl⟩
  have Hq:=Lib.hid hq
  rw [hq] at HB
  obtain ⟨d0,d1,d2,d3,d4,_⟩:=HS.out w1 hb1
  clear hB hE hq
  by_cases b1 : cols<0
  ·have Hf : Hid (rmatE P M mod cols L=3):=by show _=_;rw [HB.out,matE,if_pos (.inl b1)]
   have t1 : decide (cols<0)=true:=by simpa using b1
   go_wp2_with fail
   go_ret
   exact ⟨ret_int Hf.out.symm,hbw1⟩
  have t1 : decide (cols<0)=false:=by simpa using b1
  by_cases b2 : 256<cols
  ·have Hf : Hid (rmatE P M mod cols L=3):=by show _=_;rw [HB.out,matE,if_pos (.inr (.inl b2))]
   have t2 : decide (256<cols)=true:=by simpa using b2
   go_wp2_with fail
   go_ret
   exact ⟨ret_int Hf.out.symm,hbw1⟩
  have t2 : decide (256<cols)=false:=by simpa using b2
  by_cases b3 : 256<n
  ·have Hf : Hid (rmatE P M mod cols L=3):=by show _=_;rw [HB.out,matE,if_pos (.inr (.inr (by rw [Hlen.out];exact b3)))]
   have t3 : decide (256<(n : Int))=true:=by simp;omega
   go_wp2_with fail
   go_ret
   exact ⟨ret_int Hf.out.symm,hbw1⟩
  have t3 : decide (256<(n : Int))=false:=by simp;omega
  have Hm : Hid (rmatE P M mod cols L=if shapeQ cols L=false then 3 else if L.all (elsQ q) then 0 else 2):=by
   show _=_;rw [HB.out,matE,if_neg (by rw [Hlen.out];omega)]
  have hi1:=hiW.keep hb1
  clear b1 b2
  go_wp2_with fail
  go_loopw [6] (λiv wr=>∃k : Nat,k<=n/\iv = .int .i64 k/\Hid ((L.take k).all (λr=>decide ((r.length : Int)=cols))=true)/\Drawn w1 wr) (λiv _=>n - (intOf iv).toNat)
  case atStart=>exact ⟨0,Nat.zero_le _,rfl,by show _=_;simp,Drawn.refl _⟩
  case round =>
   obtain ⟨k,hk,rfl,hall,hd⟩:=hrel
   have hir:=hi1.drawn hd
   have e3:=hd.cell d3
   have e4:=hd.cell d4
   by_cases hlt : k<n
   ·obtain ⟨ra,rn,rc,hcell,hrow⟩:=hir.cell k hlt
    have hkL : k<L.length:=by rw [Hlen.out];exact hlt
    have hrl:=hrow.len
    rw [nthR_getElem hkL] at hrl
    have Hrl:=Lib.hid hrl
    clear hrl
    by_cases he : (rn : Int)=cols
    ·have he' : ((rn : Int) != cols)=false:=by simpa using he
     have Hs : Hid ((L.take (k+1)).all (λr=>decide ((r.length : Int)=cols))=true):=all_take_succ hkL hall.out (by rw [Hrl.out];simpa using he)
     clear he
     go_wp2_with fail
     go_quiet (fail)
     go_wp2
     go_roundw
     case rel=>exact ⟨k+1,by omega,by go_num,Hs.out,hd.drewN _⟩
     case measure=>simp [intOf] <;> omega
    ·have he' : ((rn : Int) != cols)=true:=by simpa using he
     have Hs : Hid (rmatE P M mod cols L=3):=by
      show _=_;rw [Hm.out,if_pos]
      exact all_false_at hkL (by simp only [Hrl.out];simpa using he)
     clear he
     go_wp2_with fail
     go_quiet (fail)
     go_wp2
     go_ret
     exact ⟨ret_int Hs.out.symm,Below.next hbw1 (hd.drewN _).below⟩
   ·obtain rfl : k=n:=by omega
    have Hm2 : Hid (rmatE P M mod cols L=if L.all (elsQ q) then 0 else 2):=by
     have:=hall.out;rw [List.take_of_length_le (by rw [Hlen.out];exact Nat.le_refl _)] at this
     show _=_;rw [Hm.out,if_neg (by rw [shapeQ,this];simp)]
    have hbr : Below W.heap.size W wr:=Below.next hb1 hd.below
    have hir2:=hir
    clear d0 d1 d2 d3 d4 hall
    go_wp2_with fail
    clear e3 e4
    go_loopw [7] (λiv wx=>∃j : Nat,j<=k/\iv = .int .i64 j/\Hid ((L.take j).all (elsQ q)=true)/\Below W.heap.size W wx) (λiv _=>k - (intOf iv).toNat)
    case atStart=>exact ⟨0,Nat.zero_le _,rfl,by show _=_;simp,hbr⟩
    case round =>
     obtain ⟨j,hj,rfl,hall2,hbx⟩:=hrel
     obtain ⟨d0,d1,d2,d3,d4,_⟩:=HS.out _ hbx
     by_cases hlt : j<k
     ·have hiX:=hiW.keep hbx
      obtain ⟨ra,rn,rc,hcell,hrow⟩:=hiX.cell j hlt
      have hjL : j<L.length:=by rw [Hlen.out];exact hlt
      have HC:=Lib.hid (rEntries_any P M am mn cm ra rn rc (nthR L j) _ (hrow.keep (Below.refl _ _).drew))
      have hSj : ∀V,Below wr.heap.size wr V->V.cell? ⟨w.heap.size,0,none⟩=some (.int .i64 P)/\V.cell? ⟨w.heap.size,1,none⟩=some (.int .i64 M)/\V.cell? ⟨w.heap.size,2,none⟩=some (.slice am mn cm) /\
        V.cell? ⟨w.heap.size+1,1,none⟩=some (.slice a k c)/\V.cell? ⟨ablk a,aoff a+j,none⟩=some (.slice ra rn rc):=λV hV=>by
       obtain ⟨f0,f1,f2,f3,f4,_⟩:=HS.out V (Below.next hbx hV)
       exact ⟨f0,f1,f2,f4,cell_keep hV hcell⟩
      have HSj:=Lib.hid hSj
      have Hbx:=Lib.hid hbx
      rw [Hq.out] at HC
      clear hSj hbx
      by_cases he : elsQ q (nthR L j)=true
      ·have he2 : elsE q (nthR L j)=0:=by rw [elsE,he];rfl
       rw [he2] at HC
       rw [nthR_getElem hjL] at he
       have Hs : Hid ((L.take (j+1)).all (elsQ q)=true):=all_take_succ hjL hall2.out he
       clear he he2
       go_wp2_with fail
       go_region_held3 (λV=>V.cell? ⟨w.heap.size,0,none⟩=some (.int .i64 P)/\V.cell? ⟨w.heap.size,1,none⟩=some (.int .i64 M)/\V.cell? ⟨w.heap.size,2,none⟩=some (.slice am mn cm) /\
         V.cell? ⟨w.heap.size+1,1,none⟩=some (.slice a k c)/\V.cell? ⟨ablk a,aoff a+j,none⟩=some (.slice ra rn rc))
        ((refine HSj.out _ ?_;first | exact (Below.refl _ _).drew | exact Below.next (Below.refl _ _).drew hb4))
        (first | (go_at_call 76;((with_reducible refine HC.out.mono ?_);rintro e w4 ⟨rfl,hb4⟩)))
       go_wp2_with fail
       go_roundw
       case rel=>exact ⟨j+1,by omega,by go_num,Hs.out,Below.next Hbx.out (Below.next (Below.refl _ _).drew hb4)⟩
       case measure=>simp [intOf] <;> omega
      ·have he2 : elsE q (nthR L j)=2:=by rw [elsE,if_neg he]
       rw [he2] at HC
       rw [nthR_getElem hjL] at he
       have Hs : Hid (rmatE P M mod cols L=2):=by
        show _=_;rw [Hm2.out,all_false_at hjL (by simpa using he)];rfl
       clear he he2
       go_wp2_with fail
       go_region_held3 (λV=>V.cell? ⟨w.heap.size,0,none⟩=some (.int .i64 P)/\V.cell? ⟨w.heap.size,1,none⟩=some (.int .i64 M)/\V.cell? ⟨w.heap.size,2,none⟩=some (.slice am mn cm) /\
         V.cell? ⟨w.heap.size+1,1,none⟩=some (.slice a k c)/\V.cell? ⟨ablk a,aoff a+j,none⟩=some (.slice ra rn rc))
        ((refine HSj.out _ ?_;first | exact (Below.refl _ _).drew | exact Below.next (Below.refl _ _).drew hb4))
        (first | (go_at_call 76;((with_reducible refine HC.out.mono ?_);rintro e w4 ⟨rfl,hb4⟩)))
       go_wp2_with fail
       go_ret
       exact ⟨ret_int Hs.out.symm,Below.next hbW (Below.next Hbx.out (Below.next (Below.refl _ _).drew hb4))⟩
     ·obtain rfl : j=k:=by omega
      have Hs : Hid (rmatE P M mod cols L=0):=by
       have:=hall2.out;rw [List.take_of_length_le (by rw [Hlen.out];exact Nat.le_refl _)] at this
       show _=_;rw [Hm2.out,this];rfl
      go_wp2_with fail
      go_ret
      exact ⟨ret_int Hs.out.symm,Below.next hbW hbx⟩
 ·have hB' : fieldRB P M mod=false:=by simpa using hB
  have Hf : Hid (rmatE P M mod cols L=1):=by show _=_;rw [rmatE,if_neg hB]
  have hE : errField (fieldRB P M mod)=1:=by rw [hB'];rfl
  rw [hE]
  clear hB hB' hE
  go_wp2_with fail
  go_ret
  exact ⟨ret_int Hf.out.symm,hbw1⟩
end

section
set_option maxRecDepth 100000
set_option maxHeartbeats 1600000

open Go.RowKit
def canR (O : FOps) (L : List (List Int)) (cols : Nat) : List (List Int):=(elimTo O L cols).1.take (elimTo O L cols).2.length
def RCanonPost (O : FOps) (L : List (List Int)) (cols : Nat) (w : World) (e : Ending) (w' : World) : Prop :=
 ∃a c ap cp,e = .returned (.tuple #[.slice a (elimTo O L cols).2.length c,.slice ap (elimTo O L cols).2.length cp])/\MatN w.heap.size w' a (elimTo O L cols).2.length (canR O L cols) /\
  IntsN w.heap.size w' ap (elimTo O L cols).2.length (elimTo O L cols).2/\Below w.heap.size w w'
theorem rCanon_any (P : Int) (m : Nat) (am : Option Addr) (mn cm : Nat) (mod : List Int) (a : Option Addr) (n c cols : Nat) (L : List (List Int)) (w : World) (hf : RFld w P m am mn mod) (hi : Mat w a n L)
  (hR : Rws (ElP P m) cols L) (hlen : cols<=1000000) (hn : n<=1000000) (hinv : ∀p,ElP P m p->p ≠ 0->(invR P m mod p=1 ↔ p=1)) :
  Calls Tryz.prog 120 #[.agg #[.int .i64 P,.int .i64 m,.slice am mn cm],.slice a n c,.int .i64 cols] w (RCanonPost (rops P m mod) L cols w):=by
 have Hlen:=Lib.hid hi.len
 have Hc : Hid (∀V,Below w.heap.size w V->Calls Tryz.prog 183 #[.agg #[.int .i64 P,.int .i64 m,.slice am mn cm],.slice a n c,.int .i64 cols] V (RElimPost (rops P m mod) L cols V)) :=
  λV hV=>rElim_any P m am mn cm mod a n c cols cols L V (hf.keep hV) (hi.keep hV) hR (Nat.le_refl _) hlen hn hinv
 obtain ⟨O,hO⟩ : ∃O,rops P m mod=O:=⟨_,rfl⟩
 rw [hO] at Hc ⊢
 clear hO hinv hR
 go_enter Tryz.func120,Tryz.ntmps120
 go_wp2_with fail
 obtain ⟨W,hW⟩ : ∃W : World,W=w.alloc (.cells #[.int .i64 P,.int .i64 m,.slice am mn cm] 24):=⟨_,rfl⟩
 rw [<- hW]
 have hbW : Below w.heap.size w W:=by rw [hW];exact below1 _ _
 clear hW
 refine (Hc.out W hbW).mono ?_
 rintro e w1 ⟨a1,c1,R1,ap,cp,rfl,hO1,hp1,hb1⟩
 have hpl:=elimTo_piv O L cols
 have hcap:=own_cap hO1.own
 have hpv:=(IntsN.own hp1).mono hbW.size
 have hmt:=((MatN.own hO1).take (k:=(elimTo O L cols).2.length) hpl.2).mono hbW.size
 have hF : RCanonPost O L cols w (.returned (.tuple #[.slice a1 (elimTo O L cols).2.length c1,.slice ap (elimTo O L cols).2.length cp])) w1:=⟨a1,_,ap,cp,rfl,hmt,hpv,Below.next hbW hb1⟩
 have HF:=Lib.hid hF
 have hle : (elimTo O L cols).2.length<=c1:=Nat.le_trans hpl.2 hcap
 clear hF hpv hmt hp1 hcap hpl
 generalize (elimTo O L cols).2.length=k at *
 go_wp2_with fail
 go_ret2
 simpa using HF.out
def rspaceE (P M : Int) (mod : List Int) (cols : Int) (L : List (List Int)) : Int :=
 if rmatE P M mod cols L=0 then (if canR (rops P M.toNat mod) L cols.toNat=L then 0 else 5) else rmatE P M mod cols L
theorem rmatE_zero {P M : Int} {mod : List Int} {cols : Int} {L : List (List Int)} (h : rmatE P M mod cols L=0) : fieldRB P M mod=true/\matE (orderS P M) cols L=0:=by
 unfold rmatE at h
 split at h
 ·rename_i h1;exact ⟨h1,h⟩
 ·omega
theorem rSpaceCheck_any (P M : Int) (am : Option Addr) (mn cm : Nat) (mod : List Int) (cols : Int) (a : Option Addr) (n c : Nat) (L : List (List Int)) (w : World) (hmod : Ints w am mn mod) (hi : Mat w a n L)
  (hinv : fieldRB P M mod=true->∀p,ElP P M.toNat p->p ≠ 0->(invR P M.toNat mod p=1 ↔ p=1)) :
  Calls Tryz.prog 58 #[.agg #[.int .i64 P,.int .i64 M,.slice am mn cm],.agg #[.int .i64 cols,.slice a n c]] w λe w'=>e = .returned (.int .i64 (rspaceE P M mod cols L))/\Below w.heap.size w w':=by
 have Hlen:=Lib.hid hi.len
 have Hinv:=Lib.hid hinv
 clear hinv
 go_enter Tryz.func58,Tryz.ntmps58
 go_wp2_with fail
 obtain ⟨W,hW⟩ : ∃W : World,W=(w.alloc (.cells #[.int .i64 P,.int .i64 M,.slice am mn cm] 24)).alloc (.cells #[.int .i64 cols,.slice a n c] 82):=⟨_,rfl⟩
 rw [<- hW]
 have hbW : Below w.heap.size w W:=by rw [hW];exact below2 _ _ _
 have x0 : Box W w.heap.size [.int .i64 P,.int .i64 M,.slice am mn cm]:=by rw [hW];exact (Box.new _ _ _ rfl).alloc _
 have y0 : Box W (w.heap.size+1) [.int .i64 cols,.slice a n c]:=by rw [hW];exact Box.new _ _ _ (by simp)
 have HX:=Lib.hid (And.intro x0 y0)
 have hiW:=hi.keep hbW
 have hmW:=hmod.keep hbW
 clear hW x0 y0
 refine (rMatCheck_any P M am mn cm mod cols a n c L W hmW hiW).mono ?_
 rintro e w1 ⟨rfl,hb1⟩
 have hbw1:=Below.next hbW hb1
 by_cases hE : rmatE P M mod cols L=0
 ·obtain ⟨hB,hm⟩:=rmatE_zero hE
  obtain ⟨m,rfl,hrf,hmods⟩:=fieldRB_rf hB
  obtain ⟨k,rfl,hk,hl,hR⟩:=matE_zero hm
  have HE : Hid (rspaceE P m mod k L=if canR (rops P m mod) L k=L then 0 else 5):=by show _=_;rw [rspaceE,if_pos hE,Int.toNat_natCast,Int.toNat_natCast]
  rw [hE]
  have hinv:=Hinv.out hB
  rw [Int.toNat_natCast] at hinv
  have hRw : Rws (ElP P m) k L:=λr hr=>⟨(hR r hr).1,λx hx=>by have:=(hR r hr).2 x hx;rw [hrf.order] at this;exact this⟩
  have x1:=HX.out.1.keep hb1
  have y1:=HX.out.2.keep hb1
  have d0:=x1.cell 0 rfl
  have d1:=x1.cell 1 rfl
  have d2:=x1.cell 2 rfl
  have d3:=y1.cell 0 rfl
  have d4:=y1.cell 1 rfl
  have hm1:=hmW.keep hb1
  have hi1:=hiW.keep hb1
  have hn : n<=1000000:=by rw [<- Hlen.out];omega
  have HC:=Lib.hid (rCanon_any P m am mn cm mod a n c k L w1 ⟨hrf,hmods w1 am mn hm1⟩ hi1 hRw (by omega) hn hinv)
  clear hE hB hm hmods hR hinv hRw x1 y1
  obtain ⟨O,hO⟩ : ∃O,rops P m mod=O:=⟨_,rfl⟩
  rw [hO] at HC HE
  clear hO
  go_wp2_with fail
  refine HC.out.mono ?_
  rintro e w2 ⟨a2,c2,ap,cp,rfl,hM2,hp2,hb2⟩
  have hbw2:=Below.next hbw1 hb2
  have y2:=(HX.out.2.keep hb1).keep hb2
  have d3:=y2.cell 0 rfl
  have d4:=y2.cell 1 rfl
  have hi2:=hi1.keep hb2
  have hM3:=hM2.mat
  have HS:=Lib.hid (rSameRows_any a2 (elimTo O L k).2.length c2 (canR O L k) a n c L hM3 hi2)
  clear hM2 hp2 y2
  generalize (elimTo O L k).2.length=kk at *
  by_cases hc : canR O L k=L
  ·have hc' : decide (canR O L k=L)=true:=by simpa using hc
   have HF : Hid (rspaceE P m mod k L=0):=by show _=_;rw [HE.out,if_pos hc]
   rw [hc'] at HS
   clear hc hc'
   go_wp2_with fail
   refine HS.out.mono ?_
   rintro e w3 ⟨rfl,hd3⟩
   go_wp2_with fail
   go_ret
   exact ⟨ret_int HF.out.symm,Below.next hbw2 hd3.below⟩
  ·have hc' : decide (canR O L k=L)=false:=by simpa using hc
   have HF : Hid (rspaceE P m mod k L=5):=by show _=_;rw [HE.out,if_neg hc]
   rw [hc'] at HS
   clear hc hc'
   go_wp2_with fail
   refine HS.out.mono ?_
   rintro e w3 ⟨rfl,hd3⟩
   go_wp2_with fail
   go_ret
   exact ⟨ret_int HF.out.symm,Below.next hbw2 hd3.below⟩
 ·have HE : Hid (rspaceE P M mod cols L=rmatE P M mod cols L):=by show _=_;rw [rspaceE,if_neg hE]
  have hE' : (rmatE P M mod cols L != 0)=true:=by simpa using hE
  clear hE
  go_wp2_with fail
  go_ret
  exact ⟨ret_int HE.out.symm,hbw1⟩
theorem lenE_lo {N : Int} (h : N<1) : lenE N=4:=by rw [lenE,if_pos (.inl h)]
theorem lenE_hi {N : Int} (h : 64<N) : lenE N=4:=by rw [lenE,if_pos (.inr h)]
theorem lenE_in {N : Int} (h1 : ¬ N<1) (h2 : ¬ 64<N) : lenE N=0:=by rw [lenE,if_neg (by omega)]
def rcodeE (P M : Int) (mod : List Int) (N : Int) (L : List (List Int)) : Int :=
 if fieldRB P M mod=true then (if lenE N=0 then rspaceE P M mod N L else 4) else 1
theorem rCodeCheck_any (P M : Int) (am : Option Addr) (mn cm : Nat) (mod : List Int) (N : Int) (a : Option Addr) (n c : Nat) (L : List (List Int)) (w : World) (hmod : Ints w am mn mod) (hi : Mat w a n L)
  (hinv : fieldRB P M mod=true->∀p,ElP P M.toNat p->p ≠ 0->(invR P M.toNat mod p=1 ↔ p=1)) :
  Calls Tryz.prog 22 #[.agg #[.int .i64 P,.int .i64 M,.slice am mn cm,.int .i64 N,.slice a n c]] w λe w'=>e = .returned (.int .i64 (rcodeE P M mod N L))/\Below w.heap.size w w':=by
 have Hinv:=Lib.hid hinv
 clear hinv
 go_enter Tryz.func22,Tryz.ntmps22
 go_wp2_with fail
 obtain ⟨W,hW⟩ : ∃W : World,W=w.alloc (.cells #[.int .i64 P,.int .i64 M,.slice am mn cm,.int .i64 N,.slice a n c] 27):=⟨_,rfl⟩
 rw [<- hW]
 have hbW : Below w.heap.size w W:=by rw [hW];exact below1 _ _
 have x0 : Box W w.heap.size [.int .i64 P,.int .i64 M,.slice am mn cm,.int .i64 N,.slice a n c]:=by rw [hW];exact Box.new _ _ _ rfl
 have HX:=Lib.hid x0
 clear hW x0
 refine (rFieldCheck_any P M am mn cm mod W (hmod.keep hbW)).mono ?_
 rintro e w1 ⟨rfl,hb1⟩
 have hbw1:=Below.next hbW hb1
 by_cases hB : fieldRB P M mod=true
 ·have hE : errField (fieldRB P M mod)=0:=by rw [hB];rfl
  rw [hE]
  have HB : Hid (rcodeE P M mod N L=if lenE N=0 then rspaceE P M mod N L else 4):=by show _=_;rw [rcodeE,if_pos hB]
  have x1:=HX.out.keep hb1
  have c0:=x1.cell 0 rfl
  have c1:=x1.cell 1 rfl
  have c2:=x1.cell 2 rfl
  have c3:=x1.cell 3 rfl
  have c4:=x1.cell 4 rfl
  have hm1:=(hmod.keep hbW).keep hb1
  have hi1:=(hi.keep hbW).keep hb1
  clear hE hB x1
  by_cases h1 : N<1
  ·have Hf : Hid (rcodeE P M mod N L=4):=by show _=_;rw [HB.out,lenE_lo h1];rfl
   have t1 : decide (N<1)=true:=by simpa using h1
   go_wp2_with fail
   go_ret
   exact ⟨ret_int Hf.out.symm,hbw1⟩
  ·have t1 : decide (N<1)=false:=by simpa using h1
   by_cases h2 : 64<N
   ·have Hf : Hid (rcodeE P M mod N L=4):=by show _=_;rw [HB.out,lenE_hi h2];rfl
    have t2 : decide (64<N)=true:=by simpa using h2
    go_wp2_with fail
    go_ret
    exact ⟨ret_int Hf.out.symm,hbw1⟩
   ·have t2 : decide (64<N)=false:=by simpa using h2
    have Hf : Hid (rcodeE P M mod N L=rspaceE P M mod N L):=by show _=_;rw [HB.out,lenE_in h1 h2,if_pos rfl]
    clear h1 h2
    go_wp2_with fail
    refine (rSpaceCheck_any P M am mn cm mod N a n c L w1 hm1 hi1 Hinv.out).mono ?_
    rintro e w2 ⟨rfl,hb2⟩
    go_wp2_with fail
    go_ret
    exact ⟨ret_int Hf.out.symm,Below.next hbw1 hb2⟩
 ·have hB' : fieldRB P M mod=false:=by simpa using hB
  have Hf : Hid (rcodeE P M mod N L=1):=by show _=_;rw [rcodeE,if_neg hB]
  have hE : errField (fieldRB P M mod)=1:=by rw [hB'];rfl
  rw [hE]
  clear hB hB' hE
  go_wp2_with fail
  go_ret
  exact ⟨ret_int Hf.out.symm,hbw1⟩
end

section
theorem hinv_all {P M : Int} {mod : List Int} (h : fieldRB P M mod=true) : ∀p,ElP P M.toNat p->p ≠ 0->(invR P M.toNat mod p=1 ↔ p=1):=by
 obtain ⟨m,rfl,_,_,_,_,h6⟩:=eq_ops (by rw [<- fieldRB_eq];exact h)
 exact h6
theorem rmatE_eq (P M : Int) (mod : List Int) (cols : Int) (L : List (List Int)) : rmatE P M mod cols L=fmatE P M mod cols L:=by
 unfold rmatE fmatE
 rw [fieldRB_eq]
 split
 ·rename_i h
  obtain ⟨m,rfl,_,hq,_⟩:=eq_ops h
  rw [Int.toNat_natCast,hq]
 ·rfl
theorem canR_eq {P M : Int} {mod : List Int} (h : fieldB P M mod=true) {L : List (List Int)} {m : Nat} (hL : Rws (tblOf P M.toNat mod).El m L) : canR (rops P M.toNat mod) L m=canS (tblOf P M.toNat mod) L m:=by
 obtain ⟨k,rfl,he,_,hF,hA,_⟩:=eq_ops h
 rw [Int.toNat_natCast] at hL ⊢
 rw [<- he] at hL
 unfold canR canS
 rw [(elimTo_agr hA hF.cl hL m (Nat.le_refl _)).1]
theorem rspaceE_eq (P M : Int) (mod : List Int) (cols : Int) (L : List (List Int)) : rspaceE P M mod cols L=spaceE P M mod cols L:=by
 unfold rspaceE spaceE
 rw [rmatE_eq]
 split
 ·rename_i h0
  obtain ⟨h1,h2⟩:=fmatE_zero h0
  obtain ⟨m,rfl,_,_,hR⟩:=matE_zero h2
  rw [Int.toNat_natCast,canR_eq h1 hR]
 ·rfl
theorem rcodeE_eq (P M : Int) (mod : List Int) (N : Int) (L : List (List Int)) : rcodeE P M mod N L=codeE P M mod N L:=by
 unfold rcodeE codeE
 rw [fieldRB_eq,rspaceE_eq]
theorem mem_bitsTo (x : Nat) (i : Int) : ∀k,i ∈ bitsTo x k ↔ ∃j : Nat,j<k/\i=j/\x.testBit j=true
 | 0=>by simp [bitsTo]
 | k+1=>by
  have ih:=mem_bitsTo x i k
  unfold bitsTo
  split
  ·rename_i ht
   rw [List.mem_append,ih,List.mem_singleton]
   constructor
   ·rintro (⟨j,h1,h2,h3⟩ | rfl)
    ·exact ⟨j,by omega,h2,h3⟩
    ·exact ⟨k,by omega,rfl,ht⟩
   ·rintro ⟨j,h1,h2,h3⟩
    by_cases e : j=k
    ·subst e;exact .inr h2
    ·exact .inl ⟨j,by omega,h2,h3⟩
  ·rename_i ht
   rw [ih]
   constructor
   ·rintro ⟨j,h1,h2,h3⟩;exact ⟨j,by omega,h2,h3⟩
   ·rintro ⟨j,h1,h2,h3⟩
    by_cases e : j=k
    ·subst e;exact absurd h3 ht
    ·exact ⟨j,by omega,h2,h3⟩
theorem mem_grBits (x N : Nat) (i : Nat) : i ∈ grL (bitsTo x N) (bitsTo x N).length ↔ i<N/\x.testBit i=true:=by
 rw [mem_grL]
 constructor
 ·rintro ⟨j,hj,e⟩
  have hm : nth (bitsTo x N) j ∈ bitsTo x N:=nth_mem hj
  obtain ⟨t,h1,h2,h3⟩:=(mem_bitsTo x _ N).1 hm
  have : t=i:=by omega
  subst this;exact ⟨h1,h3⟩
 ·rintro ⟨h1,h2⟩
  have hm : (i : Int) ∈ bitsTo x N:=(mem_bitsTo x _ N).2 ⟨i,h1,rfl,h2⟩
  obtain ⟨j,hj,e⟩:=List.mem_iff_getElem.1 hm
  exact ⟨j,hj,by rw [nth_getElem hj,e];rfl⟩
theorem maskTo_test {Q : List Int} : ∀k,(∀j,j<k->0<=nth Q j/\nth Q j<64)->∀i,(maskTo Q k).testBit i=true ↔ ∃j,j<k/\nth Q j=(i : Int)
 | 0,_,i=>by simp [maskTo]
 | k+1,h,i=>by
  have ih:=maskTo_test k (λj hj=>h j (by omega)) i
  have hk:=h k (by omega)
  rw [maskTo,Nat.testBit_or,Bool.or_eq_true,ih,Nat.testBit_two_pow,decide_eq_true_eq]
  constructor
  ·rintro (⟨j,h1,h2⟩ | h1)
   ·exact ⟨j,by omega,h2⟩
   ·exact ⟨k,by omega,by omega⟩
  ·rintro ⟨j,h1,h2⟩
   by_cases e : j=k
   ·subst e;exact .inr (by omega)
   ·exact .inl ⟨j,by omega,h2⟩
end

section
open Go.RowKit
theorem bits_parts (x : Nat) : ∀k,k<=64->(bitsTo x k).length+(bitsTo (cplU x) k).length=k
 | 0,_=>rfl
 | k+1,hk=>by
  have ih:=bits_parts x k (by omega)
  have hc:=cplU_test x k (by omega)
  rw [bitsTo,bitsTo,hc]
  cases hx : x.testBit k <;> simp <;> omega
end

section
set_option maxRecDepth 100000
set_option maxHeartbeats 4000000

open Go.RowKit
def dualL (G : Tbl) (L : List (List Int)) (m : Nat) : List (List Int):=canS G (kerL G.ops m (canS G L m) (pivS G L m) m) m
def KerPost (G : Tbl) (L : List (List Int)) (m : Nat) (w : World) (e : Ending) (w' : World) : Prop :=
 ∃a c,e = .returned (.tuple #[.agg #[.int .i64 m,.slice a (dualL G L m).length c],.int .i64 0])/\MatN w.heap.size w' a (dualL G L m).length (dualL G L m)/\Below w.heap.size w w'
theorem npL_le (P : List Int) : ∀k,(npL P k).length<=k
 | 0=>Nat.le_refl _
 | k+1=>by have:=npL_le P k;rw [npL];split <;> simp <;> omega
theorem kernel_any (P M : Int) (am : Option Addr) (mn cm : Nat) (mod : List Int) (m : Nat) (a : Option Addr) (n c : Nat) (L : List (List Int)) (w : World) (hmod : Ints w am mn mod) (hi : Mat w a n L) (hE : codeE P M mod m L=0) :
  Calls Tryz.prog 77 #[.agg #[.int .i64 P,.int .i64 M,.slice am mn cm],.agg #[.int .i64 m,.slice a n c]] w (KerPost (tblOf P M.toNat mod) L m w):=by
 have Hlen:=Lib.hid hi.len
 obtain ⟨N',e,hm1,hm64,F,hR⟩:=codeE_fld hE
 obtain rfl : m=N':=by omega
 have hL256:=(codeE_rws hE).choose_spec.2.2.2.1
 have hn : n<=256:=by rw [<- hi.len];exact hL256
 obtain ⟨h5,h6⟩:=spaceE_zero (codeE_zero hE).2.2.2
 obtain ⟨hfB,h8⟩:=fmatE_zero h5
 have HR:=Lib.hid hR
 have HF:=Lib.hid F
 clear hE h5 h6 e hL256
 go_enter Tryz.func77,Tryz.ntmps77
 go_wp2_with fail
 obtain ⟨W,hW⟩ : ∃W : World,W=((((w.alloc (.cells #[.int .i64 P,.int .i64 M,.slice am mn cm] 24)).alloc (.cells #[.int .i64 m,.slice a n c] 82)).alloc (.cells #[.int .i64 0,.slice none 0 0] 82)).alloc (.cells #[.int .i64 m,.slice a n c] 82)):=⟨_,rfl⟩
 rw [<- hW]
 have hbW : Below w.heap.size w W:=by rw [hW];exact ((((Below.refl _ _).alloc (Nat.le_refl _) _).alloc (by simp) _).alloc (by simp;omega) _).alloc (by simp;omega) _
 have hsW : W.heap.size=w.heap.size+4:=by rw [hW];simp
 have q1 : W.cell? ⟨w.heap.size+1,0,none⟩=some (.int .i64 m)/\W.cell? ⟨w.heap.size+1,1,none⟩=some (.slice a n c):=by rw [hW];exact ⟨cell_box (cell_box (cell_alloc_at _ _ _ (by simp) 0) _) _,cell_box (cell_box (cell_alloc_at _ _ _ (by simp) 1) _) _⟩
 have q2 : W.cell? ⟨w.heap.size+1+1,0,none⟩=some (.int .i64 0)/\W.cell? ⟨w.heap.size+1+1,1,none⟩=some (.slice none 0 0)/\W.frozen? ⟨w.heap.size+1+1,0,none⟩=false/\W.frozen? ⟨w.heap.size+1+1,1,none⟩=false:=by
  rw [hW];exact ⟨cell_box (cell_alloc_at _ _ _ (by simp) 0) _,cell_box (cell_alloc_at _ _ _ (by simp) 1) _,frozen_box (by simp) (frozen_at _ _ _ (by simp) 0) _,frozen_box (by simp) (frozen_at _ _ _ (by simp) 1) _⟩
 have q3 : W.cell? ⟨w.heap.size+1+1+1,0,none⟩=some (.int .i64 m)/\W.cell? ⟨w.heap.size+1+1+1,1,none⟩=some (.slice a n c):=by rw [hW];exact ⟨cell_alloc_at _ _ _ (by simp) 0,cell_alloc_at _ _ _ (by simp) 1⟩
 have hiW:=hi.keep hbW
 have hMs : Mats W (some ⟨w.heap.size+1+1+1,0,none⟩) 1 [((m : Int),L)]:=⟨rfl,λ_=>rfl,by unfold maxLen;omega,λi hi=>by
  have : i=0:=by simp at hi;omega
  subst this
  exact ⟨a,n,c,by simpa using q3.1,by simpa using q3.2,hiW⟩⟩
 have HsW:=Lib.hid hsW
 clear hW hsW
 refine (open_any P M am mn cm mod _ 1 1 _ W (hmod.keep hbW) hMs).mono ?_
 rintro e w1 ⟨hb1,hcase⟩
 have hbw1:=Below.next hbW hb1
 have hq : ∀V,Below W.heap.size W V->V.cell? ⟨w.heap.size+1,0,none⟩=some (.int .i64 m)/\V.cell? ⟨w.heap.size+1,1,none⟩=some (.slice a n c)/\V.cell? ⟨w.heap.size+1+1,0,none⟩=some (.int .i64 0)/\V.cell? ⟨w.heap.size+1+1,1,none⟩=some (.slice none 0 0)/\V.frozen? ⟨w.heap.size+1+1,0,none⟩=false/\V.frozen? ⟨w.heap.size+1+1,1,none⟩=false:=by
  intro V hV
  have hs:=HsW.out
  exact ⟨cell_keep hV q1.1,cell_keep hV q1.2,cell_keep hV q2.1,cell_keep hV q2.2.1,(hV.frozen (p:=⟨w.heap.size+1+1,0,none⟩) (by simp [hs])).trans q2.2.2.1,(hV.frozen (p:=⟨w.heap.size+1+1,1,none⟩) (by simp [hs])).trans q2.2.2.2⟩
 have Hq:=Lib.hid hq
 clear hq q1 q2 q3
 rw [matsE_one] at hcase
 rcases hcase with ⟨hB,_⟩ | ⟨_,er,h0,h1,_⟩ | ⟨_,_,b,rfl,hG,hbl⟩
 ·rw [hfB] at hB;exact absurd hB (by decide)
 ·rw [h8] at h1;exact absurd h1.symm h0
 obtain ⟨r1,r2,r3,r4,r5,r6⟩:=Hq.out w1 hb1
 have HPost : Hid (∀a c w',MatN w.heap.size w' a (dualL (tblOf P M.toNat mod) L m).length (dualL (tblOf P M.toNat mod) L m)->Below w.heap.size w w'->KerPost (tblOf P M.toNat mod) L m w (.returned (.tuple #[.agg #[.int .i64 m,.slice a (dualL (tblOf P M.toNat mod) L m).length c],.int .i64 0])) w'):=λa c w' h1 h2=>⟨a,c,rfl,h1,h2⟩
 obtain ⟨G,hGG⟩ : ∃G,tblOf P M.toNat mod=G:=⟨_,rfl⟩
 have HGG:=Lib.hid hGG
 rw [hGG] at hG HR HF HPost hR F
 clear h8 hGG hfB
 have Hcan:=Lib.hid (canon_any a n c m L hG (hiW.keep hb1) hR (by omega) (by omega))
 have hRc : Rws G.El m (canS G L m):=canO_rws F hR
 obtain ⟨hPv,hLd⟩:=canO_piv F hR
 have hcl : (canS G L m).length=(pivS G L m).length:=canS_length G L m
 have HPv : Hid (Piv (canS G L m) (pivS G L m) m):=hPv
 have hrws : ∀k,k<=m->Rws G.El m (kerL G.ops m (canS G L m) (pivS G L m) k):=by
  intro k
  induction k with
  | zero=>intro _ r hr;simp [kerL] at hr
  | succ k ih =>
   intro hk r hr
   rw [kerL] at hr
   split at hr
   ·exact ih (by omega) r hr
   ·rw [List.mem_append,List.mem_singleton] at hr
    rcases hr with hr | rfl
    ·exact ih (by omega) r hr
    ·exact kerTo_vc F hRc hPv hcl (by omega) _ (Nat.le_refl _)
 have Hrws:=Lib.hid hrws
 have hdl : dualL G L m=canS G (kerL G.ops m (canS G L m) (pivS G L m) m) m:=rfl
 have Hdl:=Lib.hid hdl
 have Hcp : Hid (∀c,c<m->∀i,i<(pivS G L m).length->G.El (nth (nthR (canS G L m) i) c)):=λc hc i hi=>Vc.at (hRc.row (by rw [hcl];exact hi)) hc
 have Hrl : Hid (∀i,i<(pivS G L m).length->(nthR (canS G L m) i).length=m):=λi hi=>(hRc.row (by rw [hcl];exact hi)).1
 clear hR F hPv hLd hrws hdl
 go_wp2_with fail
 refine Hcan.out.mono ?_
 rintro e w2 ⟨a2,c2,ap,cp,rfl,hM2,hp2,hb2⟩
 have Hkp : Hid (∀c i,kerTo G.ops m (canS G L m) (pivS G L m) c (i+1)=(kerTo G.ops m (canS G L m) (pivS G L m) c i).set (nth (pivS G L m) i).toNat (G.neg (nth (nthR (canS G L m) i) c))):=λc i=>rfl
 have Hk0 : Hid (∀c,kerTo G.ops m (canS G L m) (pivS G L m) c 0=(List.replicate m 0).set c 1):=λc=>rfl
 have Hplt : Hid (∀j,j<(pivS G L m).length->0<=nth (pivS G L m) j/\nth (pivS G L m) j<m):=HPv.out.lt
 obtain ⟨R,hRR⟩ : ∃R,canS G L m=R:=⟨_,rfl⟩
 obtain ⟨Pv,hPP⟩ : ∃Pv,pivS G L m=Pv:=⟨_,rfl⟩
 rw [hRR,hPP] at Hrws Hdl Hcp Hkp Hk0 Hrl
 rw [hPP] at Hplt hp2 hM2 hcl
 rw [hRR] at hM2 hcl
 rw [hPP]
 clear hRR hPP HPv Hcan
 obtain ⟨t,ht⟩ : ∃t,Pv.length=t:=⟨_,rfl⟩
 have Ht:=Lib.hid ht
 rw [ht] at hM2 hp2 Hcp Hplt hcl Hrl
 rw [ht]
 have hMM:=hM2.mat
 have hII:=hp2.ints
 have hplP:=hII.pl
 have hplR:=hMM.pl
 have hbw2:=Below.next hbw1 hb2
 have hb12:=Below.next hb1 hb2
 have hG2:=hG.keep hb2
 have hmaxP:=hII.max
 unfold maxLen at hmaxP
 obtain ⟨z1,z2,z3,z4,z5,z6⟩:=Hq.out w2 hb12
 clear ht hM2 hp2 hG r1 r2 r3 r4 r5 r6
 go_wp2_with fail
 go_loopw [10,37] (λov iv wr=>∃(k : Nat) (a1 : Option Addr) (c1 : Nat),k<=m/\iv = .int .i64 k/\ov = .slice a1 (npL Pv k).length c1/\(∃Rr,OMat wr w2.heap.size a1 (npL Pv k).length c1 Rr (kerL G.ops m R Pv k))/\Below w2.heap.size w2 wr) (λ_ iv _=>m - (intOf iv).toNat)
 case atStart=>exact ⟨0,none,0,Nat.zero_le _,rfl,rfl,⟨[],OMat.nul w2 w2.heap.size⟩,Below.refl _ _⟩
 case round =>
  clear z1 z2 z3 z4 z5 z6
  obtain ⟨k,a1,c1,hk,rfl,rfl,⟨Rr,hO⟩,hbr⟩:=hrel
  have hnk:=npL_le Pv k
  by_cases hlt : k<m
  ·have hcont:=contains_any ap t cp Pv k wr (hII.keep hbr)
   obtain ⟨z1,_,_,_,_,_⟩:=Hq.out wr (Below.next hb12 hbr)
   by_cases hmem : (k : Int) ∈ Pv
   ·have hN : Hid (npL Pv (k+1)=npL Pv k):=by show _=_;rw [npL,if_pos hmem]
    have hKk : Hid (kerL G.ops m R Pv (k+1)=kerL G.ops m R Pv k):=by show _=_;rw [kerL,if_pos hmem]
    rw [show decide ((k : Int) ∈ Pv)=true by simpa using hmem] at hcont
    have Hcont:=Lib.hid hcont
    clear hmem hcont
    go_wp2_with fail
    refine Hcont.out.mono ?_
    rintro e w3 ⟨rfl,rfl⟩
    go_wp2_with fail
    go_roundw
    case rel=>exact ⟨k+1,a1,c1,by omega,by go_num,by rw [hN.out],⟨Rr,by rw [hN.out,hKk.out];exact hO⟩,hbr⟩
    case measure=>simp [intOf] <;> omega
   ·have hN : Hid (npL Pv (k+1)=npL Pv k ++ [k]):=by show _=_;rw [npL,if_neg hmem]
    have hKk : Hid (kerL G.ops m R Pv (k+1)=kerL G.ops m R Pv k ++ [kerTo G.ops m R Pv k t]):=by show _=_;rw [kerL,if_neg hmem,Ht.out]
    rw [show decide ((k : Int) ∈ Pv)=false by simpa using hmem] at hcont
    have Hcont:=Lib.hid hcont
    clear hmem hcont
    go_wp2_with fail
    refine Hcont.out.mono ?_
    rintro e w3 ⟨rfl,rfl⟩
    go_wp2_with (at_make;refine wpList_mk rfl _ _ 22 3 rfl (.int .i64 0) 8 Tryz.underlying22 infoInt rfl m rfl rfl (by omega) (by unfold maxLen;omega) ?_;intro a5 w5 hown5 hbel5 hge5 hlt5;obtain ⟨hi5,hm5⟩:=Ints.own (l:=List.replicate m 0) (by simpa using hown5);have hc5:=hi5.cell k hlt;have hf5:=(hm5 (by omega)).2 k hlt;have hpl5:=hi5.pl)
    have hx0:=own_set hown5 k hlt (.int .i64 1)
    have hx0' : (w5.setCell ⟨ablk a5,aoff a5+k,none⟩ (.int .i64 1)).ownsRow w3.heap.size 3 1 (.slice a5 m m) m ((kerTo G.ops m R Pv k 0).map (Value.int .i64)):=by
     rw [Hk0.out,List.map_set,List.map_replicate];exact hx0
    have hbx0:=hbel5.setCell (p:=⟨ablk a5,aoff a5+k,none⟩) (hm5 (by omega)).1 (.int .i64 1)
    clear hx0 hown5 hbel5 hge5 hlt5 hi5 hm5 hc5 hf5 z1
    go_loopw [51] (λiv wx=>∃i : Nat,i<=t/\iv = .int .i64 i/\wx.ownsRow w3.heap.size 3 1 (.slice a5 m m) m ((kerTo G.ops m R Pv k i).map (Value.int .i64))/\Below w3.heap.size w3 wx) (λiv _=>t - (intOf iv).toNat)
    case atStart=>exact ⟨0,Nat.zero_le _,rfl,hx0',hbx0⟩
    case round =>
     clear hx0' hbx0
     obtain ⟨i,hi',rfl,hown,hbx⟩:=hrel
     by_cases hli : i<t
     ·have hb2x:=Below.next hbr hbx
      have cpi:=(hII.keep hb2x).cell i hli
      have hpb:=Hplt.out i hli
      obtain ⟨z,hz⟩ : ∃z : Nat,nth Pv i=z:=⟨(nth Pv i).toNat,by omega⟩
      have hzm : z<m:=by omega
      obtain ⟨ra,rn,rc,hcell,hrow⟩:=(hMM.keep hb2x).cell i hli
      have hrn : rn=m:=by rw [<- hrow.len];exact Hrl.out i hli
      subst hrn
      have ck:=hrow.cell k hlt
      have hpr:=hrow.pl
      have hel:=Hcp.out k hlt i hli
      have hst : kerTo G.ops rn R Pv k (i+1)=(kerTo G.ops rn R Pv k i).set z (G.neg (nth (nthR R i) k)):=by rw [Hkp.out,hz,Int.toNat_natCast]
      have Hst:=Lib.hid hst
      obtain ⟨x9,hx9⟩ : ∃x,nth (nthR R i) k=x:=⟨_,rfl⟩
      rw [hx9] at ck hel Hst
      have Hng:=Lib.hid (gNeg x9 (hG2.keep hb2x) hel)
      rw [hz] at cpi
      obtain ⟨hints,hmine⟩:=Ints.own hown
      have hpl5':=hints.pl
      have cz:=hints.cell z hzm
      have fz:=(hmine (by omega)).2 z hzm
      have hB:=(hmine (by omega)).1
      clear hz hpb hst hx9 hel
      go_wp2_with fail
      refine Hng.out.mono ?_
      rintro e w6 ⟨nd,rfl,rfl⟩
      go_wp2_with fail
      go_roundw
      case rel =>
       have h:=own_set (w:=wr.drewN nd) hown z hzm (.int .i64 (G.neg x9))
       rw [<- List.map_set,<- Hst.out] at h
       exact ⟨i+1,by omega,by go_num,h,(below_drewN hbx nd).setCell hB _⟩
      case measure=>simp [intOf] <;> omega
     ·obtain rfl : i=t:=by omega
      obtain ⟨X,hX⟩ : ∃X,kerTo G.ops m R Pv k i=X:=⟨_,rfl⟩
      have hXl : X.length=m:=by rw [<- hX];exact kerTo_len _ _ _ _ _ _
      rw [hX] at hown hKk
      have HXl:=Lib.hid hXl
      have hO3:=hO.keep (Below.next hbx (below1 wr (.cells #[.slice a5 m m] 22)))
      have hsz:=hbr.size
      have hsx:=hbx.size
      have hs3 : w2.heap.size<=(wr.alloc (.cells #[.slice a5 m m] 22)).heap.size:=by simp;omega
      have hcn:=cell_new wr (.slice a5 m m) 22
      clear hX hXl
      go_wp2_with (at_builtin;refine wpList_push rfl _ _ 25 22 rfl (.slice none 0 0) 24 Tryz.underlying25 infoInts rfl w2.heap.size a1 (npL Pv k).length c1 _ rfl hO3.own ⟨wr.heap.size,0,none⟩ 1 (.slice a5 m m) rfl hcn rfl (by omega) (by unfold maxLen;omega) hs3 ?_;intro a7 c7 w7 hown7 hgr7 hap7)
      go_roundw
      case rel =>
       have hb4 : Below w3.heap.size w3 (wr.alloc (.cells #[.slice a5 m m] 22)):=Below.next hbx (below1 _ _)
       have hown4 : (wr.alloc (.cells #[.slice a5 m m] 22)).ownsRow w2.heap.size 3 1 (.slice a5 X.length m) X.length (X.map (Value.int .i64)):=by
        rw [HXl.out];exact own_mono (own_keep hown (below1 _ _)) hsz
       have hra : a5 ≠ none->¬ OIn a1 Rr (ablk a5):=λh0 hI=>by
        have h1:=(own_ne hown h0).1
        have h2:=(hO.lt _ hI).2
        omega
       have hP:=OMat.push hO3 hown4 hra (by rw [HXl.out];exact hown7) hgr7 hap7
       have hb5 : Below w2.heap.size w2 w7:=Below.app (Below.next hbr hb4) hO3.own hgr7 (Nat.le_refl _) (Nat.le_trans hsz hb4.size)
       exact ⟨k+1,a7,c7,by omega,by go_num,by rw [hN.out];simp,⟨_,by rw [hN.out,hKk.out,List.length_append];exact hP⟩,hb5⟩
      case measure=>simp [intOf] <;> omega
  ·obtain rfl : k=m:=by omega
   have hbw:=Below.next hbw2 hbr
   have hcan:=canon_any a1 (npL Pv k).length c1 k (kerL G.ops k R Pv k) (hG2.keep hbr) hO.mat (Hrws.out k (Nat.le_refl _)) (by omega) (by omega)
   have Hcan:=Lib.hid hcan
   obtain ⟨z1,z2,z3,z4,z5,z6⟩:=Hq.out wr (Below.next hb12 hbr)
   clear hcan hO
   go_wp2_with fail
   refine Hcan.out.mono ?_
   rintro e w8 ⟨a8,c8,ap8,cp8,rfl,hM8,hp8,hb8⟩
   have hlen8 : (pivS G (kerL G.ops k R Pv k) k).length=(dualL G L k).length:=by rw [Hdl.out,canS_length]
   have hM8' : MatN wr.heap.size w8 a8 (dualL G L k).length (dualL G L k):=by rw [<- hlen8,Hdl.out];exact hM8
   rw [hlen8]
   have hbw8:=Below.next hbw hb8
   have hF:=HPost.out a8 c8 ((w8.setCell ⟨w.heap.size+1+1,0,none⟩ (.int .i64 k)).setCell ⟨w.heap.size+1+1,1,none⟩ (.slice a8 (dualL G L k).length c8)) (by
     have hs:=HsW.out
     have hs1:=(Below.next hb12 hbr).size
     exact ((hM8'.setCell (p:=⟨w.heap.size+1+1,0,none⟩) (by simp;omega) _).setCell (p:=⟨w.heap.size+1+1,1,none⟩) (by simp;omega) _).mono (by omega)) ((hbw8.setCell (by simp;omega) _).setCell (by simp;omega) _)
   have HF2:=Lib.hid hF
   clear hF hM8 hp8 hM8' Hcan z1 z2 z3 z4 z5 z6 hlen8
   obtain ⟨z1,z2,z3,z4,z5,z6⟩:=Hq.out w8 (Below.next (Below.next hb12 hbr) hb8)
   generalize (dualL G L k).length=q at *
   go_wp2_with fail
   exact bodyPost_ret (v:=.tuple #[.agg #[.int .i64 k,.slice a8 q c8],.int .i64 0]) (by simp [results,Tryz.results77,go_sem,z3,z4]) rfl (by rw [HGG.out];exact HF2.out)
end

section
set_option maxRecDepth 100000
set_option maxHeartbeats 4000000

open Go.RowKit
def OwnPost (P M : Int) (mod : List Int) (w : World) (e : Ending) (w' : World) : Prop :=
 ∃a c,e = .returned (.agg #[.int .i64 P,.int .i64 M,.slice a mod.length c])/\IntsN w.heap.size w' a mod.length mod/\Below w.heap.size w w'
theorem own_any (P M : Int) (am : Option Addr) (mn cm : Nat) (mod : List Int) (w : World) (hmod : Ints w am mn mod) (hmn : mn<=1000000) :
  Calls Tryz.prog 147 #[.agg #[.int .i64 P,.int .i64 M,.slice am mn cm]] w (OwnPost P M mod w):=by
 go_enter Tryz.func147,Tryz.ntmps147
 go_wp2_with fail
 obtain ⟨W,hW⟩ : ∃W : World,W=(w.alloc (.cells #[.int .i64 P,.int .i64 M,.slice am mn cm] 24)).alloc (.cells #[.int .i64 0,.int .i64 0,.slice none 0 0] 24):=⟨_,rfl⟩
 rw [<- hW]
 have hbW : Below w.heap.size w W:=by rw [hW];exact below2 _ _ _
 have hsW : W.heap.size=w.heap.size+2:=by rw [hW];simp
 have x0 : Box W w.heap.size [.int .i64 P,.int .i64 M,.slice am mn cm]:=by rw [hW];exact (Box.new _ _ _ rfl).alloc _
 have y0 : Box W (w.heap.size+1) [.int .i64 0,.int .i64 0,.slice none 0 0]:=by rw [hW];exact Box.new _ _ _ (by simp)
 clear hW
 refine (clone1_any am mn cm mod (hmod.keep hbW) hmn).mono ?_
 rintro e w1 ⟨a1,c1,rfl,hown1,hb1⟩
 have x1:=x0.keep hb1
 have y1:=y0.keep hb1
 have d0:=x1.cell 0 rfl
 have d1:=x1.cell 1 rfl
 have d2:=x1.cell 2 rfl
 have e0:=y1.cell 0 rfl
 have e1:=y1.cell 1 rfl
 have e2:=y1.cell 2 rfl
 have fx:=x1.frozen 2
 have f0:=y1.frozen 0
 have f1:=y1.frozen 1
 have f2:=y1.frozen 2
 have hbw1:=Below.next hbW hb1
 have hl:=Lib.hid (IntsN.own hown1)
 have hN : IntsN w.heap.size ((((w1.setCell ⟨w.heap.size,2,none⟩ (.slice a1 mod.length c1)).setCell ⟨w.heap.size+1,0,none⟩ (.int .i64 P)).setCell ⟨w.heap.size+1,1,none⟩ (.int .i64 M)).setCell ⟨w.heap.size+1,2,none⟩ (.slice a1 mod.length c1)) a1 mod.length mod :=
  ((((hl.out.setCell (p:=⟨w.heap.size,2,none⟩) (by simp;omega) _).setCell (p:=⟨w.heap.size+1,0,none⟩) (by simp;omega) _).setCell (p:=⟨w.heap.size+1,1,none⟩) (by simp;omega) _).setCell (p:=⟨w.heap.size+1,2,none⟩) (by simp;omega) _).mono (by omega)
 have hB : Below w.heap.size w ((((w1.setCell ⟨w.heap.size,2,none⟩ (.slice a1 mod.length c1)).setCell ⟨w.heap.size+1,0,none⟩ (.int .i64 P)).setCell ⟨w.heap.size+1,1,none⟩ (.int .i64 M)).setCell ⟨w.heap.size+1,2,none⟩ (.slice a1 mod.length c1)) :=
  (((hbw1.setCell (p:=⟨w.heap.size,2,none⟩) (by simp) _).setCell (p:=⟨w.heap.size+1,0,none⟩) (by simp) _).setCell (p:=⟨w.heap.size+1,1,none⟩) (by simp) _).setCell (p:=⟨w.heap.size+1,2,none⟩) (by simp) _
 have HF:=Lib.hid (And.intro hN hB)
 clear hN hB hown1 hl x0 y0 hbw1
 go_wp2_with fail
 exact bodyPost_ret (v:=.agg #[.int .i64 P,.int .i64 M,.slice a1 mod.length c1]) (by simp [results,Tryz.results147,go_sem,e0,e1,e2]) rfl ⟨a1,c1,rfl,HF.out.1,HF.out.2⟩
def OfPost (P M : Int) (mod : List Int) (m : Int) (a : Option Addr) (k c : Nat) (w : World) (e : Ending) (w' : World) : Prop :=
 ∃a1 c1,e = .returned (.tuple #[.agg #[.int .i64 P,.int .i64 M,.slice a1 mod.length c1,.int .i64 m,.slice a k c],.int .i64 0])/\IntsN w.heap.size w' a1 mod.length mod/\Below w.heap.size w w'
theorem of_any (P M : Int) (am : Option Addr) (mn cm : Nat) (mod : List Int) (m : Int) (a : Option Addr) (k c : Nat) (w : World) (hmod : Ints w am mn mod) (hmn : mn<=1000000) :
  Calls Tryz.prog 78 #[.agg #[.int .i64 P,.int .i64 M,.slice am mn cm],.agg #[.int .i64 m,.slice a k c],.int .i64 0] w (OfPost P M mod m a k c w):=by
 go_enter Tryz.func78,Tryz.ntmps78
 go_wp2_with fail
 obtain ⟨W,hW⟩ : ∃W : World,W=((w.alloc (.cells #[.int .i64 P,.int .i64 M,.slice am mn cm] 24)).alloc (.cells #[.int .i64 m,.slice a k c] 82)).alloc (.cells #[.int .i64 0,.int .i64 0,.slice none 0 0,.int .i64 0,.slice none 0 0] 27):=⟨_,rfl⟩
 rw [<- hW]
 have hbW : Below w.heap.size w W:=by rw [hW];exact below3 _ _ _ _
 have hsW : W.heap.size=w.heap.size+3:=by rw [hW];simp
 have x0 : Box W w.heap.size [.int .i64 P,.int .i64 M,.slice am mn cm]:=by rw [hW];exact ((Box.new _ _ _ rfl).alloc _).alloc _
 have y0 : Box W (w.heap.size+1) [.int .i64 m,.slice a k c]:=by rw [hW];exact (Box.new _ _ _ (by simp)).alloc _
 have z0 : Box W (w.heap.size+1+1) [.int .i64 0,.int .i64 0,.slice none 0 0,.int .i64 0,.slice none 0 0]:=by rw [hW];exact Box.new _ _ _ (by simp)
 have Hown : Hid (∀V,Below W.heap.size W V->Calls Tryz.prog 147 #[.agg #[.int .i64 P,.int .i64 M,.slice am mn cm]] V (OwnPost P M mod V)):=λV hV=>own_any P M am mn cm mod V (hmod.keep (Below.next hbW hV)) hmn
 have hS : ∀V,Below W.heap.size W V->V.cell? ⟨w.heap.size,0,none⟩=some (.int .i64 P)/\V.cell? ⟨w.heap.size,1,none⟩=some (.int .i64 M)/\V.cell? ⟨w.heap.size,2,none⟩=some (.slice am mn cm)/\V.cell? ⟨w.heap.size+1,0,none⟩=some (.int .i64 m)/\V.cell? ⟨w.heap.size+1,1,none⟩=some (.slice a k c) /\
   Box V (w.heap.size+1+1) [.int .i64 0,.int .i64 0,.slice none 0 0,.int .i64 0,.slice none 0 0]:=λV hV=>by
  have x1:=x0.keep hV
  have y1:=y0.keep hV
  exact ⟨x1.cell 0 rfl,x1.cell 1 rfl,x1.cell 2 rfl,y1.cell 0 rfl,y1.cell 1 rfl,z0.keep hV⟩
 have HS:=Lib.hid hS
 have HbW:=Lib.hid hbW
 have HsW:=Lib.hid hsW
 obtain ⟨c0,c1,c2,c3,c4,_⟩:=HS.out W (Below.refl _ _)
 have HP : Hid (∀(w4 : World) (a4 : Option Addr) (c4' : Nat),IntsN W.drew.heap.size w4 a4 mod.length mod->Below W.drew.heap.size W.drew w4 ->
   OfPost P M mod m a k c w (.returned (.tuple #[.agg #[.int .i64 P,.int .i64 M,.slice a4 mod.length c4',.int .i64 m,.slice a k c],.int .i64 0]))
    (((((w4.setCell ⟨w.heap.size+1+1,0,none⟩ (.int .i64 P)).setCell ⟨w.heap.size+1+1,1,none⟩ (.int .i64 M)).setCell ⟨w.heap.size+1+1,2,none⟩ (.slice a4 mod.length c4')).setCell ⟨w.heap.size+1+1,3,none⟩ (.int .i64 m)).setCell ⟨w.heap.size+1+1,4,none⟩ (.slice a k c))):=λw4 a4 c4' h1 h2=>by
  have h1' : IntsN W.heap.size w4 a4 mod.length mod:=h1
  have hb:=Below.next hbW (Below.next (Below.refl _ _).drew h2)
  have hs:=HsW.out
  refine ⟨a4,c4',rfl,?_,?_⟩
  ·exact (((((h1'.setCell (p:=⟨w.heap.size+1+1,0,none⟩) (by simp;omega) _).setCell (p:=⟨w.heap.size+1+1,1,none⟩) (by simp;omega) _).setCell (p:=⟨w.heap.size+1+1,2,none⟩) (by simp;omega) _).setCell (p:=⟨w.heap.size+1+1,3,none⟩) (by simp;omega) _).setCell (p:=⟨w.heap.size+1+1,4,none⟩) (by simp;omega) _).mono (by omega)
  ·exact ((((hb.setCell (p:=⟨w.heap.size+1+1,0,none⟩) (by simp;omega) _).setCell (p:=⟨w.heap.size+1+1,1,none⟩) (by simp;omega) _).setCell (p:=⟨w.heap.size+1+1,2,none⟩) (by simp;omega) _).setCell (p:=⟨w.heap.size+1+1,3,none⟩) (by simp;omega) _).setCell (p:=⟨w.heap.size+1+1,4,none⟩) (by simp;omega) _
 clear hW x0 y0 z0 hS hmod hbW hsW
 go_wp2_with fail
 go_region_law (
  (go_simp;go_at_call 147;((with_reducible refine (Hown.out _ (Below.refl _ _).drew).mono ?_);rintro e w4 ⟨a4,c4',rfl,hN4,hb4⟩;obtain ⟨c0,c1,c2,c3,c4,zz⟩:=HS.out w4 (Below.next (Below.refl _ _).drew hb4);have z0:=zz.cell 0 rfl;have z1:=zz.cell 1 rfl;have z2:=zz.cell 2 rfl;have z3:=zz.cell 3 rfl;have z4:=zz.cell 4 rfl;have f0:=zz.frozen 0;have f1:=zz.frozen 1;have f2:=zz.frozen 2;have f3:=zz.frozen 3;have f4:=zz.frozen 4)))
 all_goals (
  have HP4:=Lib.hid (HP.out w4 a4 c4' hN4 hb4)
  clear hN4 hb4 Hown HS HP
  go_wp2_with fail
  exact bodyPost_ret (v:=.tuple #[.agg #[.int .i64 P,.int .i64 M,.slice a4 mod.length c4',.int .i64 m,.slice a k c],.int .i64 0]) (by simp [results,Tryz.results78,go_sem,z0,z1,z2,z3,z4]) rfl HP4.out)
end

section
theorem mod_len {P M : Int} {mod : List Int} (h : fieldB P M mod=true) : mod.length<=8:=by
 unfold fieldB shapeB at h
 simp only [Bool.and_eq_true,bne_iff_ne,ne_eq] at h
 obtain ⟨⟨⟨h1,_⟩,h3⟩,_⟩:=h
 have h2:=orderS_ne h1
 by_cases hM : M=1
 ·rw [if_pos hM] at h3
  have : mod.length=0:=by simpa using h3
  omega
 ·rw [if_neg hM] at h3
  simp only [Bool.and_eq_true,decide_eq_true_eq] at h3
  omega
theorem dual_code {P M : Int} {mod : List Int} {m : Nat} {L : List (List Int)} (hE : codeE P M mod m L=0) :
  codeE P M mod m (dualL (tblOf P M.toNat mod) L m)=0/\∀x,dimS (tblOf P M.toNat mod).ops (dualL (tblOf P M.toNat mod) L m) m x=dimS (tblOf P M.toNat mod).ops L m x:=by
 obtain ⟨N',e,hm1,hm64,F,hR⟩:=codeE_fld hE
 obtain rfl : m=N':=by omega
 obtain ⟨hfB,h1,h64,h4⟩:=codeE_zero hE
 obtain ⟨h5,h6⟩:=spaceE_zero h4
 rw [Int.toNat_natCast] at h6
 have hcan : canO (tblOf P M.toNat mod).ops m L=L:=h6
 obtain ⟨hPv,hLd⟩:=canO_piv F hR
 have hcl:=canO_len F hR
 rw [hcan] at hPv hLd hcl
 have hK:=kerL_rws F hR hPv hcl
 have hdl : dualL (tblOf P M.toNat mod) L m=canO (tblOf P M.toNat mod).ops m (kerL (tblOf P M.toNat mod).ops m L (elimTo (tblOf P M.toNat mod).ops L m).2 m):=by
  unfold dualL pivS
  rw [h6]
  rfl
 obtain ⟨k1,k2⟩:=ker_canon F hR hPv hLd hcl
 have hKR:=canO_rws F hK
 have hidem:=canO_idem F hK
 have hrk:=canO_rk F hK
 have hrg:=canO_rk F hR
 rw [hcan] at hrg
 rw [<- hdl] at k1 k2 hKR hidem hrk
 generalize dualL (tblOf P M.toNat mod) L m=D at *
 constructor
 ·have hq : ((tblOf P M.toNat mod).q : Int)=orderS P M\/True:=.inr trivial
  have hm : matE (tblOf P M.toNat mod).q m D=0:=by
   unfold matE
   rw [if_neg (by omega)]
   have hsh : shapeQ (m : Int) D=true:=by
    unfold shapeQ
    rw [List.all_eq_true]
    intro r hr
    have:=(hKR r hr).1
    simp;omega
   rw [if_neg (by rw [hsh];decide),if_pos]
   rw [List.all_eq_true]
   intro r hr
   unfold elsQ isQ
   rw [List.all_eq_true]
   intro x hx
   have:=(hKR r hr).2 x hx
   unfold Tbl.El at this
   simp
   exact this
  have hf : fmatE P M mod m D=0:=by unfold fmatE;rw [if_pos hfB];exact hm
  have hsp : spaceE P M mod m D=0:=by
   unfold spaceE
   rw [if_pos hf,Int.toNat_natCast,if_pos]
   exact hidem
  have hle : lenE (m : Int)=0:=lenE_in (by omega) (by omega)
  unfold codeE
  rw [if_pos hfB,if_pos hle]
  exact hsp
 ·intro x
  have hs:=grS_rk F hKR (bitsTo x m)
  have hc:=grS_rk F hKR (bitsTo (cplU x) m)
  have gs:=grS_rk F hR (bitsTo x m)
  have gc:=grS_rk F hR (bitsTo (cplU x) m)
  have hb:=bits_parts x m hm64
  have hgl : ∀Q : List Int,∀k,(grL Q k).length=k:=λQ k=>by
   induction k with
   | zero=>rfl
   | succ k ih=>rw [grL,List.length_cons,ih]
  have hS : ∀i ∈ grL (bitsTo x m) (bitsTo x m).length,i<m:=λi hi=>((mem_grBits x m i).1 hi).1
  have hC : ∀i ∈ grL (bitsTo (cplU x) m) (bitsTo (cplU x) m).length,i<m:=λi hi=>((mem_grBits (cplU x) m i).1 hi).1
  have hSC : ∀p,p<m->p ∈ grL (bitsTo x m) (bitsTo x m).length\/p ∈ grL (bitsTo (cplU x) m) (bitsTo (cplU x) m).length:=λp hp=>by
   rw [mem_grBits,mem_grBits,cplU_test _ _ (by omega)]
   cases hx : x.testBit p
   ·exact .inr ⟨hp,rfl⟩
   ·exact .inl ⟨hp,rfl⟩
  have r1:=dual_rk F hR hKR k2 k1 hrg hrk hS hC hSC (by rw [hgl,hgl];exact hb) gc hs
  have r2:=dual_rk F hR hKR k2 k1 hrg hrk hC hS (λp hp=>(hSC p hp).symm) (by rw [hgl,hgl];omega) gs hc
  rw [hgl] at r1 r2
  unfold dimS
  omega
end

section
section
variable {O : FOps} {El : Int->Prop} {m : Nat} {L : List (List Int)}
theorem rkQ_span (F : Fld O El) (hL : Rws El m L) {Q Q' : List Int} (h : ∀x ∈ gA Q,clV O El L.length (colS L) (gA Q') x) : rkQ O L Q<=rkQ O L Q':=Rk.le (col_clo F hL) (rkQ_rk F hL Q) (rkQ_rk F hL Q') h
end
end

section
theorem nodup_sub_len : ∀ {s T : List Int},s.Nodup->(∀x ∈ s,x ∈ T)->s.length<=T.length
 | [],_,_,_=>Nat.zero_le _
 | x :: s,T,hn,h=>by
  have hx : x ∈ T:=h x (by simp)
  have hn':=List.nodup_cons.1 hn
  have h1 : ∀y ∈ s,y ∈ T.erase x:=λy hy=>(List.mem_erase_of_ne (λ(e : y=x)=>hn'.1 (by rw [<- e];exact hy))).2 (h y (by simp [hy]))
  have h2:=nodup_sub_len hn'.2 h1
  rw [List.length_erase_of_mem hx] at h2
  have : 0<T.length:=List.length_pos_of_mem hx
  simp only [List.length_cons]
  omega
variable {O : FOps} {L : List (List Int)} {m : Nat} {C : Clm}
end

section
section
variable {O : FOps} {El : Int->Prop} {m : Nat} {R : List (List Int)} {P : List Int}
theorem red_rs (F : Fld O El) (hI : BS.Inv El m ⟨R,P⟩) {v : List Int} (hv : Vc El m v) (hs : RS O El m R (λx=>nth v x)) : ∀k,k<=R.length->RS O El m R (λx=>nth (redTo O R P v k) x)
 | 0,_=>hs
 | k+1,hk=>by
  have hu : Vc El m (redTo O R P v k):=Vc.redTo F hI.ok hv k (show k<=R.length by omega)
  have hp : (nth P k).toNat<m:=hI.ok.pl (show k<R.length by omega)
  have hr : Vc El m (nthR R k):=hI.ok.row (show k<R.length by omega)
  refine ((red_rs F hI hv hs k (by omega)).comb F (.row F (i:=k) (by omega)) (hu.at hp)).congr λx hx=>?_
  rw [redTo,nth_redStep F hu hr hp hx,F.mul_comm _ _ (hu.at hp) (hr.at hx)]
theorem red_zero (F : Fld O El) (hR : Rws El m R) (hP : Piv R P m) (hlen : R.length=P.length) {v : List Int} (hv : Vc El m v) (hs : RS O El m R (λx=>nth v x)) : ∀x,x<m->nth (redTo O R P v R.length) x=0:=by
 have hI:=piv_inv hR hP hlen
 obtain ⟨e,he,h⟩:=red_rs F hI hv hs R.length (Nat.le_refl _)
 intro x hx
 have h1 : nth (redTo O R P v R.length) x=e (colS R x):=h x hx
 rw [h1]
 refine hP.all F hR hx e he λy hy=>?_
 obtain ⟨j,hj,rfl⟩:=(mem_grL P _ _).1 hy
 rw [<- h _ (by have:=hP.lt j hj;omega)]
 exact hI.place F hv R.length (Nat.le_refl _) j (by omega)
end
end

end Go.Proofs.YtcfmiocdlcapoaaGreat
