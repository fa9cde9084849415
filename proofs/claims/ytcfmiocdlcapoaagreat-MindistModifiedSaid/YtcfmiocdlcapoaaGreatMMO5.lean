import Derived.Test.YtcfmiocdlcapoaaGreatK12
import Derived.Test.YtcfmiocdlcapoaaGreatMMO3
import Derived.Test.YtcfmiocdlcapoaaGreatK10
import Derived.Test.YtcfmiocdlcapoaaGreatMMO4
import Derived.Test.YtcfmiocdlcapoaaGreatK17
import Derived.Test.YtcfmiocdlcapoaaGreatK16
import Derived.Test.YtcfmiocdlcapoaaGreatK9
import Derived.Test.YtcfmiocdlcapoaaGreatMMO1
import Derived.Test.YtcfmiocdlcapoaaGreatK19
import Derived.Test.YtcfmiocdlcapoaaGreatMMO2
import Derived.Test.YtcfmiocdlcapoaaGreatK21
import Derived.Test.YtcfmiocdlcapoaaGreatK4
import Derived.Test.YtcfmiocdlcapoaaGreatK22
import Derived.Test.YtcfmiocdlcapoaaGreatK25
namespace Go.Proofs.YtcfmiocdlcapoaaGreat
set_option linter.unusedVariables false
set_option linter.unusedSimpArgs false
set_option linter.unusedSectionVars false
set_option maxRecDepth 100000
set_option maxHeartbeats 4000000
open Go.RowKit
theorem mc (P M : Int) (am : OA) (mn cm : Nat) (a : OA) (n c : Nat) (l : Lz) (w : World) (hi : Ints w a n l) :
  Calls Tryz.prog 76 #[.agg #[.int .i64 P,.int .i64 M,.slice am mn cm],.slice a n c] w λe w'=>e = .returned (.int .i64 (iH (aK P M) l))/\Below w.heap.size w w':=by
 have Hlen:=Z5 hi.len
 have hpl:=hi.pl
 have hmax:=hi.max
 unfold maxLen at hmax
 go_enter Tryz.func76,Tryz.ntmps76
 go_wp2_with fail
 obtain ⟨W,hW⟩ : ∃W : World,W=w.alloc (.cells #[.int .i64 P,.int .i64 M,.slice am mn cm] 24):=⟨_,rfl⟩
 rw [<- hW]
 have hbW : Below w.heap.size w W:=by rw [hW];exact an _ _
 have x0 : aV W w.heap.size [.int .i64 P,.int .i64 M,.slice am mn cm]:=by rw [hW];exact aV.new _ _ _ rfl
 have hiW:=hi.ah hbW
 have hS : ∀k,k<n->∀V,Below W.heap.size W V->V.cell? ⟨w.heap.size,0,none⟩=some (.int .i64 P)/\V.cell? ⟨w.heap.size,1,none⟩=some (.int .i64 M)/\V.cell? ⟨w.heap.size,2,none⟩=some (.slice am mn cm)/\V.cell? ⟨ablk a,aJ a+k,none⟩=some (.int .i64 (nth l k))/\Below W.heap.size W V:=by
  intro k hk V hV
  have x1:=x0.ah hV
  exact ⟨x1.cell 0 rfl,x1.cell 1 rfl,x1.cell 2 rfl,(hiW.ah hV).cell k hk,hV⟩
 have HS:=Z5 hS
 clear hW x0 hS
 go_loopw [5] (λiv wr=>∃k : Nat,k<=n/\iv = .int .i64 k/\Hid ((l.take k).all (fG (aK P M))=true)/\Below W.heap.size W wr) (λiv _=>n - (intOf iv).toNat)
 case atStart=>exact ⟨0,Nat.zero_le _,rfl,by show _=_;simp,Below.refl _ _⟩
 case round =>
  obtain ⟨k,hk,rfl,hall,hbr⟩:=hrel
  by_cases hlt : k<n
  ·have HSk : Hid (∀V,Below W.heap.size W V->V.cell? ⟨w.heap.size,0,none⟩=some (.int .i64 P)/\V.cell? ⟨w.heap.size,1,none⟩=some (.int .i64 M)/\V.cell? ⟨w.heap.size,2,none⟩=some (.slice am mn cm)/\V.cell? ⟨ablk a,aJ a+k,none⟩=some (.int .i64 (nth l k))/\Below W.heap.size W V):=HS.out k hlt
   have hkl : k<l.length:=by rw [Hlen.out];exact hlt
   have Hbr:=Z5 hbr
   have Hq:=Z5 (oR P M am mn cm (nth l k))
   clear hbr
   by_cases hq : fG (aK P M) (nth l k)=true
   ·have Hs : Hid ((l.take (k+1)).all (fG (aK P M))=true):=bU hkl hall.out (by rw [<- ai hkl];exact hq)
    rw [hq] at Hq
    clear hq
    go_wp2_with fail
    go_region_held3 (λV=>V.cell? ⟨w.heap.size,0,none⟩=some (.int .i64 P)/\V.cell? ⟨w.heap.size,1,none⟩=some (.int .i64 M)/\V.cell? ⟨w.heap.size,2,none⟩=some (.slice am mn cm)/\V.cell? ⟨ablk a,aJ a+k,none⟩=some (.int .i64 (nth l k))/\Below W.heap.size W V)
     ((refine HSk.out _ ?_;first | exact Hbr.out.drew | exact Below.next Hbr.out.drew hb4))
     (first | (go_at_call 145;((with_reducible refine (Hq.out _).mono ?_);rintro e w4 ⟨rfl,hb4⟩)))
    go_wp2_with fail
    go_roundw
    case rel=>exact ⟨k+1,by omega,by go_num,Hs.out,Below.next Hbr.out.drew hb4⟩
    case measure=>simp [intOf] <;> omega
   ·have hq' : fG (aK P M) (nth l k)=false:=by simpa using hq
    have Hs : Hid (iH (aK P M) l=2):=by show _=_;rw [iH,gD,bS hkl (by rw [<- ai hkl];exact hq')];rfl
    rw [hq'] at Hq
    clear hq hq'
    go_wp2_with fail
    go_region_held3 (λV=>V.cell? ⟨w.heap.size,0,none⟩=some (.int .i64 P)/\V.cell? ⟨w.heap.size,1,none⟩=some (.int .i64 M)/\V.cell? ⟨w.heap.size,2,none⟩=some (.slice am mn cm)/\V.cell? ⟨ablk a,aJ a+k,none⟩=some (.int .i64 (nth l k))/\Below W.heap.size W V)
     ((refine HSk.out _ ?_;first | exact Hbr.out.drew | exact Below.next Hbr.out.drew hb4))
     (first | (go_at_call 145;((with_reducible refine (Hq.out _).mono ?_);rintro e w4 ⟨rfl,hb4⟩)))
    go_wp2_with fail
    go_ret
    exact ⟨aF Hs.out.symm,Below.next hbW (Below.next Hbr.out.drew hb4)⟩
  ·obtain rfl : k=n:=by omega
   have Hs : Hid (iH (aK P M) l=0):=by
    have:=hall.out
    rw [List.take_of_length_le (by rw [Hlen.out];exact Nat.le_refl _)] at this
    show _=_;rw [iH,gD,this];rfl
   go_wp2_with fail
   go_ret
   exact ⟨aF Hs.out.symm,Below.next hbW hbr⟩
def cY (P M : Int) (mod : Lz) (cols : Int) (L : Ll) : Int:=if aZ P M mod=true then ew (aK P M) cols L else 1
theorem iM (P M : Int) (am : OA) (mn cm : Nat) (mod : Lz) (cols : Int) (a : OA) (n c : Nat) (L : Ll) (w : World) (hmod : Ints w am mn mod) (hi : bZ w a n L) :
  Calls Tryz.prog 119 #[.agg #[.int .i64 P,.int .i64 M,.slice am mn cm],.agg #[.int .i64 cols,.slice a n c]] w λe w'=>e = .returned (.int .i64 (cY P M mod cols L))/\Below w.heap.size w w':=by
 have Hlen:=Z5 hi.len
 have hpl:=hi.pl
 have hmax:=hi.max
 unfold maxLen at hmax
 go_enter Tryz.func119,Tryz.ntmps119
 go_wp2_with fail
 obtain ⟨W,hW⟩ : ∃W : World,W=(w.alloc (.cells #[.int .i64 P,.int .i64 M,.slice am mn cm] 24)).alloc (.cells #[.int .i64 cols,.slice a n c] 82):=⟨_,rfl⟩
 rw [<- hW]
 have hbW : Below w.heap.size w W:=by rw [hW];exact dH _ _ _
 have x0 : aV W w.heap.size [.int .i64 P,.int .i64 M,.slice am mn cm]:=by rw [hW];exact (aV.new _ _ _ rfl).alloc _
 have y0 : aV W (w.heap.size+1) [.int .i64 cols,.slice a n c]:=by rw [hW];exact aV.new _ _ _ (by simp)
 have hS : ∀V,Below W.heap.size W V->V.cell? ⟨w.heap.size,0,none⟩=some (.int .i64 P)/\V.cell? ⟨w.heap.size,1,none⟩=some (.int .i64 M)/\V.cell? ⟨w.heap.size,2,none⟩=some (.slice am mn cm) /\
   V.cell? ⟨w.heap.size+1,0,none⟩=some (.int .i64 cols)/\V.cell? ⟨w.heap.size+1,1,none⟩=some (.slice a n c)/\Below W.heap.size W V:=by
  intro V hV
  have x1:=x0.ah hV
  have y1:=y0.ah hV
  exact ⟨x1.cell 0 rfl,x1.cell 1 rfl,x1.cell 2 rfl,y1.cell 0 rfl,y1.cell 1 rfl,hV⟩
 have HS:=Z5 hS
 have hiW:=hi.ah hbW
 clear hW x0 y0 hS
 refine (fM P M am mn cm mod W (hmod.ah hbW)).mono ?_
 rintro e w1 ⟨rfl,hb1⟩
 have hbw1:=Below.next hbW hb1
 by_cases hB : aZ P M mod=true
 ·have HB : Hid (cY P M mod cols L=ew (aK P M) cols L):=by show _=_;rw [cY,if_pos hB]
  have hE : bG (aZ P M mod)=0:=by rw [hB];rfl
  rw [hE]
  obtain ⟨q,hq⟩ : ∃q,aK P M=q:=⟨_,rfl⟩
  have Hq:=Z5 hq
  rw [hq] at HB
  obtain ⟨d0,d1,d2,d3,d4,_⟩:=HS.out w1 hb1
  clear hB hE hq
  by_cases b1 : cols<0
  ·have Hf : Hid (cY P M mod cols L=3):=by show _=_;rw [HB.out,ew,if_pos (.inl b1)]
   have t1 : decide (cols<0)=true:=by simpa using b1
   go_wp2_with fail
   go_ret
   exact ⟨aF Hf.out.symm,hbw1⟩
  have t1 : decide (cols<0)=false:=by simpa using b1
  by_cases b2 : 256<cols
  ·have Hf : Hid (cY P M mod cols L=3):=by show _=_;rw [HB.out,ew,if_pos (.inr (.inl b2))]
   have t2 : decide (256<cols)=true:=by simpa using b2
   go_wp2_with fail
   go_ret
   exact ⟨aF Hf.out.symm,hbw1⟩
  have t2 : decide (256<cols)=false:=by simpa using b2
  by_cases b3 : 256<n
  ·have Hf : Hid (cY P M mod cols L=3):=by show _=_;rw [HB.out,ew,if_pos (.inr (.inr (by rw [Hlen.out];exact b3)))]
   have t3 : decide (256<(n : Int))=true:=by simp;omega
   go_wp2_with fail
   go_ret
   exact ⟨aF Hf.out.symm,hbw1⟩
  have t3 : decide (256<(n : Int))=false:=by simp;omega
  have Hm : Hid (cY P M mod cols L=if iA cols L=false then 3 else if L.all (gD q) then 0 else 2):=by
   show _=_;rw [HB.out,ew,if_neg (by rw [Hlen.out];omega)]
  have hi1:=hiW.ah hb1
  clear b1 b2
  go_wp2_with fail
  go_loopw [6] (λiv wr=>∃k : Nat,k<=n/\iv = .int .i64 k/\Hid ((L.take k).all (λr=>decide ((r.length : Int)=cols))=true)/\bd w1 wr) (λiv _=>n - (intOf iv).toNat)
  case atStart=>exact ⟨0,Nat.zero_le _,rfl,by show _=_;simp,bd.refl _⟩
  case round =>
   obtain ⟨k,hk,rfl,hall,hd⟩:=hrel
   have hir:=hi1.drawn hd
   have e3:=hd.cell d3
   have e4:=hd.cell d4
   by_cases hlt : k<n
   ·obtain ⟨ra,rn,rc,hcell,hrow⟩:=hir.cell k hlt
    have hkL : k<L.length:=by rw [Hlen.out];exact hlt
    have hrl:=hrow.len
    rw [aE hkL] at hrl
    have Hrl:=Z5 hrl
    clear hrl
    by_cases he : (rn : Int)=cols
    ·have he' : ((rn : Int) != cols)=false:=by simpa using he
     have Hs : Hid ((L.take (k+1)).all (λr=>decide ((r.length : Int)=cols))=true):=bU hkL hall.out (by rw [Hrl.out];simpa using he)
     clear he
     go_wp2_with fail
     go_quiet (fail)
     go_wp2
     go_roundw
     case rel=>exact ⟨k+1,by omega,by go_num,Hs.out,hd.drewN _⟩
     case measure=>simp [intOf] <;> omega
    ·have he' : ((rn : Int) != cols)=true:=by simpa using he
     have Hs : Hid (cY P M mod cols L=3):=by
      show _=_;rw [Hm.out,if_pos]
      exact bS hkL (by simp only [Hrl.out];simpa using he)
     clear he
     go_wp2_with fail
     go_quiet (fail)
     go_wp2
     go_ret
     exact ⟨aF Hs.out.symm,Below.next hbw1 (hd.drewN _).below⟩
   ·obtain rfl : k=n:=by omega
    have Hm2 : Hid (cY P M mod cols L=if L.all (gD q) then 0 else 2):=by
     have:=hall.out;rw [List.take_of_length_le (by rw [Hlen.out];exact Nat.le_refl _)] at this
     show _=_;rw [Hm.out,if_neg (by rw [iA,this];simp)]
    have hbr : Below W.heap.size W wr:=Below.next hb1 hd.below
    have hir2:=hir
    clear d0 d1 d2 d3 d4 hall
    go_wp2_with fail
    clear e3 e4
    go_loopw [7] (λiv wx=>∃j : Nat,j<=k/\iv = .int .i64 j/\Hid ((L.take j).all (gD q)=true)/\Below W.heap.size W wx) (λiv _=>k - (intOf iv).toNat)
    case atStart=>exact ⟨0,Nat.zero_le _,rfl,by show _=_;simp,hbr⟩
    case round =>
     obtain ⟨j,hj,rfl,hall2,hbx⟩:=hrel
     obtain ⟨d0,d1,d2,d3,d4,_⟩:=HS.out _ hbx
     by_cases hlt : j<k
     ·have hiX:=hiW.ah hbx
      obtain ⟨ra,rn,rc,hcell,hrow⟩:=hiX.cell j hlt
      have hjL : j<L.length:=by rw [Hlen.out];exact hlt
      have HC:=Z5 (mc P M am mn cm ra rn rc (aj L j) _ (hrow.ah (Below.refl _ _).drew))
      have hSj : ∀V,Below wr.heap.size wr V->V.cell? ⟨w.heap.size,0,none⟩=some (.int .i64 P)/\V.cell? ⟨w.heap.size,1,none⟩=some (.int .i64 M)/\V.cell? ⟨w.heap.size,2,none⟩=some (.slice am mn cm) /\
        V.cell? ⟨w.heap.size+1,1,none⟩=some (.slice a k c)/\V.cell? ⟨ablk a,aJ a+j,none⟩=some (.slice ra rn rc):=λV hV=>by
       obtain ⟨f0,f1,f2,f3,f4,_⟩:=HS.out V (Below.next hbx hV)
       exact ⟨f0,f1,f2,f4,aw hV hcell⟩
      have HSj:=Z5 hSj
      have Hbx:=Z5 hbx
      rw [Hq.out] at HC
      clear hSj hbx
      by_cases he : gD q (aj L j)=true
      ·have he2 : iH q (aj L j)=0:=by rw [iH,he];rfl
       rw [he2] at HC
       rw [aE hjL] at he
       have Hs : Hid ((L.take (j+1)).all (gD q)=true):=bU hjL hall2.out he
       clear he he2
       go_wp2_with fail
       go_region_held3 (λV=>V.cell? ⟨w.heap.size,0,none⟩=some (.int .i64 P)/\V.cell? ⟨w.heap.size,1,none⟩=some (.int .i64 M)/\V.cell? ⟨w.heap.size,2,none⟩=some (.slice am mn cm) /\
         V.cell? ⟨w.heap.size+1,1,none⟩=some (.slice a k c)/\V.cell? ⟨ablk a,aJ a+j,none⟩=some (.slice ra rn rc))
        ((refine HSj.out _ ?_;first | exact (Below.refl _ _).drew | exact Below.next (Below.refl _ _).drew hb4))
        (first | (go_at_call 76;((with_reducible refine HC.out.mono ?_);rintro e w4 ⟨rfl,hb4⟩)))
       go_wp2_with fail
       go_roundw
       case rel=>exact ⟨j+1,by omega,by go_num,Hs.out,Below.next Hbx.out (Below.next (Below.refl _ _).drew hb4)⟩
       case measure=>simp [intOf] <;> omega
      ·have he2 : iH q (aj L j)=2:=by rw [iH,if_neg he]
       rw [he2] at HC
       rw [aE hjL] at he
       have Hs : Hid (cY P M mod cols L=2):=by
        show _=_;rw [Hm2.out,bS hjL (by simpa using he)];rfl
       clear he he2
       go_wp2_with fail
       go_region_held3 (λV=>V.cell? ⟨w.heap.size,0,none⟩=some (.int .i64 P)/\V.cell? ⟨w.heap.size,1,none⟩=some (.int .i64 M)/\V.cell? ⟨w.heap.size,2,none⟩=some (.slice am mn cm) /\
         V.cell? ⟨w.heap.size+1,1,none⟩=some (.slice a k c)/\V.cell? ⟨ablk a,aJ a+j,none⟩=some (.slice ra rn rc))
        ((refine HSj.out _ ?_;first | exact (Below.refl _ _).drew | exact Below.next (Below.refl _ _).drew hb4))
        (first | (go_at_call 76;((with_reducible refine HC.out.mono ?_);rintro e w4 ⟨rfl,hb4⟩)))
       go_wp2_with fail
       go_ret
       exact ⟨aF Hs.out.symm,Below.next hbW (Below.next Hbx.out (Below.next (Below.refl _ _).drew hb4))⟩
     ·obtain rfl : j=k:=by omega
      have Hs : Hid (cY P M mod cols L=0):=by
       have:=hall2.out;rw [List.take_of_length_le (by rw [Hlen.out];exact Nat.le_refl _)] at this
       show _=_;rw [Hm2.out,this];rfl
      go_wp2_with fail
      go_ret
      exact ⟨aF Hs.out.symm,Below.next hbW hbx⟩
 ·have hB' : aZ P M mod=false:=by simpa using hB
  have Hf : Hid (cY P M mod cols L=1):=by show _=_;rw [cY,if_neg hB]
  have hE : bG (aZ P M mod)=1:=by rw [hB'];rfl
  rw [hE]
  clear hB hB' hE
  go_wp2_with fail
  go_ret
  exact ⟨aF Hf.out.symm,hbw1⟩
def ma (O : aQ) (L : Ll) (cols : Nat) : Ll:=(aA O L cols).1.take (aA O L cols).2.length
def jK (O : aQ) (L : Ll) (cols : Nat) (w : World) (e : Ending) (w' : World) : Prop :=
 ∃a c ap cp,e = .returned (.tuple #[.slice a (aA O L cols).2.length c,.slice ap (aA O L cols).2.length cp])/\bN w.heap.size w' a (aA O L cols).2.length (ma O L cols) /\
  dj w.heap.size w' ap (aA O L cols).2.length (aA O L cols).2/\Below w.heap.size w w'
theorem jU (P : Int) (m : Nat) (am : OA) (mn cm : Nat) (mod : Lz) (a : OA) (n c cols : Nat) (L : Ll) (w : World) (hf : l5 w P m am mn mod) (hi : bZ w a n L)
  (hR : bH (ee P m) cols L) (hlen : cols<=1000000) (hn : n<=1000000) (hinv : ∀p,ee P m p->p ≠ 0->(ei P m mod p=1 ↔ p=1)) :
  Calls Tryz.prog 120 #[.agg #[.int .i64 P,.int .i64 m,.slice am mn cm],.slice a n c,.int .i64 cols] w (jK (fw P m mod) L cols w):=by
 have Hlen:=Z5 hi.len
 have Hc : Hid (∀V,Below w.heap.size w V->Calls Tryz.prog 183 #[.agg #[.int .i64 P,.int .i64 m,.slice am mn cm],.slice a n c,.int .i64 cols] V (iG (fw P m mod) L cols V)) :=
  λV hV=>nB P m am mn cm mod a n c cols cols L V (hf.ah hV) (hi.ah hV) hR (Nat.le_refl _) hlen hn hinv
 obtain ⟨O,hO⟩ : ∃O,fw P m mod=O:=⟨_,rfl⟩
 rw [hO] at Hc ⊢
 clear hO hinv hR
 go_enter Tryz.func120,Tryz.ntmps120
 go_wp2_with fail
 obtain ⟨W,hW⟩ : ∃W : World,W=w.alloc (.cells #[.int .i64 P,.int .i64 m,.slice am mn cm] 24):=⟨_,rfl⟩
 rw [<- hW]
 have hbW : Below w.heap.size w W:=by rw [hW];exact an _ _
 clear hW
 refine (Hc.out W hbW).mono ?_
 rintro e w1 ⟨a1,c1,R1,ap,cp,rfl,hO1,hp1,hb1⟩
 have hpl:=fZ O L cols
 have hcap:=pR hO1.own
 have hpv:=(dj.own hp1).mono hbW.size
 have hmt:=((bN.own hO1).take (k:=(aA O L cols).2.length) hpl.2).mono hbW.size
 have hF : jK O L cols w (.returned (.tuple #[.slice a1 (aA O L cols).2.length c1,.slice ap (aA O L cols).2.length cp])) w1:=⟨a1,_,ap,cp,rfl,hmt,hpv,Below.next hbW hb1⟩
 have HF:=Z5 hF
 have hle : (aA O L cols).2.length<=c1:=Nat.le_trans hpl.2 hcap
 clear hF hpv hmt hp1 hcap hpl
 generalize (aA O L cols).2.length=k at *
 go_wp2_with fail
 go_ret2
 simpa using HF.out
def dh (P M : Int) (mod : Lz) (cols : Int) (L : Ll) : Int :=
 if cY P M mod cols L=0 then (if ma (fw P M.toNat mod) L cols.toNat=L then 0 else 5) else cY P M mod cols L
theorem ot {P M : Int} {mod : Lz} {cols : Int} {L : Ll} (h : cY P M mod cols L=0) : aZ P M mod=true/\ew (aK P M) cols L=0:=by
 unfold cY at h
 split at h
 ·rename_i h1;exact ⟨h1,h⟩
 ·omega
theorem jb (P M : Int) (am : OA) (mn cm : Nat) (mod : Lz) (cols : Int) (a : OA) (n c : Nat) (L : Ll) (w : World) (hmod : Ints w am mn mod) (hi : bZ w a n L)
  (hinv : aZ P M mod=true->∀p,ee P M.toNat p->p ≠ 0->(ei P M.toNat mod p=1 ↔ p=1)) :
  Calls Tryz.prog 58 #[.agg #[.int .i64 P,.int .i64 M,.slice am mn cm],.agg #[.int .i64 cols,.slice a n c]] w λe w'=>e = .returned (.int .i64 (dh P M mod cols L))/\Below w.heap.size w w':=by
 have Hlen:=Z5 hi.len
 have Hinv:=Z5 hinv
 clear hinv
 go_enter Tryz.func58,Tryz.ntmps58
 go_wp2_with fail
 obtain ⟨W,hW⟩ : ∃W : World,W=(w.alloc (.cells #[.int .i64 P,.int .i64 M,.slice am mn cm] 24)).alloc (.cells #[.int .i64 cols,.slice a n c] 82):=⟨_,rfl⟩
 rw [<- hW]
 have hbW : Below w.heap.size w W:=by rw [hW];exact dH _ _ _
 have x0 : aV W w.heap.size [.int .i64 P,.int .i64 M,.slice am mn cm]:=by rw [hW];exact (aV.new _ _ _ rfl).alloc _
 have y0 : aV W (w.heap.size+1) [.int .i64 cols,.slice a n c]:=by rw [hW];exact aV.new _ _ _ (by simp)
 have HX:=Z5 (And.intro x0 y0)
 have hiW:=hi.ah hbW
 have hmW:=hmod.ah hbW
 clear hW x0 y0
 refine (iM P M am mn cm mod cols a n c L W hmW hiW).mono ?_
 rintro e w1 ⟨rfl,hb1⟩
 have hbw1:=Below.next hbW hb1
 by_cases hE : cY P M mod cols L=0
 ·obtain ⟨hB,hm⟩:=ot hE
  obtain ⟨m,rfl,hrf,hmods⟩:=eW hB
  obtain ⟨k,rfl,hk,hl,hR⟩:=gP hm
  have HE : Hid (dh P m mod k L=if ma (fw P m mod) L k=L then 0 else 5):=by show _=_;rw [dh,if_pos hE,Int.toNat_natCast,Int.toNat_natCast]
  rw [hE]
  have hinv:=Hinv.out hB
  rw [Int.toNat_natCast] at hinv
  have hRw : bH (ee P m) k L:=λr hr=>⟨(hR r hr).1,λx hx=>by have:=(hR r hr).2 x hx;rw [hrf.order] at this;exact this⟩
  have x1:=HX.out.1.ah hb1
  have y1:=HX.out.2.ah hb1
  have d0:=x1.cell 0 rfl
  have d1:=x1.cell 1 rfl
  have d2:=x1.cell 2 rfl
  have d3:=y1.cell 0 rfl
  have d4:=y1.cell 1 rfl
  have hm1:=hmW.ah hb1
  have hi1:=hiW.ah hb1
  have hn : n<=1000000:=by rw [<- Hlen.out];omega
  have HC:=Z5 (jU P m am mn cm mod a n c k L w1 ⟨hrf,hmods w1 am mn hm1⟩ hi1 hRw (by omega) hn hinv)
  clear hE hB hm hmods hR hinv hRw x1 y1
  obtain ⟨O,hO⟩ : ∃O,fw P m mod=O:=⟨_,rfl⟩
  rw [hO] at HC HE
  clear hO
  go_wp2_with fail
  refine HC.out.mono ?_
  rintro e w2 ⟨a2,c2,ap,cp,rfl,hM2,hp2,hb2⟩
  have hbw2:=Below.next hbw1 hb2
  have y2:=(HX.out.2.ah hb1).ah hb2
  have d3:=y2.cell 0 rfl
  have d4:=y2.cell 1 rfl
  have hi2:=hi1.ah hb2
  have hM3:=hM2.kK
  have HS:=Z5 (kJ a2 (aA O L k).2.length c2 (ma O L k) a n c L hM3 hi2)
  clear hM2 hp2 y2
  generalize (aA O L k).2.length=kk at *
  by_cases hc : ma O L k=L
  ·have hc' : decide (ma O L k=L)=true:=by simpa using hc
   have HF : Hid (dh P m mod k L=0):=by show _=_;rw [HE.out,if_pos hc]
   rw [hc'] at HS
   clear hc hc'
   go_wp2_with fail
   refine HS.out.mono ?_
   rintro e w3 ⟨rfl,hd3⟩
   go_wp2_with fail
   go_ret
   exact ⟨aF HF.out.symm,Below.next hbw2 hd3.below⟩
  ·have hc' : decide (ma O L k=L)=false:=by simpa using hc
   have HF : Hid (dh P m mod k L=5):=by show _=_;rw [HE.out,if_neg hc]
   rw [hc'] at HS
   clear hc hc'
   go_wp2_with fail
   refine HS.out.mono ?_
   rintro e w3 ⟨rfl,hd3⟩
   go_wp2_with fail
   go_ret
   exact ⟨aF HF.out.symm,Below.next hbw2 hd3.below⟩
 ·have HE : Hid (dh P M mod cols L=cY P M mod cols L):=by show _=_;rw [dh,if_neg hE]
  have hE' : (cY P M mod cols L != 0)=true:=by simpa using hE
  clear hE
  go_wp2_with fail
  go_ret
  exact ⟨aF HE.out.symm,hbw1⟩
theorem xO {N : Int} (h : N<1) : gJ N=4:=by rw [gJ,if_pos (.inl h)]
theorem xe {N : Int} (h : 64<N) : gJ N=4:=by rw [gJ,if_pos (.inr h)]
theorem pz {N : Int} (h1 : ¬ N<1) (h2 : ¬ 64<N) : gJ N=0:=by rw [gJ,if_neg (by omega)]
def eU (P M : Int) (mod : Lz) (N : Int) (L : Ll) : Int :=
 if aZ P M mod=true then (if gJ N=0 then dh P M mod N L else 4) else 1
theorem fX (P M : Int) (am : OA) (mn cm : Nat) (mod : Lz) (N : Int) (a : OA) (n c : Nat) (L : Ll) (w : World) (hmod : Ints w am mn mod) (hi : bZ w a n L)
  (hinv : aZ P M mod=true->∀p,ee P M.toNat p->p ≠ 0->(ei P M.toNat mod p=1 ↔ p=1)) :
  Calls Tryz.prog 22 #[.agg #[.int .i64 P,.int .i64 M,.slice am mn cm,.int .i64 N,.slice a n c]] w λe w'=>e = .returned (.int .i64 (eU P M mod N L))/\Below w.heap.size w w':=by
 have Hinv:=Z5 hinv
 clear hinv
 go_enter Tryz.func22,Tryz.ntmps22
 go_wp2_with fail
 obtain ⟨W,hW⟩ : ∃W : World,W=w.alloc (.cells #[.int .i64 P,.int .i64 M,.slice am mn cm,.int .i64 N,.slice a n c] 27):=⟨_,rfl⟩
 rw [<- hW]
 have hbW : Below w.heap.size w W:=by rw [hW];exact an _ _
 have x0 : aV W w.heap.size [.int .i64 P,.int .i64 M,.slice am mn cm,.int .i64 N,.slice a n c]:=by rw [hW];exact aV.new _ _ _ rfl
 have HX:=Z5 x0
 clear hW x0
 refine (fM P M am mn cm mod W (hmod.ah hbW)).mono ?_
 rintro e w1 ⟨rfl,hb1⟩
 have hbw1:=Below.next hbW hb1
 by_cases hB : aZ P M mod=true
 ·have hE : bG (aZ P M mod)=0:=by rw [hB];rfl
  rw [hE]
  have HB : Hid (eU P M mod N L=if gJ N=0 then dh P M mod N L else 4):=by show _=_;rw [eU,if_pos hB]
  have x1:=HX.out.ah hb1
  have c0:=x1.cell 0 rfl
  have c1:=x1.cell 1 rfl
  have c2:=x1.cell 2 rfl
  have c3:=x1.cell 3 rfl
  have c4:=x1.cell 4 rfl
  have hm1:=(hmod.ah hbW).ah hb1
  have hi1:=(hi.ah hbW).ah hb1
  clear hE hB x1
  by_cases h1 : N<1
  ·have Hf : Hid (eU P M mod N L=4):=by show _=_;rw [HB.out,xO h1];rfl
   have t1 : decide (N<1)=true:=by simpa using h1
   go_wp2_with fail
   go_ret
   exact ⟨aF Hf.out.symm,hbw1⟩
  ·have t1 : decide (N<1)=false:=by simpa using h1
   by_cases h2 : 64<N
   ·have Hf : Hid (eU P M mod N L=4):=by show _=_;rw [HB.out,xe h2];rfl
    have t2 : decide (64<N)=true:=by simpa using h2
    go_wp2_with fail
    go_ret
    exact ⟨aF Hf.out.symm,hbw1⟩
   ·have t2 : decide (64<N)=false:=by simpa using h2
    have Hf : Hid (eU P M mod N L=dh P M mod N L):=by show _=_;rw [HB.out,pz h1 h2,if_pos rfl]
    clear h1 h2
    go_wp2_with fail
    refine (jb P M am mn cm mod N a n c L w1 hm1 hi1 Hinv.out).mono ?_
    rintro e w2 ⟨rfl,hb2⟩
    go_wp2_with fail
    go_ret
    exact ⟨aF Hf.out.symm,Below.next hbw1 hb2⟩
 ·have hB' : aZ P M mod=false:=by simpa using hB
  have Hf : Hid (eU P M mod N L=1):=by show _=_;rw [eU,if_neg hB]
  have hE : bG (aZ P M mod)=1:=by rw [hB'];rfl
  rw [hE]
  clear hB hB' hE
  go_wp2_with fail
  go_ret
  exact ⟨aF Hf.out.symm,hbw1⟩
theorem iW {P M : Int} {mod : Lz} (h : aZ P M mod=true) : ∀p,ee P M.toNat p->p ≠ 0->(ei P M.toNat mod p=1 ↔ p=1):=by
 obtain ⟨m,rfl,_,_,_,_,h6⟩:=fU (by rw [<- cP];exact h)
 exact h6
theorem o8 (P M : Int) (mod : Lz) (cols : Int) (L : Ll) : cY P M mod cols L=dM P M mod cols L:=by
 unfold cY dM
 rw [cP]
 split
 ·rename_i h
  obtain ⟨m,rfl,_,hq,_⟩:=fU h
  rw [Int.toNat_natCast,hq]
 ·rfl
theorem yj {P M : Int} {mod : Lz} (h : bA P M mod=true) {L : Ll} {m : Nat} (hL : bH (aa P M.toNat mod).El m L) : ma (fw P M.toNat mod) L m=dr (aa P M.toNat mod) L m:=by
 obtain ⟨k,rfl,he,_,hF,hA,_⟩:=fU h
 rw [Int.toNat_natCast] at hL ⊢
 rw [<- he] at hL
 unfold ma dr
 rw [(gg hA hF.cl hL m (Nat.le_refl _)).1]
theorem oq (P M : Int) (mod : Lz) (cols : Int) (L : Ll) : dh P M mod cols L=eC P M mod cols L:=by
 unfold dh eC
 rw [o8]
 split
 ·rename_i h0
  obtain ⟨h1,h2⟩:=eg h0
  obtain ⟨m,rfl,_,_,hR⟩:=gP h2
  rw [Int.toNat_natCast,yj h1 hR]
 ·rfl
theorem lH (P M : Int) (mod : Lz) (N : Int) (L : Ll) : eU P M mod N L=aL P M mod N L:=by
 unfold eU aL
 rw [cP,oq]
def kA (G : de) (L : Ll) (m : Nat) : Ll:=dr G (gd G.ops m (dr G L m) (ek G L m) m) m
def Cu (G : de) (L : Ll) (m : Nat) (w : World) (e : Ending) (w' : World) : Prop :=
 ∃a c,e = .returned (.tuple #[.agg #[.int .i64 m,.slice a (kA G L m).length c],.int .i64 0])/\bN w.heap.size w' a (kA G L m).length (kA G L m)/\Below w.heap.size w w'
theorem Ge (P : Lz) : ∀k,(jk P k).length<=k
 | 0=>Nat.le_refl _
 | k+1=>by have:=Ge P k;rw [jk];split <;> simp <;> omega
def Cp (P M : Int) (mod : Lz) (w : World) (e : Ending) (w' : World) : Prop :=
 ∃a c,e = .returned (.agg #[.int .i64 P,.int .i64 M,.slice a mod.length c])/\dj w.heap.size w' a mod.length mod/\Below w.heap.size w w'
theorem IE (P M : Int) (am : OA) (mn cm : Nat) (mod : Lz) (w : World) (hmod : Ints w am mn mod) (hmn : mn<=1000000) :
  Calls Tryz.prog 147 #[.agg #[.int .i64 P,.int .i64 M,.slice am mn cm]] w (Cp P M mod w):=by
 go_enter Tryz.func147,Tryz.ntmps147
 go_wp2_with fail
 obtain ⟨W,hW⟩ : ∃W : World,W=(w.alloc (.cells #[.int .i64 P,.int .i64 M,.slice am mn cm] 24)).alloc (.cells #[.int .i64 0,.int .i64 0,.slice none 0 0] 24):=⟨_,rfl⟩
 rw [<- hW]
 have hbW : Below w.heap.size w W:=by rw [hW];exact dH _ _ _
 have hsW : W.heap.size=w.heap.size+2:=by rw [hW];simp
 have x0 : aV W w.heap.size [.int .i64 P,.int .i64 M,.slice am mn cm]:=by rw [hW];exact (aV.new _ _ _ rfl).alloc _
 have y0 : aV W (w.heap.size+1) [.int .i64 0,.int .i64 0,.slice none 0 0]:=by rw [hW];exact aV.new _ _ _ (by simp)
 clear hW
 refine (ef am mn cm mod (hmod.ah hbW) hmn).mono ?_
 rintro e w1 ⟨a1,c1,rfl,hown1,hb1⟩
 have x1:=x0.ah hb1
 have y1:=y0.ah hb1
 have d0:=x1.cell 0 rfl
 have d1:=x1.cell 1 rfl
 have d2:=x1.cell 2 rfl
 have e0:=y1.cell 0 rfl
 have e1:=y1.cell 1 rfl
 have e2:=y1.cell 2 rfl
 have fx:=x1.frozen 2
 have f0:=y1.frozen 0
 have f1:=y1.frozen 1
 have f2:=y1.frozen 2
 have hbw1:=Below.next hbW hb1
 have hl:=Z5 (dj.own hown1)
 have hN : dj w.heap.size ((((w1.setCell ⟨w.heap.size,2,none⟩ (.slice a1 mod.length c1)).setCell ⟨w.heap.size+1,0,none⟩ (.int .i64 P)).setCell ⟨w.heap.size+1,1,none⟩ (.int .i64 M)).setCell ⟨w.heap.size+1,2,none⟩ (.slice a1 mod.length c1)) a1 mod.length mod :=
  ((((hl.out.setCell (p:=⟨w.heap.size,2,none⟩) (by simp;omega) _).setCell (p:=⟨w.heap.size+1,0,none⟩) (by simp;omega) _).setCell (p:=⟨w.heap.size+1,1,none⟩) (by simp;omega) _).setCell (p:=⟨w.heap.size+1,2,none⟩) (by simp;omega) _).mono (by omega)
 have hB : Below w.heap.size w ((((w1.setCell ⟨w.heap.size,2,none⟩ (.slice a1 mod.length c1)).setCell ⟨w.heap.size+1,0,none⟩ (.int .i64 P)).setCell ⟨w.heap.size+1,1,none⟩ (.int .i64 M)).setCell ⟨w.heap.size+1,2,none⟩ (.slice a1 mod.length c1)) :=
  (((hbw1.setCell (p:=⟨w.heap.size,2,none⟩) (by simp) _).setCell (p:=⟨w.heap.size+1,0,none⟩) (by simp) _).setCell (p:=⟨w.heap.size+1,1,none⟩) (by simp) _).setCell (p:=⟨w.heap.size+1,2,none⟩) (by simp) _
 have HF:=Z5 (And.intro hN hB)
 clear hN hB hown1 hl x0 y0 hbw1
 go_wp2_with fail
 exact bodyPost_ret (v:=.agg #[.int .i64 P,.int .i64 M,.slice a1 mod.length c1]) (by simp [results,Tryz.results147,go_sem,e0,e1,e2]) rfl ⟨a1,c1,rfl,HF.out.1,HF.out.2⟩
def Bn (P M : Int) (mod : Lz) (m : Int) (a : OA) (k c : Nat) (w : World) (e : Ending) (w' : World) : Prop :=
 ∃a1 c1,e = .returned (.tuple #[.agg #[.int .i64 P,.int .i64 M,.slice a1 mod.length c1,.int .i64 m,.slice a k c],.int .i64 0])/\dj w.heap.size w' a1 mod.length mod/\Below w.heap.size w w'
theorem JE (P M : Int) (am : OA) (mn cm : Nat) (mod : Lz) (m : Int) (a : OA) (k c : Nat) (w : World) (hmod : Ints w am mn mod) (hmn : mn<=1000000) :
  Calls Tryz.prog 78 #[.agg #[.int .i64 P,.int .i64 M,.slice am mn cm],.agg #[.int .i64 m,.slice a k c],.int .i64 0] w (Bn P M mod m a k c w):=by
 go_enter Tryz.func78,Tryz.ntmps78
 go_wp2_with fail
 obtain ⟨W,hW⟩ : ∃W : World,W=((w.alloc (.cells #[.int .i64 P,.int .i64 M,.slice am mn cm] 24)).alloc (.cells #[.int .i64 m,.slice a k c] 82)).alloc (.cells #[.int .i64 0,.int .i64 0,.slice none 0 0,.int .i64 0,.slice none 0 0] 27):=⟨_,rfl⟩
 rw [<- hW]
 have hbW : Below w.heap.size w W:=by rw [hW];exact kO _ _ _ _
 have hsW : W.heap.size=w.heap.size+3:=by rw [hW];simp
 have x0 : aV W w.heap.size [.int .i64 P,.int .i64 M,.slice am mn cm]:=by rw [hW];exact ((aV.new _ _ _ rfl).alloc _).alloc _
 have y0 : aV W (w.heap.size+1) [.int .i64 m,.slice a k c]:=by rw [hW];exact (aV.new _ _ _ (by simp)).alloc _
 have z0 : aV W (w.heap.size+1+1) [.int .i64 0,.int .i64 0,.slice none 0 0,.int .i64 0,.slice none 0 0]:=by rw [hW];exact aV.new _ _ _ (by simp)
 have Hown : Hid (∀V,Below W.heap.size W V->Calls Tryz.prog 147 #[.agg #[.int .i64 P,.int .i64 M,.slice am mn cm]] V (Cp P M mod V)):=λV hV=>IE P M am mn cm mod V (hmod.ah (Below.next hbW hV)) hmn
 have hS : ∀V,Below W.heap.size W V->V.cell? ⟨w.heap.size,0,none⟩=some (.int .i64 P)/\V.cell? ⟨w.heap.size,1,none⟩=some (.int .i64 M)/\V.cell? ⟨w.heap.size,2,none⟩=some (.slice am mn cm)/\V.cell? ⟨w.heap.size+1,0,none⟩=some (.int .i64 m)/\V.cell? ⟨w.heap.size+1,1,none⟩=some (.slice a k c) /\
   aV V (w.heap.size+1+1) [.int .i64 0,.int .i64 0,.slice none 0 0,.int .i64 0,.slice none 0 0]:=λV hV=>by
  have x1:=x0.ah hV
  have y1:=y0.ah hV
  exact ⟨x1.cell 0 rfl,x1.cell 1 rfl,x1.cell 2 rfl,y1.cell 0 rfl,y1.cell 1 rfl,z0.ah hV⟩
 have HS:=Z5 hS
 have HbW:=Z5 hbW
 have HsW:=Z5 hsW
 obtain ⟨c0,c1,c2,c3,c4,_⟩:=HS.out W (Below.refl _ _)
 have HP : Hid (∀(w4 : World) (a4 : OA) (c4' : Nat),dj W.drew.heap.size w4 a4 mod.length mod->Below W.drew.heap.size W.drew w4 ->
   Bn P M mod m a k c w (.returned (.tuple #[.agg #[.int .i64 P,.int .i64 M,.slice a4 mod.length c4',.int .i64 m,.slice a k c],.int .i64 0]))
    (((((w4.setCell ⟨w.heap.size+1+1,0,none⟩ (.int .i64 P)).setCell ⟨w.heap.size+1+1,1,none⟩ (.int .i64 M)).setCell ⟨w.heap.size+1+1,2,none⟩ (.slice a4 mod.length c4')).setCell ⟨w.heap.size+1+1,3,none⟩ (.int .i64 m)).setCell ⟨w.heap.size+1+1,4,none⟩ (.slice a k c))):=λw4 a4 c4' h1 h2=>by
  have h1' : dj W.heap.size w4 a4 mod.length mod:=h1
  have hb:=Below.next hbW (Below.next (Below.refl _ _).drew h2)
  have hs:=HsW.out
  refine ⟨a4,c4',rfl,?_,?_⟩
  ·exact (((((h1'.setCell (p:=⟨w.heap.size+1+1,0,none⟩) (by simp;omega) _).setCell (p:=⟨w.heap.size+1+1,1,none⟩) (by simp;omega) _).setCell (p:=⟨w.heap.size+1+1,2,none⟩) (by simp;omega) _).setCell (p:=⟨w.heap.size+1+1,3,none⟩) (by simp;omega) _).setCell (p:=⟨w.heap.size+1+1,4,none⟩) (by simp;omega) _).mono (by omega)
  ·exact ((((hb.setCell (p:=⟨w.heap.size+1+1,0,none⟩) (by simp;omega) _).setCell (p:=⟨w.heap.size+1+1,1,none⟩) (by simp;omega) _).setCell (p:=⟨w.heap.size+1+1,2,none⟩) (by simp;omega) _).setCell (p:=⟨w.heap.size+1+1,3,none⟩) (by simp;omega) _).setCell (p:=⟨w.heap.size+1+1,4,none⟩) (by simp;omega) _
 clear hW x0 y0 z0 hS hmod hbW hsW
 go_wp2_with fail
 go_region_law (
  (go_simp;go_at_call 147;((with_reducible refine (Hown.out _ (Below.refl _ _).drew).mono ?_);rintro e w4 ⟨a4,c4',rfl,hN4,hb4⟩;obtain ⟨c0,c1,c2,c3,c4,zz⟩:=HS.out w4 (Below.next (Below.refl _ _).drew hb4);have z0:=zz.cell 0 rfl;have z1:=zz.cell 1 rfl;have z2:=zz.cell 2 rfl;have z3:=zz.cell 3 rfl;have z4:=zz.cell 4 rfl;have f0:=zz.frozen 0;have f1:=zz.frozen 1;have f2:=zz.frozen 2;have f3:=zz.frozen 3;have f4:=zz.frozen 4)))
 all_goals (
  have HP4:=Z5 (HP.out w4 a4 c4' hN4 hb4)
  clear hN4 hb4 Hown HS HP
  go_wp2_with fail
  exact bodyPost_ret (v:=.tuple #[.agg #[.int .i64 P,.int .i64 M,.slice a4 mod.length c4',.int .i64 m,.slice a k c],.int .i64 0]) (by simp [results,Tryz.results78,go_sem,z0,z1,z2,z3,z4]) rfl HP4.out)
theorem yz (P M : Int) (am : OA) (mn cm : Nat) (mod : Lz) (m : Nat) (a : OA) (n c : Nat) (L : Ll) (w : World) (hmod : Ints w am mn mod) (hi : bZ w a n L) (h5 : dM P M mod m L=0) (hm64 : m<=256) :
  Calls Tryz.prog 77 #[.agg #[.int .i64 P,.int .i64 M,.slice am mn cm],.agg #[.int .i64 m,.slice a n c]] w (Cu (aa P M.toNat mod) L m w):=by
 have Hlen:=Z5 hi.len
 obtain ⟨hfB,h8⟩:=eg h5
 have F:=eX hfB
 obtain ⟨m0,em0,_,hL256,hR0⟩:=gP h8
 obtain rfl : m=m0:=by omega
 have hR : bH (aa P M.toNat mod).El m L:=hR0
 have hn : n<=256:=by rw [<- hi.len];exact hL256
 have HR:=Z5 hR
 have HF:=Z5 F
 clear h5 hR0 em0 hL256
 go_enter Tryz.func77,Tryz.ntmps77
 go_wp2_with fail
 obtain ⟨W,hW⟩ : ∃W : World,W=((((w.alloc (.cells #[.int .i64 P,.int .i64 M,.slice am mn cm] 24)).alloc (.cells #[.int .i64 m,.slice a n c] 82)).alloc (.cells #[.int .i64 0,.slice none 0 0] 82)).alloc (.cells #[.int .i64 m,.slice a n c] 82)):=⟨_,rfl⟩
 rw [<- hW]
 have hbW : Below w.heap.size w W:=by rw [hW];exact ((((Below.refl _ _).alloc (Nat.le_refl _) _).alloc (by simp) _).alloc (by simp;omega) _).alloc (by simp;omega) _
 have hsW : W.heap.size=w.heap.size+4:=by rw [hW];simp
 have q1 : W.cell? ⟨w.heap.size+1,0,none⟩=some (.int .i64 m)/\W.cell? ⟨w.heap.size+1,1,none⟩=some (.slice a n c):=by rw [hW];exact ⟨aS (aS (aH _ _ _ (by simp) 0) _) _,aS (aS (aH _ _ _ (by simp) 1) _) _⟩
 have q2 : W.cell? ⟨w.heap.size+1+1,0,none⟩=some (.int .i64 0)/\W.cell? ⟨w.heap.size+1+1,1,none⟩=some (.slice none 0 0)/\W.frozen? ⟨w.heap.size+1+1,0,none⟩=false/\W.frozen? ⟨w.heap.size+1+1,1,none⟩=false:=by
  rw [hW];exact ⟨aS (aH _ _ _ (by simp) 0) _,aS (aH _ _ _ (by simp) 1) _,dG (by simp) (lM _ _ _ (by simp) 0) _,dG (by simp) (lM _ _ _ (by simp) 1) _⟩
 have q3 : W.cell? ⟨w.heap.size+1+1+1,0,none⟩=some (.int .i64 m)/\W.cell? ⟨w.heap.size+1+1+1,1,none⟩=some (.slice a n c):=by rw [hW];exact ⟨aH _ _ _ (by simp) 0,aH _ _ _ (by simp) 1⟩
 have hiW:=hi.ah hbW
 have hMs : vd W (some ⟨w.heap.size+1+1+1,0,none⟩) 1 [((m : Int),L)]:=⟨rfl,λ_=>rfl,by unfold maxLen;omega,λi hi=>by
  have : i=0:=by simp at hi;omega
  subst this
  exact ⟨a,n,c,by simpa using q3.1,by simpa using q3.2,hiW⟩⟩
 have HsW:=Z5 hsW
 clear hW hsW
 refine (lf P M am mn cm mod _ 1 1 _ W (hmod.ah hbW) hMs).mono ?_
 rintro e w1 ⟨hb1,hcase⟩
 have hbw1:=Below.next hbW hb1
 have hq : ∀V,Below W.heap.size W V->V.cell? ⟨w.heap.size+1,0,none⟩=some (.int .i64 m)/\V.cell? ⟨w.heap.size+1,1,none⟩=some (.slice a n c)/\V.cell? ⟨w.heap.size+1+1,0,none⟩=some (.int .i64 0)/\V.cell? ⟨w.heap.size+1+1,1,none⟩=some (.slice none 0 0)/\V.frozen? ⟨w.heap.size+1+1,0,none⟩=false/\V.frozen? ⟨w.heap.size+1+1,1,none⟩=false:=by
  intro V hV
  have hs:=HsW.out
  exact ⟨aw hV q1.1,aw hV q1.2,aw hV q2.1,aw hV q2.2.1,(hV.frozen (p:=⟨w.heap.size+1+1,0,none⟩) (by simp [hs])).trans q2.2.2.1,(hV.frozen (p:=⟨w.heap.size+1+1,1,none⟩) (by simp [hs])).trans q2.2.2.2⟩
 have Hq:=Z5 hq
 clear hq q1 q2 q3
 rw [jH] at hcase
 rcases hcase with ⟨hB,_⟩ | ⟨_,er,h0,h1,_⟩ | ⟨_,_,b,rfl,hG,hbl⟩
 ·rw [hfB] at hB;exact absurd hB (by decide)
 ·rw [h8] at h1;exact absurd h1.symm h0
 obtain ⟨r1,r2,r3,r4,r5,r6⟩:=Hq.out w1 hb1
 have HPost : Hid (∀a c w',bN w.heap.size w' a (kA (aa P M.toNat mod) L m).length (kA (aa P M.toNat mod) L m)->Below w.heap.size w w'->Cu (aa P M.toNat mod) L m w (.returned (.tuple #[.agg #[.int .i64 m,.slice a (kA (aa P M.toNat mod) L m).length c],.int .i64 0])) w'):=λa c w' h1 h2=>⟨a,c,rfl,h1,h2⟩
 obtain ⟨G,hGG⟩ : ∃G,aa P M.toNat mod=G:=⟨_,rfl⟩
 have HGG:=Z5 hGG
 rw [hGG] at hG HR HF HPost hR F
 clear h8 hGG hfB
 have Hcan:=Z5 (qK a n c m L hG (hiW.ah hb1) hR (by omega) (by omega))
 have hRc : bH G.El m (dr G L m):=fh F hR
 obtain ⟨hPv,hLd⟩:=du F hR
 have hcl : (dr G L m).length=(ek G L m).length:=iS G L m
 have HPv : Hid (nw (dr G L m) (ek G L m) m):=hPv
 have hrws : ∀k,k<=m->bH G.El m (gd G.ops m (dr G L m) (ek G L m) k):=by
  intro k
  induction k with
  | zero=>intro _ r hr;simp [gd] at hr
  | succ k ih =>
   intro hk r hr
   rw [gd] at hr
   split at hr
   ·exact ih (by omega) r hr
   ·rw [List.mem_append,List.mem_singleton] at hr
    rcases hr with hr | rfl
    ·exact ih (by omega) r hr
    ·exact pP F hRc hPv hcl (by omega) _ (Nat.le_refl _)
 have Hrws:=Z5 hrws
 have hdl : kA G L m=dr G (gd G.ops m (dr G L m) (ek G L m) m) m:=rfl
 have Hdl:=Z5 hdl
 have Hcp : Hid (∀c,c<m->∀i,i<(ek G L m).length->G.El (nth (aj (dr G L m) i) c)):=λc hc i hi=>Vc.at (hRc.row (by rw [hcl];exact hi)) hc
 have Hrl : Hid (∀i,i<(ek G L m).length->(aj (dr G L m) i).length=m):=λi hi=>(hRc.row (by rw [hcl];exact hi)).1
 clear hR F hPv hLd hrws hdl
 go_wp2_with fail
 refine Hcan.out.mono ?_
 rintro e w2 ⟨a2,c2,ap,cp,rfl,hM2,hp2,hb2⟩
 have Hkp : Hid (∀c i,kerTo G.ops m (dr G L m) (ek G L m) c (i+1)=(kerTo G.ops m (dr G L m) (ek G L m) c i).set (nth (ek G L m) i).toNat (G.neg (nth (aj (dr G L m) i) c))):=λc i=>rfl
 have Hk0 : Hid (∀c,kerTo G.ops m (dr G L m) (ek G L m) c 0=(List.replicate m 0).set c 1):=λc=>rfl
 have Hplt : Hid (∀j,j<(ek G L m).length->0<=nth (ek G L m) j/\nth (ek G L m) j<m):=HPv.out.lt
 obtain ⟨R,hRR⟩ : ∃R,dr G L m=R:=⟨_,rfl⟩
 obtain ⟨Pv,hPP⟩ : ∃Pv,ek G L m=Pv:=⟨_,rfl⟩
 rw [hRR,hPP] at Hrws Hdl Hcp Hkp Hk0 Hrl
 rw [hPP] at Hplt hp2 hM2 hcl
 rw [hRR] at hM2 hcl
 rw [hPP]
 clear hRR hPP HPv Hcan
 obtain ⟨t,ht⟩ : ∃t,Pv.length=t:=⟨_,rfl⟩
 have Ht:=Z5 ht
 rw [ht] at hM2 hp2 Hcp Hplt hcl Hrl
 rw [ht]
 have hMM:=hM2.kK
 have hII:=hp2.ints
 have hplP:=hII.pl
 have hplR:=hMM.pl
 have hbw2:=Below.next hbw1 hb2
 have hb12:=Below.next hb1 hb2
 have hG2:=hG.ah hb2
 have hmaxP:=hII.max
 unfold maxLen at hmaxP
 obtain ⟨z1,z2,z3,z4,z5,z6⟩:=Hq.out w2 hb12
 clear ht hM2 hp2 hG r1 r2 r3 r4 r5 r6
 go_wp2_with fail
 go_loopw [10,37] (λov iv wr=>∃(k : Nat) (a1 : OA) (c1 : Nat),k<=m/\iv = .int .i64 k/\ov = .slice a1 (jk Pv k).length c1/\(∃Rr,aU wr w2.heap.size a1 (jk Pv k).length c1 Rr (gd G.ops m R Pv k))/\Below w2.heap.size w2 wr) (λ_ iv _=>m - (intOf iv).toNat)
 case atStart=>exact ⟨0,none,0,Nat.zero_le _,rfl,rfl,⟨[],aU.GG w2 w2.heap.size⟩,Below.refl _ _⟩
 case round =>
  clear z1 z2 z3 z4 z5 z6
  obtain ⟨k,a1,c1,hk,rfl,rfl,⟨Rr,hO⟩,hbr⟩:=hrel
  have hnk:=Ge Pv k
  by_cases hlt : k<m
  ·have hcont:=cB ap t cp Pv k wr (hII.ah hbr)
   obtain ⟨z1,_,_,_,_,_⟩:=Hq.out wr (Below.next hb12 hbr)
   by_cases hmem : (k : Int) ∈ Pv
   ·have hN : Hid (jk Pv (k+1)=jk Pv k):=by show _=_;rw [jk,if_pos hmem]
    have hKk : Hid (gd G.ops m R Pv (k+1)=gd G.ops m R Pv k):=by show _=_;rw [gd,if_pos hmem]
    rw [show decide ((k : Int) ∈ Pv)=true by simpa using hmem] at hcont
    have Hcont:=Z5 hcont
    clear hmem hcont
    go_wp2_with fail
    refine Hcont.out.mono ?_
    rintro e w3 ⟨rfl,rfl⟩
    go_wp2_with fail
    go_roundw
    case rel=>exact ⟨k+1,a1,c1,by omega,by go_num,by rw [hN.out],⟨Rr,by rw [hN.out,hKk.out];exact hO⟩,hbr⟩
    case measure=>simp [intOf] <;> omega
   ·have hN : Hid (jk Pv (k+1)=jk Pv k ++ [k]):=by show _=_;rw [jk,if_neg hmem]
    have hKk : Hid (gd G.ops m R Pv (k+1)=gd G.ops m R Pv k ++ [kerTo G.ops m R Pv k t]):=by show _=_;rw [gd,if_neg hmem,Ht.out]
    rw [show decide ((k : Int) ∈ Pv)=false by simpa using hmem] at hcont
    have Hcont:=Z5 hcont
    clear hmem hcont
    go_wp2_with fail
    refine Hcont.out.mono ?_
    rintro e w3 ⟨rfl,rfl⟩
    go_wp2_with (at_make;refine bV rfl _ _ 22 3 rfl (.int .i64 0) 8 Tryz.underlying22 aX rfl m rfl rfl (by omega) (by unfold maxLen;omega) ?_;intro a5 w5 hown5 hbel5 hge5 hlt5;obtain ⟨hi5,hm5⟩:=Ints.own (l:=List.replicate m 0) (by simpa using hown5);have hc5:=hi5.cell k hlt;have hf5:=(hm5 (by omega)).2 k hlt;have hpl5:=hi5.pl)
    have hx0:=bC hown5 k hlt (.int .i64 1)
    have hx0' : (w5.setCell ⟨ablk a5,aJ a5+k,none⟩ (.int .i64 1)).ownsRow w3.heap.size 3 1 (.slice a5 m m) m ((kerTo G.ops m R Pv k 0).map (Value.int .i64)):=by
     rw [Hk0.out,List.map_set,List.map_replicate];exact hx0
    have hbx0:=hbel5.setCell (p:=⟨ablk a5,aJ a5+k,none⟩) (hm5 (by omega)).1 (.int .i64 1)
    clear hx0 hown5 hbel5 hge5 hlt5 hi5 hm5 hc5 hf5 z1
    go_loopw [51] (λiv wx=>∃i : Nat,i<=t/\iv = .int .i64 i/\wx.ownsRow w3.heap.size 3 1 (.slice a5 m m) m ((kerTo G.ops m R Pv k i).map (Value.int .i64))/\Below w3.heap.size w3 wx) (λiv _=>t - (intOf iv).toNat)
    case atStart=>exact ⟨0,Nat.zero_le _,rfl,hx0',hbx0⟩
    case round =>
     clear hx0' hbx0
     obtain ⟨i,hi',rfl,hown,hbx⟩:=hrel
     by_cases hli : i<t
     ·have hb2x:=Below.next hbr hbx
      have cpi:=(hII.ah hb2x).cell i hli
      have hpb:=Hplt.out i hli
      obtain ⟨z,hz⟩ : ∃z : Nat,nth Pv i=z:=⟨(nth Pv i).toNat,by omega⟩
      have hzm : z<m:=by omega
      obtain ⟨ra,rn,rc,hcell,hrow⟩:=(hMM.ah hb2x).cell i hli
      have hrn : rn=m:=by rw [<- hrow.len];exact Hrl.out i hli
      subst hrn
      have ck:=hrow.cell k hlt
      have hpr:=hrow.pl
      have hel:=Hcp.out k hlt i hli
      have hst : kerTo G.ops rn R Pv k (i+1)=(kerTo G.ops rn R Pv k i).set z (G.neg (nth (aj R i) k)):=by rw [Hkp.out,hz,Int.toNat_natCast]
      have Hst:=Z5 hst
      obtain ⟨x9,hx9⟩ : ∃x,nth (aj R i) k=x:=⟨_,rfl⟩
      rw [hx9] at ck hel Hst
      have Hng:=Z5 (Fv x9 (hG2.ah hb2x) hel)
      rw [hz] at cpi
      obtain ⟨hints,hmine⟩:=Ints.own hown
      have hpl5':=hints.pl
      have cz:=hints.cell z hzm
      have fz:=(hmine (by omega)).2 z hzm
      have hB:=(hmine (by omega)).1
      clear hz hpb hst hx9 hel
      go_wp2_with fail
      refine Hng.out.mono ?_
      rintro e w6 ⟨nd,rfl,rfl⟩
      go_wp2_with fail
      go_roundw
      case rel =>
       have h:=bC (w:=wr.drewN nd) hown z hzm (.int .i64 (G.neg x9))
       rw [<- List.map_set,<- Hst.out] at h
       exact ⟨i+1,by omega,by go_num,h,(below_drewN hbx nd).setCell hB _⟩
      case measure=>simp [intOf] <;> omega
     ·obtain rfl : i=t:=by omega
      obtain ⟨X,hX⟩ : ∃X,kerTo G.ops m R Pv k i=X:=⟨_,rfl⟩
      have hXl : X.length=m:=by rw [<- hX];exact iy _ _ _ _ _ _
      rw [hX] at hown hKk
      have HXl:=Z5 hXl
      have hO3:=hO.ah (Below.next hbx (an wr (.cells #[.slice a5 m m] 22)))
      have hsz:=hbr.size
      have hsx:=hbx.size
      have hs3 : w2.heap.size<=(wr.alloc (.cells #[.slice a5 m m] 22)).heap.size:=by simp;omega
      have hcn:=br wr (.slice a5 m m) 22
      clear hX hXl
      go_wp2_with (at_builtin;refine bk rfl _ _ 25 22 rfl (.slice none 0 0) 24 Tryz.underlying25 ch rfl w2.heap.size a1 (jk Pv k).length c1 _ rfl hO3.own ⟨wr.heap.size,0,none⟩ 1 (.slice a5 m m) rfl hcn rfl (by omega) (by unfold maxLen;omega) hs3 ?_;intro a7 c7 w7 hown7 hgr7 hap7)
      go_roundw
      case rel =>
       have hb4 : Below w3.heap.size w3 (wr.alloc (.cells #[.slice a5 m m] 22)):=Below.next hbx (an _ _)
       have hown4 : (wr.alloc (.cells #[.slice a5 m m] 22)).ownsRow w2.heap.size 3 1 (.slice a5 X.length m) X.length (X.map (Value.int .i64)):=by
        rw [HXl.out];exact aP (aW hown (an _ _)) hsz
       have hra : a5 ≠ none->¬ bL a1 Rr (ablk a5):=λh0 hI=>by
        have h1:=(aR hown h0).1
        have h2:=(hO.lt _ hI).2
        omega
       have hP:=aU.push hO3 hown4 hra (by rw [HXl.out];exact hown7) hgr7 hap7
       have hb5 : Below w2.heap.size w2 w7:=Below.app (Below.next hbr hb4) hO3.own hgr7 (Nat.le_refl _) (Nat.le_trans hsz hb4.size)
       exact ⟨k+1,a7,c7,by omega,by go_num,by rw [hN.out];simp,⟨_,by rw [hN.out,hKk.out,List.length_append];exact hP⟩,hb5⟩
      case measure=>simp [intOf] <;> omega
  ·obtain rfl : k=m:=by omega
   have hbw:=Below.next hbw2 hbr
   have hcan:=qK a1 (jk Pv k).length c1 k (gd G.ops k R Pv k) (hG2.ah hbr) hO.kK (Hrws.out k (Nat.le_refl _)) (by omega) (by omega)
   have Hcan:=Z5 hcan
   obtain ⟨z1,z2,z3,z4,z5,z6⟩:=Hq.out wr (Below.next hb12 hbr)
   clear hcan hO
   go_wp2_with fail
   refine Hcan.out.mono ?_
   rintro e w8 ⟨a8,c8,ap8,cp8,rfl,hM8,hp8,hb8⟩
   have hlen8 : (ek G (gd G.ops k R Pv k) k).length=(kA G L k).length:=by rw [Hdl.out,iS]
   have hM8' : bN wr.heap.size w8 a8 (kA G L k).length (kA G L k):=by rw [<- hlen8,Hdl.out];exact hM8
   rw [hlen8]
   have hbw8:=Below.next hbw hb8
   have hF:=HPost.out a8 c8 ((w8.setCell ⟨w.heap.size+1+1,0,none⟩ (.int .i64 k)).setCell ⟨w.heap.size+1+1,1,none⟩ (.slice a8 (kA G L k).length c8)) (by
     have hs:=HsW.out
     have hs1:=(Below.next hb12 hbr).size
     exact ((hM8'.setCell (p:=⟨w.heap.size+1+1,0,none⟩) (by simp;omega) _).setCell (p:=⟨w.heap.size+1+1,1,none⟩) (by simp;omega) _).mono (by omega)) ((hbw8.setCell (by simp;omega) _).setCell (by simp;omega) _)
   have HF2:=Z5 hF
   clear hF hM8 hp8 hM8' Hcan z1 z2 z3 z4 z5 z6 hlen8
   obtain ⟨z1,z2,z3,z4,z5,z6⟩:=Hq.out w8 (Below.next (Below.next hb12 hbr) hb8)
   generalize (kA G L k).length=q at *
   go_wp2_with fail
   exact bodyPost_ret (v:=.tuple #[.agg #[.int .i64 k,.slice a8 q c8],.int .i64 0]) (by simp [results,Tryz.results77,go_sem,z3,z4]) rfl (by rw [HGG.out];exact HF2.out)
theorem GX {P M : Int} {mod : Lz} (h : bA P M mod=true) : mod.length<=8:=by
 unfold bA b8 at h
 simp only [Bool.and_eq_true,bne_iff_ne,ne_eq] at h
 obtain ⟨⟨⟨h1,_⟩,h3⟩,_⟩:=h
 have h2:=gN h1
 by_cases hM : M=1
 ·rw [if_pos hM] at h3
  have : mod.length=0:=by simpa using h3
  omega
 ·rw [if_neg hM] at h3
  simp only [Bool.and_eq_true,decide_eq_true_eq] at h3
  omega
section
variable {O : aQ} {El : Int->Prop} {m : Nat} {R : Ll} {P : Lz}
theorem tV (F : cK O El) (hI : BS.Inv El m ⟨R,P⟩) {v : Lz} (hv : Vc El m v) (hs : RS O El m R (λx=>nth v x)) : ∀k,k<=R.length->RS O El m R (λx=>nth (redTo O R P v k) x)
 | 0,_=>hs
 | k+1,hk=>by
  have hu : Vc El m (redTo O R P v k):=Vc.redTo F hI.ok hv k (show k<=R.length by omega)
  have hp : (nth P k).toNat<m:=hI.ok.pl (show k<R.length by omega)
  have hr : Vc El m (aj R k):=hI.ok.row (show k<R.length by omega)
  refine ((tV F hI hv hs k (by omega)).comb F (.row F (i:=k) (by omega)) (hu.at hp)).congr λx hx=>?_
  rw [redTo,iR F hu hr hp hx,F.mul_comm _ _ (hu.at hp) (hr.at hx)]
theorem tC (F : cK O El) (hR : bH El m R) (hP : nw R P m) (hlen : R.length=P.length) {v : Lz} (hv : Vc El m v) (hs : RS O El m R (λx=>nth v x)) : ∀x,x<m->nth (redTo O R P v R.length) x=0:=by
 have hI:=wo hR hP hlen
 obtain ⟨e,he,h⟩:=tV F hI hv hs R.length (Nat.le_refl _)
 intro x hx
 have h1 : nth (redTo O R P v R.length) x=e (bf R x):=h x hx
 rw [h1]
 refine hP.all F hR hx e he λy hy=>?_
 obtain ⟨j,hj,rfl⟩:=(gV P _ _).1 hy
 rw [<- h _ (by have:=hP.lt j hj;omega)]
 exact hI.place F hv R.length (Nat.le_refl _) j (by omega)
end
section
def bn : Nat->Nat->Nat
 | _,0=>1
 | 0,_+1=>1
 | r+1,d+1=>bn r (d+1)+bn (r+1) d
variable {O : aQ} {El : Int->Prop} {m : Nat} {L : Ll}
variable {C : lB}
end
section
variable {O : aQ} {El : Int->Prop} {m : Nat} {L : Ll}
end
def IM (x : Lz) (U : Lz) (m : Nat) : Nat:=(List.range m).countP λj=>decide (nth x j ≠ 0/\(j : Int) ∈ U)
theorem po {p p' : Nat->Bool} {s : Nat} (h : ∀j,j ≠ s->p j=p' j) : ∀m,(List.range m).countP p'+(if s<m/\p s=true then 1 else 0)=(List.range m).countP p+(if s<m/\p' s=true then 1 else 0)
 | 0=>by simp
 | m+1=>by
  have ih:=po h m
  rw [List.range_succ,List.countP_append,List.countP_append,List.countP_singleton,List.countP_singleton]
  by_cases e : s=m
  ·subst e
   simp at ih
   by_cases h1 : p s=true <;> by_cases h2 : p' s=true <;> simp [h1,h2] <;> omega
  ·have h3:=h m (λe2=>e e2.symm)
   rw [h3]
   by_cases h4 : s<m
   ·simp only [h4,show s<m+1 by omega,true_and] at ih ⊢;omega
   ·simp only [h4,show ¬ s<m+1 by omega,false_and] at ih ⊢;simp at ih ⊢;omega
theorem GM (x U : Lz) (m : Nat) {s : Int} (h0 : 0<=s) (hm : s<m) : IM x (U ++ [s]) m=IM x U m+(if nth x s.toNat ≠ 0/\¬ s ∈ U then 1 else 0):=by
 have h:=po (p:=λj=>decide (nth x j ≠ 0/\(j : Int) ∈ U)) (p':=λj=>decide (nth x j ≠ 0/\(j : Int) ∈ U ++ [s])) (s:=s.toNat) (λj hj=>by
  have : ((j : Int) ∈ U ++ [s]) ↔ ((j : Int) ∈ U):=by
   rw [List.mem_append,List.mem_singleton]
   exact ⟨λh=>h.elim id λe=>absurd (by omega) hj,.inl⟩
  simp [this]) m
 have e : ((s.toNat : Nat) : Int)=s:=by omega
 have hlt : s.toNat<m:=by omega
 unfold IM
 simp only [e,hlt,true_and,decide_eq_true_eq,List.mem_append,List.mem_singleton,or_true,and_true] at h
 have h' : (List.range m).countP (λj=>decide (nth x j ≠ 0/\(j : Int) ∈ U ++ [s]))=(List.range m).countP (λj=>decide (nth x j ≠ 0/\((j : Int) ∈ U\/(j : Int)=s))):=by simp
 rw [h']
 by_cases h1 : nth x s.toNat=0
 ·simp [h1] at h ⊢;exact h
 ·by_cases h2 : s ∈ U
  ·simp [h1,h2] at h ⊢;omega
  ·simp [h1,h2] at h ⊢;omega
theorem Cv (x : Lz) (m : Nat) : ∀(S U : Lz),S.Nodup->(∀s ∈ S,0<=s/\s<(m : Int))->IM x (U ++ S) m=IM x U m+S.countP λs=>decide (nth x s.toNat ≠ 0/\¬ s ∈ U)
 | [],U,_,_=>by simp
 | s :: S,U,hn,hb=>by
  rw [List.nodup_cons] at hn
  have h1:=hb s (List.mem_cons_self ..)
  have ih:=Cv x m S (U ++ [s]) hn.2 λy hy=>hb y (List.mem_cons_of_mem _ hy)
  rw [List.append_assoc,List.singleton_append] at ih
  rw [ih,GM x U m h1.1 h1.2,List.countP_cons]
  have e : S.countP (λy=>decide (nth x y.toNat ≠ 0/\¬ y ∈ U ++ [s]))=S.countP (λy=>decide (nth x y.toNat ≠ 0/\¬ y ∈ U)):=by
   refine List.countP_congr λy hy=>?_
   have : y ≠ s:=λe=>hn.1 (e ▸ hy)
   simp [this]
  rw [e]
  simp only [decide_eq_true_eq]
  omega
theorem Je (x U : Lz) (m : Nat) (hx : x.length=m) : IM x U m<=bw x:=by
 have h : bw x=(List.range m).countP λj=>decide (nth x j ≠ 0):=by
  have e : x=(List.range m).map (nth x):=by
   refine List.ext_getElem (by simp [hx]) λi h1 h2=>?_
   rw [List.getElem_map,List.getElem_range,ai h1]
  conv=>lhs;rw [bw,e,List.countP_map]
  rfl
 rw [h]
 exact List.countP_mono_left λj _ h=>by simp at h ⊢;exact h.1
theorem rB {O : aQ} {L : Ll} {m : Nat} {x : Lz} {v : Int} : ∀(T : List (Lz × Int)) (U : Lz),qx O L m U T->(∀t ∈ T,v<(bw (aG t.1 x) : Int)) ->
  flTo L.length v (T.map (·.2)) T.length+IM x U m<=(IM x (U ++ (T.map (·.1)).flatten) m : Int)
 | [],U,_,_=>by simp [flTo]
 | t :: T,U,h,hw=>by
  obtain ⟨h1,h2,h3,h4,h5⟩:=h
  have ih:=rB T (U ++ t.1) h5 λy hy=>hw y (List.mem_cons_of_mem _ hy)
  have hl : t.1.length=L.length:=(kH.1 h2).1
  have hin : ∀s ∈ t.1,0<=s/\s<(m : Int):=λs hs=>by
   obtain ⟨k,hk,rfl⟩:=List.mem_iff_getElem.1 hs
   have:=gh h1 hk
   rw [ai hk] at this
   exact ⟨this.1,this.2.1⟩
  have ha:=Cv x m t.1 U (rL h1) hin
  have hwt:=hw t (List.mem_cons_self ..)
  have hfl : ∀(r : Int) (R : Lz),∀k,flTo L.length v (r :: R) (k+1)=max 0 (v+1 - (L.length - r))+flTo L.length v R k:=λr R k=>by
   induction k with
   | zero=>simp [flTo,nth]
   | succ k ih=>rw [flTo,ih,flTo];simp [nth];omega
  have hc : (bw (aG t.1 x) : Int)<=(t.1.countP λs=>decide (nth x s.toNat ≠ 0/\¬ s ∈ U) : Nat)+(L.length - t.2):=by
   have e1 : bw (aG t.1 x)=t.1.countP λs=>decide (nth x s.toNat ≠ 0):=by
    unfold bw aG;rw [List.countP_map];rfl
   have e2 : t.2=(t.1.countP (λs=>decide (¬ s ∈ U)) : Nat):=by
    rw [h4,ka _ _ _ (Nat.le_refl _),List.take_of_length_le (Nat.le_refl _)]
   have e3 : ∀S : Lz,(S.countP λs=>decide (nth x s.toNat ≠ 0))+S.countP (λs=>decide (¬ s ∈ U))<=(S.countP λs=>decide (nth x s.toNat ≠ 0/\¬ s ∈ U))+S.length:=λS=>by
    induction S with
    | nil=>simp
    | cons s S ih =>
     rw [List.countP_cons,List.countP_cons,List.countP_cons,List.length_cons]
     by_cases p1 : nth x s.toNat=0 <;> by_cases p2 : s ∈ U <;> simp [p1,p2] at ih ⊢ <;> omega
   have:=e3 t.1
   omega
  rw [List.map_cons,List.length_cons,hfl,List.map_cons,List.flatten_cons,<- List.append_assoc]
  omega
theorem DV {P M : Int} {mod : Lz} {m : Nat} {L : Ll} (hE : aL P M mod m L=0) {x : Lz} (hx : x.length=m) {v : Int} (hv : 0<=v/\v<=(L.length : Int)) (hl : L.length<=64)
  (hw : ∀t ∈ fu (aa P M.toNat mod).ops L m,v<(bw (aG t.1 x) : Int)) :
  ∃f : Int,uE L.length ((fu (aa P M.toNat mod).ops L m).map (·.2)) v=(f,0)/\f<=(bw x : Int):=by
 obtain ⟨h1,h2⟩:=fg hE
 obtain ⟨m',e,hm1,hm64,_,_⟩:=ba hE
 generalize fu (aa P M.toNat mod).ops L m=T at *
 have hb:=rB T [] h1 hw
 have hle:=Je x ([] ++ (T.map (·.1)).flatten) m hx
 have hr : ∀(T : List (Lz × Int)) (U : Lz),qx (aa P M.toNat mod).ops L m U T->(T.map (·.2)).all (uA L.length)=true:=λT=>by
  induction T with
  | nil=>intro U _;rfl
  | cons t T ih =>
   rintro U ⟨q1,q2,q3,q4,q5⟩
   have hbd:=nf U t.1 t.1.length
   have hl : t.1.length=L.length:=(kH.1 q2).1
   rw [List.map_cons,List.all_cons,ih _ q5,Bool.and_true]
   unfold uA
   simp;omega
 refine ⟨flTo L.length v (T.map (·.2)) T.length,?_,?_⟩
 ·rw [uE,if_pos,List.length_map]
  refine ⟨?_,hr T [] h1⟩
  unfold Gr
  simp [List.length_map]
  omega
 ·omega
theorem jL (P M : Int) (am : OA) (mn cm : Nat) (mod : Lz) (N : Int) (a : OA) (n c : Nat) (L : Ll) (w : World) (hmod : Ints w am mn mod) (hi : bZ w a n L) :
  Calls Tryz.prog 22 #[.agg #[.int .i64 P,.int .i64 M,.slice am mn cm,.int .i64 N,.slice a n c]] w λe w'=>e = .returned (.int .i64 (aL P M mod N L))/\Below w.heap.size w w':=by
 rw [<- lH]
 exact fX P M am mn cm mod N a n c L w hmod hi iW
end Go.Proofs.YtcfmiocdlcapoaaGreat
