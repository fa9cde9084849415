/-  -/
import Derived.Test.YtcfmiocdlcapoaaGreatK16
import Derived.Test.YtcfmiocdlcapoaaGreatK11
import Derived.WalkKit
import Derived.ProofKit
import Derived.OpenShut
import Derived.ShutString
import Derived.ChangeOld
import Derived.Below
import Derived.Deep.Matrix
namespace Go.Proofs.YtcfmiocdlcapoaaGreat
set_option linter.unusedVariables false
set_option linter.unusedSimpArgs false
set_option linter.unusedSectionVars false

section
set_option maxRecDepth 100000
set_option maxHeartbeats 3200000

open Go.RowKit
theorem rising_any (N : Int) (a : Option Addr) (n c : Nat) (l : List Int) (w : World) (hi : Ints w a n l) :
  Calls Tryz.prog 33 #[.slice a n c,.int .i64 N] w (QuietBool w (okSet N l)):=by
 have Hlen:=Lib.hid hi.len
 have hpl:=hi.pl
 have hmax:=hi.max
 unfold maxLen at hmax
 go_enter Tryz.func33,Tryz.ntmps33
 go_wp2_with fail
 go_loopw [5] (λiv wr=>∃k : Nat,k<=n/\iv = .int .i64 k/\Hid (okTo N l k=true)/\Drawn w wr) (λiv _=>n - (intOf iv).toNat)
 case atStart=>exact ⟨0,Nat.zero_le _,rfl,by show _=_;simp [okTo],Drawn.refl _⟩
 case round =>
  obtain ⟨j,hj,rfl,hok,hd⟩:=hrel
  have hir:=hi.drawn hd
  by_cases hlt2 : j<n
  ·have cj:=hir.cell j hlt2
   have hjj : (j : Int)<n:=by omega
   have hbad : okAt N l j=false->okSet N l=false:=λhb=>okTo_no (by rw [Hlen.out];exact hlt2) hb
   have Hbad:=Lib.hid hbad
   clear hbad
   by_cases h0 : 0<=nth l j
   ·have d1 : decide (nth l j<0)=false:=by simp;omega
    by_cases h1 : nth l j<N
    ·have d2 : decide (N<=nth l j)=false:=by simp;omega
     by_cases hj0 : j=0
     ·have Hgood : Hid (okAt N l j=true):=by show _=_;unfold okAt;rw [decide_eq_true h0,decide_eq_true h1];simp [hj0]
      have d3 : decide (0<j)=false:=by simp;omega
      clear hj0
      go_wp2_with fail
      go_quiet (fail)
      go_wp2
      go_roundw
      case rel=>exact ⟨j+1,by omega,by go_num,okTo_succ hok.out Hgood.out,hd.drewN _⟩
      case measure=>simp [intOf] <;> omega
     ·have cp:=hir.cell (j - 1) (by omega)
      have e1 : ((j : Int) - 1).toNat=j - 1:=by omega
      have d3 : decide (0<j)=true:=by simp;omega
      have d4 : (0 : Int)<=(j : Int) - 1:=by omega
      have d5 : (1 : Int)<=(j : Int):=by omega
      have d6 : (j : Int) - 1<n:=by omega
      have kw : IntKind.i64.wrap ((j : Int) - 1)=(j : Int) - 1:=IntWalk.i64_in _ (by omega)
      by_cases h2 : nth l (j - 1)<nth l j
      ·have Hgood : Hid (okAt N l j=true):=by show _=_;unfold okAt;simp [h0,h1,h2]
       have h2' : decide (nth l j<=nth l (j - 1))=false:=by simp;omega
       clear hj0
       go_wp2_with fail
       go_quiet (fail)
       go_wp2
       go_roundw
       case rel=>exact ⟨j+1,by omega,by go_num,okTo_succ hok.out Hgood.out,hd.drewN _⟩
       case measure=>simp [intOf] <;> omega
      ·have Hb : Hid (okSet N l=false):=Hbad.out (by unfold okAt;simp [h2,hj0])
       have h2' : decide (nth l j<=nth l (j - 1))=true:=by simp;omega
       clear hj0
       go_wp2_with fail
       go_quiet (fail)
       go_wp2
       go_ret
       exact ⟨by rw [Hb.out];rfl,hd.drewN _⟩
    ·have Hb : Hid (okSet N l=false):=Hbad.out (by unfold okAt;simp [h1])
     have d2 : decide (N<=nth l j)=true:=by simp;omega
     go_wp2_with fail
     go_quiet (fail)
     go_wp2
     go_ret
     exact ⟨by rw [Hb.out];rfl,hd.drewN _⟩
   ·have Hb : Hid (okSet N l=false):=Hbad.out (by unfold okAt;simp [h0])
    have d1 : decide (nth l j<0)=true:=by simp;omega
    go_wp2_with fail
    go_quiet (fail)
    go_wp2
    go_ret
    exact ⟨by rw [Hb.out];rfl,hd.drewN _⟩
  ·obtain rfl : j=n:=by omega
   have Hg : Hid (okSet N l=true):=by show _=_;rw [okSet,Hlen.out];exact hok.out
   go_wp2_with fail
   go_ret
   exact ⟨by rw [Hg.out];rfl,hd⟩
end

section
set_option maxRecDepth 100000
set_option maxHeartbeats 3200000

open Go.RowKit
def SomeBool (w : World) (e : Ending) (w' : World) : Prop:=∃z,e = .returned (.bool z)/\Below w.heap.size w w'
theorem rFew9_any (a : Option Addr) (n c K : Nat) (L : List (List Int)) (w : World) (hi : Mat w a n L) (hK : K<=100000) :
  Calls Tryz.prog 63 #[.agg #[.int .i64 0,.slice a n c],.int .i64 K] w (SomeBool w):=by
 have Hlen:=Lib.hid hi.len
 have hpl:=hi.pl
 have hmax:=hi.max
 unfold maxLen at hmax
 go_enter Tryz.func63,Tryz.ntmps63
 go_upto_region 1 with fail
 obtain ⟨W,hW⟩ : ∃W : World,W=w.alloc (.cells #[.int .i64 0,.slice a n c] 82):=⟨_,rfl⟩
 rw [<- hW]
 have hbW : Below w.heap.size w W:=by rw [hW];exact below1 _ _
 have x0 : Box W w.heap.size [.int .i64 0,.slice a n c]:=by rw [hW];exact Box.new _ _ _ rfl
 have c0:=x0.cell 0 rfl
 have c1:=x0.cell 1 rfl
 have hiW:=hi.keep hbW
 have HbW:=Lib.hid hbW
 clear hW x0 hi hbW
 by_cases h1 : K<n
 ·have d1 : decide (K<n)=true:=by simpa using h1
  have d1' : decide ((K : Int)<n)=true:=by simp;omega
  go_wp2_with fail
  go_ret
  exact ⟨_,rfl,HbW.out⟩
 ·have d1 : decide (K<n)=false:=by simpa using h1
  have d1' : decide ((K : Int)<n)=false:=by simp;omega
  go_wp2_with fail
  go_loopw [5,6] (λlv iv wr=>∃k m : Nat,k<=n/\m<=K/\lv = .int .i64 m/\iv = .int .i64 k/\wr=W) (λ_ iv _=>n - (intOf iv).toNat)
  case atStart=>exact ⟨0,K - n,Nat.zero_le _,by omega,by go_num,rfl,rfl⟩
  case round =>
   obtain ⟨k,m,hk,hm,rfl,rfl,rfl⟩:=hrel
   by_cases hlt : k<n
   ·obtain ⟨ra,rn,rc,hcell,hrow⟩:=hiW.cell k hlt
    by_cases h2 : m<rn
    ·have d2 : decide (m<rn)=true:=by simpa using h2
     have d2' : decide ((m : Int)<rn)=true:=by simp;omega
     go_wp2_with fail
     go_ret
     exact ⟨_,rfl,HbW.out⟩
    ·have d2 : decide (m<rn)=false:=by simpa using h2
     have d2' : decide ((m : Int)<rn)=false:=by simp;omega
     have d3 : (rn : Int)<=m:=by omega
     go_wp2_with fail
     go_roundw
     case rel=>exact ⟨k+1,m - rn,by omega,by omega,by go_num,by go_num,by first | rfl | trivial⟩
     case measure=>simp [intOf] <;> omega
   ·obtain rfl : k=n:=by omega
    go_wp2_with fail
    go_ret
    exact ⟨_,rfl,HbW.out⟩
theorem rFew12_any (P M : Int) (am : Option Addr) (mn cm : Nat) (N : Int) (a : Option Addr) (n c K : Nat) (L : List (List Int)) (w : World) (hi : Mat w a n L) (hK : K<=100000) :
  Calls Tryz.prog 28 #[.agg #[.int .i64 P,.int .i64 M,.slice am mn cm,.int .i64 N,.slice a n c],.int .i64 K] w (SomeBool w):=by
 have H:=Lib.hid (λV hV=>rFew9_any a n c K L V (hi.keep hV) hK : ∀V,Below w.heap.size w V->_)
 clear hi
 go_enter Tryz.func28,Tryz.ntmps28
 go_wp2_with fail
 have hbW:=below1 w (.cells #[.int .i64 P,.int .i64 M,.slice am mn cm,.int .i64 N,.slice a n c] 27)
 refine (H.out _ hbW).mono ?_
 rintro e w1 ⟨z,rfl,hb1⟩
 have hF:=Below.next hbW hb1
 go_wp2_with fail
 go_ret
 exact ⟨z,rfl,hF⟩
end

section
set_option maxRecDepth 100000

open Go.ChangeShapes Go.WideShapes Go.ChangeAt Go.RowKit
theorem Tryz.laid : laidOutB Tryz.prog=true:=by kernel_rfl
section
variable {H : Type} {enc : TypeId × Value->H} {W : World} {held : Bool} {fuel : Nat} {cs : List Value} {x : DataW H × List MemPlace}
theorem add_cell {a : Addr} {v : Value} {i : Nat} (h : W.cell? (a.add i)=some v) : W.cell? ⟨a.block,a.off+i,none⟩=some v:=by
 have hs:=World.cell?_spot h
 obtain ⟨b,o,s⟩:=a
 by_cases h0 : i=0
 ·subst h0
  simp only [Addr.add,if_true] at hs h
  subst hs
  exact h
 ·simpa [Addr.add,h0] using h
theorem plain_of {a : Addr} {v : Value} (h : W.cell? (a.add 0)=some v) : a=⟨a.block,a.off,none⟩:=by
 have hs:=World.cell?_spot h
 obtain ⟨b,o,s⟩:=a
 simp only [Addr.add,if_true] at hs
 subst hs
 rfl
theorem nth_take_getD (l : List Int) (n i : Nat) (h : i<n) : nth (l.take n) i=l.getD i 0:=by
 unfold nth
 simp only [List.getD_eq_getElem?_getD,List.getElem?_take]
 rw [if_pos h]
theorem opened_ints (h : DataW.trod enc Tryz.prog W 0 (λ_=>true) held fuel 22 cs=some x) : ∃a n c l,cs=[.slice a n c]/\Ints W a n l:=by
 rcases open_ints Tryz.underlying22 Tryz.underlying3 (by kernel_rfl) h with ⟨hcs,_⟩ | ⟨a,len,cap,zs,hcs,_,hl,hm,hz,_,hcell,_⟩
 ·exact ⟨none,0,0,[],hcs,Ints.nil _ _⟩
 ·simp only [if_true] at hz
  refine ⟨some a,len,cap,zs.take len,hcs,⟨by simp;omega,λh0=>?_,by omega,λi hi=>?_⟩⟩
  ·exact congrArg some (plain_of (hcell 0 (by omega)))
  ·rw [nth_take_getD _ _ _ hi]
   exact add_cell (hcell i (by omega))
theorem opened_mat (h : DataW.trod enc Tryz.prog W 0 (λ_=>true) held fuel 25 cs=some x) : ∃a n c L,cs=[.slice a n c]/\Mat W a n L:=by
 rcases Go.Deep.open_int_rows Tryz.underlying25 Tryz.underlying22 Tryz.underlying3 (by kernel_rfl) (by kernel_rfl) h with ⟨hcs,_⟩ | ⟨a,len,cap,A,Ln,C,Z,hcs,_,hl,hm,_,hrows⟩
 ·exact ⟨none,0,0,[],hcs,⟨rfl,λh0=>by omega,by unfold maxLen;omega,λi hi=>by omega⟩⟩
 ·refine ⟨some a,len,cap,(List.range len).map (λr=>(Z r).take (Ln r)),hcs,⟨by simp,λh0=>congrArg some (plain_of (hrows 0 (by omega)).1),by omega,λr hr=>?_⟩⟩
  obtain ⟨h1,h2,h3,h4,_,h5,h6⟩:=hrows r (by omega)
  refine ⟨A r,Ln r,C r,add_cell h1,?_⟩
  have e : nthR ((List.range len).map (λr=>(Z r).take (Ln r))) r=(Z r).take (Ln r):=by
   unfold nthR
   simp [List.getD_eq_getElem?_getD,List.getElem?_map,List.getElem?_range hr]
  rw [e]
  match hA : A r,h5,h6 with
  | none,h5,_ =>
   have h0 : Ln r=0:=by have:=h5 rfl;omega
   rw [h0]
   exact Ints.nil _ _
  | some b,_,h6 =>
   obtain ⟨_,h7⟩:=h6 b rfl
   exact ⟨by simp;omega,λh0=>congrArg some (plain_of (h7 0 (by omega))),by omega,λi hi=>by
    rw [nth_take_getD _ _ _ hi]
    exact add_cell (h7 i (by omega))⟩
end
section
variable {H : Type} {enc : TypeId × Value->H} {W : World} {held : Bool} {b0 : Nat} {v : Value} {d : DataW H} {p : List MemPlace}
theorem arg_code (hv : Value.okWide Tryz.prog W .any b0 27 v) (h : DataW.Trod enc Tryz.prog W 0 (λ_=>true) held 27 v d p) :
  ∃(P M : Int) (am : Option Addr) (mn cm : Nat) (mod : List Int) (N : Int) (a : Option Addr) (n c : Nat) (L : List (List Int)),v = .agg #[.int .i64 P,.int .i64 M,.slice am mn cm,.int .i64 N,.slice a n c]/\Ints W am mn mod/\Mat W a n L:=by
 obtain ⟨cs,rfl,hsz⟩:=okWide_struct Tryz.underlying27 hv
 rw [show Tryz.prog.cellsOf 27 = 5 by kernel_rfl] at hsz
 obtain ⟨l⟩:=cs
 match l,hsz with
 | [v0,v1,v2,v3,v4],_ =>
 obtain ⟨fuel,hf⟩:=h
 obtain ⟨xs,n0,_,_,_,hlen,hfs⟩:=DataW.trod_struct Tryz.underlying27 hf
 obtain ⟨y0,y1,y2,rfl⟩ : ∃y0 y1 y2,xs=[y0,y1,y2]:=by
  match xs,hlen with
  | [y0,y1,y2],_=>exact ⟨y0,y1,y2,rfl⟩
 have k24 : Tryz.prog.cellsOf 24 = 3:=by kernel_rfl
 have k3 : Tryz.prog.cellsOf 3 = 1:=by kernel_rfl
 have k22 : Tryz.prog.cellsOf 22 = 1:=by kernel_rfl
 have k25 : Tryz.prog.cellsOf 25 = 1:=by kernel_rfl
 have g0 : DataW.trod enc Tryz.prog W 0 (λ_=>true) held n0 24 [v0,v1,v2]=some y0:=by simpa [Value.cells,k24] using hfs 0 _ rfl
 have g1 : DataW.trod enc Tryz.prog W 0 (λ_=>true) held n0 3 [v3]=some y1:=by simpa [Value.cells,k3] using hfs 1 _ rfl
 have g2 : DataW.trod enc Tryz.prog W 0 (λ_=>true) held n0 25 [v4]=some y2:=by simpa [Value.cells,k25] using hfs 2 _ rfl
 obtain ⟨xs',n1,_,_,_,hlen',hfs'⟩:=DataW.trod_struct Tryz.underlying24 g0
 obtain ⟨z0,z1,z2,rfl⟩ : ∃z0 z1 z2,xs'=[z0,z1,z2]:=by
  match xs',hlen' with
  | [z0,z1,z2],_=>exact ⟨z0,z1,z2,rfl⟩
 have q0 : DataW.trod enc Tryz.prog W 0 (λ_=>true) held n1 3 [v0]=some z0:=by simpa [k3] using hfs' 0 _ rfl
 have q1 : DataW.trod enc Tryz.prog W 0 (λ_=>true) held n1 3 [v1]=some z1:=by simpa [k3] using hfs' 1 _ rfl
 have q2 : DataW.trod enc Tryz.prog W 0 (λ_=>true) held n1 22 [v2]=some z2:=by simpa [k22] using hfs' 2 _ rfl
 obtain ⟨P,eP,_,_⟩:=DataW.trod_int Tryz.underlying3 q0
 obtain ⟨M,eM,_,_⟩:=DataW.trod_int Tryz.underlying3 q1
 obtain ⟨N,eN,_,_⟩:=DataW.trod_int Tryz.underlying3 g1
 obtain ⟨am,mn,cm,mod,eI,hI⟩:=opened_ints q2
 obtain ⟨a,n,c,L,eL,hL⟩:=opened_mat g2
 simp at eP eM eN eI eL
 subst eP eM eN eI eL
 exact ⟨P,M,am,mn,cm,mod,N,a,n,c,L,rfl,hI,hL⟩
end
end

section
open Go.ChangeShapes Go.WideShapes Go.ChangeAt Go.RowKit
section
variable {H : Type} {enc : TypeId × Value->H} {W : World} {held : Bool} {fuel : Nat} {cs : List Value} {x : DataW H × List MemPlace}
theorem opened_matC (h : DataW.trod enc Tryz.prog W 0 (λ_=>true) held fuel 25 cs=some x) : ∃a n c L,cs=[.slice a n c]/\Mat W a n L/\n<=c:=by
 obtain ⟨a,n,c,L,e,hL⟩:=opened_mat h
 refine ⟨a,n,c,L,e,hL,?_⟩
 rcases Go.Deep.open_int_rows Tryz.underlying25 Tryz.underlying22 Tryz.underlying3 (by kernel_rfl) (by kernel_rfl) h with ⟨hcs,_⟩ | ⟨a',len,cap,_,_,_,_,hcs,_,hl,_⟩
 ·rw [hcs] at e
  simp at e
  omega
 ·rw [hcs] at e
  simp at e
  omega
end
section
variable {H : Type} {enc : TypeId × Value->H} {W : World} {held : Bool} {b0 : Nat} {v : Value} {d : DataW H} {p : List MemPlace}
end
end

section
set_option maxRecDepth 100000

open Go.ChangeShapes Go.WideShapes Go.ChangeAt Go.RowKit
section
variable {H : Type} {enc : TypeId × Value->H} {W : World} {held : Bool} {b0 : Nat} {v : Value} {d : DataW H} {p : List MemPlace}
theorem arg_dcert (hv : Value.okWide Tryz.prog W .any b0 49 v) (h : DataW.Trod enc Tryz.prog W 0 (λ_=>true) held 49 v d p) :
  ∃(ax : Option Addr) (nx cx : Nat) (x : List Int) (at' : Option Addr) (nt ct : Nat) (ts : List (List Int)),v = .agg #[.slice ax nx cx,.slice at' nt ct]/\Ints W ax nx x/\Mat W at' nt ts/\nt<=ct:=by
 obtain ⟨cs,rfl,hsz⟩:=okWide_struct Tryz.underlying49 hv
 rw [show Tryz.prog.cellsOf 49 = 2 by kernel_rfl] at hsz
 obtain ⟨l⟩:=cs
 match l,hsz with
 | [v0,v1],_ =>
 obtain ⟨fuel,hf⟩:=h
 obtain ⟨xs,n0,_,_,_,hlen,hfs⟩:=DataW.trod_struct Tryz.underlying49 hf
 obtain ⟨y0,y1,rfl⟩ : ∃y0 y1,xs=[y0,y1]:=by
  match xs,hlen with
  | [y0,y1],_=>exact ⟨y0,y1,rfl⟩
 have k22 : Tryz.prog.cellsOf 22 = 1:=by kernel_rfl
 have k25 : Tryz.prog.cellsOf 25 = 1:=by kernel_rfl
 have k47 : Tryz.prog.cellsOf 47 = 1:=by kernel_rfl
 have g0 : DataW.trod enc Tryz.prog W 0 (λ_=>true) held n0 22 [v0]=some y0:=by simpa [Value.cells,k22] using hfs 0 _ rfl
 have g1 : DataW.trod enc Tryz.prog W 0 (λ_=>true) held n0 47 [v1]=some y1:=by simpa [Value.cells,k22,k47] using hfs 1 _ rfl
 obtain ⟨ax,nx,cx,x,e,hI⟩:=opened_ints g0
 obtain ⟨xs2,n2,_,_,_,hlen2,hfs2⟩:=DataW.trod_struct Tryz.underlying47 g1
 obtain ⟨z0,rfl⟩ : ∃z0,xs2=[z0]:=by
  match xs2,hlen2 with
  | [z0],_=>exact ⟨z0,rfl⟩
 have g2 : DataW.trod enc Tryz.prog W 0 (λ_=>true) held n2 25 [v1]=some z0:=by simpa [Value.cells,k25] using hfs2 0 _ rfl
 obtain ⟨ay,ny,cy,ts,e2,hM,hc⟩:=opened_matC g2
 simp at e e2
 subst e e2
 exact ⟨ax,nx,cx,x,ay,ny,cy,ts,rfl,hI,hM,hc⟩
end
end

end Go.Proofs.YtcfmiocdlcapoaaGreat
