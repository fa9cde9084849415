import Derived.Test.YtcfmiocdlcapoaaGreatK12
import Derived.Test.YtcfmiocdlcapoaaGreatK16
import Derived.Test.YtcfmiocdlcapoaaGreatK17
import Derived.Test.YtcfmiocdlcapoaaGreatK10
import Derived.Test.YtcfmiocdlcapoaaGreatK1
import Derived.Test.YtcfmiocdlcapoaaGreatK4
import Derived.WalkKit
import Derived.ProofKit
import Derived.OpenShut
import Derived.ShutString
import Derived.ChangeOld
import Derived.Below
import Derived.Deep.Matrix
namespace Go.Proofs.YtcfmiocdlcapoaaGreat
set_option linter.unusedVariables false
set_option linter.unusedSimpArgs false
set_option linter.unusedSectionVars false
set_option maxRecDepth 100000
set_option maxHeartbeats 3200000
open Go.RowKit
theorem G7 {a : OA} {n c : Nat} {l : Lz} (w : World) (h : Ints w a n l) : bZ (w.alloc (.cells #[.slice a n c] 22)) (some ⟨w.heap.size,0,none⟩) 1 [l] :=
 ⟨rfl,λ_=>rfl,by unfold maxLen;omega,λi hi=>by
  obtain rfl : i=0:=by omega
  exact ⟨a,n,c,bs _ _ _ rfl,h.ah (an _ _)⟩⟩
theorem Bk (N : Int) (a : OA) (n c : Nat) (l : Lz) (w : World) (hi : Ints w a n l) :
  Calls Tryz.prog 33 #[.slice a n c,.int .i64 N] w (lp w (bF N l)):=by
 have Hlen:=Z5 hi.len
 have hpl:=hi.pl
 have hmax:=hi.max
 unfold maxLen at hmax
 go_enter Tryz.func33,Tryz.ntmps33
 go_wp2_with fail
 go_loopw [5] (λiv wr=>∃k : Nat,k<=n/\iv = .int .i64 k/\Hid (mg N l k=true)/\bd w wr) (λiv _=>n - (intOf iv).toNat)
 case atStart=>exact ⟨0,Nat.zero_le _,rfl,by show _=_;simp [mg],bd.refl _⟩
 case round =>
  obtain ⟨j,hj,rfl,hok,hd⟩:=hrel
  have hir:=hi.drawn hd
  by_cases hlt2 : j<n
  ·have cj:=hir.cell j hlt2
   have hjj : (j : Int)<n:=by omega
   have hbad : dS N l j=false->bF N l=false:=λhb=>o7 (by rw [Hlen.out];exact hlt2) hb
   have Hbad:=Z5 hbad
   clear hbad
   by_cases h0 : 0<=nth l j
   ·have d1 : decide (nth l j<0)=false:=by simp;omega
    by_cases h1 : nth l j<N
    ·have d2 : decide (N<=nth l j)=false:=by simp;omega
     by_cases hj0 : j=0
     ·have Hgood : Hid (dS N l j=true):=by show _=_;unfold dS;rw [decide_eq_true h0,decide_eq_true h1];simp [hj0]
      have d3 : decide (0<j)=false:=by simp;omega
      clear hj0
      go_wp2_with fail
      go_quiet (fail)
      go_wp2
      go_roundw
      case rel=>exact ⟨j+1,by omega,by go_num,eE hok.out Hgood.out,hd.drewN _⟩
      case measure=>simp [intOf] <;> omega
     ·have cp:=hir.cell (j - 1) (by omega)
      have e1 : ((j : Int) - 1).toNat=j - 1:=by omega
      have d3 : decide (0<j)=true:=by simp;omega
      have d4 : (0 : Int)<=(j : Int) - 1:=by omega
      have d5 : (1 : Int)<=(j : Int):=by omega
      have d6 : (j : Int) - 1<n:=by omega
      have kw : IntKind.i64.wrap ((j : Int) - 1)=(j : Int) - 1:=IntWalk.i64_in _ (by omega)
      by_cases h2 : nth l (j - 1)<nth l j
      ·have Hgood : Hid (dS N l j=true):=by show _=_;unfold dS;simp [h0,h1,h2]
       have h2' : decide (nth l j<=nth l (j - 1))=false:=by simp;omega
       clear hj0
       go_wp2_with fail
       go_quiet (fail)
       go_wp2
       go_roundw
       case rel=>exact ⟨j+1,by omega,by go_num,eE hok.out Hgood.out,hd.drewN _⟩
       case measure=>simp [intOf] <;> omega
      ·have Hb : Hid (bF N l=false):=Hbad.out (by unfold dS;simp [h2,hj0])
       have h2' : decide (nth l j<=nth l (j - 1))=true:=by simp;omega
       clear hj0
       go_wp2_with fail
       go_quiet (fail)
       go_wp2
       go_ret
       exact ⟨by rw [Hb.out];rfl,hd.drewN _⟩
    ·have Hb : Hid (bF N l=false):=Hbad.out (by unfold dS;simp [h1])
     have d2 : decide (N<=nth l j)=true:=by simp;omega
     go_wp2_with fail
     go_quiet (fail)
     go_wp2
     go_ret
     exact ⟨by rw [Hb.out];rfl,hd.drewN _⟩
   ·have Hb : Hid (bF N l=false):=Hbad.out (by unfold dS;simp [h0])
    have d1 : decide (nth l j<0)=true:=by simp;omega
    go_wp2_with fail
    go_quiet (fail)
    go_wp2
    go_ret
    exact ⟨by rw [Hb.out];rfl,hd.drewN _⟩
  ·obtain rfl : j=n:=by omega
   have Hg : Hid (bF N l=true):=by show _=_;rw [bF,Hlen.out];exact hok.out
   go_wp2_with fail
   go_ret
   exact ⟨by rw [Hg.out];rfl,hd⟩
def swp (X : Lz) (j : Nat) : Lz:=(X.set j (nth X (j - 1))).set (j - 1) (nth X j)
theorem Cf {X : Lz} {j : Nat} (h0 : 0<j) (hj : j<X.length) (i : Nat) : nth (swp X j) i=if i=j - 1 then nth X j else if i=j then nth X (j - 1) else nth X i:=by
 unfold swp
 rw [ff _ _ _ _ (by simp;omega),ff _ _ _ _ hj]
theorem F6 {X : Lz} {j : Nat} (h0 : 0<j) (hj : j<X.length) : (swp X j).Perm X:=by
 obtain ⟨A,u,v,C,rfl,hA⟩ : ∃A u v C,X=A ++ u :: v :: C/\A.length+1=j:=by
  refine ⟨X.take (j - 1),X[j - 1],X[j],X.drop (j+1),?_,by rw [List.length_take];omega⟩
  have h1 : X.drop (j - 1)=X[j - 1] :: X.drop j:=by
   rw [List.drop_eq_getElem_cons (by omega)]
   congr 2;omega
  rw [<- List.drop_eq_getElem_cons hj,<- h1,List.take_append_drop]
 subst hA
 have h1 : nth (A ++ u :: v :: C) A.length=u:=by unfold nth;simp
 have h2 : nth (A ++ u :: v :: C) (A.length+1)=v:=by unfold nth;simp [List.getElem?_append]
 have h3 : swp (A ++ u :: v :: C) (A.length+1)=A ++ v :: u :: C:=by
  unfold swp
  rw [Nat.add_sub_cancel,h1,h2]
  simp [List.set_append]
 rw [h3]
 exact List.Perm.append_left A (List.Perm.swap u v C)
def zK (X : Lz) (k : Nat) : Prop:=∀p q,p<q->q<k->nth X p<=nth X q
def zL (X : Lz) (i j : Nat) : Prop:=∀p q,p<q->q<=i->q ≠ j->nth X p<=nth X q
theorem zK.start {X : Lz} {i : Nat} (h : zK X i) : zL X i i:=λp q h1 h2 h3=>h p q h1 (by omega)
theorem zL.step {X : Lz} {i j : Nat} (h : zL X i j) (h0 : 0<j) (hji : j<=i) (hj : j<X.length) (hlt : nth X j<nth X (j - 1)) : zL (swp X j) i (j - 1):=λp q h1 h2 h3=>by
 rw [Cf h0 hj,Cf h0 hj]
 by_cases e1 : q=j
 ·subst e1
  rw [if_neg h3,if_pos rfl]
  by_cases e2 : p=q - 1
  ·rw [if_pos e2];omega
  ·rw [if_neg e2,if_neg (by omega)]
   exact h p (q - 1) (by omega) (by omega) (by omega)
 ·rw [if_neg h3,if_neg e1]
  by_cases e2 : p=j - 1
  ·rw [if_pos e2]
   exact h j q (by omega) h2 e1
  ·rw [if_neg e2]
   by_cases e3 : p=j
   ·rw [if_pos e3]
    exact h (j - 1) q (by omega) h2 e1
   ·rw [if_neg e3]
    exact h p q h1 h2 e1
theorem zL.done {X : Lz} {i j : Nat} (h : zL X i j) (hji : j<=i) (hd : j=0\/nth X (j - 1)<=nth X j) : zK X (i+1):=λp q h1 h2=>by
 by_cases e : q=j
 ·subst e
  rcases hd with hd | hd
  ·omega
  ·by_cases e2 : p=q - 1
   ·rw [e2];exact hd
   ·exact Int.le_trans (h p (q - 1) (by omega) (by omega) (by omega)) hd
 ·exact h p q h1 (by omega) e
theorem zK.sort {X Q : Lz} {k : Nat} (h : zK X k) (hk : X.length<=k) (hp : X.Perm Q) : X=bP Q:=by
 refine lR ?_ hp
 rw [List.pairwise_iff_getElem]
 intro i j hi hj hij
 have:=h i j hij (by omega)
 rwa [ai hi,ai hj] at this
theorem GV {c N i c' : Nat} (hi : 1<=i) (h : c * N=i * c') (hc : 1<=c) : 1<=i / Nat.gcd c i/\c / Nat.gcd c i * (N / (i / Nat.gcd c i))=c':=by
 obtain ⟨g,hg⟩ : ∃g,Nat.gcd c i=g:=⟨_,rfl⟩
 have hgp : 0<g:=by rw [<- hg];exact Nat.gcd_pos_of_pos_right _ (by omega)
 obtain ⟨a,ha⟩ : g ∣ c:=by rw [<- hg];exact Nat.gcd_dvd_left c i
 obtain ⟨b,hb⟩ : g ∣ i:=by rw [<- hg];exact Nat.gcd_dvd_right c i
 have hcop : Nat.Coprime b a:=by
  have h1:=Nat.coprime_div_gcd_div_gcd (m:=c) (n:=i) (by rw [hg];exact hgp)
  rw [hg,ha,hb,Nat.mul_div_cancel_left _ hgp,Nat.mul_div_cancel_left _ hgp] at h1
  exact Nat.Coprime.symm h1
 rw [hg,ha,hb,Nat.mul_div_cancel_left _ hgp,Nat.mul_div_cancel_left _ hgp]
 have hbp : 1<=b:=by
  rcases Nat.eq_zero_or_pos b with e | e
  ·rw [e] at hb;omega
  ·exact e
 have h2 : a * N=b * c':=by
  have h3 : g * (a * N)=g * (b * c'):=by rw [<- Nat.mul_assoc,<- Nat.mul_assoc,<- ha,<- hb];exact h
  exact Nat.eq_of_mul_eq_mul_left hgp h3
 have h4 : b ∣ N:=hcop.dvd_of_dvd_mul_left (by rw [h2];exact Nat.dvd_mul_right b c')
 obtain ⟨t,ht⟩:=h4
 refine ⟨hbp,?_⟩
 rw [ht,Nat.mul_div_cancel_left _ hbp]
 rw [ht,<- Nat.mul_assoc,Nat.mul_comm a b,Nat.mul_assoc] at h2
 exact Nat.eq_of_mul_eq_mul_left hbp h2
theorem FM (L L2 : Ll) (i : Nat) : aj (L ++ L2) i=if i<L.length then aj L i else aj L2 (i - L.length):=by
 simp only [aj,List.getD_eq_getElem?_getD]
 by_cases h1 : i<L.length
 ·rw [if_pos h1,List.getElem?_append_left h1]
 ·rw [if_neg h1,List.getElem?_append_right (by omega)]
theorem Fp (L L2 : La) (i : Nat) : aM (L ++ L2) i=if i<L.length then aM L i else aM L2 (i - L.length):=by
 simp only [aM,List.getD_eq_getElem?_getD]
 by_cases h1 : i<L.length
 ·rw [if_pos h1,List.getElem?_append_left h1]
 ·rw [if_neg h1,List.getElem?_append_right (by omega)]
theorem aU.Io {w w' : World} {B C : Nat} {a : OA} {n c : Nat} {R : La} {L : Ll} (h : aU w B a n c R L)
  {a2 : OA} {n2 c2 : Nat} {R2 : La} {L2 : Ll} (h2 : aU w C a2 n2 c2 R2 L2) (hBC : B<=C) (hsep : ∀b,bL a R b->b<C)
  {a' : OA} {c' : Nat} (hown : w'.ownsRow B 22 1 (.slice a' (n+n2) c') (n+n2) (List.zipWith e9 R L ++ List.zipWith e9 R2 L2)) (hg : w.grownBy w' (Value.slice a n c).ownBlock)
  (hap : ∀b,b<w.heap.size->db a b->db a' b) : aU w' B a' (n+n2) c' (R ++ R2) (L ++ L2):=by
 have hn' : 0<n+n2->a' ≠ none:=by
  intro hp e
  obtain ⟨x,y,hv,hp'⟩:=Pl.own hown
  cases hv
  have:=hp' hp
  rw [e] at this;cases this
 have rowKeep : ∀ {x : OA} {cx m : Nat} {xs : List Value},w.ownsRow B 3 1 (.slice x m cx) m xs->(x ≠ none->db a (ablk x))->w'.ownsRow B 3 1 (.slice x m cx) m xs:=by
  intro x cx m xs ho h2
  exact Br ho λhx=>hg.block _ (aR ho hx).2 λe=>(h2 hx).own n c e.symm
 have oA : ∀i,i<n->(aM R i).1 ≠ none->db a (ablk (aM R i).1):=λi hi hx=>by
  rcases h.sD i hi with h2 | h2
  ·exact absurd h2 hx
  ·exact .inr λe=>h2 e.symm
 have lo2 : ∀i,i<n2->(aM R2 i).1 ≠ none->C<=ablk (aM R2 i).1:=λi hi hx=>(aR (h2.row i hi) hx).1
 have aC : a ≠ none->ablk a<C:=λhx=>hsep _ (.inl ⟨hx,rfl⟩)
 have rC : ∀i,i<n->(aM R i).1 ≠ none->ablk (aM R i).1<C:=λi hi hx=>hsep _ (.inr ⟨i,by rw [h.rl];exact hi,hx,rfl⟩)
 have oA2 : ∀i,i<n2->(aM R2 i).1 ≠ none->db a (ablk (aM R2 i).1):=λi hi hx=>by
  by_cases ha : a=none
  ·exact .inl ha
  ·have:=aC ha;have:=lo2 i hi hx;exact .inr (by omega)
 have toA : 0<n+n2->∀ {x : OA} {cx m : Nat} {xs : List Value},w.ownsRow B 3 1 (.slice x m cx) m xs->(x ≠ none->db a (ablk x))->db x (ablk a'):=by
  intro hp x cx m xs ho h2
  by_cases hx : x=none
  ·exact .inl hx
  ·rcases hap _ (aR ho hx).2 (h2 hx) with h3 | h3
   ·exact absurd h3 (hn' hp)
   ·exact .inr λe=>h3 e.symm
 have ezip : List.zipWith e9 (R ++ R2) (L ++ L2)=List.zipWith e9 R L ++ List.zipWith e9 R2 L2:=List.zipWith_append (by rw [h.rl,h.ll])
 have eL : ∀i,aj (L ++ L2) i=if i<n then aj L i else aj L2 (i - n):=λi=>by rw [FM,h.ll]
 have eA : ∀i,aM (R ++ R2) i=if i<n then aM R i else aM R2 (i - n):=λi=>by rw [Fp,h.rl]
 refine ⟨by simp [h.rl,h2.rl],by simp [h.ll,h2.ll],by rw [ezip];exact hown,λi hi=>?_,λi hi=>?_,λi j hi hj hij=>?_⟩
 ·rw [eL,eA]
  by_cases h1 : i<n
  ·simp only [if_pos h1]
   exact rowKeep (h.row i h1) (oA i h1)
  ·simp only [if_neg h1]
   exact rowKeep (aP (h2.row (i - n) (by omega)) hBC) (oA2 (i - n) (by omega))
 ·rw [eA]
  by_cases h1 : i<n
  ·rw [if_pos h1]
   exact toA (by omega) (h.row i h1) (oA i h1)
  ·rw [if_neg h1]
   exact toA (by omega) (aP (h2.row (i - n) (by omega)) hBC) (oA2 (i - n) (by omega))
 ·rw [eA,eA]
  by_cases h1 : i<n <;> by_cases h3 : j<n
  ·rw [if_pos h1,if_pos h3];exact h.sep i j h1 h3 hij
  ·rw [if_pos h1,if_neg h3]
   by_cases hx : (aM R i).1=none
   ·exact .inl hx
   ·refine .inr ?_
    by_cases hy : (aM R2 (j - n)).1=none
    ·exact .inl hy
    ·have:=rC i h1 hx;have:=lo2 (j - n) (by omega) hy
     exact .inr (by omega)
  ·rw [if_neg h1,if_pos h3]
   by_cases hx : (aM R2 (i - n)).1=none
   ·exact .inl hx
   ·refine .inr ?_
    by_cases hy : (aM R j).1=none
    ·exact .inl hy
    ·have:=rC j h3 hy;have:=lo2 (i - n) (by omega) hx
     exact .inr (by omega)
  ·rw [if_neg h1,if_neg h3];exact h2.sep (i - n) (j - n) (by omega) (by omega) (by omega)
def gZ (w : World) (e : Ending) (w' : World) : Prop:=∃z,e = .returned (.bool z)/\Below w.heap.size w w'
theorem qZ (a : OA) (n c K : Nat) (L : Ll) (w : World) (hi : bZ w a n L) (hK : K<=100000) :
  Calls Tryz.prog 63 #[.agg #[.int .i64 0,.slice a n c],.int .i64 K] w (gZ w):=by
 have Hlen:=Z5 hi.len
 have hpl:=hi.pl
 have hmax:=hi.max
 unfold maxLen at hmax
 go_enter Tryz.func63,Tryz.ntmps63
 go_upto_region 1 with fail
 obtain ⟨W,hW⟩ : ∃W : World,W=w.alloc (.cells #[.int .i64 0,.slice a n c] 82):=⟨_,rfl⟩
 rw [<- hW]
 have hbW : Below w.heap.size w W:=by rw [hW];exact an _ _
 have x0 : aV W w.heap.size [.int .i64 0,.slice a n c]:=by rw [hW];exact aV.new _ _ _ rfl
 have c0:=x0.cell 0 rfl
 have c1:=x0.cell 1 rfl
 have hiW:=hi.ah hbW
 have HbW:=Z5 hbW
 clear hW x0 hi hbW
 by_cases h1 : K<n
 ·have d1 : decide (K<n)=true:=by simpa using h1
  have d1' : decide ((K : Int)<n)=true:=by simp;omega
  go_wp2_with fail
  go_ret
  exact ⟨_,rfl,HbW.out⟩
 ·have d1 : decide (K<n)=false:=by simpa using h1
  have d1' : decide ((K : Int)<n)=false:=by simp;omega
  go_wp2_with fail
  go_loopw [5,6] (λlv iv wr=>∃k m : Nat,k<=n/\m<=K/\lv = .int .i64 m/\iv = .int .i64 k/\wr=W) (λ_ iv _=>n - (intOf iv).toNat)
  case atStart=>exact ⟨0,K - n,Nat.zero_le _,by omega,by go_num,rfl,rfl⟩
  case round =>
   obtain ⟨k,m,hk,hm,rfl,rfl,rfl⟩:=hrel
   by_cases hlt : k<n
   ·obtain ⟨ra,rn,rc,hcell,hrow⟩:=hiW.cell k hlt
    by_cases h2 : m<rn
    ·have d2 : decide (m<rn)=true:=by simpa using h2
     have d2' : decide ((m : Int)<rn)=true:=by simp;omega
     go_wp2_with fail
     go_ret
     exact ⟨_,rfl,HbW.out⟩
    ·have d2 : decide (m<rn)=false:=by simpa using h2
     have d2' : decide ((m : Int)<rn)=false:=by simp;omega
     have d3 : (rn : Int)<=m:=by omega
     go_wp2_with fail
     go_roundw
     case rel=>exact ⟨k+1,m - rn,by omega,by omega,by go_num,by go_num,by first | rfl | trivial⟩
     case measure=>simp [intOf] <;> omega
   ·obtain rfl : k=n:=by omega
    go_wp2_with fail
    go_ret
    exact ⟨_,rfl,HbW.out⟩
theorem kb (P M : Int) (am : OA) (mn cm : Nat) (N : Int) (a : OA) (n c K : Nat) (L : Ll) (w : World) (hi : bZ w a n L) (hK : K<=100000) :
  Calls Tryz.prog 28 #[.agg #[.int .i64 P,.int .i64 M,.slice am mn cm,.int .i64 N,.slice a n c],.int .i64 K] w (gZ w):=by
 have H:=Z5 (λV hV=>qZ a n c K L V (hi.ah hV) hK : ∀V,Below w.heap.size w V->_)
 clear hi
 go_enter Tryz.func28,Tryz.ntmps28
 go_wp2_with fail
 have hbW:=an w (.cells #[.int .i64 P,.int .i64 M,.slice am mn cm,.int .i64 N,.slice a n c] 27)
 refine (H.out _ hbW).mono ?_
 rintro e w1 ⟨z,rfl,hb1⟩
 have hF:=Below.next hbW hb1
 go_wp2_with fail
 go_ret
 exact ⟨z,rfl,hF⟩
section
open Go.ChangeShapes Go.WideShapes Go.ChangeAt Go.RowKit
theorem Tryz.own : ownKnob Tryz.prog.godebug=none:=by kernel_rfl
theorem Tryz.laid : laidOutB Tryz.prog=true:=by kernel_rfl
section
variable {H : Type} {enc : TypeId × Value->H} {W : World} {held : Bool} {fuel : Nat} {cs : List Value} {x : DataW H × List MemPlace}
theorem jX {a : Addr} {v : Value} {i : Nat} (h : W.cell? (a.add i)=some v) : W.cell? ⟨a.block,a.off+i,none⟩=some v:=by
 have hs:=World.cell?_spot h
 obtain ⟨b,o,s⟩:=a
 by_cases h0 : i=0
 ·subst h0
  simp only [Addr.add,if_true] at hs h
  subst hs
  exact h
 ·simpa [Addr.add,h0] using h
theorem jI {a : Addr} {v : Value} (h : W.cell? (a.add 0)=some v) : a=⟨a.block,a.off,none⟩:=by
 have hs:=World.cell?_spot h
 obtain ⟨b,o,s⟩:=a
 simp only [Addr.add,if_true] at hs
 subst hs
 rfl
theorem gy (l : Lz) (n i : Nat) (h : i<n) : nth (l.take n) i=l.getD i 0:=by
 unfold nth
 simp only [List.getD_eq_getElem?_getD,List.getElem?_take]
 rw [if_pos h]
theorem mA (h : DataW.trod enc Tryz.prog W 0 (λ_=>true) held fuel 22 cs=some x) : ∃a n c l,cs=[.slice a n c]/\Ints W a n l:=by
 rcases open_ints Tryz.underlying22 Tryz.underlying3 (by kernel_rfl) h with ⟨hcs,_⟩ | ⟨a,len,cap,zs,hcs,_,hl,hm,hz,_,hcell,_⟩
 ·exact ⟨none,0,0,[],hcs,Ints.nil _ _⟩
 ·simp only [if_true] at hz
  refine ⟨some a,len,cap,zs.take len,hcs,⟨by simp;omega,λh0=>?_,by omega,λi hi=>?_⟩⟩
  ·exact congrArg some (jI (hcell 0 (by omega)))
  ·rw [gy _ _ _ hi]
   exact jX (hcell i (by omega))
theorem oJ (h : DataW.trod enc Tryz.prog W 0 (λ_=>true) held fuel 25 cs=some x) : ∃a n c L,cs=[.slice a n c]/\bZ W a n L:=by
 rcases Go.Deep.open_int_rows Tryz.underlying25 Tryz.underlying22 Tryz.underlying3 (by kernel_rfl) (by kernel_rfl) h with ⟨hcs,_⟩ | ⟨a,len,cap,A,Ln,C,Z,hcs,_,hl,hm,_,hrows⟩
 ·exact ⟨none,0,0,[],hcs,⟨rfl,λh0=>by omega,by unfold maxLen;omega,λi hi=>by omega⟩⟩
 ·refine ⟨some a,len,cap,(List.range len).map (λr=>(Z r).take (Ln r)),hcs,⟨by simp,λh0=>congrArg some (jI (hrows 0 (by omega)).1),by omega,λr hr=>?_⟩⟩
  obtain ⟨h1,h2,h3,h4,_,h5,h6⟩:=hrows r (by omega)
  refine ⟨A r,Ln r,C r,jX h1,?_⟩
  have e : aj ((List.range len).map (λr=>(Z r).take (Ln r))) r=(Z r).take (Ln r):=by
   unfold aj
   simp [List.getD_eq_getElem?_getD,List.getElem?_map,List.getElem?_range hr]
  rw [e]
  match hA : A r,h5,h6 with
  | none,h5,_ =>
   have h0 : Ln r=0:=by have:=h5 rfl;omega
   rw [h0]
   exact Ints.nil _ _
  | some b,_,h6 =>
   obtain ⟨_,h7⟩:=h6 b rfl
   exact ⟨by simp;omega,λh0=>congrArg some (jI (h7 0 (by omega))),by omega,λi hi=>by
    rw [gy _ _ _ hi]
    exact jX (h7 i (by omega))⟩
end
section
variable {H : Type} {enc : TypeId × Value->H} {W : World} {held : Bool} {b0 : Nat} {v : Value} {d : DataW H} {p : List MemPlace}
theorem sR (hv : Value.okWide Tryz.prog W .any b0 27 v) (h : DataW.Trod enc Tryz.prog W 0 (λ_=>true) held 27 v d p) :
  ∃(P M : Int) (am : OA) (mn cm : Nat) (mod : Lz) (N : Int) (a : OA) (n c : Nat) (L : Ll),v = .agg #[.int .i64 P,.int .i64 M,.slice am mn cm,.int .i64 N,.slice a n c]/\Ints W am mn mod/\bZ W a n L:=by
 obtain ⟨cs,rfl,hsz⟩:=okWide_struct Tryz.underlying27 hv
 rw [show Tryz.prog.cellsOf 27 = 5 by kernel_rfl] at hsz
 obtain ⟨l⟩:=cs
 match l,hsz with
 | [v0,v1,v2,v3,v4],_ =>
 obtain ⟨fuel,hf⟩:=h
 obtain ⟨xs,n0,_,_,_,hlen,hfs⟩:=DataW.trod_struct Tryz.underlying27 hf
 obtain ⟨y0,y1,y2,rfl⟩ : ∃y0 y1 y2,xs=[y0,y1,y2]:=by
  match xs,hlen with
  | [y0,y1,y2],_=>exact ⟨y0,y1,y2,rfl⟩
 have k24 : Tryz.prog.cellsOf 24 = 3:=by kernel_rfl
 have k3 : Tryz.prog.cellsOf 3 = 1:=by kernel_rfl
 have k22 : Tryz.prog.cellsOf 22 = 1:=by kernel_rfl
 have k25 : Tryz.prog.cellsOf 25 = 1:=by kernel_rfl
 have g0 : DataW.trod enc Tryz.prog W 0 (λ_=>true) held n0 24 [v0,v1,v2]=some y0:=by simpa [Value.cells,k24] using hfs 0 _ rfl
 have g1 : DataW.trod enc Tryz.prog W 0 (λ_=>true) held n0 3 [v3]=some y1:=by simpa [Value.cells,k3] using hfs 1 _ rfl
 have g2 : DataW.trod enc Tryz.prog W 0 (λ_=>true) held n0 25 [v4]=some y2:=by simpa [Value.cells,k25] using hfs 2 _ rfl
 obtain ⟨xs',n1,_,_,_,hlen',hfs'⟩:=DataW.trod_struct Tryz.underlying24 g0
 obtain ⟨z0,z1,z2,rfl⟩ : ∃z0 z1 z2,xs'=[z0,z1,z2]:=by
  match xs',hlen' with
  | [z0,z1,z2],_=>exact ⟨z0,z1,z2,rfl⟩
 have q0 : DataW.trod enc Tryz.prog W 0 (λ_=>true) held n1 3 [v0]=some z0:=by simpa [k3] using hfs' 0 _ rfl
 have q1 : DataW.trod enc Tryz.prog W 0 (λ_=>true) held n1 3 [v1]=some z1:=by simpa [k3] using hfs' 1 _ rfl
 have q2 : DataW.trod enc Tryz.prog W 0 (λ_=>true) held n1 22 [v2]=some z2:=by simpa [k22] using hfs' 2 _ rfl
 obtain ⟨P,eP,_,_⟩:=DataW.trod_int Tryz.underlying3 q0
 obtain ⟨M,eM,_,_⟩:=DataW.trod_int Tryz.underlying3 q1
 obtain ⟨N,eN,_,_⟩:=DataW.trod_int Tryz.underlying3 g1
 obtain ⟨am,mn,cm,mod,eI,hI⟩:=mA q2
 obtain ⟨a,n,c,L,eL,hL⟩:=oJ g2
 simp at eP eM eN eI eL
 subst eP eM eN eI eL
 exact ⟨P,M,am,mn,cm,mod,N,a,n,c,L,rfl,hI,hL⟩
end
end
end Go.Proofs.YtcfmiocdlcapoaaGreat
