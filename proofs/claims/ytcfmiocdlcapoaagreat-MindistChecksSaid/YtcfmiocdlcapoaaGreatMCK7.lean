/-  -/
import Derived.Test.YtcfmiocdlcapoaaGreatMCK6
import Derived.Test.YtcfmiocdlcapoaaGreatK32
import Derived.Test.YtcfmiocdlcapoaaGreatMCK5
import Derived.Test.YtcfmiocdlcapoaaGreatL2
import Derived.Test.YtcfmiocdlcapoaaGreatMCK1
import Derived.Test.YtcfmiocdlcapoaaGreatK31
import Derived.Test.YtcfmiocdlcapoaaGreatK28
import Derived.BigQuiet
namespace Go.Proofs.YtcfmiocdlcapoaaGreat
set_option linter.unusedVariables false
set_option linter.unusedSimpArgs false
set_option linter.unusedSectionVars false

section
set_option maxRecDepth 100000
set_option maxHeartbeats 4000000

open Go.RowKit
theorem rZero10_any (a : Option Addr) (n c : Nat) (l : List Int) (w : World) (hi : Ints w a n l) :
  Calls Tryz.prog 65 #[.slice a n c] w λe w'=>e = .returned (.bool (zerB l))/\w=w':=by
 have hpl:=hi.pl
 have hmax:=hi.max
 have Hl:=Lib.hid hi.len
 unfold maxLen at hmax
 go_enter Tryz.func65,Tryz.ntmps65
 go_wp2_with fail
 go_loop [3] (λiv=>∃k : Nat,k<=n/\iv = .int .i64 k/\Hid (∀j,j<k->nth l j=0)) (λiv=>n - (intOf iv).toNat)
 case atStart=>exact ⟨0,Nat.zero_le _,rfl,λj hj=>by omega⟩
 case round =>
  obtain ⟨k,hk,rfl,hno⟩:=hrel
  by_cases hlt : k<n
  ·have ck:=hi.cell k hlt
   by_cases h0 : nth l k=0
   ·have hd : (nth l k != 0)=false:=by simpa using h0
    have Hn : Hid (∀j,j<k+1->nth l j=0):=λj hj=>by
     by_cases e : j=k
     ·subst e;exact h0
     ·exact hno.out j (by omega)
    clear h0 hno
    go_wp2_with fail
    go_round
    case rel=>exact ⟨k+1,by omega,by go_num,Hn.out⟩
    case measure=>simp [intOf] <;> omega
   ·have hd : (nth l k != 0)=true:=by simpa using h0
    have Hz : Hid (zerB l=false):=by
     show _=_
     cases h : zerB l
     ·rfl
     ·exact absurd (zerB_nth.1 h k (by rw [Hl.out];exact hlt)) h0
    clear h0 hno
    go_wp2_with fail
    go_ret
    exact ⟨ret_bool Hz.out.symm,rfl⟩
  ·obtain rfl : k=n:=by omega
   have Hz : Hid (zerB l=true):=zerB_nth.2 λj hj=>hno.out j (by rw [<- Hl.out];exact hj)
   clear hno
   go_wp2_with fail
   go_ret
   exact ⟨ret_bool Hz.out.symm,rfl⟩
def pvL (R : List (List Int)) (k : Nat) : List Int:=(List.range k).map λ(i : Nat)=>((fnz (nthR R i) : Nat) : Int)
theorem pvL_succ (R : List (List Int)) (k : Nat) : pvL R (k+1)=pvL R k ++ [((fnz (nthR R k) : Nat) : Int)]:=by unfold pvL;rw [List.range_succ];simp
theorem pvL_len (R : List (List Int)) (k : Nat) : (pvL R k).length=k:=by simp [pvL]
theorem nth_pvL (R : List (List Int)) {k i : Nat} (h : i<k) : nth (pvL R k) i=((fnz (nthR R i) : Nat) : Int):=by
 rw [nth_getElem (by rw [pvL_len];exact h)]
 simp [pvL]
theorem rPivots10_any (a : Option Addr) (n c : Nat) (L : List (List Int)) (w : World) (hi : Mat w a n L) (hn : n<=1000000) :
  Calls Tryz.prog 240 #[.slice a n c] w λe w'=>∃a1 c1,e = .returned (.slice a1 n c1)/\Ints w' a1 n (pvL L n)/\Below w.heap.size w w':=by
 have hpl:=hi.pl
 have hmax:=hi.max
 unfold maxLen at hmax
 have Hi:=Lib.hid hi
 go_enter Tryz.func240,Tryz.ntmps240
 go_wp2_with fail
 go_loopw [3,4] (λov iv wr=>∃(k : Nat) (ao : Option Addr) (co : Nat),k<=n/\iv = .int .i64 k/\ov = .slice ao k co/\wr.ownsRow w.heap.size 3 1 (.slice ao k co) k ((pvL L k).map (Value.int .i64))/\Below w.heap.size w wr) (λ_ iv _=>n - (intOf iv).toNat)
 case atStart=>exact ⟨0,none,0,Nat.zero_le _,rfl,rfl,own_none,Below.refl _ _⟩
 case round =>
  obtain ⟨k,ao,co,hk,rfl,rfl,hown,hbr⟩:=hrel
  generalize wr=V at *
  by_cases hlt : k<n
  ·obtain ⟨rb,rn,rc,hcell,hrow⟩:=(Hi.out.keep hbr).cell k hlt
   have hplr:=hrow.pl
   have hmr:=hrow.max
   unfold maxLen at hmr
   have hrl:=hrow.len
   have Hst : Hid (pvL L (k+1)=pvL L k ++ [((fnz (nthR L k) : Nat) : Int)]):=pvL_succ L k
   obtain ⟨r,hr⟩ : ∃r,nthR L k=r:=⟨_,rfl⟩
   rw [hr] at Hst hrl hrow
   have Hrow:=Lib.hid hrow
   have Hrl:=Lib.hid hrl
   have Hown:=Lib.hid hown
   clear hr hrow hrl hown
   go_wp2_with fail
   go_loop [5] (λcv=>∃j : Nat,j<=rn/\cv = .int .i64 j/\Hid (∀i,i<j->nth r i=0)) (λcv=>rn - (intOf cv).toNat)
   case atStart=>exact ⟨0,Nat.zero_le _,rfl,λi hi=>by omega⟩
   case round =>
    obtain ⟨j,hj,rfl,hno⟩:=hrel
    by_cases hjl : j<rn
    ·have cj:=Hrow.out.cell j hjl
     by_cases h0 : nth r j=0
     ·have hd : (nth r j == 0)=true:=by simpa using h0
      have Hn : Hid (∀i,i<j+1->nth r i=0):=λi hi=>by
       by_cases e : i=j
       ·subst e;exact h0
       ·exact hno.out i (by omega)
      clear h0 hno
      go_wp2_with fail
      go_round
      case rel=>exact ⟨j+1,by omega,by go_num,Hn.out⟩
      case measure=>simp [intOf] <;> omega
     ·have hd : (nth r j == 0)=false:=by simpa using h0
      have Hf : Hid (((fnz r : Nat) : Int)=(j : Int)):=by
       show _=_
       rw [fnz_at r j (by rw [Hrl.out];exact hjl) hno.out h0]
      have hop8:=Hown.out.alloc (.cells #[.int .i64 (j : Int)] 3)
      have hcn:=cell_new V (.int .i64 (j : Int)) 3
      have hbn:=below1 V (.cells #[.int .i64 (j : Int)] 3)
      have hsz:=hbr.size
      have hsz8 : w.heap.size<=(V.alloc (.cells #[.int .i64 (j : Int)] 3)).heap.size:=by simp;omega
      clear h0 hno
      go_wp2_with (at_builtin;refine wpList_push rfl _ _ 22 3 rfl (.int .i64 0) 8 Tryz.underlying22 infoInt rfl w.heap.size ao k co _ rfl hop8 ⟨V.heap.size,0,none⟩ 1 (.int .i64 (j : Int)) rfl hcn rfl (by omega) (by unfold maxLen;omega) hsz8 ?_;intro a5 c5 w5 hown5 hgr5 hap5)
      go_roundw
      case rel =>
       refine ⟨k+1,a5,c5,by omega,by go_num,rfl,?_,Below.app (Below.trans hbr (hbn.mono hsz)) hop8 hgr5 (Nat.le_refl _) hsz8⟩
       rw [Hst.out,Hf.out]
       simpa using hown5
      case measure=>simp [intOf] <;> omega
    ·obtain rfl : j=rn:=by omega
     have Hf : Hid (((fnz r : Nat) : Int)=(j : Int)):=by
      show _=_
      rw [fnz_none r (by rw [Hrl.out];exact hno.out),Hrl.out]
     have hop8:=Hown.out.alloc (.cells #[.int .i64 (j : Int)] 3)
     have hcn:=cell_new V (.int .i64 (j : Int)) 3
     have hbn:=below1 V (.cells #[.int .i64 (j : Int)] 3)
     have hsz:=hbr.size
     have hsz8 : w.heap.size<=(V.alloc (.cells #[.int .i64 (j : Int)] 3)).heap.size:=by simp;omega
     clear hno
     go_wp2_with (at_builtin;refine wpList_push rfl _ _ 22 3 rfl (.int .i64 0) 8 Tryz.underlying22 infoInt rfl w.heap.size ao k co _ rfl hop8 ⟨V.heap.size,0,none⟩ 1 (.int .i64 (j : Int)) rfl hcn rfl (by omega) (by unfold maxLen;omega) hsz8 ?_;intro a5 c5 w5 hown5 hgr5 hap5)
     go_roundw
     case rel =>
      refine ⟨k+1,a5,c5,by omega,by go_num,rfl,?_,Below.app (Below.trans hbr (hbn.mono hsz)) hop8 hgr5 (Nat.le_refl _) hsz8⟩
      rw [Hst.out,Hf.out]
      simpa using hown5
     case measure=>simp [intOf] <;> omega
  ·obtain rfl : k=n:=by omega
   have HF:=Lib.hid (Ints.own hown).1
   clear hown
   go_wp2_with fail
   go_ret
   exact ⟨ao,co,rfl,HF.out,hbr⟩
theorem rNegC_any {P M : Int} {am : Option Addr} {mn cm : Nat} {mod : List Int} (hE : fieldB P M mod=true) (x : Int) (w : World) (hx : (tblOf P M.toNat mod).El x) :
  Calls Tryz.prog 233 #[.agg #[.int .i64 P,.int .i64 M,.slice am mn cm],.int .i64 x] w λe w'=>e = .returned (.int .i64 ((tblOf P M.toNat mod).ops.neg x))/\Below w.heap.size w w':=by
 obtain ⟨k,hk,hel,hq,hF,hA,_⟩:=eq_ops hE
 subst hk
 obtain ⟨k',e2,hrf,_⟩:=fieldRB_rf (P:=P) (M:=(k : Int)) (mod:=mod) (by rw [fieldRB_eq];exact hE)
 obtain rfl : k=k':=by omega
 rw [Int.toNat_natCast] at hx ⊢
 rw [<- hel] at hx
 rw [hA.neg x hx]
 exact rNeg_any P k am mn cm x w hrf (hrf.isQ hx)
theorem rRest10_any (P M : Int) (am : Option Addr) (mn cm : Nat) (mod : List Int) (m : Nat) (a : Option Addr) (n c : Nat) (L : List (List Int)) (ax : Option Addr) (cx : Nat) (x : List Int) (w : World) (hmod : Ints w am mn mod) (hi : Mat w a n L) (hx : Ints w ax m x)
  (hE : codeE P M mod m L=0) (hxe : Vc (tblOf P M.toNat mod).El m x) :
  Calls Tryz.prog 189 #[.agg #[.int .i64 P,.int .i64 M,.slice am mn cm],.slice a n c,.slice ax m cx] w λe w'=>∃a1 c1,e = .returned (.slice a1 m c1)/\Ints w' a1 m (restTo (tblOf P M.toNat mod).ops L x n)/\Below w.heap.size w w':=by
 have hil:=hi.len
 obtain ⟨m',em,hm1,hm64,F,hR⟩:=codeE_fld hE
 obtain rfl : m=m':=by omega
 have hn : n<=256:=by rw [<- hil];exact (codeE_rws hE).choose_spec.2.2.2.1
 have hff:=(rest_iff hE hxe).1
 obtain ⟨G,hGG⟩ : ∃G,tblOf P M.toNat mod=G:=⟨_,rfl⟩
 have hvc:=rest_vc F hR hxe hff
 have HNeg : Hid (∀V y,G.El y->Calls Tryz.prog 233 #[.agg #[.int .i64 P,.int .i64 M,.slice am mn cm],.int .i64 y] V λe w'=>e = .returned (.int .i64 (G.ops.neg y))/\Below V.heap.size V w'):=λV y hy=>by
  rw [<- hGG] at hy ⊢
  exact rNegC_any (codeE_zero hE).1 y V hy
 have HAdd : Hid (∀V av cv v s au cu u,Below w.heap.size w V->Ints V av m v->Ints V au m u->Vc G.El m v->G.El s->Vc G.El m u ->
   Calls Tryz.prog 115 #[.agg #[.int .i64 P,.int .i64 M,.slice am mn cm],.slice av m cv,.int .i64 s,.slice au m cu] V λe w'=>∃a1 c1,e = .returned (.slice a1 m c1)/\Ints w' a1 m (addRow G.ops v s u)/\Below V.heap.size V w'):=λV av cv v s au cu u hV h1 h2 h3 h4 h5=>by
  rw [<- hGG] at h3 h4 h5 ⊢
  exact rAddC_any hE av cv v s au cu u V (hmod.keep hV) h1 h2 h3 h4 h5
 rw [hGG] at F hR hvc hxe ⊢
 have HF:=Lib.hid F
 have HRw:=Lib.hid hR
 have Hvc:=Lib.hid hvc
 have Hff:=Lib.hid hff
 have Hxe:=Lib.hid hxe
 have Hil:=Lib.hid hil
 have hplx:=hx.pl
 have hpla:=hi.pl
 have Hx:=Lib.hid hx
 have Hi:=Lib.hid hi
 have hxl:=hxe.1
 clear F hR hvc hff hxe hil hE hGG em hmod
 go_enter Tryz.func189,Tryz.ntmps189
 go_upto_region 1 with fail
 obtain ⟨W,hW⟩ : ∃W : World,W=w.alloc (.cells #[.int .i64 P,.int .i64 M,.slice am mn cm] 24):=⟨_,rfl⟩
 rw [<- hW]
 have hbW : Below w.heap.size w W:=by rw [hW];exact below1 _ _
 have x0 : Box W w.heap.size [.int .i64 P,.int .i64 M,.slice am mn cm]:=by rw [hW];exact Box.new _ _ _ rfl
 have HX:=Lib.hid x0
 have HbW:=Lib.hid hbW
 clear hW x0
 go_wp2_with fail
 refine (rPivots10_any a n c L W (hi.keep hbW) (by omega)).mono ?_
 rintro e w1 ⟨ap,cp,rfl,hP1,hb1⟩
 have hbw1:=Below.next hbW hb1
 have hx1:=hx.keep hbw1
 go_upto_region 2 with fail
 iterate 7 go_step
 have hO1:=own_emp w1 3
 have hb2:=below1 w1 (.cells #[] 3)
 have hx2:=hx1.keep hb2
 refine wpList_appAll (by rfl) (.tmp 12) (.tmp 13) 22 3 (by rfl) (.int .i64 0) 8 Tryz.underlying22 infoInt (by rfl) w1.heap.size _ 0 0 [] (by rfl) hO1 ax m cx (x.map (Value.int .i64)) (by rfl) hx2.pl (by simp [hxl]) (Ints.news hx2) (ints_oneCell _ _) (by omega) (by unfold maxLen;omega) (Below.size hb2) ?_
 intro a3 c3 w3 hown3 hgr3 hap3
 have hb3 : Below w1.heap.size w1 w3:=Below.app (B:=w1.heap.size) (e:=3) (xs:=[]) hb2 hO1 hgr3 (Nat.le_refl _) (Below.size hb2)
 rw [Nat.zero_add] at hown3 ⊢
 rw [List.nil_append] at hown3
 have HI3:=Lib.hid (Ints.own hown3).1
 have HP3:=Lib.hid (hP1.keep hb3)
 have hbw3:=Below.next hbw1 hb3
 have HX3:=Lib.hid (HX.out.keep (Below.next hb1 hb3))
 have hplp:=hP1.pl
 clear hgr3 hap3 hx2 hb2 hO1 hown3 hx1 hP1
 go_wp2_with fail
 go_loopw [8,9] (λov iv wr=>∃(k : Nat) (a1 : Option Addr) (c1 : Nat),k<=n/\iv = .int .i64 k/\ov = .slice a1 m c1/\Hid (Ints wr a1 m (restTo G.ops L x k))/\Below w3.heap.size w3 wr) (λ_ iv _=>n - (intOf iv).toNat)
 case atStart=>exact ⟨0,a3,c3,Nat.zero_le _,rfl,rfl,HI3.out,Below.refl _ _⟩
 case round =>
  obtain ⟨k,a1,c1,hk,rfl,rfl,hI,hbr⟩:=hrel
  generalize wr=Y at *
  have hbwY:=Below.next hbw3 hbr
  by_cases hlt : k<n
  ·have hkL : k<L.length:=by rw [Hil.out];exact hlt
   have hf:=Hff.out k hkL
   have hrow:=HRw.out.row hkL
   obtain ⟨ra,rn,rc,er,ir⟩:=(Hi.out.keep hbwY).cell k hlt
   have hrn : rn=m:=by rw [<- ir.len];exact hrow.1
   rw [hrn] at er ir
   have ep:=(HP3.out.keep hbr).cell k hlt
   rw [nth_pvL L hlt] at ep
   have hst : restTo G.ops L x (k+1)=addRow G.ops (restTo G.ops L x k) (G.ops.neg (nth x (fnz (nthR L k)))) (nthR L k):=rfl
   obtain ⟨f,hfe⟩ : ∃f,fnz (nthR L k)=f:=⟨_,rfl⟩
   rw [hfe] at hf ep hst
   have hfm : ((f : Nat) : Int)<(m : Int):=by omega
   have ex:=(Hx.out.keep hbwY).cell f hf
   have hxf : G.El (nth x f):=Hxe.out.at hf
   obtain ⟨xf,hxfe⟩ : ∃xf,nth x f=xf:=⟨_,rfl⟩
   rw [hxfe] at hst ex hxf
   have Hst:=Lib.hid hst
   have Hngx:=Lib.hid (HNeg.out · xf hxf)
   have Hadd : Hid (∀V,Below Y.heap.size Y V->Calls Tryz.prog 115 #[.agg #[.int .i64 P,.int .i64 M,.slice am mn cm],.slice a1 m c1,.int .i64 (G.ops.neg xf),.slice ra m rc] V λe w'=>∃a1 c1,e = .returned (.slice a1 m c1)/\Ints w' a1 m (restTo G.ops L x (k+1))/\Below V.heap.size V w'):=λV hV=>by
    rw [Hst.out]
    exact HAdd.out V a1 c1 _ _ ra rc _ (Below.next hbwY hV) (hI.out.keep hV) (ir.keep hV) (Hvc.out k (by rw [Hil.out];exact hk)) (HF.out.cl.neg _ hxf) hrow
   have HS2 : Hid (∀V,Below Y.heap.size Y V->V.cell? ⟨w.heap.size,0,none⟩=some (.int .i64 P)/\V.cell? ⟨w.heap.size,1,none⟩=some (.int .i64 M)/\V.cell? ⟨w.heap.size,2,none⟩=some (.slice am mn cm) /\
     V.cell? ⟨ablk ax,aoff ax+f,none⟩=some (.int .i64 xf)/\V.cell? ⟨ablk ap,aoff ap+k,none⟩=some (.int .i64 ((f : Nat) : Int))/\V.cell? ⟨ablk a,aoff a+k,none⟩=some (.slice ra m rc)/\Below Y.heap.size Y V):=λV hV=>by
    have x1:=HX3.out.keep (Below.next hbr hV)
    exact ⟨x1.cell 0 rfl,x1.cell 1 rfl,x1.cell 2 rfl,cell_keep hV ex,cell_keep hV ep,cell_keep hV er,hV⟩
   clear hst hfe hxfe hrn hrow ir er ep ex hI hxf hkL
   go_wp2_with fail
   go_region_held3 (λV=>V.cell? ⟨w.heap.size,0,none⟩=some (.int .i64 P)/\V.cell? ⟨w.heap.size,1,none⟩=some (.int .i64 M)/\V.cell? ⟨w.heap.size,2,none⟩=some (.slice am mn cm) /\
     V.cell? ⟨ablk ax,aoff ax+f,none⟩=some (.int .i64 xf)/\V.cell? ⟨ablk ap,aoff ap+k,none⟩=some (.int .i64 ((f : Nat) : Int))/\V.cell? ⟨ablk a,aoff a+k,none⟩=some (.slice ra m rc)/\Below Y.heap.size Y V)
    ((refine HS2.out _ ?_;first | exact (Below.refl _ _).drew | assumption | (go_split_ands;exact Below.next (by assumption) (by assumption))))
    (first
     | (go_at_call 233;((with_reducible refine (Hngx.out _).mono ?_);rintro e w4 ⟨rfl,hb4⟩))
     | (go_at_call 115;((with_reducible refine (Hadd.out _ (by go_split_ands;assumption)).mono ?_);rintro e w5 ⟨a4,c4,rfl,hI4,hb5⟩;have HI4:=Lib.hid hI4;clear hI4)))
   all_goals (
    have hbY5 : Below Y.heap.size Y w5:=by go_split_ands;first | assumption | exact Below.next (by assumption) hb5
    go_wp2_with fail
    go_roundw
    case rel=>exact ⟨k+1,a4,c4,by omega,by go_num,rfl,HI4.out,Below.next hbr hbY5⟩
    case measure=>simp [intOf] <;> omega)
  ·obtain rfl : k=n:=by omega
   have HF4:=Lib.hid hI.out
   clear hI
   go_wp2_with fail
   go_ret
   exact ⟨a1,c1,rfl,HF4.out,hbwY⟩
theorem rIn10_any (P M : Int) (am : Option Addr) (mn cm : Nat) (mod : List Int) (m : Nat) (a : Option Addr) (n c : Nat) (L : List (List Int)) (ax : Option Addr) (cx : Nat) (x : List Int) (w : World) (hmod : Ints w am mn mod) (hi : Mat w a n L) (hx : Ints w ax m x)
  (hE : codeE P M mod m L=0) (hxe : Vc (tblOf P M.toNat mod).El m x) :
  Calls Tryz.prog 129 #[.agg #[.int .i64 P,.int .i64 M,.slice am mn cm],.slice a n c,.slice ax m cx] w λe w'=>e = .returned (.bool (hasB P M mod m L x))/\Below w.heap.size w w':=by
 have hb:=has_rest hE hxe
 obtain ⟨z,hz⟩ : ∃z,hasB P M mod m L x=z:=⟨_,rfl⟩
 rw [hz] at hb ⊢
 have HR : Hid (∀V,Below w.heap.size w V->Calls Tryz.prog 189 #[.agg #[.int .i64 P,.int .i64 M,.slice am mn cm],.slice a n c,.slice ax m cx] V λe w'=>∃a1 c1 l,e = .returned (.slice a1 m c1)/\Ints w' a1 m l/\zerB l=z/\Below V.heap.size V w'):=λV hV=>by
  refine (rRest10_any P M am mn cm mod m a n c L ax cx x V (hmod.keep hV) (hi.keep hV) (hx.keep hV) hE hxe).mono ?_
  rintro e w' ⟨a1,c1,rfl,h1,h2⟩
  exact ⟨a1,c1,_,rfl,h1,by rw [<- hi.len];exact hb,h2⟩
 clear hmod hi hx hE hxe hb hz
 go_enter Tryz.func129,Tryz.ntmps129
 go_wp2_with fail
 obtain ⟨W,hW⟩ : ∃W : World,W=w.alloc (.cells #[.int .i64 P,.int .i64 M,.slice am mn cm] 24):=⟨_,rfl⟩
 rw [<- hW]
 have hbW : Below w.heap.size w W:=by rw [hW];exact below1 _ _
 clear hW
 refine (HR.out W hbW).mono ?_
 rintro e w1 ⟨a1,c1,l,rfl,hI,hl,hb1⟩
 have hz:=rZero10_any a1 m c1 l w1 hI
 rw [hl] at hz
 have Hz:=Lib.hid hz
 have hF:=Below.next hbW hb1
 clear hI hl hz
 go_wp2_with fail
 refine Hz.out.mono ?_
 rintro e w2 ⟨rfl,rfl⟩
 go_wp2_with fail
 go_ret
 exact ⟨rfl,hF⟩
theorem rHas12_any (P M : Int) (am : Option Addr) (mn cm : Nat) (mod : List Int) (N : Int) (a : Option Addr) (n c : Nat) (L : List (List Int)) (ax : Option Addr) (nx cx : Nat) (x : List Int) (w : World) (hmod : Ints w am mn mod) (hi : Mat w a n L) (hx : Ints w ax nx x) :
  Calls Tryz.prog 64 #[.agg #[.int .i64 P,.int .i64 M,.slice am mn cm,.int .i64 N,.slice a n c],.slice ax nx cx] w λe w'=>e = .returned (.tuple #[.bool (hasV P M mod N L x),.int .i64 (wrdE P M mod N L x)])/\Below w.heap.size w w':=by
 have HSp : Hid (wrdE P M mod N L x=0->∀V,Below w.heap.size w V->Calls Tryz.prog 129 #[.agg #[.int .i64 P,.int .i64 M,.slice am mn cm],.slice a n c,.slice ax nx cx] V λe w'=>e = .returned (.bool (hasV P M mod N L x))/\Below V.heap.size V w'):=λh V hV=>by
  obtain ⟨hE,hxe⟩:=wrdE_zero h
  rw [hasV,if_pos h]
  obtain ⟨m,rfl,_⟩:=codeE_rws hE
  rw [Int.toNat_natCast] at hxe ⊢
  have e1 : nx=m:=by rw [<- hx.len];exact hxe.1
  subst e1
  exact rIn10_any P M am mn cm mod nx a n c L ax cx x V (hmod.keep hV) (hi.keep hV) (hx.keep hV) hE hxe
 have HWd : Hid (∀V,Below w.heap.size w V->Calls Tryz.prog 128 #[.agg #[.int .i64 P,.int .i64 M,.slice am mn cm,.int .i64 N,.slice a n c],.slice ax nx cx] V λe w'=>e = .returned (.int .i64 (wrdE P M mod N L x))/\Below V.heap.size V w'):=λV hV =>
  rWord12_any P M am mn cm mod N a n c L ax nx cx x V (hmod.keep hV) (hi.keep hV) (hx.keep hV)
 have HN : Hid (wrdE P M mod N L x ≠ 0->hasV P M mod N L x=false):=λh=>by rw [hasV,if_neg h]
 clear hmod hi hx
 obtain ⟨er,her⟩ : ∃er,wrdE P M mod N L x=er:=⟨_,rfl⟩
 obtain ⟨z,hz⟩ : ∃z,hasV P M mod N L x=z:=⟨_,rfl⟩
 rw [her] at HWd HN HSp ⊢
 rw [hz] at HN HSp ⊢
 clear her hz
 go_enter Tryz.func64,Tryz.ntmps64
 go_wp2_with fail
 obtain ⟨W,hW⟩ : ∃W : World,W=w.alloc (.cells #[.int .i64 P,.int .i64 M,.slice am mn cm,.int .i64 N,.slice a n c] 27):=⟨_,rfl⟩
 rw [<- hW]
 have hbW : Below w.heap.size w W:=by rw [hW];exact below1 _ _
 have x0 : Box W w.heap.size [.int .i64 P,.int .i64 M,.slice am mn cm,.int .i64 N,.slice a n c]:=by rw [hW];exact Box.new _ _ _ rfl
 have HX:=Lib.hid x0
 have HbW:=Lib.hid hbW
 clear hW x0
 refine (HWd.out W hbW).mono ?_
 rintro e w1 ⟨rfl,hb1⟩
 have hbw1:=Below.next HbW.out hb1
 by_cases hE : er=0
 rotate_left
 ·have hE2 : (er != 0)=true:=by simpa using hE
  have HN2:=Lib.hid (HN.out hE)
  clear hE
  go_wp2_with fail
  go_ret2
  exact ⟨by rw [HN2.out];rfl,hbw1⟩
 subst hE
 have HSp2:=Lib.hid (HSp.out rfl w1 hbw1)
 have x1:=HX.out.keep hb1
 have c0:=x1.cell 0 rfl
 have c1:=x1.cell 1 rfl
 have c2:=x1.cell 2 rfl
 have c4:=x1.cell 4 rfl
 clear HWd hb1 HSp HN x1
 go_wp2_with fail
 refine HSp2.out.mono ?_
 rintro e w2 ⟨rfl,hb2⟩
 have hF:=Below.next hbw1 hb2
 go_wp2_with fail
 go_ret2
 exact ⟨rfl,hF⟩
end

section
set_option maxRecDepth 100000
set_option maxHeartbeats 4000000

open Go.RowKit
theorem zer_wt {x : List Int} : zerB x=true ↔ wtL x=0:=by rw [zerB_iff,wtM_zero]
theorem rCheck27_any (P M : Int) (am : Option Addr) (mn cm : Nat) (mod : List Int) (N : Int) (a : Option Addr) (n c : Nat) (L : List (List Int)) (ax : Option Addr) (nx cx : Nat) (x : List Int) (at' : Option Addr) (nt ct : Nat) (ts : List (List Int)) (w : World)
  (hmod : Ints w am mn mod) (hi : Mat w a n L) (hx : Ints w ax nx x) (hts : Mat w at' nt ts) (hnc : nt<=ct) :
  Calls Tryz.prog 30 #[.agg #[.int .i64 P,.int .i64 M,.slice am mn cm,.int .i64 N,.slice a n c],.agg #[.slice ax nx cx,.slice at' nt ct]] w λe w'=>e = .returned (.tuple #[.int .i64 (mchV P M mod N L x ts),.int .i64 (mchE P M mod N L x ts)])/\Below w.heap.size w w':=by
 have hn : L.length=n:=hi.len
 obtain ⟨ce,hce⟩ : ∃ce,codeE P M mod N L=ce:=⟨_,rfl⟩
 obtain ⟨we,hwe⟩ : ∃we,wrdE P M mod N L x=we:=⟨_,rfl⟩
 obtain ⟨hv,hhv⟩ : ∃hv,hasV P M mod N L x=hv:=⟨_,rfl⟩
 obtain ⟨d,hd⟩ : ∃d,wtL x=d:=⟨_,rfl⟩
 obtain ⟨zr,hzr⟩ : ∃zr,zerB x=zr:=⟨_,rfl⟩
 obtain ⟨ke,hke⟩ : ∃ke,chkRE P M mod N L L.length (wtD N d) ts=ke:=⟨_,rfl⟩
 obtain ⟨me,hme⟩ : ∃me,mchE P M mod N L x ts=me:=⟨_,rfl⟩
 obtain ⟨mv,hmv⟩ : ∃mv,mchV P M mod N L x ts=mv:=⟨_,rfl⟩
 have HCk : Hid (∀V,Below w.heap.size w V->Calls Tryz.prog 22 #[.agg #[.int .i64 P,.int .i64 M,.slice am mn cm,.int .i64 N,.slice a n c]] V λe w'=>e = .returned (.int .i64 ce)/\Below V.heap.size V w'):=λV hV=>by
  rw [<- hce];exact rCheck_any P M am mn cm mod N a n c L V (hmod.keep hV) (hi.keep hV)
 have HHs : Hid (∀V,Below w.heap.size w V->Calls Tryz.prog 64 #[.agg #[.int .i64 P,.int .i64 M,.slice am mn cm,.int .i64 N,.slice a n c],.slice ax nx cx] V λe w'=>e = .returned (.tuple #[.bool hv,.int .i64 we])/\Below V.heap.size V w'):=λV hV=>by
  rw [<- hhv,<- hwe];exact rHas12_any P M am mn cm mod N a n c L ax nx cx x V (hmod.keep hV) (hi.keep hV) (hx.keep hV)
 have HZe : Hid (∀V,Below w.heap.size w V->Calls Tryz.prog 65 #[.slice ax nx cx] V λe w'=>e = .returned (.bool zr)/\V=w'):=λV hV=>by
  rw [<- hzr];exact rZero10_any ax nx cx x V (hx.keep hV)
 have HWt : Hid (∀V,Below w.heap.size w V->Calls Tryz.prog 20 #[.slice ax nx cx] V λe w'=>e = .returned (.int .i64 (d : Nat))/\w'=V):=λV hV=>by
  rw [<- hd];exact rWeight25_any ax nx cx x V (hx.keep hV)
 have HCd : Hid (∀V,Below w.heap.size w V->Calls Tryz.prog 66 #[.agg #[.int .i64 P,.int .i64 M,.slice am mn cm,.int .i64 N,.slice a n c],.int .i64 (d : Nat),.agg #[.slice at' nt ct]] V λe w'=>e = .returned (.int .i64 ke)/\Below V.heap.size V w'):=λV hV=>by
  rw [<- hke,hn];exact rCheckDistance26_any P M am mn cm mod N a n c L (d : Nat) at' nt ct ts V (hmod.keep hV) (hi.keep hV) (hts.keep hV) hnc
 have HME : Hid (me=(if ce=0 then (if we=0/\hv=true/\d ≠ 0/\ke=0 then 0 else 13) else ce)):=by
  show _=_
  rw [<- hme,mchE,hce,hwe,hhv,hd,hke]
 have HMV : Hid (mv=if me=0 then (d : Int) else 0):=by
  show _=_
  rw [<- hmv,mchV,hme,hd]
 have HZd : Hid (zr=true ↔ d=0):=by
  show _ ↔ _
  rw [<- hzr,<- hd];exact zer_wt
 rw [hme,hmv]
 clear hmod hi hx hts hce hwe hhv hd hke hme hmv hn hzr
 go_enter Tryz.func30,Tryz.ntmps30
 go_upto_region 1 with fail
 obtain ⟨U,hU⟩ : ∃U : World,U=(w.alloc (.cells #[.int .i64 P,.int .i64 M,.slice am mn cm,.int .i64 N,.slice a n c] 27)).alloc (.cells #[.slice ax nx cx,.slice at' nt ct] 49):=⟨_,rfl⟩
 rw [<- hU]
 have hbU : Below w.heap.size w U:=by rw [hU];exact below2 _ _ _
 have x0 : Box U w.heap.size [.int .i64 P,.int .i64 M,.slice am mn cm,.int .i64 N,.slice a n c]:=by rw [hU];exact (Box.new _ _ _ rfl).alloc _
 have y0 : Box U (w.heap.size+1) [.slice ax nx cx,.slice at' nt ct]:=by rw [hU];exact Box.new _ _ _ (by simp)
 have HS : Hid (∀V,Below U.heap.size U V->V.cell? ⟨w.heap.size,0,none⟩=some (.int .i64 P)/\V.cell? ⟨w.heap.size,1,none⟩=some (.int .i64 M)/\V.cell? ⟨w.heap.size,2,none⟩=some (.slice am mn cm)/\V.cell? ⟨w.heap.size,3,none⟩=some (.int .i64 N)/\V.cell? ⟨w.heap.size,4,none⟩=some (.slice a n c) /\
   V.cell? ⟨w.heap.size+1,0,none⟩=some (.slice ax nx cx)/\V.cell? ⟨w.heap.size+1,1,none⟩=some (.slice at' nt ct)/\Below U.heap.size U V):=λV hV=>by
  have x1:=x0.keep hV
  have y1:=y0.keep hV
  exact ⟨x1.cell 0 rfl,x1.cell 1 rfl,x1.cell 2 rfl,x1.cell 3 rfl,x1.cell 4 rfl,y1.cell 0 rfl,y1.cell 1 rfl,hV⟩
 have HbU:=Lib.hid hbU
 obtain ⟨c0,c1,c2,c3,c4,c5,c6,_⟩:=HS.out U (Below.refl _ _)
 clear hU hbU x0 y0
 go_wp2_with fail
 refine (HCk.out U HbU.out).mono ?_
 rintro e w1 ⟨rfl,hb1⟩
 have hF1:=Below.next HbU.out hb1
 by_cases h1 : ce=0
 rotate_left
 ·have hE2 : (ce != 0)=true:=by simpa using h1
  have H9 : Hid (mv=0/\me=ce):=by
   have e1 : me=ce:=by rw [HME.out,if_neg h1]
   exact ⟨by rw [HMV.out,e1,if_neg h1],e1⟩
  clear h1
  go_wp2_with fail
  go_ret2
  exact ⟨ret_two H9.out.1.symm H9.out.2.symm,hF1⟩
 subst h1
 obtain ⟨d0,d1,d2,d3,d4,d5,d6,_⟩:=HS.out w1 hb1
 clear c0 c1 c2 c3 c4 c5 c6
 go_wp2_with fail
 refine (HHs.out w1 hF1).mono ?_
 rintro e w2 ⟨rfl,hb2⟩
 have hF2:=Below.next hF1 hb2
 obtain ⟨c0,c1,c2,c3,c4,c5,c6,hbU2⟩:=HS.out w2 (Below.next hb1 hb2)
 clear d0 d1 d2 d3 d4 d5 d6
 obtain ⟨z,hz⟩ : ∃z : Bool,(decide (we=0/\hv=true/\d ≠ 0/\ke=0)) = !z:=⟨!(decide (we=0/\hv=true/\d ≠ 0/\ke=0)),by simp⟩
 have Hz:=Lib.hid hz
 clear hz
 go_upto_region 5 with fail
 go_cut [40] (λv wx=>v = .bool z/\Below U.heap.size U wx)
 case first =>
  by_cases h2 : we=0
  rotate_left
  ·have hE2 : (we != 0)=true:=by simpa using h2
   have Hz2 : Hid (z=true):=by
    have h9:=Hz.out
    rw [decide_eq_false (λh=>h2 h.1)] at h9
    show _=_
    cases z
    ·cases h9
    ·rfl
   clear h2
   go_quiet (fail)
   go_wp2_with fail
   go_meet
   exact ⟨by rw [Hz2.out],Below.next hbU2 (Drawn.below ⟨_,rfl⟩)⟩
  subst h2
  cases hv
  ·have Hz2 : Hid (z=true):=by
    have h9:=Hz.out
    rw [decide_eq_false (λh=>by cases h.2.1)] at h9
    show _=_
    cases z
    ·cases h9
    ·rfl
   go_quiet (fail)
   go_wp2_with fail
   go_meet
   exact ⟨by rw [Hz2.out],Below.next hbU2 (Drawn.below ⟨_,rfl⟩)⟩
  cases zr
  ·have hd0 : d ≠ 0:=λh=>by have:=HZd.out.2 h;cases this
   obtain ⟨b,hb⟩ : ∃b,(ke != 0)=b:=⟨_,rfl⟩
   have Hz2 : Hid (z=b):=by
    have h9:=Hz.out
    show _=_
    rw [<- hb]
    by_cases h : ke=0
    ·subst h
     rw [decide_eq_true ⟨rfl,rfl,hd0,rfl⟩] at h9
     cases z
     ·rfl
     ·cases h9
    ·rw [decide_eq_false (λh'=>h h'.2.2.2)] at h9
     have : (ke != 0)=true:=by simpa using h
     rw [this]
     cases z
     ·cases h9
     ·rfl
   clear hd0
   go_region_held3 (λV=>V.cell? ⟨w.heap.size,0,none⟩=some (.int .i64 P)/\V.cell? ⟨w.heap.size,1,none⟩=some (.int .i64 M)/\V.cell? ⟨w.heap.size,2,none⟩=some (.slice am mn cm)/\V.cell? ⟨w.heap.size,3,none⟩=some (.int .i64 N)/\V.cell? ⟨w.heap.size,4,none⟩=some (.slice a n c) /\
     V.cell? ⟨w.heap.size+1,0,none⟩=some (.slice ax nx cx)/\V.cell? ⟨w.heap.size+1,1,none⟩=some (.slice at' nt ct)/\Below U.heap.size U V)
    ((refine HS.out _ ?_;first | exact hbU2.drew | assumption | (go_split_ands;assumption) | (go_split_ands;exact Below.next (by assumption) (by assumption))))
    (first
     | (go_at_call 65;((with_reducible refine (HZe.out _ (Below.next HbU.out (by go_split_ands;assumption))).mono ?_);rintro e w4 ⟨rfl,rfl⟩))
     | (go_at_call 20;((with_reducible refine (HWt.out _ (Below.next HbU.out (by go_split_ands;assumption))).mono ?_);rintro e w5 ⟨rfl,hw5⟩;obtain rfl:=hw5.symm))
     | (go_at_call 66;((with_reducible refine (HCd.out _ (Below.next HbU.out (by go_split_ands;assumption))).mono ?_);rintro e w6 ⟨rfl,hb6⟩)))
   all_goals (
    have hbX0 : Below U.heap.size U w6:=by go_split_ands;first | assumption | exact Below.next (by assumption) hb6
    go_wp2_with fail
    go_meet
    exact ⟨by rw [Hz2.out],hbX0⟩)
  ·have Hz2 : Hid (z=true):=by
    have h9:=Hz.out
    rw [decide_eq_false (λh=>h.2.2.1 (HZd.out.1 rfl))] at h9
    show _=_
    cases z
    ·cases h9
    ·rfl
   refine wp_region_held_drew (S:=(λV=>V.cell? ⟨w.heap.size+1,0,none⟩=some (.slice ax nx cx)/\Below U.heap.size U V)) (by kernel_rfl) ?_ (λhHeld=>?_)
   ·exact ⟨c5,hbU2.drew⟩
   refine wpAnyH_take (i:=0) (v:=?_) (by simp only [List.getElem?_toArray,List.getElem?_cons_succ,List.getElem?_cons_zero];rfl) (by kernel_rfl) (by kernel_rfl) (by kernel_rfl) (by exact λ_ _ _ h=>h) (Or.inl ⟨by rfl,?_⟩) (by assumption) ?_
   rotate_left
   ·(intro w hSw;(try dsimp only at hSw);obtain ⟨hSa,hSb⟩:=hSw;go_simp;first | done | with_reducible rfl)
   try simp only [Act.put,List.setIfInBounds_toArray,List.set_cons_zero,List.set_cons_succ]
   refine wpAnyH_take (i:=1) (v:=?_) (by simp only [List.getElem?_toArray,List.getElem?_cons_succ,List.getElem?_cons_zero];rfl) (by kernel_rfl) (by kernel_rfl) (by kernel_rfl) (by exact λ_ _ _ h=>h) (Or.inl ⟨by rfl,?_⟩) (by assumption) ?_
   rotate_left
   ·(intro w hSw;(try dsimp only at hSw);obtain ⟨hSa,hSb⟩:=hSw;go_simp;first | done | with_reducible rfl)
   try simp only [Act.put,List.setIfInBounds_toArray,List.set_cons_zero,List.set_cons_succ]
   refine wpAnyH_take (i:=2) (v:=?_) (by simp only [List.getElem?_toArray,List.getElem?_cons_succ,List.getElem?_cons_zero];rfl) (by kernel_rfl) (by kernel_rfl) (by kernel_rfl) (by exact λ_ _ _ h=>h) (Or.inl ⟨by rfl,?_⟩) (by assumption) ?_
   rotate_left
   ·(intro w hSw;(try dsimp only at hSw);obtain ⟨hSa,hSb⟩:=hSw;go_simp;first | done | with_reducible rfl)
   try simp only [Act.put,List.setIfInBounds_toArray,List.set_cons_zero,List.set_cons_succ]
   refine wpAnyH_take (i:=3) (v:=?_) (by simp only [List.getElem?_toArray,List.getElem?_cons_succ,List.getElem?_cons_zero];rfl) (by kernel_rfl) (by kernel_rfl) (by kernel_rfl) (by exact λ_ _ _ h=>h) (Or.inl ⟨by rfl,?_⟩) (by assumption) ?_
   rotate_left
   ·(intro w hSw;(try dsimp only at hSw);obtain ⟨hSa,hSb⟩:=hSw;go_simp;first | done | with_reducible rfl)
   try simp only [Act.put,List.setIfInBounds_toArray,List.set_cons_zero,List.set_cons_succ]
   refine wpAnyH_take (i:=4) (v:=?_) (by simp only [List.getElem?_toArray,List.getElem?_cons_succ,List.getElem?_cons_zero];rfl) (by kernel_rfl) (by kernel_rfl) (by kernel_rfl) (by exact λ_ _ _ h=>h) (Or.inl ⟨by rfl,?_⟩) (by assumption) ?_
   rotate_left
   ·(intro w hSw;(try dsimp only at hSw);obtain ⟨hSa,hSb⟩:=hSw;go_simp;first | done | with_reducible rfl)
   try simp only [Act.put,List.setIfInBounds_toArray,List.set_cons_zero,List.set_cons_succ]
   refine wpAnyH_take (i:=5) (v:=?_) (by simp only [List.getElem?_toArray,List.getElem?_cons_succ,List.getElem?_cons_zero];rfl) (by kernel_rfl) (by kernel_rfl) (by kernel_rfl) (by exact λ_ _ _ h=>h) (Or.inl ⟨by rfl,?_⟩) (by assumption) ?_
   rotate_left
   ·(intro w hSw;(try dsimp only at hSw);obtain ⟨hSa,hSb⟩:=hSw;go_simp;first | done | with_reducible rfl)
   try simp only [Act.put,List.setIfInBounds_toArray,List.set_cons_zero,List.set_cons_succ]
   refine wpAnyH_take (i:=6) (v:=?_) (by simp only [List.getElem?_toArray,List.getElem?_cons_succ,List.getElem?_cons_zero];rfl) (by kernel_rfl) (by kernel_rfl) (by kernel_rfl) (by exact λ_ _ _ h=>h) (Or.inl ⟨by rfl,?_⟩) (by assumption) ?_
   rotate_left
   ·(intro w hSw;(try dsimp only at hSw);obtain ⟨hSa,hSb⟩:=hSw;go_simp;first | done | with_reducible rfl)
   try simp only [Act.put,List.setIfInBounds_toArray,List.set_cons_zero,List.set_cons_succ]
   refine wpAnyH_take (i:=7) (v:=?_) (by simp only [List.getElem?_toArray,List.getElem?_cons_succ,List.getElem?_cons_zero];rfl) (by kernel_rfl) (by kernel_rfl) (by kernel_rfl) (by exact λ_ _ _ h=>h) (Or.inl ⟨by rfl,?_⟩) (by assumption) ?_
   rotate_left
   ·(intro w hSw;(try dsimp only at hSw);obtain ⟨hSa,hSb⟩:=hSw;go_simp;first | done | with_reducible rfl)
   try simp only [Act.put,List.setIfInBounds_toArray,List.set_cons_zero,List.set_cons_succ]
   refine wpAnyH_take (i:=8) (v:=?_) (by simp only [List.getElem?_toArray,List.getElem?_cons_succ,List.getElem?_cons_zero];rfl) (by kernel_rfl) (by kernel_rfl) (by kernel_rfl) (by exact λ_ _ _ h=>h) (Or.inl ⟨by rfl,?_⟩) (by assumption) ?_
   rotate_left
   ·(intro w hSw;(try dsimp only at hSw);obtain ⟨hSa,hSb⟩:=hSw;go_simp;first | done | with_reducible rfl)
   try simp only [Act.put,List.setIfInBounds_toArray,List.set_cons_zero,List.set_cons_succ]
   refine wpAnyH_ready (rs:=[9]) (by kernel_rfl) (by simp) ?_
   refine AllReadyH.cons rfl (λK hK=>?_) AllReadyH.nil
   go_simp
   refine (HZe.out _ (Below.next HbU.out hHeld.2)).mono ?_;rintro e w4 ⟨rfl,rfl⟩
   go_wp2_with fail
   refine hK.out _ _ ?_ (λhHeld=>?_)
   ·exact hHeld
   clear hK K
   try simp only [Act.put,List.setIfInBounds_toArray,List.set_cons_zero,List.set_cons_succ]
   refine wpAnyH_take (i:=10) (v:=?_) (by simp only [List.getElem?_toArray,List.getElem?_cons_succ,List.getElem?_cons_zero];rfl) (by kernel_rfl) (by kernel_rfl) (by kernel_rfl) (by exact λ_ _ _ h=>h) (Or.inl ⟨by rfl,?_⟩) (by assumption) ?_
   rotate_left
   ·(intro w hSw;(try dsimp only at hSw);obtain ⟨hSa,hSb⟩:=hSw;go_simp;first | done | with_reducible rfl)
   try simp only [Act.put,List.setIfInBounds_toArray,List.set_cons_zero,List.set_cons_succ]
   refine wpAnyH_take (i:=11) (v:=?_) (by simp only [List.getElem?_toArray,List.getElem?_cons_succ,List.getElem?_cons_zero];rfl) (by kernel_rfl) (by kernel_rfl) (by kernel_rfl) (by exact λ_ _ _ h=>h) (Or.inl ⟨by rfl,?_⟩) (by assumption) ?_
   rotate_left
   ·(intro w hSw;(try dsimp only at hSw);obtain ⟨hSa,hSb⟩:=hSw;go_simp;first | done | with_reducible rfl)
   try simp only [Act.put,List.setIfInBounds_toArray,List.set_cons_zero,List.set_cons_succ]
   refine wpAnyH_take (i:=12) (v:=undef) (by simp only [List.getElem?_toArray,List.getElem?_cons_succ,List.getElem?_cons_zero];rfl) (by kernel_rfl) (by kernel_rfl) (by kernel_rfl) (by exact λ_ _ _ h=>h) (Or.inr ⟨by rfl,rfl⟩) (by assumption) ?_
   try simp only [Act.put,List.setIfInBounds_toArray,List.set_cons_zero,List.set_cons_succ]
   refine wpAnyH_take (i:=13) (v:=undef) (by simp only [List.getElem?_toArray,List.getElem?_cons_succ,List.getElem?_cons_zero];rfl) (by kernel_rfl) (by kernel_rfl) (by kernel_rfl) (by exact λ_ _ _ h=>h) (Or.inr ⟨by rfl,rfl⟩) (by assumption) ?_
   try simp only [Act.put,List.setIfInBounds_toArray,List.set_cons_zero,List.set_cons_succ]
   refine wpAnyH_take (i:=14) (v:=undef) (by simp only [List.getElem?_toArray,List.getElem?_cons_succ,List.getElem?_cons_zero];rfl) (by kernel_rfl) (by kernel_rfl) (by kernel_rfl) (by exact λ_ _ _ h=>h) (Or.inr ⟨by rfl,rfl⟩) (by assumption) ?_
   try simp only [Act.put,List.setIfInBounds_toArray,List.set_cons_zero,List.set_cons_succ]
   refine wpAnyH_take (i:=15) (v:=undef) (by simp only [List.getElem?_toArray,List.getElem?_cons_succ,List.getElem?_cons_zero];rfl) (by kernel_rfl) (by kernel_rfl) (by kernel_rfl) (by exact λ_ _ _ h=>h) (Or.inr ⟨by rfl,rfl⟩) (by assumption) ?_
   try simp only [Act.put,List.setIfInBounds_toArray,List.set_cons_zero,List.set_cons_succ]
   refine wpAnyH_take (i:=16) (v:=undef) (by simp only [List.getElem?_toArray,List.getElem?_cons_succ,List.getElem?_cons_zero];rfl) (by kernel_rfl) (by kernel_rfl) (by kernel_rfl) (by exact λ_ _ _ h=>h) (Or.inr ⟨by rfl,rfl⟩) (by assumption) ?_
   try simp only [Act.put,List.setIfInBounds_toArray,List.set_cons_zero,List.set_cons_succ]
   refine wpAnyH_take (i:=17) (v:=undef) (by simp only [List.getElem?_toArray,List.getElem?_cons_succ,List.getElem?_cons_zero];rfl) (by kernel_rfl) (by kernel_rfl) (by kernel_rfl) (by exact λ_ _ _ h=>h) (Or.inr ⟨by rfl,rfl⟩) (by assumption) ?_
   try simp only [Act.put,List.setIfInBounds_toArray,List.set_cons_zero,List.set_cons_succ]
   refine wpAnyH_take (i:=18) (v:=undef) (by simp only [List.getElem?_toArray,List.getElem?_cons_succ,List.getElem?_cons_zero];rfl) (by kernel_rfl) (by kernel_rfl) (by kernel_rfl) (by exact λ_ _ _ h=>h) (Or.inr ⟨by rfl,rfl⟩) (by assumption) ?_
   try simp only [Act.put,List.setIfInBounds_toArray,List.set_cons_zero,List.set_cons_succ]
   refine wpAnyH_take (i:=19) (v:=undef) (by simp only [List.getElem?_toArray,List.getElem?_cons_succ,List.getElem?_cons_zero];rfl) (by kernel_rfl) (by kernel_rfl) (by kernel_rfl) (by exact λ_ _ _ h=>h) (Or.inr ⟨by rfl,rfl⟩) (by assumption) ?_
   try simp only [Act.put,List.setIfInBounds_toArray,List.set_cons_zero,List.set_cons_succ]
   refine wpAnyH_take (i:=20) (v:=?_) (by simp only [List.getElem?_toArray,List.getElem?_cons_succ,List.getElem?_cons_zero];rfl) (by kernel_rfl) (by kernel_rfl) (by kernel_rfl) (by exact λ_ _ _ h=>h) (Or.inl ⟨by rfl,?_⟩) (by assumption) ?_
   rotate_left
   ·(intro w hSw;(try dsimp only at hSw);obtain ⟨hSa,hSb⟩:=hSw;go_simp;first | done | with_reducible rfl)
   try simp only [Act.put,List.setIfInBounds_toArray,List.set_cons_zero,List.set_cons_succ]
   refine wpAnyH_done (by kernel_rfl) ?_ _
   have hbX0 : Below U.heap.size U _:=hHeld.2
   go_wp2_with fail
   go_meet
   exact ⟨by rw [Hz2.out],hbX0⟩
 obtain ⟨rfl,hbX⟩:=hcut
 generalize wc=X at *
 have hFX:=Below.next HbU.out hbX
 cases z
 ·have H9 : Hid (mv=(d : Int)/\me=0):=by
   have h9 : we=0/\hv=true/\d ≠ 0/\ke=0:=of_decide_eq_true Hz.out
   have e1 : me=0:=by rw [HME.out];simp [h9]
   exact ⟨by rw [HMV.out,e1];rfl,e1⟩
  obtain ⟨_,_,_,_,_,q5,_,_⟩:=HS.out X hbX
  go_wp2_with fail
  refine (HWt.out X hFX).mono ?_
  rintro e w' ⟨rfl,hw'⟩
  obtain rfl:=hw'.symm
  go_wp2_with fail
  go_ret2
  exact ⟨ret_two H9.out.1.symm H9.out.2.symm,hFX⟩
 ·have H9 : Hid (mv=0/\me=13):=by
   have h9 : ¬ (we=0/\hv=true/\d ≠ 0/\ke=0):=of_decide_eq_false Hz.out
   have e1 : me=13:=by rw [HME.out];first | rw [if_pos trivial,if_neg h9] | rw [if_pos rfl,if_neg h9]
   exact ⟨by rw [HMV.out,e1,if_neg (by decide)],e1⟩
  go_wp2_with fail
  go_ret2
  exact ⟨ret_two H9.out.1.symm H9.out.2.symm,hFX⟩
end

section
set_option maxRecDepth 100000
set_option maxHeartbeats 8000000

open Go.RowKit
def SomeB (v : Value) : Prop:=∃z : Bool,v = .bool z
theorem mLawChecks_any (P M : Int) (am : Option Addr) (mn cm : Nat) (mod : List Int) (N : Int) (a : Option Addr) (n c : Nat) (L : List (List Int)) (ax : Option Addr) (nx cx : Nat) (x : List Int) (at' : Option Addr) (nt ct : Nat) (ts : List (List Int)) (w : World)
  (hmod : Ints w am mn mod) (hi : Mat w a n L) (hx : Ints w ax nx x) (hts : Mat w at' nt ts) (hnc : nt<=ct) :
  Calls Tryz.prog 5 #[.agg #[.int .i64 P,.int .i64 M,.slice am mn cm,.int .i64 N,.slice a n c],.agg #[.slice ax nx cx,.slice at' nt ct]] w λe w'=>e = .returned (.bool true)/\Below w.heap.size w w':=by
 have HF1 : Hid (∀V,Below w.heap.size w V->Calls Tryz.prog 28 #[.agg #[.int .i64 P,.int .i64 M,.slice am mn cm,.int .i64 N,.slice a n c],.int .i64 100] V (SomeBool V)):=λV hV=>rFew12_any P M am mn cm N a n c 100 L V (hi.keep hV) (by omega)
 have HF2 : Hid (∀V,Below w.heap.size w V->Calls Tryz.prog 29 #[.agg #[.slice at' nt ct]] V (SomeBool V)):=λV hV=>rFew26_any at' nt ct ts V (hts.keep hV)
 have H1:=Lib.hid (λV (hV : Below w.heap.size w V)=>mCheck_any P M am mn cm mod N a n c L ax nx cx x at' nt ct ts V (hmod.keep hV) (hi.keep hV) (hx.keep hV) (hts.keep hV))
 have H2:=Lib.hid (λV (hV : Below w.heap.size w V)=>rCheck27_any P M am mn cm mod N a n c L ax nx cx x at' nt ct ts V (hmod.keep hV) (hi.keep hV) (hx.keep hV) (hts.keep hV) hnc)
 clear hmod hi hx hts hnc
 generalize mchE P M mod N L x ts=er at *
 generalize mchV P M mod N L x ts=X at *
 go_enter Tryz.func5,Tryz.ntmps5
 go_upto_region 1 with fail
 obtain ⟨W,hW⟩ : ∃W : World,W=(w.alloc (.cells #[.int .i64 P,.int .i64 M,.slice am mn cm,.int .i64 N,.slice a n c] 27)).alloc (.cells #[.slice ax nx cx,.slice at' nt ct] 49):=⟨_,rfl⟩
 rw [<- hW]
 have hbW : Below w.heap.size w W:=by rw [hW];exact below2 _ _ _
 have x0 : Box W w.heap.size [.int .i64 P,.int .i64 M,.slice am mn cm,.int .i64 N,.slice a n c]:=by rw [hW];exact (Box.new _ _ _ rfl).alloc _
 have y0 : Box W (w.heap.size+1) [.slice ax nx cx,.slice at' nt ct]:=by rw [hW];exact Box.new _ _ _ (by simp)
 have HS : Hid (∀V,Below W.heap.size W V->V.cell? ⟨w.heap.size,0,none⟩=some (.int .i64 P)/\V.cell? ⟨w.heap.size,1,none⟩=some (.int .i64 M)/\V.cell? ⟨w.heap.size,2,none⟩=some (.slice am mn cm)/\V.cell? ⟨w.heap.size,3,none⟩=some (.int .i64 N)/\V.cell? ⟨w.heap.size,4,none⟩=some (.slice a n c) /\
   V.cell? ⟨w.heap.size+1,0,none⟩=some (.slice ax nx cx)/\V.cell? ⟨w.heap.size+1,1,none⟩=some (.slice at' nt ct)):=λV hV=>by
  have x1:=x0.keep hV
  have y1:=y0.keep hV
  exact ⟨x1.cell 0 rfl,x1.cell 1 rfl,x1.cell 2 rfl,x1.cell 3 rfl,x1.cell 4 rfl,y1.cell 0 rfl,y1.cell 1 rfl⟩
 have HbW:=Lib.hid hbW
 clear hW x0 hbW y0
 go_cut [37] (λv wx=>SomeB v/\Below W.heap.size W wx)
 case first =>
  go_wp2_with fail
  refine (awake27_any W).mono ?_
  rintro e w1 ⟨rfl,hb1⟩
  obtain ⟨c0,c1,c2,c3,c4,c5,c6⟩:=HS.out w1 hb1
  go_wp2_with fail
  refine (HF1.out w1 (Below.next HbW.out hb1)).mono ?_
  rintro e w2 ⟨z,rfl,hb2⟩
  have hB2:=Below.next hb1 hb2
  clear c0 c1 c2 c3 c4 c5 c6
  cases z
  ·go_wp2_with fail
   go_meet
   exact ⟨⟨_,rfl⟩,hB2⟩
  obtain ⟨c0,c1,c2,c3,c4,c5,c6⟩:=HS.out w2 hB2
  by_cases h1 : 14<N
  ·have d1 : decide (14<N)=true:=by simpa using h1
   by_cases h2 : N<=64
   ·have d2 : decide (N<=64)=true:=by simpa using h2
    clear h1 h2
    go_wp2_with fail
    go_meet
    exact ⟨⟨_,rfl⟩,hB2⟩
   have d2 : decide (N<=64)=false:=by simpa using h2
   clear h1 h2
   by_cases hlx : 100<nx
   ·have d3 : decide (100<nx)=true:=by simpa using hlx
    have d3' : decide ((100 : Int)<(nx : Int))=true:=by simp;omega
    go_wp2_with fail
    go_meet
    exact ⟨⟨_,rfl⟩,hB2⟩
   ·have d3 : decide (100<nx)=false:=by simp;omega
    have d3' : decide ((100 : Int)<(nx : Int))=false:=by simp;omega
    go_wp2_with fail
    refine (HF2.out w2 (Below.next HbW.out hB2)).mono ?_
    rintro e w4 ⟨z,rfl,hb4⟩
    have hB4:=Below.next hB2 hb4
    cases z <;>
    (go_wp2_with fail
     go_meet
     exact ⟨⟨_,rfl⟩,hB4⟩)
  have d1 : decide (14<N)=false:=by simpa using h1
  clear h1
  by_cases hlx : 100<nx
  ·have d3 : decide (100<nx)=true:=by simpa using hlx
   have d3' : decide ((100 : Int)<(nx : Int))=true:=by simp;omega
   go_wp2_with fail
   go_meet
   exact ⟨⟨_,rfl⟩,hB2⟩
  ·have d3 : decide (100<nx)=false:=by simp;omega
   have d3' : decide ((100 : Int)<(nx : Int))=false:=by simp;omega
   go_wp2_with fail
   refine (HF2.out w2 (Below.next HbW.out hB2)).mono ?_
   rintro e w4 ⟨z,rfl,hb4⟩
   have hB4:=Below.next hB2 hb4
   cases z <;>
   (go_wp2_with fail
    go_meet
    exact ⟨⟨_,rfl⟩,hB4⟩)
 obtain ⟨⟨z,rfl⟩,hB⟩:=hcut
 generalize wc=Y at *
 cases z
 rotate_left
 ·go_wp2_with fail
  refine (awake27_any Y).mono ?_
  rintro e w3 ⟨rfl,hb3⟩
  have hF:=Below.next HbW.out (Below.next hB hb3)
  go_wp2_with fail
  go_ret
  exact ⟨rfl,hF⟩
 obtain ⟨c0,c1,c2,c3,c4,c5,c6⟩:=HS.out Y hB
 go_wp2_with fail
 refine (H1.out Y (Below.next HbW.out hB)).mono ?_
 rintro e Y1 ⟨rfl,hb1⟩
 have hB1:=Below.next hB hb1
 clear c0 c1 c2 c3 c4 c5 c6
 obtain ⟨c0,c1,c2,c3,c4,c5,c6⟩:=HS.out Y1 hB1
 go_wp2_with fail
 refine (H2.out Y1 (Below.next HbW.out hB1)).mono ?_
 rintro e Y2 ⟨rfl,hb2⟩
 have hF:=Below.next HbW.out (Below.next hB1 hb2)
 clear c0 c1 c2 c3 c4 c5 c6
 have e1 : (er == er)=true:=by simp
 have e2 : (X == X)=true:=by simp
 go_wp2_with fail
 go_ret
 exact ⟨rfl,hF⟩
end

end Go.Proofs.YtcfmiocdlcapoaaGreat
