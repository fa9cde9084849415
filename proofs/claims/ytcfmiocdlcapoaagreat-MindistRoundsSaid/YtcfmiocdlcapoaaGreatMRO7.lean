import Derived.Test.YtcfmiocdlcapoaaGreatK19
import Derived.Test.YtcfmiocdlcapoaaGreatMRO5
import Derived.Test.YtcfmiocdlcapoaaGreatK17
import Derived.Test.YtcfmiocdlcapoaaGreatK21
import Derived.Test.YtcfmiocdlcapoaaGreatK7
import Derived.Test.YtcfmiocdlcapoaaGreatMRO3
import Derived.Test.YtcfmiocdlcapoaaGreatMRO2
namespace Go.Proofs.YtcfmiocdlcapoaaGreat
set_option linter.unusedVariables false
set_option linter.unusedSimpArgs false
set_option linter.unusedSectionVars false
set_option maxRecDepth 100000
set_option maxHeartbeats 4000000
open Go.RowKit
theorem vm {O O' : aQ} {El : Int->Prop} (F : cK O El) (h : IL O O' El) {m : Nat} {L : Ll} (hL : bH El m L) {x : Lz} (hx : ∀k,k<L.length->El (nth x k)) : ∀k,k<=L.length->bj O m x L k=bj O' m x L k
 | 0,_=>rfl
 | k+1,hk=>by
  have h1:=(dO F hL hx k (by omega)).1
  rw [bj,bj,<- vm F h hL hx k (by omega),lV h F.cl _ _ _ h1.2 (hL.row (i:=k) (by omega)).2 (hx k (by omega))]
theorem yg (P : Int) (m : Nat) (am : OA) (mn cm : Nat) (mod : Lz) (ax : OA) (cx : Nat) (x : Lz) (a : OA) (n c : Nat) (L : Ll) (cols : Nat) (w : World) (hf : l5 w P m am mn mod)
  (hx : Ints w ax n x) (hi : bZ w a n L) (hxe : ∀k,k<n->ee P m (nth x k)) (hR : bH (ee P m) cols L) (hv : ∀k,k<=n->Vc (ee P m) cols (bj (fw P m mod) cols x L k)) (hc : cols<=1000000) (hn : n<=1000000) :
  Calls Tryz.prog 178 #[.agg #[.int .i64 P,.int .i64 m,.slice am mn cm],.slice ax n cx,.slice a n c,.int .i64 cols] w λe w' =>
   ∃a1 c1,e = .returned (.slice a1 cols c1)/\w'.ownsRow w.heap.size 3 1 (.slice a1 cols c1) cols ((bj (fw P m mod) cols x L n).map (Value.int .i64))/\Below w.heap.size w w':=by
 have Hil:=Z5 hi.len
 have hplx:=hx.pl
 have hpla:=hi.pl
 have HR:=Z5 hR
 have Hv:=Z5 hv
 have Hxe:=Z5 hxe
 obtain ⟨O,hO⟩ : ∃O,fw P m mod=O:=⟨_,rfl⟩
 have HA : Hid (∀V k a1 c1 ra rc,k<n->Below w.heap.size w V->Ints V a1 cols (bj O cols x L k)->Ints V ra cols (aj L k)->∀V2,Below V.heap.size V V2 ->
   Calls Tryz.prog 115 #[.agg #[.int .i64 P,.int .i64 m,.slice am mn cm],.slice a1 cols c1,.int .i64 (nth x k),.slice ra cols rc] V2 λe w' =>
    ∃a2 c2,e = .returned (.slice a2 cols c2)/\w'.ownsRow V2.heap.size 3 1 (.slice a2 cols c2) cols ((bJ O (bj O cols x L k) (nth x k) (aj L k)).map (Value.int .i64))/\Below V2.heap.size V2 w'):=λV k a1 c1 ra rc hk hV h1 h2 V2 hV2=>by
  have hrow:=HR.out.row (i:=k) (by rw [Hil.out];exact hk)
  have hvk:=Hv.out k (by omega)
  rw [hO] at hvk
  have h:=jJ P m am mn cm mod a1 cols c1 (bj O cols x L k) (nth x k) ra rc (aj L k) V2 (hf.ah (Below.next hV hV2)) (Hxe.out k hk) (h1.ah hV2) (h2.ah hV2) hvk.2 hrow.2 hc
  refine h.mono ?_
  rintro e w' ⟨a2,c2,rfl,hown,hb⟩
  rw [hO,cH _ _ _ _ (by rw [hrow.1,hvk.1]),hvk.1] at hown
  rw [hO,cH _ _ _ _ (by rw [hrow.1,hvk.1]),hvk.1]
  exact ⟨a2,c2,rfl,hown,hb⟩
 have hz : (bj O cols x L 0).map (Value.int .i64)=List.replicate cols (Value.int .i64 0):=by simp [bj]
 have Hz:=Z5 hz
 rw [hO]
 clear hO hR hv hxe hz
 go_enter Tryz.func178,Tryz.ntmps178
 go_upto_region 1 with fail
 obtain ⟨W,hW⟩ : ∃W : World,W=w.alloc (.cells #[.int .i64 P,.int .i64 m,.slice am mn cm] 24):=⟨_,rfl⟩
 rw [<- hW]
 have hbW : Below w.heap.size w W:=by rw [hW];exact an _ _
 have x0 : aV W w.heap.size [.int .i64 P,.int .i64 m,.slice am mn cm]:=by rw [hW];exact aV.new _ _ _ rfl
 have HX:=Z5 x0
 have HbW:=Z5 hbW
 have hxW:=hx.ah hbW
 have hiW:=hi.ah hbW
 clear hW x0
 go_wp2_with (at_make;refine bV rfl _ _ 22 3 rfl (.int .i64 0) 8 Tryz.underlying22 aX rfl cols rfl rfl (by omega) (by unfold maxLen;omega) ?_;intro a5 w5 hown hbel hge hlt)
 have hown0 : w5.ownsRow W.heap.size 3 1 (.slice a5 cols cols) cols ((bj O cols x L 0).map (Value.int .i64)):=by rw [Hz.out];exact hown
 clear hown hge hlt
 go_loopw [9,10] (λov iv wr=>∃(k : Nat) (a1 : OA) (c1 : Nat),k<=n/\iv = .int .i64 k/\ov = .slice a1 cols c1/\wr.ownsRow W.heap.size 3 1 (.slice a1 cols c1) cols ((bj O cols x L k).map (Value.int .i64))/\Below W.heap.size W wr) (λ_ iv _=>n - (intOf iv).toNat)
 case atStart=>exact ⟨0,a5,cols,Nat.zero_le _,rfl,rfl,hown0,hbel⟩
 case round =>
  clear hown0 hbel
  obtain ⟨k,a1,c1,hk,rfl,rfl,hown,hbr⟩:=hrel
  by_cases hlt : k<n
  ·have cxk:=(hxW.ah hbr).cell k hlt
   have hrow:=HR.out.row (i:=k) (by rw [Hil.out];exact hlt)
   obtain ⟨ra,rn,rc,er,ir⟩:=(hiW.ah hbr).cell k hlt
   have hrn : rn=cols:=by rw [<- ir.len];exact hrow.1
   rw [hrn] at er ir
   clear hrn hrow
   by_cases h0 : nth x k=0
   ·have h0' : (nth x k != 0)=false:=by simpa using h0
    have Hn : Hid (bj O cols x L (k+1)=bj O cols x L k):=by show _=_;rw [bj,if_pos h0]
    clear h0
    go_wp2_with fail
    go_roundw
    case rel=>exact ⟨k+1,a1,c1,by omega,by go_num,rfl,by rw [Hn.out];exact hown,hbr⟩
    case measure=>simp [intOf] <;> omega
   ·have h0' : (nth x k != 0)=true:=by simpa using h0
    have Hn : Hid (bj O cols x L (k+1)=bJ O (bj O cols x L k) (nth x k) (aj L k)):=by show _=_;rw [bj,if_neg h0]
    have hbwr:=Below.next HbW.out hbr
    have Hk:=Z5 (HA.out wr k a1 c1 ra rc hlt hbwr (Ints.own hown).1 ir)
    have HS2 : Hid (∀V,Below wr.heap.size wr V->V.cell? ⟨w.heap.size,0,none⟩=some (.int .i64 P)/\V.cell? ⟨w.heap.size,1,none⟩=some (.int .i64 m)/\V.cell? ⟨w.heap.size,2,none⟩=some (.slice am mn cm) /\
      V.cell? ⟨ablk ax,aJ ax+k,none⟩=some (.int .i64 (nth x k))/\V.cell? ⟨ablk a,aJ a+k,none⟩=some (.slice ra cols rc)/\Below wr.heap.size wr V):=λV hV=>by
     have x1:=HX.out.ah (Below.next hbr hV)
     exact ⟨x1.cell 0 rfl,x1.cell 1 rfl,x1.cell 2 rfl,aw hV cxk,aw hV er,hV⟩
    have Hbr:=Z5 hbr
    have hszr:=hbr.size
    clear h0 hbr hown ir HA
    go_wp2_with fail
    go_region_held3 (λV=>V.cell? ⟨w.heap.size,0,none⟩=some (.int .i64 P)/\V.cell? ⟨w.heap.size,1,none⟩=some (.int .i64 m)/\V.cell? ⟨w.heap.size,2,none⟩=some (.slice am mn cm) /\
      V.cell? ⟨ablk ax,aJ ax+k,none⟩=some (.int .i64 (nth x k))/\V.cell? ⟨ablk a,aJ a+k,none⟩=some (.slice ra cols rc)/\Below wr.heap.size wr V)
     ((refine HS2.out _ ?_;first | exact (Below.refl _ _).drew | exact Below.next (Below.refl _ _).drew hb4))
     (first
      | (go_at_call 115;((with_reducible refine (Hk.out _ (Below.refl _ _).drew).mono ?_);rintro e w4 ⟨a4,c4,rfl,hown4,hb4⟩)))
    have hbr4:=Below.next Hbr.out (Below.next (Below.refl _ _).drew hb4)
    have hown5:=aP hown4 (show W.heap.size<=wr.drew.heap.size from hszr)
    go_wp2_with fail
    go_roundw
    case rel=>exact ⟨k+1,a4,c4,by omega,by go_num,rfl,by rw [Hn.out];exact hown5,hbr4⟩
    case measure=>simp [intOf] <;> omega
  ·obtain rfl : k=n:=by omega
   have hF:=aP hown HbW.out.size
   have HF:=Z5 hF
   have hbF:=Below.next HbW.out hbr
   clear hF hown
   go_wp2_with fail
   go_ret
   exact ⟨a1,c1,rfl,HF.out,hbF⟩
def rV (P M : Int) (mod : Lz) (N : Int) (L : Ll) : Int:=if aL P M mod N L=0 then lZ (aa P M.toNat mod).q L.length else 0
def uG (P M : Int) (mod : Lz) (N : Int) (L : Ll) : Int:=if aL P M mod N L=0 then lA (aa P M.toNat mod).q L.length else aL P M mod N L
theorem sj {P M : Int} {mod : Lz} {N : Int} {L : Ll} (hE : aL P M mod N L=0) : aK P M=((aa P M.toNat mod).q : Nat)/\(2 : Int)<=(aa P M.toNat mod).q/\((aa P M.toNat mod).q : Int)<=256:=by
 obtain ⟨m,hm,_,hq,_⟩:=fU (bh hE).1
 subst hm
 rw [Int.toNat_natCast]
 rw [hq]
 have h0 : aK P m ≠ 0:=by
  intro h0
  have h1:=(bh hE).1
  unfold bA b8 at h1
  simp [h0] at h1
 obtain ⟨h1,h2,h3,h4,h5,h6⟩:=gN h0
 refine ⟨rfl,?_,by omega⟩
 rw [h6]
 have:=cW (show 1<=P by omega) (show 1<=(m : Int).toNat by omega)
 have e : P ^ 1=P:=by rw [Int.pow_succ,Int.pow_zero,Int.one_mul]
 omega
theorem mS (P M : Int) (am : OA) (mn cm : Nat) (mod : Lz) (N : Int) (a : OA) (k c : Nat) (L : Ll) (w : World) (hmod : Ints w am mn mod) (hi : bZ w a k L) :
  Calls Tryz.prog 56 #[.agg #[.int .i64 P,.int .i64 M,.slice am mn cm,.int .i64 N,.slice a k c]] w λe w' =>
   e = .returned (.tuple #[.int .i64 (rV P M mod N L),.int .i64 (uG P M mod N L)])/\Below w.heap.size w w':=by
 have HCk : Hid (∀V,Below w.heap.size w V->Calls Tryz.prog 22 #[.agg #[.int .i64 P,.int .i64 M,.slice am mn cm,.int .i64 N,.slice a k c]] V λe w'=>e = .returned (.int .i64 (aL P M mod N L))/\Below V.heap.size V w'):=λV hV=>by
  have h:=fX P M am mn cm mod N a k c L V (hmod.ah hV) (hi.ah hV) λh=>iW h
  rw [lH] at h
  exact h
 have hkl : L.length=k:=hi.len
 go_enter Tryz.func56,Tryz.ntmps56
 go_upto_region 1 with fail
 obtain ⟨W,hW⟩ : ∃W : World,W=w.alloc (.cells #[.int .i64 P,.int .i64 M,.slice am mn cm,.int .i64 N,.slice a k c] 27):=⟨_,rfl⟩
 rw [<- hW]
 have hbW : Below w.heap.size w W:=by rw [hW];exact an _ _
 have x0 : aV W w.heap.size [.int .i64 P,.int .i64 M,.slice am mn cm,.int .i64 N,.slice a k c]:=by rw [hW];exact aV.new _ _ _ rfl
 have HX:=Z5 x0
 have c0:=x0.cell 0 rfl
 have c1:=x0.cell 1 rfl
 have c2:=x0.cell 2 rfl
 have c3:=x0.cell 3 rfl
 have c4:=x0.cell 4 rfl
 clear hW x0
 by_cases hE : aL P M mod N L=0
 ·have hk256 : k<=256:=by rw [<- hkl];exact (eJ hE).choose_spec.2.2.2.1
  obtain ⟨ho,hq2,hq256⟩:=sj hE
  have HV : Hid (rV P M mod N L=lZ (aa P M.toNat mod).q k/\uG P M mod N L=lA (aa P M.toNat mod).q k):=by
   show _/\_
   unfold rV uG
   rw [if_pos hE,if_pos hE,hkl];exact ⟨rfl,rfl⟩
  rw [hE] at HCk
  have HOr : Hid (∀V,Calls Tryz.prog 45 #[.agg #[.int .i64 P,.int .i64 M,.slice am mn cm]] V λe w'=>e = .returned (.int .i64 ((aa P M.toNat mod).q : Nat))/\Below V.heap.size V w'):=λV=>by
   have h:=dB P M am mn cm V
   rw [ho] at h
   exact h
  generalize (aa P M.toNat mod).q=q at *
  clear ho hE hkl
  go_wp2_with (go_at_call 22;refine (HCk.out _ hbW).mono ?_;rintro e w3 ⟨rfl,hb3⟩;clear c0 c1 c2 c3 c4)
  have HS : Hid (∀V,Below w3.heap.size w3 V->V.cell? ⟨w.heap.size,0,none⟩=some (.int .i64 P)/\V.cell? ⟨w.heap.size,1,none⟩=some (.int .i64 M)/\V.cell? ⟨w.heap.size,2,none⟩=some (.slice am mn cm)/\V.cell? ⟨w.heap.size,4,none⟩=some (.slice a k c)/\Below w3.heap.size w3 V):=λV hV=>by
   have x3:=(HX.out.ah hb3).ah hV
   exact ⟨x3.cell 0 rfl,x3.cell 1 rfl,x3.cell 2 rfl,x3.cell 4 rfl,hV⟩
  go_region_held3 (λV=>V.cell? ⟨w.heap.size,0,none⟩=some (.int .i64 P)/\V.cell? ⟨w.heap.size,1,none⟩=some (.int .i64 M)/\V.cell? ⟨w.heap.size,2,none⟩=some (.slice am mn cm)/\V.cell? ⟨w.heap.size,4,none⟩=some (.slice a k c)/\Below w3.heap.size w3 V)
   ((refine HS.out _ ?_;first | exact (Below.refl _ _).drew | (go_split_ands;assumption) | (go_split_ands;exact Below.next (by assumption) (by assumption))))
   (first
    | (go_at_call 45;((with_reducible refine (HOr.out _).mono ?_);rintro e w4 ⟨rfl,hb4⟩))
    | (go_at_call 108;((with_reducible refine (qf (q : Int) k _ hq2 hq256 (by omega)).mono ?_);rintro e w5 ⟨rfl,rfl⟩)))
  all_goals go_wp2_with fail
  all_goals go_ret2
  all_goals exact ⟨cO HV.out.1.symm HV.out.2.symm,Below.next (Below.next hbW hb3) (by go_split_ands;assumption)⟩
 ·have HV : Hid (rV P M mod N L=0/\uG P M mod N L=aL P M mod N L):=by
   show _/\_
   unfold rV uG
   rw [if_neg hE,if_neg hE];exact ⟨rfl,rfl⟩
  generalize aL P M mod N L=z at *
  have hz : (z != 0)=true:=by simpa using hE
  clear hE
  go_wp2_with (go_at_call 22;refine (HCk.out _ hbW).mono ?_;rintro e w3 ⟨rfl,hb3⟩;clear c0 c1 c2 c3 c4)
  go_ret2
  exact ⟨cO HV.out.1.symm HV.out.2.symm,Below.next hbW hb3⟩
def nT (lim P M : Int) (mod : Lz) (N : Int) (L : Ll) : Int:=if uG P M mod N L=0/\rV P M mod N L<=lim then rV P M mod N L else 0
theorem kg (lim P M : Int) (am : OA) (mn cm : Nat) (mod : Lz) (N : Int) (a : OA) (k c : Nat) (L : Ll) (w : World) (hmod : Ints w am mn mod) (hi : bZ w a k L) :
  Calls Tryz.prog 21 #[.agg #[.int .i64 P,.int .i64 M,.slice am mn cm,.int .i64 N,.slice a k c],.int .i64 lim] w λe w' =>
   e = .returned (.int .i64 (nT lim P M mod N L))/\Below w.heap.size w w':=by
 have HSz : Hid (∀V,Below w.heap.size w V->Calls Tryz.prog 56 #[.agg #[.int .i64 P,.int .i64 M,.slice am mn cm,.int .i64 N,.slice a k c]] V λe w'=>e = .returned (.tuple #[.int .i64 (rV P M mod N L),.int .i64 (uG P M mod N L)])/\Below V.heap.size V w'):=λV hV =>
  mS P M am mn cm mod N a k c L V (hmod.ah hV) (hi.ah hV)
 have HC : Hid (nT lim P M mod N L=if uG P M mod N L=0/\rV P M mod N L<=lim then rV P M mod N L else 0):=rfl
 generalize nT lim P M mod N L=z at *
 generalize rV P M mod N L=v at *
 generalize uG P M mod N L=f at *
 go_enter Tryz.func21,Tryz.ntmps21
 go_upto_region 1 with fail
 obtain ⟨W,hW⟩ : ∃W : World,W=w.alloc (.cells #[.int .i64 P,.int .i64 M,.slice am mn cm,.int .i64 N,.slice a k c] 27):=⟨_,rfl⟩
 rw [<- hW]
 have hbW : Below w.heap.size w W:=by rw [hW];exact an _ _
 have x0 : aV W w.heap.size [.int .i64 P,.int .i64 M,.slice am mn cm,.int .i64 N,.slice a k c]:=by rw [hW];exact aV.new _ _ _ rfl
 have c0:=x0.cell 0 rfl
 have c1:=x0.cell 1 rfl
 have c2:=x0.cell 2 rfl
 have c3:=x0.cell 3 rfl
 have c4:=x0.cell 4 rfl
 clear hW x0
 by_cases hf : f=0
 ·subst hf
  by_cases hv : v<=lim
  ·have Hz : Hid (z=v):=by show _=_;rw [HC.out,if_pos ⟨rfl,hv⟩]
   have hv' : decide (v > lim)=false:=by simpa using hv
   clear hv
   go_wp2_with (go_at_call 56;refine (HSz.out _ hbW).mono ?_;rintro e w3 ⟨rfl,hb3⟩;clear c0 c1 c2 c3 c4)
   go_ret
   exact ⟨aF Hz.out.symm,Below.next hbW hb3⟩
  ·have Hz : Hid (z=0):=by show _=_;rw [HC.out,if_neg λh=>hv h.2]
   have hv' : decide (v > lim)=true:=by simpa using hv
   clear hv
   go_wp2_with (go_at_call 56;refine (HSz.out _ hbW).mono ?_;rintro e w3 ⟨rfl,hb3⟩;clear c0 c1 c2 c3 c4)
   go_ret
   exact ⟨aF Hz.out.symm,Below.next hbW hb3⟩
 ·have Hz : Hid (z=0):=by show _=_;rw [HC.out,if_neg λh=>hf h.1]
  have hf' : (f != 0)=true:=by simpa using hf
  clear hf
  go_wp2_with (go_at_call 56;refine (HSz.out _ hbW).mono ?_;rintro e w3 ⟨rfl,hb3⟩;clear c0 c1 c2 c3 c4)
  go_ret
  exact ⟨aF Hz.out.symm,Below.next hbW hb3⟩
def IT (ce N : Int) (w : World) (e : Ending) (w' : World) : Prop:=∃z : Bool,e = .returned (.bool z)/\(z=true->ce=0->N<=14)/\Below w.heap.size w w'
theorem mf (P M : Int) (am : OA) (mn cm : Nat) (mod : Lz) (N : Int) (a : OA) (n c : Nat) (L : Ll) (w : World) (hmod : Ints w am mn mod) (hi : bZ w a n L) :
  Calls Tryz.prog 13 #[.agg #[.int .i64 P,.int .i64 M,.slice am mn cm,.int .i64 N,.slice a n c]] w (IT (aL P M mod N L) N w):=by
 have HF1 : Hid (∀V,Below w.heap.size w V->Calls Tryz.prog 28 #[.agg #[.int .i64 P,.int .i64 M,.slice am mn cm,.int .i64 N,.slice a n c],.int .i64 200] V (gZ V)):=λV hV=>kb P M am mn cm N a n c 200 L V (hi.ah hV) (by omega)
 have HF2 : Hid (∀V,Below w.heap.size w V->Calls Tryz.prog 28 #[.agg #[.int .i64 P,.int .i64 M,.slice am mn cm,.int .i64 N,.slice a n c],.int .i64 100] V (gZ V)):=λV hV=>kb P M am mn cm N a n c 100 L V (hi.ah hV) (by omega)
 have HCk : Hid (∀V,Below w.heap.size w V->Calls Tryz.prog 22 #[.agg #[.int .i64 P,.int .i64 M,.slice am mn cm,.int .i64 N,.slice a n c]] V λe w'=>e = .returned (.int .i64 (aL P M mod N L))/\Below V.heap.size V w'):=λV hV=>jL P M am mn cm mod N a n c L V (hmod.ah hV) (hi.ah hV)
 have HCn : Hid (∀V,Below w.heap.size w V->Calls Tryz.prog 21 #[.agg #[.int .i64 P,.int .i64 M,.slice am mn cm,.int .i64 N,.slice a n c],.int .i64 1000] V λe w'=>e = .returned (.int .i64 (nT 1000 P M mod N L))/\Below V.heap.size V w'):=λV hV=>kg 1000 P M am mn cm mod N a n c L V (hmod.ah hV) (hi.ah hV)
 have HOr : Hid (∀V,Calls Tryz.prog 45 #[.agg #[.int .i64 P,.int .i64 M,.slice am mn cm]] V λe w'=>e = .returned (.int .i64 (aK P M))/\Below V.heap.size V w'):=λV=>dB P M am mn cm V
 generalize aK P M=q at *
 generalize nT 1000 P M mod N L=cn at *
 generalize aL P M mod N L=ce at *
 clear hi hmod
 go_enter Tryz.func13,Tryz.ntmps13
 go_upto_region 1 with fail
 obtain ⟨W,hW⟩ : ∃W : World,W=w.alloc (.cells #[.int .i64 P,.int .i64 M,.slice am mn cm,.int .i64 N,.slice a n c] 27):=⟨_,rfl⟩
 rw [<- hW]
 have hbW : Below w.heap.size w W:=by rw [hW];exact an _ _
 have x0 : aV W w.heap.size [.int .i64 P,.int .i64 M,.slice am mn cm,.int .i64 N,.slice a n c]:=by rw [hW];exact aV.new _ _ _ rfl
 have HS : Hid (∀V,Below W.heap.size W V->V.cell? ⟨w.heap.size,0,none⟩=some (.int .i64 P)/\V.cell? ⟨w.heap.size,1,none⟩=some (.int .i64 M)/\V.cell? ⟨w.heap.size,2,none⟩=some (.slice am mn cm)/\V.cell? ⟨w.heap.size,3,none⟩=some (.int .i64 N)/\V.cell? ⟨w.heap.size,4,none⟩=some (.slice a n c)):=λV hV=>by
  have x1:=x0.ah hV
  exact ⟨x1.cell 0 rfl,x1.cell 1 rfl,x1.cell 2 rfl,x1.cell 3 rfl,x1.cell 4 rfl⟩
 have HbW:=Z5 hbW
 clear hW x0 hbW
 obtain ⟨c0,c1,c2,c3,c4⟩:=HS.out W (Below.refl _ _)
 go_wp2_with fail
 refine (HCk.out W HbW.out).mono ?_
 rintro e w1 ⟨rfl,hb1⟩
 clear c0 c1 c2 c3 c4
 obtain ⟨c0,c1,c2,c3,c4⟩:=HS.out w1 hb1
 have hF1:=Below.next HbW.out hb1
 by_cases hE : ce=0
 rotate_left
 ·have d0 : (ce != 0)=true:=by simpa using hE
  have HE:=Z5 hE
  clear hE
  go_wp2_with fail
  refine (HF1.out w1 hF1).mono ?_
  rintro e w2 ⟨z,rfl,hb2⟩
  have hF:=Below.next hF1 hb2
  go_wp2_with fail
  go_ret
  exact ⟨_,rfl,λ_ h=>absurd h HE.out,hF⟩
 have d0 : (ce != 0)=false:=by simpa using hE
 clear hE
 go_wp2_with fail
 refine (HF2.out w1 hF1).mono ?_
 rintro e w2 ⟨z,rfl,hb2⟩
 have hB2:=Below.next hb1 hb2
 have hF2:=Below.next HbW.out hB2
 clear c0 c1 c2 c3 c4
 obtain ⟨c0,c1,c2,c3,c4⟩:=HS.out w2 hB2
 cases z
 ·go_wp2_with fail
  go_ret
  exact ⟨_,rfl,λh=>(by cases h),hF2⟩
 by_cases h1 : N<=14
 rotate_left
 ·have d1 : decide (N<=14)=false:=by simpa using h1
  clear h1
  go_wp2_with fail
  go_ret
  exact ⟨_,rfl,λh=>(by cases h),hF2⟩
 have d1 : decide (N<=14)=true:=by simpa using h1
 have H14:=Z5 h1
 clear h1
 go_wp2_with fail
 refine (HCn.out w2 hF2).mono ?_
 rintro e w3 ⟨rfl,hb3⟩
 have hB3:=Below.next hB2 hb3
 have hF3:=Below.next HbW.out hB3
 clear c0 c1 c2 c3 c4
 obtain ⟨c0,c1,c2,c3,c4⟩:=HS.out w3 hB3
 by_cases h2 : 0<cn
 ·have d2 : decide (0<cn)=true:=by simpa using h2
  have d2' : decide (cn > 0)=true:=by simpa using h2
  clear h2
  go_wp2_with fail
  go_ret
  exact ⟨_,rfl,λ_ _=>H14.out,hF3⟩
 have d2 : decide (0<cn)=false:=by simpa using h2
 have d2' : decide (cn > 0)=false:=by simpa using h2
 clear h2
 by_cases h3 : n=3
 rotate_left
 ·have d3 : ((n : Int) == 3)=false:=by simp;omega
  clear h3
  go_wp2_with fail
  go_ret
  exact ⟨_,rfl,λ_ _=>H14.out,hF3⟩
 have d3 : ((n : Int) == 3)=true:=by simp;omega
 clear h3
 by_cases h4 : N<=6
 rotate_left
 ·have d4 : decide (N<=6)=false:=by simpa using h4
  clear h4
  go_wp2_with fail
  go_ret
  exact ⟨_,rfl,λ_ _=>H14.out,hF3⟩
 have d4 : decide (N<=6)=true:=by simpa using h4
 clear h4
 go_wp2_with fail
 refine (HOr.out w3).mono ?_
 rintro e w4 ⟨rfl,hb4⟩
 have hF4:=Below.next hF3 hb4
 go_wp2_with fail
 go_ret
 exact ⟨_,rfl,λ_ _=>H14.out,hF4⟩
end Go.Proofs.YtcfmiocdlcapoaaGreat
