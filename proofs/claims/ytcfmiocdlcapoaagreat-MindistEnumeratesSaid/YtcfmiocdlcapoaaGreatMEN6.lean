/-  -/
import Derived.Test.YtcfmiocdlcapoaaGreatK7
import Derived.Test.YtcfmiocdlcapoaaGreatMEN2
import Derived.Test.YtcfmiocdlcapoaaGreatK21
import Derived.Test.YtcfmiocdlcapoaaGreatMEN4
import Derived.Test.YtcfmiocdlcapoaaGreatK17
import Derived.Test.YtcfmiocdlcapoaaGreatMEN3
namespace Go.Proofs.YtcfmiocdlcapoaaGreat
set_option linter.unusedVariables false
set_option linter.unusedSimpArgs false
set_option linter.unusedSectionVars false

section
set_option maxRecDepth 100000
set_option maxHeartbeats 4000000

open Go.RowKit
def szV (P M : Int) (mod : List Int) (N : Int) (L : List (List Int)) : Int:=if codeE P M mod N L=0 then expV (tblOf P M.toNat mod).q L.length else 0
def szE (P M : Int) (mod : List Int) (N : Int) (L : List (List Int)) : Int:=if codeE P M mod N L=0 then expE (tblOf P M.toNat mod).q L.length else codeE P M mod N L
theorem q_order {P M : Int} {mod : List Int} {N : Int} {L : List (List Int)} (hE : codeE P M mod N L=0) : orderS P M=((tblOf P M.toNat mod).q : Nat)/\(2 : Int)<=(tblOf P M.toNat mod).q/\((tblOf P M.toNat mod).q : Int)<=256:=by
 obtain ⟨m,hm,_,hq,_⟩:=eq_ops (codeE_zero hE).1
 subst hm
 rw [Int.toNat_natCast]
 rw [hq]
 have h0 : orderS P m ≠ 0:=by
  intro h0
  have h1:=(codeE_zero hE).1
  unfold fieldB shapeB at h1
  simp [h0] at h1
 obtain ⟨h1,h2,h3,h4,h5,h6⟩:=orderS_ne h0
 refine ⟨rfl,?_,by omega⟩
 rw [h6]
 have:=pow_mono (show 1<=P by omega) (show 1<=(m : Int).toNat by omega)
 have e : P ^ 1=P:=by rw [Int.pow_succ,Int.pow_zero,Int.one_mul]
 omega
theorem rSize12_any (P M : Int) (am : Option Addr) (mn cm : Nat) (mod : List Int) (N : Int) (a : Option Addr) (k c : Nat) (L : List (List Int)) (w : World) (hmod : Ints w am mn mod) (hi : Mat w a k L) :
  Calls Tryz.prog 56 #[.agg #[.int .i64 P,.int .i64 M,.slice am mn cm,.int .i64 N,.slice a k c]] w λe w' =>
   e = .returned (.tuple #[.int .i64 (szV P M mod N L),.int .i64 (szE P M mod N L)])/\Below w.heap.size w w':=by
 have HCk : Hid (∀V,Below w.heap.size w V->Calls Tryz.prog 22 #[.agg #[.int .i64 P,.int .i64 M,.slice am mn cm,.int .i64 N,.slice a k c]] V λe w'=>e = .returned (.int .i64 (codeE P M mod N L))/\Below V.heap.size V w'):=λV hV=>by
  have h:=rCodeCheck_any P M am mn cm mod N a k c L V (hmod.keep hV) (hi.keep hV) λh=>hinv_all h
  rw [rcodeE_eq] at h
  exact h
 have hkl : L.length=k:=hi.len
 go_enter Tryz.func56,Tryz.ntmps56
 go_upto_region 1 with fail
 obtain ⟨W,hW⟩ : ∃W : World,W=w.alloc (.cells #[.int .i64 P,.int .i64 M,.slice am mn cm,.int .i64 N,.slice a k c] 27):=⟨_,rfl⟩
 rw [<- hW]
 have hbW : Below w.heap.size w W:=by rw [hW];exact below1 _ _
 have x0 : Box W w.heap.size [.int .i64 P,.int .i64 M,.slice am mn cm,.int .i64 N,.slice a k c]:=by rw [hW];exact Box.new _ _ _ rfl
 have HX:=Lib.hid x0
 have c0:=x0.cell 0 rfl
 have c1:=x0.cell 1 rfl
 have c2:=x0.cell 2 rfl
 have c3:=x0.cell 3 rfl
 have c4:=x0.cell 4 rfl
 clear hW x0
 by_cases hE : codeE P M mod N L=0
 ·have hk256 : k<=256:=by rw [<- hkl];exact (codeE_rws hE).choose_spec.2.2.2.1
  obtain ⟨ho,hq2,hq256⟩:=q_order hE
  have HV : Hid (szV P M mod N L=expV (tblOf P M.toNat mod).q k/\szE P M mod N L=expE (tblOf P M.toNat mod).q k):=by
   show _/\_
   unfold szV szE
   rw [if_pos hE,if_pos hE,hkl];exact ⟨rfl,rfl⟩
  rw [hE] at HCk
  have HOr : Hid (∀V,Calls Tryz.prog 45 #[.agg #[.int .i64 P,.int .i64 M,.slice am mn cm]] V λe w'=>e = .returned (.int .i64 ((tblOf P M.toNat mod).q : Nat))/\Below V.heap.size V w'):=λV=>by
   have h:=rOrder_any P M am mn cm V
   rw [ho] at h
   exact h
  generalize (tblOf P M.toNat mod).q=q at *
  clear ho hE hkl
  go_wp2_with (go_at_call 22;refine (HCk.out _ hbW).mono ?_;rintro e w3 ⟨rfl,hb3⟩;clear c0 c1 c2 c3 c4)
  have HS : Hid (∀V,Below w3.heap.size w3 V->V.cell? ⟨w.heap.size,0,none⟩=some (.int .i64 P)/\V.cell? ⟨w.heap.size,1,none⟩=some (.int .i64 M)/\V.cell? ⟨w.heap.size,2,none⟩=some (.slice am mn cm)/\V.cell? ⟨w.heap.size,4,none⟩=some (.slice a k c)/\Below w3.heap.size w3 V):=λV hV=>by
   have x3:=(HX.out.keep hb3).keep hV
   exact ⟨x3.cell 0 rfl,x3.cell 1 rfl,x3.cell 2 rfl,x3.cell 4 rfl,hV⟩
  go_region_held3 (λV=>V.cell? ⟨w.heap.size,0,none⟩=some (.int .i64 P)/\V.cell? ⟨w.heap.size,1,none⟩=some (.int .i64 M)/\V.cell? ⟨w.heap.size,2,none⟩=some (.slice am mn cm)/\V.cell? ⟨w.heap.size,4,none⟩=some (.slice a k c)/\Below w3.heap.size w3 V)
   ((refine HS.out _ ?_;first | exact (Below.refl _ _).drew | (go_split_ands;assumption) | (go_split_ands;exact Below.next (by assumption) (by assumption))))
   (first
    | (go_at_call 45;((with_reducible refine (HOr.out _).mono ?_);rintro e w4 ⟨rfl,hb4⟩))
    | (go_at_call 108;((with_reducible refine (rExp_any (q : Int) k _ hq2 hq256 (by omega)).mono ?_);rintro e w5 ⟨rfl,rfl⟩)))
  all_goals go_wp2_with fail
  all_goals go_ret2
  all_goals exact ⟨ret_two HV.out.1.symm HV.out.2.symm,Below.next (Below.next hbW hb3) (by go_split_ands;assumption)⟩
 ·have HV : Hid (szV P M mod N L=0/\szE P M mod N L=codeE P M mod N L):=by
   show _/\_
   unfold szV szE
   rw [if_neg hE,if_neg hE];exact ⟨rfl,rfl⟩
  generalize codeE P M mod N L=z at *
  have hz : (z != 0)=true:=by simpa using hE
  clear hE
  go_wp2_with (go_at_call 22;refine (HCk.out _ hbW).mono ?_;rintro e w3 ⟨rfl,hb3⟩;clear c0 c1 c2 c3 c4)
  go_ret2
  exact ⟨ret_two HV.out.1.symm HV.out.2.symm,Below.next hbW hb3⟩
end

section
set_option maxRecDepth 100000
set_option maxHeartbeats 2000000

open Go.RowKit
def cntL (lim P M : Int) (mod : List Int) (N : Int) (L : List (List Int)) : Int:=if szE P M mod N L=0/\szV P M mod N L<=lim then szV P M mod N L else 0
theorem rCountL_any (lim P M : Int) (am : Option Addr) (mn cm : Nat) (mod : List Int) (N : Int) (a : Option Addr) (k c : Nat) (L : List (List Int)) (w : World) (hmod : Ints w am mn mod) (hi : Mat w a k L) :
  Calls Tryz.prog 21 #[.agg #[.int .i64 P,.int .i64 M,.slice am mn cm,.int .i64 N,.slice a k c],.int .i64 lim] w λe w' =>
   e = .returned (.int .i64 (cntL lim P M mod N L))/\Below w.heap.size w w':=by
 have HSz : Hid (∀V,Below w.heap.size w V->Calls Tryz.prog 56 #[.agg #[.int .i64 P,.int .i64 M,.slice am mn cm,.int .i64 N,.slice a k c]] V λe w'=>e = .returned (.tuple #[.int .i64 (szV P M mod N L),.int .i64 (szE P M mod N L)])/\Below V.heap.size V w'):=λV hV =>
  rSize12_any P M am mn cm mod N a k c L V (hmod.keep hV) (hi.keep hV)
 have HC : Hid (cntL lim P M mod N L=if szE P M mod N L=0/\szV P M mod N L<=lim then szV P M mod N L else 0):=rfl
 generalize cntL lim P M mod N L=z at *
 generalize szV P M mod N L=v at *
 generalize szE P M mod N L=f at *
 go_enter Tryz.func21,Tryz.ntmps21
 go_upto_region 1 with fail
 obtain ⟨W,hW⟩ : ∃W : World,W=w.alloc (.cells #[.int .i64 P,.int .i64 M,.slice am mn cm,.int .i64 N,.slice a k c] 27):=⟨_,rfl⟩
 rw [<- hW]
 have hbW : Below w.heap.size w W:=by rw [hW];exact below1 _ _
 have x0 : Box W w.heap.size [.int .i64 P,.int .i64 M,.slice am mn cm,.int .i64 N,.slice a k c]:=by rw [hW];exact Box.new _ _ _ rfl
 have c0:=x0.cell 0 rfl
 have c1:=x0.cell 1 rfl
 have c2:=x0.cell 2 rfl
 have c3:=x0.cell 3 rfl
 have c4:=x0.cell 4 rfl
 clear hW x0
 by_cases hf : f=0
 ·subst hf
  by_cases hv : v<=lim
  ·have Hz : Hid (z=v):=by show _=_;rw [HC.out,if_pos ⟨rfl,hv⟩]
   have hv' : decide (v > lim)=false:=by simpa using hv
   clear hv
   go_wp2_with (go_at_call 56;refine (HSz.out _ hbW).mono ?_;rintro e w3 ⟨rfl,hb3⟩;clear c0 c1 c2 c3 c4)
   go_ret
   exact ⟨ret_int Hz.out.symm,Below.next hbW hb3⟩
  ·have Hz : Hid (z=0):=by show _=_;rw [HC.out,if_neg λh=>hv h.2]
   have hv' : decide (v > lim)=true:=by simpa using hv
   clear hv
   go_wp2_with (go_at_call 56;refine (HSz.out _ hbW).mono ?_;rintro e w3 ⟨rfl,hb3⟩;clear c0 c1 c2 c3 c4)
   go_ret
   exact ⟨ret_int Hz.out.symm,Below.next hbW hb3⟩
 ·have Hz : Hid (z=0):=by show _=_;rw [HC.out,if_neg λh=>hf h.1]
  have hf' : (f != 0)=true:=by simpa using hf
  clear hf
  go_wp2_with (go_at_call 56;refine (HSz.out _ hbW).mono ?_;rintro e w3 ⟨rfl,hb3⟩;clear c0 c1 c2 c3 c4)
  go_ret
  exact ⟨ret_int Hz.out.symm,Below.next hbW hb3⟩
theorem cntL_ne {lim P M : Int} {mod : List Int} {N : Int} {L : List (List Int)} (h : cntL lim P M mod N L ≠ 0) : codeE P M mod N L=0/\(((tblOf P M.toNat mod).q ^ L.length : Nat) : Int)<=lim/\cntL lim P M mod N L=(((tblOf P M.toNat mod).q ^ L.length : Nat) : Int):=by
 unfold cntL at h ⊢
 split at h
 ·rename_i h1
  obtain ⟨h2,h3⟩:=h1
  have hE : codeE P M mod N L=0:=by
   unfold szE at h2
   split at h2
   ·assumption
   ·exact h2
  unfold szE at h2
  rw [if_pos hE] at h2
  unfold expE at h2
  have hle : ((tblOf P M.toNat mod).q : Int) ^ L.length<=65536:=by
   split at h2
   ·assumption
   ·omega
  have e : ((tblOf P M.toNat mod).q : Int) ^ L.length=(((tblOf P M.toNat mod).q ^ L.length : Nat) : Int):=by simp
  have hs : szV P M mod N L=(((tblOf P M.toNat mod).q ^ L.length : Nat) : Int):=by
   unfold szV
   rw [if_pos hE,(expV_in hle).1,e]
  rw [hs] at h3
  refine ⟨hE,by omega,?_⟩
  rw [if_pos ⟨by unfold szE;rw [if_pos hE];exact (expV_in hle).2,by rw [hs];omega⟩,hs]
 ·exact absurd rfl h
end

section
set_option maxRecDepth 100000
set_option maxHeartbeats 3200000

open Go.RowKit
def SomeBC (p : Prop) (v : Value) : Prop:=∃z : Bool,v = .bool z/\(z=false->p)
def Sm27 (ce N : Int) (w : World) (e : Ending) (w' : World) : Prop:=∃z : Bool,e = .returned (.bool z)/\(z=true->ce=0->N<=14)/\Below w.heap.size w w'
theorem rSmall27_any (P M : Int) (am : Option Addr) (mn cm : Nat) (mod : List Int) (N : Int) (a : Option Addr) (n c : Nat) (L : List (List Int)) (w : World) (hmod : Ints w am mn mod) (hi : Mat w a n L) :
  Calls Tryz.prog 13 #[.agg #[.int .i64 P,.int .i64 M,.slice am mn cm,.int .i64 N,.slice a n c]] w (Sm27 (codeE P M mod N L) N w):=by
 have HF1 : Hid (∀V,Below w.heap.size w V->Calls Tryz.prog 28 #[.agg #[.int .i64 P,.int .i64 M,.slice am mn cm,.int .i64 N,.slice a n c],.int .i64 200] V (SomeBool V)):=λV hV=>rFew12_any P M am mn cm N a n c 200 L V (hi.keep hV) (by omega)
 have HF2 : Hid (∀V,Below w.heap.size w V->Calls Tryz.prog 28 #[.agg #[.int .i64 P,.int .i64 M,.slice am mn cm,.int .i64 N,.slice a n c],.int .i64 100] V (SomeBool V)):=λV hV=>rFew12_any P M am mn cm N a n c 100 L V (hi.keep hV) (by omega)
 have HCk : Hid (∀V,Below w.heap.size w V->Calls Tryz.prog 22 #[.agg #[.int .i64 P,.int .i64 M,.slice am mn cm,.int .i64 N,.slice a n c]] V λe w'=>e = .returned (.int .i64 (codeE P M mod N L))/\Below V.heap.size V w'):=λV hV=>rCheck_any P M am mn cm mod N a n c L V (hmod.keep hV) (hi.keep hV)
 have HCn : Hid (∀V,Below w.heap.size w V->Calls Tryz.prog 21 #[.agg #[.int .i64 P,.int .i64 M,.slice am mn cm,.int .i64 N,.slice a n c],.int .i64 1000] V λe w'=>e = .returned (.int .i64 (cntL 1000 P M mod N L))/\Below V.heap.size V w'):=λV hV=>rCountL_any 1000 P M am mn cm mod N a n c L V (hmod.keep hV) (hi.keep hV)
 have HOr : Hid (∀V,Calls Tryz.prog 45 #[.agg #[.int .i64 P,.int .i64 M,.slice am mn cm]] V λe w'=>e = .returned (.int .i64 (orderS P M))/\Below V.heap.size V w'):=λV=>rOrder_any P M am mn cm V
 generalize orderS P M=q at *
 generalize cntL 1000 P M mod N L=cn at *
 generalize codeE P M mod N L=ce at *
 clear hi hmod
 go_enter Tryz.func13,Tryz.ntmps13
 go_upto_region 1 with fail
 obtain ⟨W,hW⟩ : ∃W : World,W=w.alloc (.cells #[.int .i64 P,.int .i64 M,.slice am mn cm,.int .i64 N,.slice a n c] 27):=⟨_,rfl⟩
 rw [<- hW]
 have hbW : Below w.heap.size w W:=by rw [hW];exact below1 _ _
 have x0 : Box W w.heap.size [.int .i64 P,.int .i64 M,.slice am mn cm,.int .i64 N,.slice a n c]:=by rw [hW];exact Box.new _ _ _ rfl
 have HS : Hid (∀V,Below W.heap.size W V->V.cell? ⟨w.heap.size,0,none⟩=some (.int .i64 P)/\V.cell? ⟨w.heap.size,1,none⟩=some (.int .i64 M)/\V.cell? ⟨w.heap.size,2,none⟩=some (.slice am mn cm)/\V.cell? ⟨w.heap.size,3,none⟩=some (.int .i64 N)/\V.cell? ⟨w.heap.size,4,none⟩=some (.slice a n c)):=λV hV=>by
  have x1:=x0.keep hV
  exact ⟨x1.cell 0 rfl,x1.cell 1 rfl,x1.cell 2 rfl,x1.cell 3 rfl,x1.cell 4 rfl⟩
 have HbW:=Lib.hid hbW
 clear hW x0 hbW
 obtain ⟨c0,c1,c2,c3,c4⟩:=HS.out W (Below.refl _ _)
 go_wp2_with fail
 refine (HCk.out W HbW.out).mono ?_
 rintro e w1 ⟨rfl,hb1⟩
 clear c0 c1 c2 c3 c4
 obtain ⟨c0,c1,c2,c3,c4⟩:=HS.out w1 hb1
 have hF1:=Below.next HbW.out hb1
 by_cases hE : ce=0
 rotate_left
 ·have d0 : (ce != 0)=true:=by simpa using hE
  have HE:=Lib.hid hE
  clear hE
  go_wp2_with fail
  refine (HF1.out w1 hF1).mono ?_
  rintro e w2 ⟨z,rfl,hb2⟩
  have hF:=Below.next hF1 hb2
  go_wp2_with fail
  go_ret
  exact ⟨_,rfl,λ_ h=>absurd h HE.out,hF⟩
 have d0 : (ce != 0)=false:=by simpa using hE
 clear hE
 go_wp2_with fail
 refine (HF2.out w1 hF1).mono ?_
 rintro e w2 ⟨z,rfl,hb2⟩
 have hB2:=Below.next hb1 hb2
 have hF2:=Below.next HbW.out hB2
 clear c0 c1 c2 c3 c4
 obtain ⟨c0,c1,c2,c3,c4⟩:=HS.out w2 hB2
 cases z
 ·go_wp2_with fail
  go_ret
  exact ⟨_,rfl,λh=>(by cases h),hF2⟩
 by_cases h1 : N<=14
 rotate_left
 ·have d1 : decide (N<=14)=false:=by simpa using h1
  clear h1
  go_wp2_with fail
  go_ret
  exact ⟨_,rfl,λh=>(by cases h),hF2⟩
 have d1 : decide (N<=14)=true:=by simpa using h1
 have H14:=Lib.hid h1
 clear h1
 go_wp2_with fail
 refine (HCn.out w2 hF2).mono ?_
 rintro e w3 ⟨rfl,hb3⟩
 have hB3:=Below.next hB2 hb3
 have hF3:=Below.next HbW.out hB3
 clear c0 c1 c2 c3 c4
 obtain ⟨c0,c1,c2,c3,c4⟩:=HS.out w3 hB3
 by_cases h2 : 0<cn
 ·have d2 : decide (0<cn)=true:=by simpa using h2
  have d2' : decide (cn > 0)=true:=by simpa using h2
  clear h2
  go_wp2_with fail
  go_ret
  exact ⟨_,rfl,λ_ _=>H14.out,hF3⟩
 have d2 : decide (0<cn)=false:=by simpa using h2
 have d2' : decide (cn > 0)=false:=by simpa using h2
 clear h2
 by_cases h3 : n=3
 rotate_left
 ·have d3 : ((n : Int) == 3)=false:=by simp;omega
  clear h3
  go_wp2_with fail
  go_ret
  exact ⟨_,rfl,λ_ _=>H14.out,hF3⟩
 have d3 : ((n : Int) == 3)=true:=by simp;omega
 clear h3
 by_cases h4 : N<=6
 rotate_left
 ·have d4 : decide (N<=6)=false:=by simpa using h4
  clear h4
  go_wp2_with fail
  go_ret
  exact ⟨_,rfl,λ_ _=>H14.out,hF3⟩
 have d4 : decide (N<=6)=true:=by simpa using h4
 clear h4
 go_wp2_with fail
 refine (HOr.out w3).mono ?_
 rintro e w4 ⟨rfl,hb4⟩
 have hF4:=Below.next hF3 hb4
 go_wp2_with fail
 go_ret
 exact ⟨_,rfl,λ_ _=>H14.out,hF4⟩
end

end Go.Proofs.YtcfmiocdlcapoaaGreat
