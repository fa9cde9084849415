/-  -/
import Derived.Test.YtcflcogbpnmjeaaGreatK24
import Derived.Test.YtcflcogbpnmjeaaGreatHWI10
import Derived.Test.YtcflcogbpnmjeaaGreatHWI1
import Derived.Test.YtcflcogbpnmjeaaGreatHWI8
import Derived.Test.YtcflcogbpnmjeaaGreatK21
import Derived.Test.YtcflcogbpnmjeaaGreatK29
import Derived.Test.YtcflcogbpnmjeaaGreatK11
import Derived.Test.YtcflcogbpnmjeaaGreatHWI4
import Derived.Test.YtcflcogbpnmjeaaGreatK31
import Derived.Test.YtcflcogbpnmjeaaGreatK32
import Derived.Test.YtcflcogbpnmjeaaGreatHWI5
import Derived.Test.YtcflcogbpnmjeaaGreatHWI2
import Derived.Test.YtcflcogbpnmjeaaGreatK20
namespace Go.Proofs.YtcflcogbpnmjeaaGreat
set_option linter.unusedVariables false
set_option linter.unusedSimpArgs false
set_option linter.unusedSectionVars false

section
open Go.RowKit
set_option maxRecDepth 100000 in
set_option maxHeartbeats 4000000 in
theorem rDim29_any (P M : Int) (am : Option Addr) (mn cm : Nat) (mod : List Int) (m : Nat) (a : Option Addr) (n c : Nat) (L : List (List Int)) (as' : Option Addr) (ns cs : Nat) (S : List Int) (w : World) (hmod : Ints w am mn mod) (hi : Mat w a n L) (hs : Ints w as' ns S)
  (hE : codeE P M mod m L=0) :
  Calls Tryz.prog 75 #[.agg #[.int .i64 P,.int .i64 M,.slice am mn cm,.int .i64 m,.slice a n c],.slice as' ns cs] w fun e w'=>e = .returned (.int .i64 (dimZ (tblOf P M.toNat mod).ops L m S))∧Below w.heap.size w w':=by
 obtain ⟨N',em,hm1,hm64,F,hR⟩:=codeE_fld hE
 obtain rfl : m=N':=by omega
 have hn : n≤256:=by rw [← hi.len];exact (codeE_rws hE).choose_spec.2.2.2.1
 have hfl:=frTo_len false S m
 have hr : rkQ (tblOf P M.toNat mod).ops L (frTo false S m)≤m:=Nat.le_trans (rkQ_le _ _ _) hfl
 have HO : Hid (∀ V,Below w.heap.size w V→Calls Tryz.prog 84 #[.slice as' ns cs,.int .i64 m] V fun e w'=>∃ a1 c1,e = .returned (.slice a1 (frTo false S m).length c1) ∧
   w'.ownsRow V.heap.size 3 1 (.slice a1 (frTo false S m).length c1) (frTo false S m).length ((frTo false S m).map (Value.int .i64))∧Below V.heap.size V w'):=fun V hV=>rOthers10_any as' ns cs S m V (hs.keep hV) (by omega)
 have HOf : Hid (∀ V a1 c1,Below w.heap.size w V→Ints V a1 (frTo false S m).length (frTo false S m)→∀ V2,Below V.heap.size V V2→Calls Tryz.prog 124 #[.agg #[.int .i64 P,.int .i64 M,.slice am mn cm],.slice a n c,.slice a1 (frTo false S m).length c1] V2 fun e w'=>e = .returned (.int .i64 (rkQ (tblOf P M.toNat mod).ops L (frTo false S m)))∧Below V2.heap.size V2 w'):=fun V a1 c1 hV h1 V2 hV2 =>
  rOf25_any P M am mn cm mod m a n c L a1 _ c1 _ V2 (hmod.keep (Below.next hV hV2)) (hi.keep (Below.next hV hV2)) (h1.keep hV2) hE (inN_of fun x hx=>by
   obtain ⟨j,h1,h2,_⟩:=(mem_frTo m).1 hx
   omega) (by omega)
 have Hd : Hid (dimZ (tblOf P M.toNat mod).ops L m S=(n : Int) - (rkQ (tblOf P M.toNat mod).ops L (frTo false S m) : Nat)):=by show _=_;rw [dimZ,hi.len]
 obtain ⟨Z,hZ⟩ : ∃ Z,frTo false S m=Z:=⟨_,rfl⟩
 rw [hZ] at HO HOf Hd hr hfl
 obtain ⟨r,hre⟩ : ∃ r,rkQ (tblOf P M.toNat mod).ops L Z=r:=⟨_,rfl⟩
 rw [hre] at HOf Hd hr
 obtain ⟨z,hz⟩ : ∃ z,Z.length=z:=⟨_,rfl⟩
 rw [hz] at HO HOf hfl
 have k2 : IntKind.i64.wrap ((n : Int) - r)=(n : Int) - r:=IntWalk.i64_in _ (by omega)
 have hpa:=hi.pl
 clear F hR em hE hZ hre hz hmod hi hs
 go_enter Tryz.func75,Tryz.ntmps75
 go_upto_region 1 with fail
 obtain ⟨W,hW⟩ : ∃ W : World,W=w.alloc (.cells #[.int .i64 P,.int .i64 M,.slice am mn cm,.int .i64 m,.slice a n c] 27):=⟨_,rfl⟩
 rw [← hW]
 have hbW : Below w.heap.size w W:=by rw [hW];exact below1 _ _
 have x0 : Box W w.heap.size [.int .i64 P,.int .i64 M,.slice am mn cm,.int .i64 m,.slice a n c]:=by rw [hW];exact Box.new _ _ _ rfl
 have HS : Hid (∀ V,Below W.heap.size W V→V.cell? ⟨w.heap.size,0,none⟩=some (.int .i64 P)∧V.cell? ⟨w.heap.size,1,none⟩=some (.int .i64 M)∧V.cell? ⟨w.heap.size,2,none⟩=some (.slice am mn cm)∧V.cell? ⟨w.heap.size,3,none⟩=some (.int .i64 m)∧V.cell? ⟨w.heap.size,4,none⟩=some (.slice a n c)∧Below W.heap.size W V):=fun V hV=>by
  have x1:=x0.keep hV
  exact ⟨x1.cell 0 rfl,x1.cell 1 rfl,x1.cell 2 rfl,x1.cell 3 rfl,x1.cell 4 rfl,hV⟩
 have HbW:=Lib.hid hbW
 clear hW x0 hbW
 go_region_held3 (fun V=>V.cell? ⟨w.heap.size,0,none⟩=some (.int .i64 P)∧V.cell? ⟨w.heap.size,1,none⟩=some (.int .i64 M)∧V.cell? ⟨w.heap.size,2,none⟩=some (.slice am mn cm)∧V.cell? ⟨w.heap.size,3,none⟩=some (.int .i64 m)∧V.cell? ⟨w.heap.size,4,none⟩=some (.slice a n c)∧Below W.heap.size W V)
  ((refine HS.out _ ?_;first | exact (Below.refl _ _).drew | (go_split_ands;exact Below.next (by assumption) (by assumption))))
  (first
   | (go_at_call 84;((with_reducible refine (HO.out _ (Below.next HbW.out (by go_split_ands;assumption))).mono ?_);rintro e w6 ⟨a6,c6,rfl,hown6,hb6⟩;have hb7 : Below W.heap.size W w6:=(by go_split_ands;exact Below.next (by assumption) hb6);have Hr2:=Lib.hid (HOf.out w6 a6 c6 (Below.next HbW.out hb7) (Ints.own hown6).1);clear hown6))
   | (go_at_call 124;((with_reducible refine (Hr2.out _ (by first | exact Below.refl _ _ | exact hb4)).mono ?_);rintro e w8 ⟨rfl,hb8⟩)))
 all_goals (
  clear k2
  go_wp2_with fail
  go_ret
  exact ⟨ret_int Hd.out.symm,Below.next HbW.out (by go_split_ands;assumption)⟩)
set_option maxRecDepth 100000 in
set_option maxHeartbeats 4000000 in
theorem rEnough29_any (P M : Int) (am : Option Addr) (mn cm : Nat) (mod : List Int) (N : Int) (a : Option Addr) (n c : Nat) (L : List (List Int)) (w : World) (hmod : Ints w am mn mod) (hi : Mat w a n L) :
  Calls Tryz.prog 70 #[.agg #[.int .i64 P,.int .i64 M,.slice am mn cm,.int .i64 N,.slice a n c]] w fun e w'=>e = .returned (.int .i64 (dimE P M mod N L))∧Below w.heap.size w w':=by
 go_enter Tryz.func70,Tryz.ntmps70
 go_wp2_with fail
 obtain ⟨W,hW⟩ : ∃ W : World,W=w.alloc (.cells #[.int .i64 P,.int .i64 M,.slice am mn cm,.int .i64 N,.slice a n c] 27):=⟨_,rfl⟩
 rw [← hW]
 have hbW : Below w.heap.size w W:=by rw [hW];exact below1 _ _
 have x0 : Box W w.heap.size [.int .i64 P,.int .i64 M,.slice am mn cm,.int .i64 N,.slice a n c]:=by rw [hW];exact Box.new _ _ _ rfl
 clear hW
 refine (rCheck_any P M am mn cm mod N a n c L W (hmod.keep hbW) (hi.keep hbW)).mono ?_
 rintro e w1 ⟨rfl,hb1⟩
 have c3:=(x0.keep hb1).cell 3 rfl
 have hF:=Below.next hbW hb1
 by_cases hE : codeE P M mod N L=0
 ·by_cases h16 : 16<N
  ·have HE : Hid (dimE P M mod N L=8):=by show _=_;rw [dimE,if_pos hE,if_pos h16]
   have d : decide (16<N)=true:=by simpa using h16
   rw [hE]
   clear hE h16
   go_wp2_with fail
   go_ret
   exact ⟨ret_int HE.out.symm,hF⟩
  ·have HE : Hid (dimE P M mod N L=0):=by show _=_;rw [dimE,if_pos hE,if_neg h16]
   have d : decide (16<N)=false:=by simpa using h16
   rw [hE]
   clear hE h16
   go_wp2_with fail
   go_ret
   exact ⟨ret_int HE.out.symm,hF⟩
 ·have HE : Hid (dimE P M mod N L=codeE P M mod N L):=if_neg hE
  have hE' : (codeE P M mod N L == 0)=false:=by simpa using hE
  clear hE
  generalize codeE P M mod N L=er at *
  go_wp2_with fail
  go_ret
  exact ⟨ret_int HE.out.symm,hF⟩
theorem allS_parts {m k : Nat} (hk : k≤m) : ∃ B,allS m=((List.range k).flatMap fun s=>setsS m s 0) ++ (setsS m k 0 ++ B):=by
 refine ⟨(List.range' (k+1) (m - k)).flatMap fun s=>setsS m s 0,?_⟩
 have e : List.range (m+1)=List.range k ++ (k :: List.range' (k+1) (m - k)):=by
  rw [← List.range'_succ,List.range_eq_range',List.range_eq_range',show m - k+1=m+1 - k by omega]
  have h:=List.range'_append_1 (s:=0) (m:=k) (n:=m+1 - k)
  rw [Nat.zero_add] at h
  rw [h];congr 1;omega
 unfold allS
 rw [e,List.flatMap_append,List.flatMap_cons]
theorem findS_at {m k j : Nat} {p : List Int→Bool} (hk : k≤m) (h0 : ∀ s,s<k→∀ t ∈ setsS m s 0,p t=false) (h1 : ∀ i,i<j→p (nthR (setsS m k 0) i)=false) (hj : j<(setsS m k 0).length) (hp : p (nthR (setsS m k 0) j)=true) :
  (allS m).find? p=some (nthR (setsS m k 0) j):=by
 obtain ⟨B,hB⟩:=allS_parts hk
 rw [List.find?_eq_some_iff_append]
 refine ⟨hp,((List.range k).flatMap fun s=>setsS m s 0) ++ (setsS m k 0).take j,(setsS m k 0).drop (j+1) ++ B,?_,fun t ht=>?_⟩
 ·rw [hB,List.append_assoc,nthR_getElem hj]
  congr 1
  rw [← List.cons_append,← List.append_assoc,List.getElem_cons_drop,List.take_append_drop]
 ·rcases List.mem_append.1 ht with h | h
  ·obtain ⟨s,hs,h2⟩:=List.mem_flatMap.1 h
   rw [h0 s (List.mem_range.1 hs) t h2];rfl
  ·obtain ⟨i,hi,e⟩:=List.mem_iff_getElem.1 h
   rw [List.length_take] at hi
   rw [List.getElem_take] at e
   rw [← e,← nthR_getElem (by omega),h1 i (by omega)];rfl
theorem findS_no {m : Nat} {p : List Int→Bool} (h0 : ∀ s,s<m+1→∀ t ∈ setsS m s 0,p t=false) : (allS m).find? p=none:=by
 rw [List.find?_eq_none]
 intro t ht
 obtain ⟨s,hs,h2⟩:=List.mem_flatMap.1 ht
 rw [h0 s (List.mem_range.1 hs) t h2];decide
def FirPost (X : List Int) (w : World) (e : Ending) (w' : World) : Prop :=
 ∃ a c,e = .returned (.slice a X.length c)∧IntsN w.heap.size w' a X.length X∧Below w.heap.size w w'
set_option maxRecDepth 100000 in
set_option maxHeartbeats 8000000 in
theorem rFirst29_any (P M : Int) (am : Option Addr) (mn cm : Nat) (mod : List Int) (m : Nat) (a : Option Addr) (n c : Nat) (L : List (List Int)) (r : Int) (w : World) (hmod : Ints w am mn mod) (hi : Mat w a n L) (hE : codeE P M mod m L=0) (hm16 : m≤16) :
  Calls Tryz.prog 71 #[.agg #[.int .i64 P,.int .i64 M,.slice am mn cm,.int .i64 m,.slice a n c],.int .i64 r] w (FirPost (firS (tblOf P M.toNat mod).ops L m r) w):=by
 have HD : Hid (∀ V as' ns cs S,Below w.heap.size w V→Ints V as' ns S→Calls Tryz.prog 75 #[.agg #[.int .i64 P,.int .i64 M,.slice am mn cm,.int .i64 m,.slice a n c],.slice as' ns cs] V fun e w'=>e = .returned (.int .i64 (dimZ (tblOf P M.toNat mod).ops L m S))∧Below V.heap.size V w'):=fun V as' ns cs S hV h1 =>
  rDim29_any P M am mn cm mod m a n c L as' ns cs S V (hmod.keep hV) (hi.keep hV) h1 hE
 have HSt : Hid (∀ k V,k≤m→Calls Tryz.prog 74 #[.int .i64 0,.int .i64 m,.int .i64 k] V (SetsPost (setsS m k 0) V)):=fun k V hk=>rSets29_any m hm16 k 0 V (Nat.zero_le _) (by omega)
 have HF1 : Hid (∀ k j,k≤m→(∀ s,s<k→∀ t ∈ setsS m s 0,pD (tblOf P M.toNat mod).ops L m r t=false)→(∀ i,i<j→pD (tblOf P M.toNat mod).ops L m r (nthR (setsS m k 0) i)=false)→j<(setsS m k 0).length→r≤dimZ (tblOf P M.toNat mod).ops L m (nthR (setsS m k 0) j)→firS (tblOf P M.toNat mod).ops L m r=nthR (setsS m k 0) j):=fun k j hk h0 h1 hj hp=>by
  unfold firS
  rw [findS_at hk h0 h1 hj (by unfold pD;exact decide_eq_true hp)];rfl
 have HF2 : Hid ((∀ s,s<m+1→∀ t ∈ setsS m s 0,pD (tblOf P M.toNat mod).ops L m r t=false)→firS (tblOf P M.toNat mod).ops L m r=[]):=fun h0=>by
  unfold firS
  rw [findS_no h0];rfl
 have HP : Hid (∀ t,¬ r≤dimZ (tblOf P M.toNat mod).ops L m t→pD (tblOf P M.toNat mod).ops L m r t=false):=fun t h=>by unfold pD;exact decide_eq_false h
 obtain ⟨dz,hdz⟩ : ∃ dz,dimZ (tblOf P M.toNat mod).ops L m=dz:=⟨_,rfl⟩
 obtain ⟨p,hp⟩ : ∃ p,pD (tblOf P M.toNat mod).ops L m r=p:=⟨_,rfl⟩
 obtain ⟨X,hX⟩ : ∃ X,firS (tblOf P M.toNat mod).ops L m r=X:=⟨_,rfl⟩
 rw [hdz] at HD HF1 HP
 rw [hp] at HF1 HF2 HP
 rw [hX] at HF1 HF2 ⊢
 clear hdz hp hX hE
 go_enter Tryz.func71,Tryz.ntmps71
 go_wp2_with fail
 obtain ⟨W,hW⟩ : ∃ W : World,W=w.alloc (.cells #[.int .i64 P,.int .i64 M,.slice am mn cm,.int .i64 m,.slice a n c] 27):=⟨_,rfl⟩
 rw [← hW]
 have hbW : Below w.heap.size w W:=by rw [hW];exact below1 _ _
 have x0 : Box W w.heap.size [.int .i64 P,.int .i64 M,.slice am mn cm,.int .i64 m,.slice a n c]:=by rw [hW];exact Box.new _ _ _ rfl
 have HX : Hid (∀ V,Below W.heap.size W V→V.cell? ⟨w.heap.size,0,none⟩=some (.int .i64 P)∧V.cell? ⟨w.heap.size,1,none⟩=some (.int .i64 M)∧V.cell? ⟨w.heap.size,2,none⟩=some (.slice am mn cm)∧V.cell? ⟨w.heap.size,3,none⟩=some (.int .i64 m)∧V.cell? ⟨w.heap.size,4,none⟩=some (.slice a n c)):=fun V hV=>by
  have x1:=x0.keep hV
  exact ⟨x1.cell 0 rfl,x1.cell 1 rfl,x1.cell 2 rfl,x1.cell 3 rfl,x1.cell 4 rfl⟩
 have HbW:=Lib.hid hbW
 clear hW x0 hbW
 go_loopw [5] (fun kv wr=>∃ k : Nat,k≤m+1∧kv = .int .i64 k∧Hid (∀ s,s<k→∀ t ∈ setsS m s 0,p t=false)∧Below W.heap.size W wr) (fun kv _=>m+1 - (intOf kv).toNat)
 case atStart=>exact ⟨0,Nat.zero_le _,rfl,fun s hs=>by omega,Below.refl _ _⟩
 case round =>
  obtain ⟨k,hk,rfl,Hk,hbr⟩:=hrel
  obtain ⟨c0,c1,c2,c3,c4⟩:=HX.out wr hbr
  by_cases hlt : k≤m
  ·have hle : decide ((k : Int)≤(m : Int))=true:=by simp;omega
   have Hcall:=Lib.hid (HSt.out k wr hlt)
   have HF1k : Hid (∀ j,(∀ i,i<j→p (nthR (setsS m k 0) i)=false)→j<(setsS m k 0).length→r≤dz (nthR (setsS m k 0) j)→X=nthR (setsS m k 0) j):=fun j=>HF1.out k j hlt Hk.out
   have HTk : Hid ((∀ i,i<(setsS m k 0).length→p (nthR (setsS m k 0) i)=false)→∀ s,s<k+1→∀ t ∈ setsS m s 0,p t=false):=fun h s hs t ht=>by
    by_cases e : s=k
    ·subst e
     obtain ⟨i,hi,rfl⟩:=mem_nthR ht
     exact h i hi
    ·exact Hk.out s (by omega) t ht
   unfold SetsPost at Hcall
   have ht16 : (setsS m k 0).length≤65536:=by
    have h1:=setsS_len m k 0 (Nat.zero_le _)
    have h2 : 2 ^ (m - 0)≤2 ^ 16:=Nat.pow_le_pow_right (by omega) (by omega)
    omega
   obtain ⟨T,hT⟩ : ∃ T,setsS m k 0=T:=⟨_,rfl⟩
   rw [hT] at Hcall HF1k HTk ht16
   obtain ⟨t,ht⟩ : ∃ t,T.length=t:=⟨_,rfl⟩
   rw [ht] at Hcall HF1k HTk ht16
   clear hT ht
   go_wp2_with fail
   refine Hcall.out.mono ?_
   rintro e U ⟨a2,c2',R2,rfl,hO2,hbU⟩
   have hN2:=hO2.matN
   have hpl2:=hN2.pl
   have htm:=hN2.max
   unfold maxLen at htm
   have hbrU:=Below.next hbr hbU
   have hsz:=hbr.size
   have hsW:=HbW.out.size
   clear hO2 Hcall c0 c1 c2 c3 c4
   go_wp2_with fail
   go_loopw [7] (fun jv wx=>∃ j : Nat,j≤t∧jv = .int .i64 j∧Hid (∀ i,i<j→p (nthR T i)=false)∧Below U.heap.size U wx) (fun jv _=>t - (intOf jv).toNat)
   case atStart=>exact ⟨0,Nat.zero_le _,rfl,fun i hi=>by omega,Below.refl _ _⟩
   case round =>
    obtain ⟨j,hj,rfl,Hj,hbx⟩:=hrel
    by_cases hlj : j<t
    ·obtain ⟨rb,rn,rc,hcell,hrow⟩:=hN2.cell j hlj
     have Hdim : Hid (∀ V,Below U.heap.size U V→Calls Tryz.prog 75 #[.agg #[.int .i64 P,.int .i64 M,.slice am mn cm,.int .i64 m,.slice a n c],.slice rb rn rc] V fun e w'=>e = .returned (.int .i64 (dz (nthR T j)))∧Below V.heap.size V w'):=fun V hV =>
      HD.out V rb rn rc (nthR T j) (Below.next HbW.out (Below.next hbrU hV)) (hrow.ints.keep hV)
     have HS : Hid (∀ V,Below U.heap.size U V→V.cell? ⟨w.heap.size,0,none⟩=some (.int .i64 P)∧V.cell? ⟨w.heap.size,1,none⟩=some (.int .i64 M)∧V.cell? ⟨w.heap.size,2,none⟩=some (.slice am mn cm)∧V.cell? ⟨w.heap.size,3,none⟩=some (.int .i64 m)∧V.cell? ⟨w.heap.size,4,none⟩=some (.slice a n c)∧V.cell? ⟨ablk a2,aoff a2+j,none⟩=some (.slice rb rn rc)∧Below U.heap.size U V):=fun V hV=>by
      obtain ⟨x0,x1,x2,x3,x4⟩:=HX.out V (Below.next hbrU hV)
      exact ⟨x0,x1,x2,x3,x4,cell_keep hV hcell,hV⟩
     have Hbx:=Lib.hid hbx
     have Hrow : Hid (IntsN w.heap.size U rb rn (nthR T j)):=hrow.mono (by omega)
     have hrl:=hrow.ints.len
     have HFj:=Lib.hid (HF1k.out j Hj.out hlj)
     have HPj:=Lib.hid (HP.out (nthR T j))
     obtain ⟨tj,htj⟩ : ∃ tj,nthR T j=tj:=⟨_,rfl⟩
     have Htj:=Lib.hid htj
     rw [htj] at Hdim Hrow HFj HPj hrl
     clear hcell hrow hbx htj
     obtain ⟨d,hd⟩ : ∃ d,dz tj=d:=⟨_,rfl⟩
     rw [hd] at Hdim HFj HPj
     clear hd
     by_cases hrd : r≤d
     ·have hd' : decide (r≤d)=true:=by simpa using hrd
      have HXe : Hid (X=tj):=HFj.out hrd
      clear hrd
      go_wp2_with fail
      go_region_held3 (fun V=>V.cell? ⟨w.heap.size,0,none⟩=some (.int .i64 P)∧V.cell? ⟨w.heap.size,1,none⟩=some (.int .i64 M)∧V.cell? ⟨w.heap.size,2,none⟩=some (.slice am mn cm)∧V.cell? ⟨w.heap.size,3,none⟩=some (.int .i64 m)∧V.cell? ⟨w.heap.size,4,none⟩=some (.slice a n c)∧V.cell? ⟨ablk a2,aoff a2+j,none⟩=some (.slice rb rn rc)∧Below U.heap.size U V)
       ((refine HS.out _ ?_;first | exact Hbx.out.drew | (go_split_ands;exact Below.next (by assumption) (by assumption))))
       (first
        | (go_at_call 75;((with_reducible refine (Hdim.out _ (by go_split_ands;assumption)).mono ?_);rintro e w6 ⟨rfl,hb6⟩)))
      have hbV : Below U.heap.size U w6:=by go_split_ands;assumption
      have HR : Hid (IntsN w.heap.size w6 rb rn tj∧Below w.heap.size w w6):=⟨Hrow.out.keep hbV,Below.next HbW.out (Below.next hbrU hbV)⟩
      subst hrl
      go_wp2_with fail
      go_ret
      rw [HXe.out]
      exact ⟨rb,rc,rfl,HR.out.1,HR.out.2⟩
     ·have hd' : decide (r≤d)=false:=by simpa using hrd
      have Hfalse : Hid (p tj=false):=HPj.out (by omega)
      clear hrd
      go_wp2_with fail
      go_region_held3 (fun V=>V.cell? ⟨w.heap.size,0,none⟩=some (.int .i64 P)∧V.cell? ⟨w.heap.size,1,none⟩=some (.int .i64 M)∧V.cell? ⟨w.heap.size,2,none⟩=some (.slice am mn cm)∧V.cell? ⟨w.heap.size,3,none⟩=some (.int .i64 m)∧V.cell? ⟨w.heap.size,4,none⟩=some (.slice a n c)∧V.cell? ⟨ablk a2,aoff a2+j,none⟩=some (.slice rb rn rc)∧Below U.heap.size U V)
       ((refine HS.out _ ?_;first | exact Hbx.out.drew | (go_split_ands;exact Below.next (by assumption) (by assumption))))
       (first
        | (go_at_call 75;((with_reducible refine (Hdim.out _ (by go_split_ands;assumption)).mono ?_);rintro e w6 ⟨rfl,hb6⟩)))
      have hbV : Below U.heap.size U w6:=by go_split_ands;assumption
      go_wp2_with fail
      go_roundw
      case rel=>exact ⟨j+1,by omega,by go_num,fun i hi=>by
       by_cases e : i=j
       ·subst e;rw [Htj.out];exact Hfalse.out
       ·exact Hj.out i (by omega),hbV⟩
      case measure=>simp [intOf] <;> omega
    ·obtain rfl : j=t:=by omega
     have hbV:=Below.next hbrU hbx
     have Hn : Hid (∀ s,s<k+1→∀ t ∈ setsS m s 0,p t=false):=HTk.out Hj.out
     go_wp2_with fail
     go_roundw
     case rel=>exact ⟨k+1,by omega,by go_num,Hn.out,hbV⟩
     case measure=>simp [intOf] <;> omega
  ·obtain rfl : k=m+1:=by omega
   have hle : decide (((m+1 : Nat) : Int)≤(m : Int))=false:=by simp;omega
   have HXe : Hid (X=[]):=HF2.out Hk.out
   have hF:=Below.next HbW.out hbr
   go_wp2_with fail
   go_ret
   rw [HXe.out]
   exact ⟨none,0,rfl,⟨⟨rfl,fun h=>absurd h (Nat.lt_irrefl 0),Nat.zero_le _,fun i hi=>absurd hi (Nat.not_lt_zero i)⟩,fun h=>absurd h (Nat.lt_irrefl 0)⟩,hF⟩
end

section
open Go.RowKit
def unTo (m : Nat) (Z : List Int) (i : Nat) : List (List Int):=(Z.take i).map (unitZ m)
theorem unTo_succ (m : Nat) {Z : List Int} {i : Nat} (h : i<Z.length) : unTo m Z (i+1)=unTo m Z i ++ [unitZ m (nth Z i)]:=by
 unfold unTo
 rw [List.take_succ_eq_append_getElem h,List.map_append,nth_getElem h];rfl
def WthPost (G : Tbl) (L : List (List Int)) (m : Nat) (S : List Int) (w : World) (e : Ending) (w' : World) : Prop :=
 ∃ a c R,e = .returned (.slice a (wthS G m L S).length c)∧OMat w' w.heap.size a (wthS G m L S).length c R (wthS G m L S)∧Below w.heap.size w w'
set_option maxRecDepth 100000 in
set_option maxHeartbeats 8000000 in
theorem rWithin_any (P M : Int) (am : Option Addr) (mn cm : Nat) (mod : List Int) (m : Nat) (a : Option Addr) (n c : Nat) (L : List (List Int)) (as' : Option Addr) (ns cs : Nat) (S : List Int) (w : World) (hmod : Ints w am mn mod) (hi : Mat w a n L) (hs : Ints w as' ns S)
  (hB : fieldB P M mod=true) (hR : Rws (tblOf P M.toNat mod).El m L) (hm : m≤1000) (hn : n≤1000000) :
  Calls Tryz.prog 81 #[.agg #[.int .i64 P,.int .i64 M,.slice am mn cm],.slice a n c,.int .i64 m,.slice as' ns cs] w (WthPost (tblOf P M.toNat mod) L m S w):=by
 have F:=fieldB_fld hB
 have HN1 : Hid (∀ V,Below w.heap.size w V→Calls Tryz.prog 134 #[.agg #[.int .i64 P,.int .i64 M,.slice am mn cm],.slice a n c,.int .i64 m] V (NulPost (tblOf P M.toNat mod) L m V)):=fun V hV =>
  rNull_any P M am mn cm mod m a n c L V (hmod.keep hV) (hi.keep hV) hB hR hm hn
 have HN2 : Hid (∀ V a1 n1 c1 L1,Below w.heap.size w V→Mat V a1 n1 L1→Rws (tblOf P M.toNat mod).El m L1→n1≤1000000→Calls Tryz.prog 134 #[.agg #[.int .i64 P,.int .i64 M,.slice am mn cm],.slice a1 n1 c1,.int .i64 m] V (NulPost (tblOf P M.toNat mod) L1 m V)):=fun V a1 n1 c1 L1 hV h1 h2 h3 =>
  rNull_any P M am mn cm mod m a1 n1 c1 L1 V (hmod.keep hV) h1 hB h2 hm h3
 have HO : Hid (∀ V,Below w.heap.size w V→Calls Tryz.prog 84 #[.slice as' ns cs,.int .i64 m] V fun e w'=>∃ a1 c1,e = .returned (.slice a1 (frTo false S m).length c1) ∧
   w'.ownsRow V.heap.size 3 1 (.slice a1 (frTo false S m).length c1) (frTo false S m).length ((frTo false S m).map (Value.int .i64))∧Below V.heap.size V w'):=fun V hV=>rOthers10_any as' ns cs S m V (hs.keep hV) hm
 have HZm : Hid (∀ j,j<(frTo false S m).length→0≤nth (frTo false S m) j∧nth (frTo false S m) j<m):=fun j hj=>by
  obtain ⟨i,h1,h2,_⟩:=(mem_frTo m).1 (nth_mem hj)
  omega
 have hZl : (frTo false S m).length≤m:=frTo_len _ _ _
 have hdr : Rws (tblOf P M.toNat mod).El m (dualL (tblOf P M.toNat mod) L m):=nul_rws F hR
 have hdn : (dualL (tblOf P M.toNat mod) L m).length≤m:=by
  have h1:=(canO_piv F (kerL_rws F (canO_rws F hR) (canO_piv F hR).1 (canO_len F hR)))
  have h2:=kerL_len (tblOf P M.toNat mod).ops m (canS (tblOf P M.toNat mod) L m) (pivS (tblOf P M.toNat mod) L m) m
  have h3:=npL_le (pivS (tblOf P M.toNat mod) L m) m
  have h4:=(elimTo_piv (tblOf P M.toNat mod).ops (kerL (tblOf P M.toNat mod).ops m (canS (tblOf P M.toNat mod) L m) (pivS (tblOf P M.toNat mod) L m) m) m).2
  have h5 : (dualL (tblOf P M.toNat mod) L m).length=(elimTo (tblOf P M.toNat mod).ops (kerL (tblOf P M.toNat mod).ops m (canS (tblOf P M.toNat mod) L m) (pivS (tblOf P M.toNat mod) L m) m) m).2.length:=canS_length _ _ _
  omega
 have HU : Hid (Rws (tblOf P M.toNat mod).El m (dualL (tblOf P M.toNat mod) L m ++ (frTo false S m).map (unitZ m))):=fun r hr=>by
  rcases List.mem_append.1 hr with h | h
  ·exact hdr r h
  ·obtain ⟨z,_,rfl⟩:=List.mem_map.1 h;exact unitZ_vc F m z
 unfold NulPost at HN1
 have HW : Hid (wthS (tblOf P M.toNat mod) m L S=dualL (tblOf P M.toNat mod) (dualL (tblOf P M.toNat mod) L m ++ (frTo false S m).map (unitZ m)) m):=rfl
 unfold WthPost
 obtain ⟨W,hW⟩ : ∃ W,wthS (tblOf P M.toNat mod) m L S=W:=⟨_,rfl⟩
 rw [hW] at HW ⊢
 obtain ⟨D,hD⟩ : ∃ D,dualL (tblOf P M.toNat mod) L m=D:=⟨_,rfl⟩
 rw [hD] at HN1 HU hdn HW
 obtain ⟨Z,hZ⟩ : ∃ Z,frTo false S m=Z:=⟨_,rfl⟩
 rw [hZ] at HO HZm hZl HU HW
 obtain ⟨z,hz⟩ : ∃ z,Z.length=z:=⟨_,rfl⟩
 obtain ⟨d,hd⟩ : ∃ d,D.length=d:=⟨_,rfl⟩
 rw [hz] at HO HZm hZl
 rw [hd] at HN1 hdn
 have Hz:=Lib.hid hz
 have Hd:=Lib.hid hd
 clear F hdr hW hD hZ hz hd hmod hi hs hB hR
 go_enter Tryz.func81,Tryz.ntmps81
 go_wp2_with fail
 obtain ⟨X,hX⟩ : ∃ X : World,X=w.alloc (.cells #[.int .i64 P,.int .i64 M,.slice am mn cm] 24):=⟨_,rfl⟩
 rw [← hX]
 have hbX : Below w.heap.size w X:=by rw [hX];exact below1 _ _
 have x0 : Box X w.heap.size [.int .i64 P,.int .i64 M,.slice am mn cm]:=by rw [hX];exact Box.new _ _ _ rfl
 have HX:=Lib.hid x0
 clear hX x0
 refine (HN1.out X hbX).mono ?_
 rintro e U ⟨a2,c2,R2,rfl,hO2,hbU⟩
 have hbwU:=Below.next hbX hbU
 have HOU:=Lib.hid (HO.out U hbwU)
 clear HO HN1
 go_wp2_with fail
 refine HOU.out.mono ?_
 rintro e U2 ⟨a3,c3,rfl,hown3,hb3⟩
 have hO3:=(hO2.keep hb3)
 obtain ⟨hi3,_⟩:=Ints.own hown3
 have hpl3:=hi3.pl
 have hbX2:=Below.next hbU hb3
 have hlo3 : a3 ≠ none→U.heap.size≤ablk a3∧ablk a3<U2.heap.size:=fun h=>own_ne hown3 h
 have hlo2 : a2 ≠ none→ablk a2<U.heap.size:=fun h=>(own_ne hO2.own h).2
 have hsU : U.heap.size≤U2.heap.size:=hb3.size
 have hN3 : IntsN U.heap.size U2 a3 z Z:=⟨hi3,fun h=>(hlo3 (by intro h0;have:=hpl3 h;rw [h0] at this;cases this)).1⟩
 have hsX:=hbX.size
 have hszX : X.heap.size≤U.heap.size:=hbU.size
 have hxlt : w.heap.size<X.heap.size:=HX.out.1
 clear hO2 hown3 hi3 HOU
 go_wp2_with fail
 go_loopw [9,11] (fun ov iv wr=>∃ (i : Nat) (a1 : Option Addr) (c1 : Nat),i≤z∧iv = .int .i64 i∧ov = .slice a1 (d+i) c1∧(∃ R,OMat wr X.heap.size a1 (d+i) c1 R (D ++ unTo m Z i))∧Below X.heap.size X wr∧Moves U2 wr (fun b=>b<U.heap.size) (fun b=>b<U.heap.size)∧Hid (a1 ≠ none→ablk a1<U.heap.size∨U2.heap.size≤ablk a1)) (fun _ iv _=>z - (intOf iv).toNat)
 case atStart=>exact ⟨0,a2,c2,Nat.zero_le _,rfl,rfl,⟨R2,by simpa [unTo] using hO3⟩,hbX2,Moves.refl _ _,fun h=>.inl (hlo2 h)⟩
 case round =>
  clear hO3
  obtain ⟨i,a1,c1,hi',rfl,rfl,⟨R1,hO⟩,hbr,hMv,Ha1⟩:=hrel
  by_cases hlt : i<z
  ·have hIr : Ints wr a3 z Z:=hN3.ints.moves hMv (fun hm hc=>by have:=hN3.lo hm;omega)
   have ci:=hIr.cell i hlt
   have hb:=HZm.out i hlt
   obtain ⟨v,hv⟩ : ∃ v : Nat,nth Z i=v:=⟨(nth Z i).toNat,by omega⟩
   have hvm : v<m:=by omega
   have Hun : Hid (unTo m Z (i+1)=unTo m Z i ++ [unitZ m v]):=by show _=_;rw [← hv];exact unTo_succ m (by rw [Hz.out];exact hlt)
   have Hux : Hid ((List.replicate m (0 : Int)).set v 1=unitZ m v):=by show _=_;rw [unitZ,Int.toNat_natCast]
   rw [hv] at ci
   clear hv hb
   generalize wr=Y at *
   go_upto_region 8 with (at_make;refine wpList_mk rfl _ _ 22 3 rfl (.int .i64 0) 8 Tryz.underlying22 infoInt rfl m rfl rfl (by omega) (by unfold maxLen;omega) ?_;intro a5 w5 hown5 hbel5 hge5 hlt5;obtain ⟨hi5,hm5⟩:=Ints.own (l:=List.replicate m 0) (by simpa using hown5);have hc5:=hi5.cell v hvm;have hf5:=(hm5 (by omega)).2 v hvm;have hpl5:=hi5.pl;have ci5:=cell_keep hbel5 ci)
   have hx0:=own_set hown5 v hvm (.int .i64 1)
   rw [← List.map_replicate (f:=Value.int .i64) (a:=0),← List.map_set,Hux.out] at hx0
   have hbx0:=hbel5.setCell (p:=⟨ablk a5,aoff a5+v,none⟩) (hm5 (by omega)).1 (.int .i64 1)
   clear hown5 hbel5 hge5 hlt5 hi5 hm5 hc5 hf5 ci5 ci
   obtain ⟨V,hV⟩ : ∃ V,w5.setCell ⟨ablk a5,aoff a5+v,none⟩ (.int .i64 1)=V:=⟨_,rfl⟩
   rw [hV] at hx0 hbx0 ⊢
   clear hV
   have hb6 : Below Y.heap.size Y (V.alloc (.cells #[.slice a5 m m] 22)):=Below.next hbx0 (below1 _ _)
   have hO6:=hO.keep hb6
   have hs6 : X.heap.size≤(V.alloc (.cells #[.slice a5 m m] 22)).heap.size:=Nat.le_trans hbr.size hb6.size
   have hcn:=cell_new V (.slice a5 m m) 22
   have Hx0:=Lib.hid hx0
   clear hx0
   go_wp2_with (at_builtin;refine wpList_push rfl _ _ 25 22 rfl (.slice none 0 0) 24 Tryz.underlying25 infoInts rfl X.heap.size a1 (d+i) c1 _ rfl hO6.own ⟨V.heap.size,0,none⟩ 1 (.slice a5 m m) rfl hcn rfl (by omega) (by unfold maxLen;omega) hs6 ?_;intro a7 c7 w7 hown7 hgr7 hap7)
   go_roundw
   case rel =>
    have hul : (unitZ m (v : Int)).length=m:=by simp [unitZ]
    have hr : (V.alloc (.cells #[.slice a5 m m] 22)).ownsRow X.heap.size 3 1 (.slice a5 (unitZ m (v : Int)).length m) (unitZ m (v : Int)).length ((unitZ m (v : Int)).map (Value.int .i64)):=by
     rw [hul];exact own_mono (own_keep Hx0.out (below1 _ _)) hbr.size
    have hra : a5 ≠ none→¬ OIn a1 R1 (ablk a5):=fun h0 hI=>by
     have h1:=(own_ne Hx0.out h0).1
     have h2:=(hO.lt _ hI).2
     omega
    have hP:=OMat.push hO6 hr hra (by rw [hul];exact hown7) hgr7 hap7
    have hb7 : Below X.heap.size X w7:=Below.app (Below.next hbr hb6) hO6.own hgr7 (Nat.le_refl _) hs6
    have hM7 : Moves U2 w7 (fun b=>b<U.heap.size) (fun b=>b<U.heap.size):=(hMv.trans (Moves.of_below hb6 _)).grownI hgr7 Ha1.out
    refine ⟨i+1,a7,c7,by omega,by go_num,by rw [Nat.add_assoc],⟨_,by rw [Hun.out,← List.append_assoc];exact hP⟩,hb7,hM7,fun h0=>?_⟩
    rcases Nat.lt_or_ge (ablk a7) U.heap.size with h1 | h1
    ·exact .inl h1
    ·rcases Nat.lt_or_ge (ablk a7) U2.heap.size with h2 | h2
     ·have h3 : Apt a1 (ablk a7):=by
       by_cases ha : a1=none
       ·exact .inl ha
       ·refine .inr fun e=>?_
        rcases Ha1.out ha with h4 | h4 <;> omega
      have h5:=hMv.size
      have h6:=hb6.size
      rcases hap7 _ (by omega) h3 with h4 | h4
      ·exact absurd h4 h0
      ·exact absurd rfl h4
     ·exact .inr h2
   case measure=>simp [intOf] <;> omega
  ·obtain rfl : i=z:=by omega
   have hall : unTo m Z i=Z.map (unitZ m):=by unfold unTo;rw [List.take_of_length_le (by rw [Hz.out];exact Nat.le_refl _)]
   rw [hall] at hO
   have hbF:=Below.next hbX hbr
   have hN:=HN2.out wr a1 (d+i) c1 _ hbF hO.mat HU.out (by omega)
   unfold NulPost at hN
   rw [← HW.out] at hN
   obtain ⟨q,hq⟩ : ∃ q,W.length=q:=⟨_,rfl⟩
   rw [hq] at hN
   have Hq:=Lib.hid hq
   have HN:=Lib.hid hN
   have x1:=HX.out.keep hbr
   have y0:=x1.cell 0 rfl
   have y1:=x1.cell 1 rfl
   have y2:=x1.cell 2 rfl
   clear hN hall hO x1 hq
   go_wp2_with fail
   refine HN.out.mono ?_
   rintro e w8 ⟨a8,c8,R8,rfl,hO8,hb8⟩
   have HF : Hid (OMat w8 w.heap.size a8 q c8 R8 W∧Below w.heap.size w w8):=⟨hO8.mono hbF.size,Below.next hbF hb8⟩
   clear hO8 HN
   go_wp2_with fail
   go_ret
   rw [Hq.out]
   exact ⟨a8,c8,R8,rfl,HF.out.1,HF.out.2⟩
end

section
open Go.RowKit
set_option maxRecDepth 100000 in
set_option maxHeartbeats 8000000 in
theorem rSupported29_any (P M : Int) (am : Option Addr) (mn cm : Nat) (mod : List Int) (N : Int) (a : Option Addr) (n c : Nat) (L : List (List Int)) (as' : Option Addr) (ns cs : Nat) (S : List Int) (w : World) (hmod : Ints w am mn mod) (hi : Mat w a n L) (hs : Ints w as' ns S) :
  Calls Tryz.prog 36 #[.agg #[.int .i64 P,.int .i64 M,.slice am mn cm,.int .i64 N,.slice a n c],.slice as' ns cs] w (SuPost P M mod N L S w):=by
 go_enter Tryz.func36,Tryz.ntmps36
 go_wp2_with fail
 obtain ⟨W,hW⟩ : ∃ W : World,W=(w.alloc (.cells #[.int .i64 P,.int .i64 M,.slice am mn cm,.int .i64 N,.slice a n c] 27)).alloc (.cells #[.int .i64 0,.int .i64 0,.slice none 0 0,.int .i64 0,.slice none 0 0] 27):=⟨_,rfl⟩
 rw [← hW]
 have hbW : Below w.heap.size w W:=by rw [hW];exact below2 _ _ _
 have hsW : W.heap.size=w.heap.size+2:=by rw [hW];simp
 have x0 : Box W w.heap.size [.int .i64 P,.int .i64 M,.slice am mn cm,.int .i64 N,.slice a n c]:=by rw [hW];exact (Box.new _ _ _ rfl).alloc _
 have z0 : Box W (w.heap.size+1) [.int .i64 0,.int .i64 0,.slice none 0 0,.int .i64 0,.slice none 0 0]:=by rw [hW];exact Box.new _ _ _ (by simp)
 clear hW
 refine (rCheck_any P M am mn cm mod N a n c L W (hmod.keep hbW) (hi.keep hbW)).mono ?_
 rintro e w1 ⟨rfl,hb1⟩
 have HbW:=Lib.hid hbW
 have HErr : Hid (∀ V er,suE P M mod N L S=er→er ≠ 0→Below W.heap.size W V→SuPost P M mod N L S w (.returned (.tuple #[.agg #[.int .i64 0,.int .i64 0,.slice none 0 0,.int .i64 0,.slice none 0 0],.int .i64 er])) (((((V.setCell ⟨w.heap.size+1,0,none⟩ (.int .i64 0)).setCell ⟨w.heap.size+1,1,none⟩ (.int .i64 0)).setCell ⟨w.heap.size+1,2,none⟩ (.slice none 0 0)).setCell ⟨w.heap.size+1,3,none⟩ (.int .i64 0)).setCell ⟨w.heap.size+1,4,none⟩ (.slice none 0 0))):=fun V er h1 h2 hV =>
  ⟨(((((Below.next hbW hV).setCell (p:=⟨w.heap.size+1,0,none⟩) (by simp) _).setCell (p:=⟨w.heap.size+1,1,none⟩) (by simp) _).setCell (p:=⟨w.heap.size+1,2,none⟩) (by simp) _).setCell (p:=⟨w.heap.size+1,3,none⟩) (by simp) _).setCell (p:=⟨w.heap.size+1,4,none⟩) (by simp) _,.inl ⟨by rw [h1];exact h2,by rw [h1]⟩⟩
 have HS : Hid (∀ V,Below W.heap.size W V→V.cell? ⟨w.heap.size,0,none⟩=some (.int .i64 P)∧V.cell? ⟨w.heap.size,1,none⟩=some (.int .i64 M)∧V.cell? ⟨w.heap.size,2,none⟩=some (.slice am mn cm)∧V.cell? ⟨w.heap.size,3,none⟩=some (.int .i64 N)∧V.cell? ⟨w.heap.size,4,none⟩=some (.slice a n c) ∧
   Box V (w.heap.size+1) [.int .i64 0,.int .i64 0,.slice none 0 0,.int .i64 0,.slice none 0 0]):=fun V hV=>by
  have x1:=x0.keep hV
  exact ⟨x1.cell 0 rfl,x1.cell 1 rfl,x1.cell 2 rfl,x1.cell 3 rfl,x1.cell 4 rfl,z0.keep hV⟩
 have HsW:=Lib.hid hsW
 clear x0 z0 hsW
 by_cases hE : codeE P M mod N L=0
 rotate_left
 ·obtain ⟨c0,c1,c2,c3,c4,zz⟩:=HS.out w1 hb1
  have z0:=zz.cell 0 rfl
  have z1:=zz.cell 1 rfl
  have z2:=zz.cell 2 rfl
  have z3:=zz.cell 3 rfl
  have z4:=zz.cell 4 rfl
  have f0:=zz.frozen 0
  have f1:=zz.frozen 1
  have f2:=zz.frozen 2
  have f3:=zz.frozen 3
  have f4:=zz.frozen 4
  have HR:=Lib.hid (HErr.out w1 _ (if_neg hE) hE hb1)
  have hE' : (codeE P M mod N L != 0)=true:=by simpa using hE
  clear hE zz
  generalize codeE P M mod N L=er at *
  go_wp2_with fail
  exact bodyPost_ret (v:=.tuple #[.agg #[.int .i64 0,.int .i64 0,.slice none 0 0,.int .i64 0,.slice none 0 0],.int .i64 er]) (by simp [results,Tryz.results36,go_sem,z0,z1,z2,z3,z4]) rfl HR.out
 obtain ⟨m,rfl⟩:=codeE_nat hE
 obtain ⟨hB,hm1,hm64,_⟩:=codeE_zero hE
 have hmn : mn≤1000000:=by have h:=mod_len hB;rw [hmod.len] at h;omega
 obtain ⟨N',em,_,_,F,hR⟩:=codeE_fld hE
 obtain rfl : m=N':=by omega
 obtain ⟨u1,u2,u3,u4⟩:=sup_facts hE S
 have hn : n≤256:=by rw [← hi.len];exact (codeE_rws hE).choose_spec.2.2.2.1
 have hbw1:=Below.next hbW hb1
 have Hrs:=Lib.hid (rising_any m as' ns cs S w1 (hs.keep hbw1))
 have HWi : Hid (∀ V,Below w.heap.size w V→Calls Tryz.prog 81 #[.agg #[.int .i64 P,.int .i64 M,.slice am mn cm],.slice a n c,.int .i64 m,.slice as' ns cs] V fun e w' =>
   ∃ a2 c2,e = .returned (.slice a2 (supS (tblOf P M.toNat mod) m L S).length c2)∧Mat w' a2 (supS (tblOf P M.toNat mod) m L S).length (supS (tblOf P M.toNat mod) m L S)∧Below V.heap.size V w'):=fun V hV=>by
  have h:=rWithin_any P M am mn cm mod m a n c L as' ns cs S V (hmod.keep hV) (hi.keep hV) (hs.keep hV) hB hR (by omega) (by omega)
  unfold WthPost at h
  rw [u4] at h
  refine h.mono ?_
  rintro e w' ⟨a2,c2,R2,rfl,hO2,hb2⟩
  exact ⟨a2,c2,rfl,hO2.mat,hb2⟩
 have HMk : Hid (∀ V a1 c1,Below w.heap.size w V→Mat V a1 (supS (tblOf P M.toNat mod) m L S).length (supS (tblOf P M.toNat mod) m L S)→Calls Tryz.prog 80 #[.agg #[.int .i64 P,.int .i64 M,.slice am mn cm],.slice a1 (supS (tblOf P M.toNat mod) m L S).length c1,.int .i64 m] V fun e w' =>
   ∃ a1 c1 a2 c2,e = .returned (.agg #[.int .i64 P,.int .i64 M,.slice a1 mod.length c1,.int .i64 m,.slice a2 (supS (tblOf P M.toNat mod) m L S).length c2])∧IntsN V.heap.size w' a1 mod.length mod ∧
    MatN V.heap.size w' a2 (supS (tblOf P M.toNat mod) m L S).length (supS (tblOf P M.toNat mod) m L S)∧Below V.heap.size V w'):=fun V a1 c1 hV h1=>by
  have h:=rMake12_any P M am mn cm mod m a1 _ c1 _ V (hmod.keep hV) h1 hB u1 (by omega) (by omega) hmn
  unfold MakePost at h
  rw [u3] at h
  exact h
 have HE0 : Hid (okSet m S=true→suE P M mod m L S=0):=fun h=>by show suE _ _ _ _ _ _=0;unfold suE;rw [if_pos hE,if_pos h]
 have HE6 : Hid (okSet m S=false→suE P M mod m L S=6):=fun h=>by show suE _ _ _ _ _ _=6;unfold suE;rw [if_pos hE,if_neg (by rw [h];decide)]
 have HPost : Hid (∀ a1 c1 a2 c2 w',suE P M mod m L S=0→IntsN w.heap.size w' a1 mod.length mod→MatN w.heap.size w' a2 (supS (tblOf P M.toNat mod) m L S).length (supS (tblOf P M.toNat mod) m L S)→Below w.heap.size w w' →
   SuPost P M mod m L S w (.returned (.tuple #[.agg #[.int .i64 P,.int .i64 M,.slice a1 mod.length c1,.int .i64 m,.slice a2 (supS (tblOf P M.toNat mod) m L S).length c2],.int .i64 0])) w'):=fun a1 c1 a2 c2 w' h0 h1 h2 h3=>⟨h3,.inr ⟨h0,a1,c1,a2,c2,by rw [Int.toNat_natCast],h1,by rw [Int.toNat_natCast];exact h2⟩⟩
 rw [hE]
 obtain ⟨D,hD⟩ : ∃ D,supS (tblOf P M.toNat mod) m L S=D:=⟨_,rfl⟩
 rw [hD] at HWi HMk HPost
 obtain ⟨d,hd⟩ : ∃ d,D.length=d:=⟨_,rfl⟩
 rw [hd] at HWi HMk HPost
 clear hE hD hd hB u1 u2 u3 u4 F hR em
 obtain ⟨c0,c1,c2,c3,c4,zz⟩:=HS.out w1 hb1
 go_wp2_with fail
 refine Hrs.out.mono ?_
 rintro e w2 ⟨rfl,hD2⟩
 have hb2:=Drawn.below hD2
 clear hD2 c0 c1 c2 c3 c4 zz
 obtain ⟨c0,c1,c2,c3,c4,zz⟩:=HS.out w2 (Below.next hb1 hb2)
 cases hok : okSet m S
 ·have HR:=Lib.hid (HErr.out w2 _ (HE6.out hok) (by decide) (Below.next hb1 hb2))
  have z0:=zz.cell 0 rfl
  have z1:=zz.cell 1 rfl
  have z2:=zz.cell 2 rfl
  have z3:=zz.cell 3 rfl
  have z4:=zz.cell 4 rfl
  have f0:=zz.frozen 0
  have f1:=zz.frozen 1
  have f2:=zz.frozen 2
  have f3:=zz.frozen 3
  have f4:=zz.frozen 4
  clear zz
  go_wp2_with fail
  exact bodyPost_ret (v:=.tuple #[.agg #[.int .i64 0,.int .i64 0,.slice none 0 0,.int .i64 0,.slice none 0 0],.int .i64 6]) (by simp [results,Tryz.results36,go_sem,z0,z1,z2,z3,z4]) rfl HR.out
 ·have hb12:=Below.next hb1 hb2
  have HP1 : Hid (∀ (V : World) a6 c6 a5 c5,IntsN w2.heap.size V a6 mod.length mod→MatN w2.heap.size V a5 d D→Below W.heap.size W V→SuPost P M mod m L S w (.returned (.tuple #[.agg #[.int .i64 P,.int .i64 M,.slice a6 mod.length c6,.int .i64 m,.slice a5 d c5],.int .i64 0])) (((((V.setCell ⟨w.heap.size+1,0,none⟩ (.int .i64 P)).setCell ⟨w.heap.size+1,1,none⟩ (.int .i64 M)).setCell ⟨w.heap.size+1,2,none⟩ (.slice a6 mod.length c6)).setCell ⟨w.heap.size+1,3,none⟩ (.int .i64 m)).setCell ⟨w.heap.size+1,4,none⟩ (.slice a5 d c5))):=fun V a6 c6 a5 c5 hN6 hM6 hV=>by
   have hbF:=Below.next HbW.out hV
   have hs':=HsW.out
   have hs2:=hb12.size
   exact HPost.out a6 c6 a5 c5 (((((V.setCell ⟨w.heap.size+1,0,none⟩ (.int .i64 P)).setCell ⟨w.heap.size+1,1,none⟩ (.int .i64 M)).setCell ⟨w.heap.size+1,2,none⟩ (.slice a6 mod.length c6)).setCell ⟨w.heap.size+1,3,none⟩ (.int .i64 m)).setCell ⟨w.heap.size+1,4,none⟩ (.slice a5 d c5)) (HE0.out hok)
    ((((((hN6.setCell (p:=⟨w.heap.size+1,0,none⟩) (by simp;omega) _).setCell (p:=⟨w.heap.size+1,1,none⟩) (by simp;omega) _).setCell (p:=⟨w.heap.size+1,2,none⟩) (by simp;omega) _).setCell (p:=⟨w.heap.size+1,3,none⟩) (by simp;omega) _).setCell (p:=⟨w.heap.size+1,4,none⟩) (by simp;omega) _).mono (by omega))
    ((((((hM6.setCell (p:=⟨w.heap.size+1,0,none⟩) (by simp;omega) _).setCell (p:=⟨w.heap.size+1,1,none⟩) (by simp;omega) _).setCell (p:=⟨w.heap.size+1,2,none⟩) (by simp;omega) _).setCell (p:=⟨w.heap.size+1,3,none⟩) (by simp;omega) _).setCell (p:=⟨w.heap.size+1,4,none⟩) (by simp;omega) _).mono (by omega))
    (((((hbF.setCell (p:=⟨w.heap.size+1,0,none⟩) (by simp) _).setCell (p:=⟨w.heap.size+1,1,none⟩) (by simp) _).setCell (p:=⟨w.heap.size+1,2,none⟩) (by simp) _).setCell (p:=⟨w.heap.size+1,3,none⟩) (by simp) _).setCell (p:=⟨w.heap.size+1,4,none⟩) (by simp) _)
  have HbW2 : Hid (Below w.heap.size w w2):=Below.next hbW hb12
  have HS2 : Hid (∀ V,Below w2.heap.size w2 V→V.cell? ⟨w.heap.size,0,none⟩=some (.int .i64 P)∧V.cell? ⟨w.heap.size,1,none⟩=some (.int .i64 M)∧V.cell? ⟨w.heap.size,2,none⟩=some (.slice am mn cm)∧V.cell? ⟨w.heap.size,3,none⟩=some (.int .i64 m)∧V.cell? ⟨w.heap.size,4,none⟩=some (.slice a n c) ∧
   Box V (w.heap.size+1) [.int .i64 0,.int .i64 0,.slice none 0 0,.int .i64 0,.slice none 0 0]):=fun V hV=>HS.out V (Below.next hb12 hV)
  have Hb12:=Lib.hid hb12
  have HS5 : Hid (∀ V,Below w2.heap.size w2 V→V.cell? ⟨w.heap.size,0,none⟩=some (.int .i64 P)∧V.cell? ⟨w.heap.size,1,none⟩=some (.int .i64 M)∧V.cell? ⟨w.heap.size,2,none⟩=some (.slice am mn cm)∧V.cell? ⟨w.heap.size,3,none⟩=some (.int .i64 m)∧V.cell? ⟨w.heap.size,4,none⟩=some (.slice a n c)):=fun V hV=>by
   obtain ⟨a0,a1,a2,a3,a4,_⟩:=HS2.out V hV
   exact ⟨a0,a1,a2,a3,a4⟩
  have HSt : Hid (∀ (V : World) u0 u1 u2 u3 u4,Below w2.heap.size w2 V→((((((V.setCell ⟨w.heap.size+1,0,none⟩ u0).setCell ⟨w.heap.size+1,1,none⟩ u1).setCell ⟨w.heap.size+1,2,none⟩ u2).setCell ⟨w.heap.size+1,3,none⟩ u3).setCell ⟨w.heap.size+1,4,none⟩ u4).cell? ⟨w.heap.size,0,none⟩=some (.int .i64 P)∧(((((V.setCell ⟨w.heap.size+1,0,none⟩ u0).setCell ⟨w.heap.size+1,1,none⟩ u1).setCell ⟨w.heap.size+1,2,none⟩ u2).setCell ⟨w.heap.size+1,3,none⟩ u3).setCell ⟨w.heap.size+1,4,none⟩ u4).cell? ⟨w.heap.size,1,none⟩=some (.int .i64 M) ∧
    (((((V.setCell ⟨w.heap.size+1,0,none⟩ u0).setCell ⟨w.heap.size+1,1,none⟩ u1).setCell ⟨w.heap.size+1,2,none⟩ u2).setCell ⟨w.heap.size+1,3,none⟩ u3).setCell ⟨w.heap.size+1,4,none⟩ u4).cell? ⟨w.heap.size,2,none⟩=some (.slice am mn cm)∧(((((V.setCell ⟨w.heap.size+1,0,none⟩ u0).setCell ⟨w.heap.size+1,1,none⟩ u1).setCell ⟨w.heap.size+1,2,none⟩ u2).setCell ⟨w.heap.size+1,3,none⟩ u3).setCell ⟨w.heap.size+1,4,none⟩ u4).cell? ⟨w.heap.size,3,none⟩=some (.int .i64 m) ∧
    (((((V.setCell ⟨w.heap.size+1,0,none⟩ u0).setCell ⟨w.heap.size+1,1,none⟩ u1).setCell ⟨w.heap.size+1,2,none⟩ u2).setCell ⟨w.heap.size+1,3,none⟩ u3).setCell ⟨w.heap.size+1,4,none⟩ u4).cell? ⟨w.heap.size,4,none⟩=some (.slice a n c))):=fun V u0 u1 u2 u3 u4 hV=>by
   obtain ⟨a0,a1,a2,a3,a4,_⟩:=HS2.out V hV
   refine ⟨?_,?_,?_,?_,?_⟩ <;> (repeat rw [World.cell?_setCell_other _ _ _ _ (by simp)]) <;> assumption
  clear hok HE0 HE6 HErr HPost HS hb1 hb2 hb12 hbW hbw1 zz
  go_wp2_with fail
  go_region_held3 (fun V=>V.cell? ⟨w.heap.size,0,none⟩=some (.int .i64 P)∧V.cell? ⟨w.heap.size,1,none⟩=some (.int .i64 M)∧V.cell? ⟨w.heap.size,2,none⟩=some (.slice am mn cm)∧V.cell? ⟨w.heap.size,3,none⟩=some (.int .i64 m)∧V.cell? ⟨w.heap.size,4,none⟩=some (.slice a n c))
   ((first | exact HS5.out _ (Below.refl _ _).drew | exact HS5.out _ hb24 | exact HS5.out _ hb26 | exact HSt.out _ _ _ _ _ _ hb26))
   (first
    | (go_at_call 81;((with_reducible refine (HWi.out _ (Below.next HbW2.out (Below.refl _ _).drew)).mono ?_);rintro e w4 ⟨a4,c4',rfl,hM4,hb4⟩;have hb24 : Below w2.heap.size w2 w4:=Below.next (Below.refl _ _).drew hb4;have HMk4:=Lib.hid (HMk.out w4 a4 c4' (Below.next HbW2.out hb24) hM4);clear hM4))
    | (go_at_call 80;((with_reducible refine HMk4.out.mono ?_);rintro e w6 ⟨a6,c6,a5,c5,rfl,hN6,hM6,hb6⟩;have hb26 : Below w2.heap.size w2 w6:=Below.next hb24 hb6;obtain ⟨_,_,_,_,_,zz6⟩:=HS2.out w6 hb26;have z0:=zz6.cell 0 rfl;have z1:=zz6.cell 1 rfl;have z2:=zz6.cell 2 rfl;have z3:=zz6.cell 3 rfl;have z4:=zz6.cell 4 rfl;have f0:=zz6.frozen 0;have f1:=zz6.frozen 1;have f2:=zz6.frozen 2;have f3:=zz6.frozen 3;have f4:=zz6.frozen 4;have HF:=Lib.hid (HP1.out w6 a6 c6 a5 c5 (hN6.mono hb24.size) (hM6.mono hb24.size) (Below.next Hb12.out hb26));clear hN6 hM6 zz6)))
  all_goals (
   go_wp2_with fail
   exact bodyPost_ret (v:=.tuple #[.agg #[.int .i64 P,.int .i64 M,.slice a6 mod.length c6,.int .i64 m,.slice a5 d c5],.int .i64 0]) (by simp [results,Tryz.results36,go_sem,z0,z1,z2,z3,z4]) rfl HF.out)
end

section
open Go.RowKit
def WitRPost (P M : Int) (mod : List Int) (N : Int) (L : List (List Int)) (r : Int) (w : World) (e : Ending) (w' : World) : Prop :=
 Below w.heap.size w w'∧((witnE P M mod N L r ≠ 0∧e = .returned (.tuple #[.slice none 0 0,.int .i64 (witnE P M mod N L r)])) ∨
  (witnE P M mod N L r=0∧∃ a c,e = .returned (.tuple #[.slice a (firS (tblOf P M.toNat mod).ops L N.toNat r).length c,.int .i64 0])∧IntsN w.heap.size w' a (firS (tblOf P M.toNat mod).ops L N.toNat r).length (firS (tblOf P M.toNat mod).ops L N.toNat r)))
set_option maxRecDepth 100000 in
set_option maxHeartbeats 4000000 in
theorem rWitness29_any (P M : Int) (am : Option Addr) (mn cm : Nat) (mod : List Int) (N : Int) (a : Option Addr) (n c : Nat) (L : List (List Int)) (r : Int) (w : World) (hmod : Ints w am mn mod) (hi : Mat w a n L) :
  Calls Tryz.prog 34 #[.agg #[.int .i64 P,.int .i64 M,.slice am mn cm,.int .i64 N,.slice a n c],.int .i64 r] w (WitRPost P M mod N L r w):=by
 have Hil:=Lib.hid hi.len
 go_enter Tryz.func34,Tryz.ntmps34
 go_wp2_with fail
 obtain ⟨U,hU⟩ : ∃ U : World,U=w.alloc (.cells #[.int .i64 P,.int .i64 M,.slice am mn cm,.int .i64 N,.slice a n c] 27):=⟨_,rfl⟩
 rw [← hU]
 have hbU : Below w.heap.size w U:=by rw [hU];exact below1 _ _
 have x0 : Box U w.heap.size [.int .i64 P,.int .i64 M,.slice am mn cm,.int .i64 N,.slice a n c]:=by rw [hU];exact Box.new _ _ _ rfl
 have HX:=Lib.hid x0
 clear hU x0
 refine (rCheck_any P M am mn cm mod N a n c L U (hmod.keep hbU) (hi.keep hbU)).mono ?_
 rintro e w1 ⟨rfl,hb1⟩
 have hbw1:=Below.next hbU hb1
 by_cases hE : codeE P M mod N L=0
 rotate_left
 ·have HE : Hid (witnE P M mod N L r=codeE P M mod N L):=if_neg hE
  have Hne:=Lib.hid hE
  have hE' : (codeE P M mod N L != 0)=true:=by simpa using hE
  clear hE
  generalize codeE P M mod N L=er at *
  go_wp2_with fail
  go_ret2
  exact ⟨hbw1,.inl ⟨by rw [HE.out];exact Hne.out,by rw [HE.out];rfl⟩⟩
 have x1:=HX.out.keep hb1
 have c4:=x1.cell 4 rfl
 by_cases h1 : r<1
 ·have HE : Hid (witnE P M mod N L r=6):=by show _=_;rw [witnE,if_pos hE,if_pos (.inl h1)]
  have d1 : decide (r<1)=true:=by simpa using h1
  rw [hE]
  clear hE h1 x1
  go_wp2_with fail
  go_ret2
  exact ⟨hbw1,.inl ⟨by rw [HE.out];decide,by rw [HE.out];rfl⟩⟩
 have d1 : decide (r<1)=false:=by simpa using h1
 by_cases h2 : (n : Int)<r
 ·have HE : Hid (witnE P M mod N L r=6):=by show _=_;rw [witnE,if_pos hE,if_pos (.inr (by rw [Hil.out];exact h2))]
  have d2 : decide ((n : Int)<r)=true:=by simpa using h2
  rw [hE]
  clear hE h1 h2 x1
  go_wp2_with fail
  go_ret2
  exact ⟨hbw1,.inl ⟨by rw [HE.out];decide,by rw [HE.out];rfl⟩⟩
 have d2 : decide ((n : Int)<r)=false:=by simpa using h2
 have HE : Hid (witnE P M mod N L r=dimE P M mod N L):=by show _=_;rw [witnE,if_pos hE,if_neg (by rw [Hil.out];omega)]
 have c0:=x1.cell 0 rfl
 have c1:=x1.cell 1 rfl
 have c2:=x1.cell 2 rfl
 have c3:=x1.cell 3 rfl
 have Hen:=Lib.hid (rEnough29_any P M am mn cm mod N a n c L w1 ((hmod.keep hbU).keep hb1) ((hi.keep hbU).keep hb1))
 rw [hE]
 clear hE h1 h2 x1
 go_wp2_with fail
 refine Hen.out.mono ?_
 rintro e w2 ⟨rfl,hb2⟩
 have hbw2:=Below.next hbw1 hb2
 by_cases hE : dimE P M mod N L=0
 rotate_left
 ·have Hne:=Lib.hid hE
  have hE' : (dimE P M mod N L != 0)=true:=by simpa using hE
  clear hE c0 c1 c2 c3 c4
  generalize dimE P M mod N L=er at *
  go_wp2_with fail
  go_ret2
  exact ⟨hbw2,.inl ⟨by rw [HE.out];exact Hne.out,by rw [HE.out];rfl⟩⟩
 obtain ⟨hC,hN1,hN16⟩:=dimE_zero hE
 have HE0 : Hid (witnE P M mod N L r=0):=by show _=_;rw [HE.out,hE]
 obtain ⟨m,rfl⟩ : ∃ m : Nat,N=m:=⟨N.toNat,by omega⟩
 have hm16 : m≤16:=by omega
 have Hf:=Lib.hid (rFirst29_any P M am mn cm mod m a n c L r w2 (((hmod.keep hbU).keep hb1).keep hb2) (((hi.keep hbU).keep hb1).keep hb2) hC hm16)
 have x2:=(HX.out.keep hb1).keep hb2
 clear c0 c1 c2 c3 c4
 have c0:=x2.cell 0 rfl
 have c1:=x2.cell 1 rfl
 have c2:=x2.cell 2 rfl
 have c3:=x2.cell 3 rfl
 have c4:=x2.cell 4 rfl
 unfold FirPost at Hf
 obtain ⟨S,hS⟩ : ∃ S,firS (tblOf P M.toNat mod).ops L m r=S:=⟨_,rfl⟩
 have HS:=Lib.hid hS
 rw [hS] at Hf
 obtain ⟨s,hs⟩ : ∃ s,S.length=s:=⟨_,rfl⟩
 rw [hs] at Hf
 have Hs:=Lib.hid hs
 rw [hE]
 clear hE x2 hS hs hC
 go_wp2_with fail
 refine Hf.out.mono ?_
 rintro e w3 ⟨a3,c3',rfl,hN3,hb3⟩
 have HF:=Lib.hid (And.intro (Below.next hbw2 hb3) (hN3.mono hbw2.size))
 clear hN3 hb3 Hf c0 c1 c2 c3 c4
 go_wp2_with fail
 go_ret2
 refine ⟨HF.out.1,.inr ⟨HE0.out,a3,c3',?_,?_⟩⟩
 ·rw [Int.toNat_natCast,HS.out,Hs.out];rfl
 ·rw [Int.toNat_natCast,HS.out,Hs.out];exact HF.out.2
end

section
open Go.RowKit
set_option maxRecDepth 100000 in
set_option maxHeartbeats 3200000 in
theorem rSmall29_any (P M : Int) (am : Option Addr) (mn cm : Nat) (mod : List Int) (N : Int) (a : Option Addr) (n c : Nat) (L : List (List Int)) (w : World) (hmod : Ints w am mn mod) (hi : Mat w a n L) :
  Calls Tryz.prog 27 #[.agg #[.int .i64 P,.int .i64 M,.slice am mn cm,.int .i64 N,.slice a n c]] w (SomeBool w):=by
 have H : Hid (∀ V,Below w.heap.size w V→Calls Tryz.prog 44 #[.agg #[.int .i64 P,.int .i64 M,.slice am mn cm,.int .i64 N,.slice a n c],.int .i64 120] V (SomeBool V)):=fun V hV=>rFew12_any P M am mn cm N a n c 120 L V (hi.keep hV) (by omega)
 have H2 : Hid (∀ V,Below w.heap.size w V→Calls Tryz.prog 47 #[.agg #[.int .i64 P,.int .i64 M,.slice am mn cm,.int .i64 N,.slice a n c]] V fun e w'=>e = .returned (.int .i64 (codeE P M mod N L))∧Below V.heap.size V w'):=fun V hV=>rCheck_any P M am mn cm mod N a n c L V (hmod.keep hV) (hi.keep hV)
 clear hi hmod
 go_enter Tryz.func27,Tryz.ntmps27
 go_upto_region 1 with fail
 obtain ⟨W,hW⟩ : ∃ W : World,W=w.alloc (.cells #[.int .i64 P,.int .i64 M,.slice am mn cm,.int .i64 N,.slice a n c] 27):=⟨_,rfl⟩
 rw [← hW]
 have hbW : Below w.heap.size w W:=by rw [hW];exact below1 _ _
 have x0 : Box W w.heap.size [.int .i64 P,.int .i64 M,.slice am mn cm,.int .i64 N,.slice a n c]:=by rw [hW];exact Box.new _ _ _ rfl
 have HX:=Lib.hid x0
 have c0:=x0.cell 0 rfl
 have c1:=x0.cell 1 rfl
 have c2:=x0.cell 2 rfl
 have c3:=x0.cell 3 rfl
 have c4:=x0.cell 4 rfl
 clear hW x0
 have Hf:=Lib.hid (H.out W hbW)
 generalize codeE P M mod N L=er at *
 clear H
 go_wp2_with fail
 refine Hf.out.mono ?_
 rintro e w1 ⟨z,rfl,hb1⟩
 have hF:=Below.next hbW hb1
 clear c0 c1 c2 c3 c4
 cases z
 ·go_wp2_with fail
  go_ret
  exact ⟨_,rfl,hF⟩
 have x1:=HX.out.keep hb1
 have c0:=x1.cell 0 rfl
 have c1:=x1.cell 1 rfl
 have c2:=x1.cell 2 rfl
 have c3:=x1.cell 3 rfl
 have c4:=x1.cell 4 rfl
 clear x1
 go_wp2_with fail
 refine (H2.out w1 hF).mono ?_
 rintro e w2 ⟨rfl,hb2⟩
 have hF2:=Below.next hF hb2
 have q3:=(HX.out.keep (Below.next hb1 hb2)).cell 3 rfl
 clear c0 c1 c2 c3 c4
 by_cases hE : er=0
 ·have d0 : (er != 0)=false:=by simpa using hE
  clear hE
  by_cases h1 : 16<N
  ·have d1 : decide (16<N)=true:=by simpa using h1
   clear h1
   go_wp2_with fail
   go_ret
   exact ⟨_,rfl,hF2⟩
  ·have d1 : decide (16<N)=false:=by simpa using h1
   clear h1
   go_wp2_with fail
   go_ret
   exact ⟨_,rfl,hF2⟩
 ·have d0 : (er != 0)=true:=by simpa using hE
  clear hE
  go_wp2_with fail
  go_ret
  exact ⟨_,rfl,hF2⟩
def witX (P M : Int) (mod : List Int) (N : Int) (L : List (List Int)) (r : Int) : List Int:=if witnE P M mod N L r=0 then firS (tblOf P M.toNat mod).ops L N.toNat r else []
theorem dimE_rws {P M : Int} {mod : List Int} {N : Int} {L : List (List Int)} (h : dimE P M mod N L=0) : ∃ (m : Nat),N=m∧1≤m∧m≤16∧Fld (tblOf P M.toNat mod).ops (tblOf P M.toNat mod).El∧Rws (tblOf P M.toNat mod).El m L:=by
 obtain ⟨hE,h1,h16⟩:=dimE_zero h
 obtain ⟨m,hm,hm1,hm64,F,hR⟩:=codeE_fld hE
 exact ⟨m,hm,hm1,by omega,F,hR⟩
section
variable (P M : Int) (am : Option Addr) (mn cm : Nat) (mod : List Int) (N : Int) (a : Option Addr) (n c : Nat) (L : List (List Int)) (w : World)
theorem witness_u (r : Int) (hmod : Ints w am mn mod) (hi : Mat w a n L) :
  Calls Tryz.prog 33 #[.agg #[.int .i64 P,.int .i64 M,.slice am mn cm,.int .i64 N,.slice a n c],.int .i64 r] w (PairU (witnE P M mod N L r) (witX P M mod N L r) w):=by
 refine (witnessF_any P M am mn cm mod N a n c L r w hmod hi).mono ?_
 rintro e w' ⟨hb,⟨h0,rfl⟩ | ⟨h0,a',c',rfl,h⟩⟩
 ·exact pair_no hb h0
 ·refine pair_ok hb h0 ?_
  have hd : dimE P M mod N L=0:=by
   unfold witnE at h0
   by_cases hE : codeE P M mod N L=0
   ·rw [if_pos hE] at h0
    by_cases hr : r<1∨(L.length : Int)<r
    ·rw [if_pos hr] at h0;exact absurd h0 (by decide)
    ·rw [if_neg hr] at h0;exact h0
   ·rw [if_neg hE] at h0;exact absurd h0 hE
  obtain ⟨m,rfl,hm1,hm16,F,hR⟩:=dimE_rws hd
  rw [Int.toNat_natCast] at h ⊢
  rw [wit_fir F hR (by omega)] at h ⊢
  exact (Ints.own h).1
theorem rWitness_u (r : Int) (hmod : Ints w am mn mod) (hi : Mat w a n L) :
  Calls Tryz.prog 34 #[.agg #[.int .i64 P,.int .i64 M,.slice am mn cm,.int .i64 N,.slice a n c],.int .i64 r] w (PairU (witnE P M mod N L r) (witX P M mod N L r) w):=by
 refine (rWitness29_any P M am mn cm mod N a n c L r w hmod hi).mono ?_
 rintro e w' ⟨hb,⟨h0,rfl⟩ | ⟨h0,a',c',rfl,h⟩⟩
 ·exact pair_no hb h0
 ·exact pair_ok hb h0 h.ints
end
end

end Go.Proofs.YtcflcogbpnmjeaaGreat
