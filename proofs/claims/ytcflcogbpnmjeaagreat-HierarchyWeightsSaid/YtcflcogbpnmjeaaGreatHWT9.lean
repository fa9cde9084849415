/-  -/
import Derived.Test.YtcflcogbpnmjeaaGreatK24
import Derived.Test.YtcflcogbpnmjeaaGreatHWT8
import Derived.Test.YtcflcogbpnmjeaaGreatHWT1
import Derived.Test.YtcflcogbpnmjeaaGreatK21
import Derived.Test.YtcflcogbpnmjeaaGreatK31
import Derived.Test.YtcflcogbpnmjeaaGreatK32
import Derived.Test.YtcflcogbpnmjeaaGreatHWT5
import Derived.Test.YtcflcogbpnmjeaaGreatHWT2
import Derived.Test.YtcflcogbpnmjeaaGreatHWT4
import Derived.Test.YtcflcogbpnmjeaaGreatK11
import Derived.Test.YtcflcogbpnmjeaaGreatK20
import Derived.Test.YtcflcogbpnmjeaaGreatK34
import Derived.Test.YtcflcogbpnmjeaaGreatK35
namespace Go.Proofs.YtcflcogbpnmjeaaGreat
set_option linter.unusedVariables false
set_option linter.unusedSimpArgs false
set_option linter.unusedSectionVars false

section
open Go.RowKit
set_option maxRecDepth 100000 in
set_option maxHeartbeats 4000000 in
theorem rDim29_any (P M : Int) (am : Option Addr) (mn cm : Nat) (mod : List Int) (m : Nat) (a : Option Addr) (n c : Nat) (L : List (List Int)) (as' : Option Addr) (ns cs : Nat) (S : List Int) (w : World) (hmod : Ints w am mn mod) (hi : Mat w a n L) (hs : Ints w as' ns S)
  (hE : codeE P M mod m L=0) :
  Calls Tryz.prog 75 #[.agg #[.int .i64 P,.int .i64 M,.slice am mn cm,.int .i64 m,.slice a n c],.slice as' ns cs] w fun e w'=>e = .returned (.int .i64 (dimZ (tblOf P M.toNat mod).ops L m S))∧Below w.heap.size w w':=by
 obtain ⟨N',em,hm1,hm64,F,hR⟩:=codeE_fld hE
 obtain rfl : m=N':=by omega
 have hn : n≤256:=by rw [← hi.len];exact (codeE_rws hE).choose_spec.2.2.2.1
 have hfl:=frTo_len false S m
 have hr : rkQ (tblOf P M.toNat mod).ops L (frTo false S m)≤m:=Nat.le_trans (rkQ_le _ _ _) hfl
 have HO : Hid (∀ V,Below w.heap.size w V→Calls Tryz.prog 84 #[.slice as' ns cs,.int .i64 m] V fun e w'=>∃ a1 c1,e = .returned (.slice a1 (frTo false S m).length c1) ∧
   w'.ownsRow V.heap.size 3 1 (.slice a1 (frTo false S m).length c1) (frTo false S m).length ((frTo false S m).map (Value.int .i64))∧Below V.heap.size V w'):=fun V hV=>rOthers10_any as' ns cs S m V (hs.keep hV) (by omega)
 have HOf : Hid (∀ V a1 c1,Below w.heap.size w V→Ints V a1 (frTo false S m).length (frTo false S m)→∀ V2,Below V.heap.size V V2→Calls Tryz.prog 124 #[.agg #[.int .i64 P,.int .i64 M,.slice am mn cm],.slice a n c,.slice a1 (frTo false S m).length c1] V2 fun e w'=>e = .returned (.int .i64 (rkQ (tblOf P M.toNat mod).ops L (frTo false S m)))∧Below V2.heap.size V2 w'):=fun V a1 c1 hV h1 V2 hV2 =>
  rOf25_any P M am mn cm mod m a n c L a1 _ c1 _ V2 (hmod.keep (Below.next hV hV2)) (hi.keep (Below.next hV hV2)) (h1.keep hV2) hE (inN_of fun x hx=>by
   obtain ⟨j,h1,h2,_⟩:=(mem_frTo m).1 hx
   omega) (by omega)
 have Hd : Hid (dimZ (tblOf P M.toNat mod).ops L m S=(n : Int) - (rkQ (tblOf P M.toNat mod).ops L (frTo false S m) : Nat)):=by show _=_;rw [dimZ,hi.len]
 obtain ⟨Z,hZ⟩ : ∃ Z,frTo false S m=Z:=⟨_,rfl⟩
 rw [hZ] at HO HOf Hd hr hfl
 obtain ⟨r,hre⟩ : ∃ r,rkQ (tblOf P M.toNat mod).ops L Z=r:=⟨_,rfl⟩
 rw [hre] at HOf Hd hr
 obtain ⟨z,hz⟩ : ∃ z,Z.length=z:=⟨_,rfl⟩
 rw [hz] at HO HOf hfl
 have k2 : IntKind.i64.wrap ((n : Int) - r)=(n : Int) - r:=IntWalk.i64_in _ (by omega)
 have hpa:=hi.pl
 clear F hR em hE hZ hre hz hmod hi hs
 go_enter Tryz.func75,Tryz.ntmps75
 go_upto_region 1 with fail
 obtain ⟨W,hW⟩ : ∃ W : World,W=w.alloc (.cells #[.int .i64 P,.int .i64 M,.slice am mn cm,.int .i64 m,.slice a n c] 27):=⟨_,rfl⟩
 rw [← hW]
 have hbW : Below w.heap.size w W:=by rw [hW];exact below1 _ _
 have x0 : Box W w.heap.size [.int .i64 P,.int .i64 M,.slice am mn cm,.int .i64 m,.slice a n c]:=by rw [hW];exact Box.new _ _ _ rfl
 have HS : Hid (∀ V,Below W.heap.size W V→V.cell? ⟨w.heap.size,0,none⟩=some (.int .i64 P)∧V.cell? ⟨w.heap.size,1,none⟩=some (.int .i64 M)∧V.cell? ⟨w.heap.size,2,none⟩=some (.slice am mn cm)∧V.cell? ⟨w.heap.size,3,none⟩=some (.int .i64 m)∧V.cell? ⟨w.heap.size,4,none⟩=some (.slice a n c)∧Below W.heap.size W V):=fun V hV=>by
  have x1:=x0.keep hV
  exact ⟨x1.cell 0 rfl,x1.cell 1 rfl,x1.cell 2 rfl,x1.cell 3 rfl,x1.cell 4 rfl,hV⟩
 have HbW:=Lib.hid hbW
 clear hW x0 hbW
 go_region_held3 (fun V=>V.cell? ⟨w.heap.size,0,none⟩=some (.int .i64 P)∧V.cell? ⟨w.heap.size,1,none⟩=some (.int .i64 M)∧V.cell? ⟨w.heap.size,2,none⟩=some (.slice am mn cm)∧V.cell? ⟨w.heap.size,3,none⟩=some (.int .i64 m)∧V.cell? ⟨w.heap.size,4,none⟩=some (.slice a n c)∧Below W.heap.size W V)
  ((refine HS.out _ ?_;first | exact (Below.refl _ _).drew | (go_split_ands;exact Below.next (by assumption) (by assumption))))
  (first
   | (go_at_call 84;((with_reducible refine (HO.out _ (Below.next HbW.out (by go_split_ands;assumption))).mono ?_);rintro e w6 ⟨a6,c6,rfl,hown6,hb6⟩;have hb7 : Below W.heap.size W w6:=(by go_split_ands;exact Below.next (by assumption) hb6);have Hr2:=Lib.hid (HOf.out w6 a6 c6 (Below.next HbW.out hb7) (Ints.own hown6).1);clear hown6))
   | (go_at_call 124;((with_reducible refine (Hr2.out _ (by first | exact Below.refl _ _ | exact hb4)).mono ?_);rintro e w8 ⟨rfl,hb8⟩)))
 all_goals (
  clear k2
  go_wp2_with fail
  go_ret
  exact ⟨ret_int Hd.out.symm,Below.next HbW.out (by go_split_ands;assumption)⟩)
set_option maxRecDepth 100000 in
set_option maxHeartbeats 4000000 in
theorem rEnough29_any (P M : Int) (am : Option Addr) (mn cm : Nat) (mod : List Int) (N : Int) (a : Option Addr) (n c : Nat) (L : List (List Int)) (w : World) (hmod : Ints w am mn mod) (hi : Mat w a n L) :
  Calls Tryz.prog 70 #[.agg #[.int .i64 P,.int .i64 M,.slice am mn cm,.int .i64 N,.slice a n c]] w fun e w'=>e = .returned (.int .i64 (dimE P M mod N L))∧Below w.heap.size w w':=by
 go_enter Tryz.func70,Tryz.ntmps70
 go_wp2_with fail
 obtain ⟨W,hW⟩ : ∃ W : World,W=w.alloc (.cells #[.int .i64 P,.int .i64 M,.slice am mn cm,.int .i64 N,.slice a n c] 27):=⟨_,rfl⟩
 rw [← hW]
 have hbW : Below w.heap.size w W:=by rw [hW];exact below1 _ _
 have x0 : Box W w.heap.size [.int .i64 P,.int .i64 M,.slice am mn cm,.int .i64 N,.slice a n c]:=by rw [hW];exact Box.new _ _ _ rfl
 clear hW
 refine (rCheck_any P M am mn cm mod N a n c L W (hmod.keep hbW) (hi.keep hbW)).mono ?_
 rintro e w1 ⟨rfl,hb1⟩
 have c3:=(x0.keep hb1).cell 3 rfl
 have hF:=Below.next hbW hb1
 by_cases hE : codeE P M mod N L=0
 ·by_cases h16 : 16<N
  ·have HE : Hid (dimE P M mod N L=8):=by show _=_;rw [dimE,if_pos hE,if_pos h16]
   have d : decide (16<N)=true:=by simpa using h16
   rw [hE]
   clear hE h16
   go_wp2_with fail
   go_ret
   exact ⟨ret_int HE.out.symm,hF⟩
  ·have HE : Hid (dimE P M mod N L=0):=by show _=_;rw [dimE,if_pos hE,if_neg h16]
   have d : decide (16<N)=false:=by simpa using h16
   rw [hE]
   clear hE h16
   go_wp2_with fail
   go_ret
   exact ⟨ret_int HE.out.symm,hF⟩
 ·have HE : Hid (dimE P M mod N L=codeE P M mod N L):=if_neg hE
  have hE' : (codeE P M mod N L == 0)=false:=by simpa using hE
  clear hE
  generalize codeE P M mod N L=er at *
  go_wp2_with fail
  go_ret
  exact ⟨ret_int HE.out.symm,hF⟩
theorem allS_parts {m k : Nat} (hk : k≤m) : ∃ B,allS m=((List.range k).flatMap fun s=>setsS m s 0) ++ (setsS m k 0 ++ B):=by
 refine ⟨(List.range' (k+1) (m - k)).flatMap fun s=>setsS m s 0,?_⟩
 have e : List.range (m+1)=List.range k ++ (k :: List.range' (k+1) (m - k)):=by
  rw [← List.range'_succ,List.range_eq_range',List.range_eq_range',show m - k+1=m+1 - k by omega]
  have h:=List.range'_append_1 (s:=0) (m:=k) (n:=m+1 - k)
  rw [Nat.zero_add] at h
  rw [h];congr 1;omega
 unfold allS
 rw [e,List.flatMap_append,List.flatMap_cons]
theorem findS_at {m k j : Nat} {p : List Int→Bool} (hk : k≤m) (h0 : ∀ s,s<k→∀ t ∈ setsS m s 0,p t=false) (h1 : ∀ i,i<j→p (nthR (setsS m k 0) i)=false) (hj : j<(setsS m k 0).length) (hp : p (nthR (setsS m k 0) j)=true) :
  (allS m).find? p=some (nthR (setsS m k 0) j):=by
 obtain ⟨B,hB⟩:=allS_parts hk
 rw [List.find?_eq_some_iff_append]
 refine ⟨hp,((List.range k).flatMap fun s=>setsS m s 0) ++ (setsS m k 0).take j,(setsS m k 0).drop (j+1) ++ B,?_,fun t ht=>?_⟩
 ·rw [hB,List.append_assoc,nthR_getElem hj]
  congr 1
  rw [← List.cons_append,← List.append_assoc,List.getElem_cons_drop,List.take_append_drop]
 ·rcases List.mem_append.1 ht with h | h
  ·obtain ⟨s,hs,h2⟩:=List.mem_flatMap.1 h
   rw [h0 s (List.mem_range.1 hs) t h2];rfl
  ·obtain ⟨i,hi,e⟩:=List.mem_iff_getElem.1 h
   rw [List.length_take] at hi
   rw [List.getElem_take] at e
   rw [← e,← nthR_getElem (by omega),h1 i (by omega)];rfl
theorem findS_no {m : Nat} {p : List Int→Bool} (h0 : ∀ s,s<m+1→∀ t ∈ setsS m s 0,p t=false) : (allS m).find? p=none:=by
 rw [List.find?_eq_none]
 intro t ht
 obtain ⟨s,hs,h2⟩:=List.mem_flatMap.1 ht
 rw [h0 s (List.mem_range.1 hs) t h2];decide
def FirPost (X : List Int) (w : World) (e : Ending) (w' : World) : Prop :=
 ∃ a c,e = .returned (.slice a X.length c)∧IntsN w.heap.size w' a X.length X∧Below w.heap.size w w'
set_option maxRecDepth 100000 in
set_option maxHeartbeats 8000000 in
theorem rFirst29_any (P M : Int) (am : Option Addr) (mn cm : Nat) (mod : List Int) (m : Nat) (a : Option Addr) (n c : Nat) (L : List (List Int)) (r : Int) (w : World) (hmod : Ints w am mn mod) (hi : Mat w a n L) (hE : codeE P M mod m L=0) (hm16 : m≤16) :
  Calls Tryz.prog 71 #[.agg #[.int .i64 P,.int .i64 M,.slice am mn cm,.int .i64 m,.slice a n c],.int .i64 r] w (FirPost (firS (tblOf P M.toNat mod).ops L m r) w):=by
 have HD : Hid (∀ V as' ns cs S,Below w.heap.size w V→Ints V as' ns S→Calls Tryz.prog 75 #[.agg #[.int .i64 P,.int .i64 M,.slice am mn cm,.int .i64 m,.slice a n c],.slice as' ns cs] V fun e w'=>e = .returned (.int .i64 (dimZ (tblOf P M.toNat mod).ops L m S))∧Below V.heap.size V w'):=fun V as' ns cs S hV h1 =>
  rDim29_any P M am mn cm mod m a n c L as' ns cs S V (hmod.keep hV) (hi.keep hV) h1 hE
 have HSt : Hid (∀ k V,k≤m→Calls Tryz.prog 74 #[.int .i64 0,.int .i64 m,.int .i64 k] V (SetsPost (setsS m k 0) V)):=fun k V hk=>rSets29_any m hm16 k 0 V (Nat.zero_le _) (by omega)
 have HF1 : Hid (∀ k j,k≤m→(∀ s,s<k→∀ t ∈ setsS m s 0,pD (tblOf P M.toNat mod).ops L m r t=false)→(∀ i,i<j→pD (tblOf P M.toNat mod).ops L m r (nthR (setsS m k 0) i)=false)→j<(setsS m k 0).length→r≤dimZ (tblOf P M.toNat mod).ops L m (nthR (setsS m k 0) j)→firS (tblOf P M.toNat mod).ops L m r=nthR (setsS m k 0) j):=fun k j hk h0 h1 hj hp=>by
  unfold firS
  rw [findS_at hk h0 h1 hj (by unfold pD;exact decide_eq_true hp)];rfl
 have HF2 : Hid ((∀ s,s<m+1→∀ t ∈ setsS m s 0,pD (tblOf P M.toNat mod).ops L m r t=false)→firS (tblOf P M.toNat mod).ops L m r=[]):=fun h0=>by
  unfold firS
  rw [findS_no h0];rfl
 have HP : Hid (∀ t,¬ r≤dimZ (tblOf P M.toNat mod).ops L m t→pD (tblOf P M.toNat mod).ops L m r t=false):=fun t h=>by unfold pD;exact decide_eq_false h
 obtain ⟨dz,hdz⟩ : ∃ dz,dimZ (tblOf P M.toNat mod).ops L m=dz:=⟨_,rfl⟩
 obtain ⟨p,hp⟩ : ∃ p,pD (tblOf P M.toNat mod).ops L m r=p:=⟨_,rfl⟩
 obtain ⟨X,hX⟩ : ∃ X,firS (tblOf P M.toNat mod).ops L m r=X:=⟨_,rfl⟩
 rw [hdz] at HD HF1 HP
 rw [hp] at HF1 HF2 HP
 rw [hX] at HF1 HF2 ⊢
 clear hdz hp hX hE
 go_enter Tryz.func71,Tryz.ntmps71
 go_wp2_with fail
 obtain ⟨W,hW⟩ : ∃ W : World,W=w.alloc (.cells #[.int .i64 P,.int .i64 M,.slice am mn cm,.int .i64 m,.slice a n c] 27):=⟨_,rfl⟩
 rw [← hW]
 have hbW : Below w.heap.size w W:=by rw [hW];exact below1 _ _
 have x0 : Box W w.heap.size [.int .i64 P,.int .i64 M,.slice am mn cm,.int .i64 m,.slice a n c]:=by rw [hW];exact Box.new _ _ _ rfl
 have HX : Hid (∀ V,Below W.heap.size W V→V.cell? ⟨w.heap.size,0,none⟩=some (.int .i64 P)∧V.cell? ⟨w.heap.size,1,none⟩=some (.int .i64 M)∧V.cell? ⟨w.heap.size,2,none⟩=some (.slice am mn cm)∧V.cell? ⟨w.heap.size,3,none⟩=some (.int .i64 m)∧V.cell? ⟨w.heap.size,4,none⟩=some (.slice a n c)):=fun V hV=>by
  have x1:=x0.keep hV
  exact ⟨x1.cell 0 rfl,x1.cell 1 rfl,x1.cell 2 rfl,x1.cell 3 rfl,x1.cell 4 rfl⟩
 have HbW:=Lib.hid hbW
 clear hW x0 hbW
 go_loopw [5] (fun kv wr=>∃ k : Nat,k≤m+1∧kv = .int .i64 k∧Hid (∀ s,s<k→∀ t ∈ setsS m s 0,p t=false)∧Below W.heap.size W wr) (fun kv _=>m+1 - (intOf kv).toNat)
 case atStart=>exact ⟨0,Nat.zero_le _,rfl,fun s hs=>by omega,Below.refl _ _⟩
 case round =>
  obtain ⟨k,hk,rfl,Hk,hbr⟩:=hrel
  obtain ⟨c0,c1,c2,c3,c4⟩:=HX.out wr hbr
  by_cases hlt : k≤m
  ·have hle : decide ((k : Int)≤(m : Int))=true:=by simp;omega
   have Hcall:=Lib.hid (HSt.out k wr hlt)
   have HF1k : Hid (∀ j,(∀ i,i<j→p (nthR (setsS m k 0) i)=false)→j<(setsS m k 0).length→r≤dz (nthR (setsS m k 0) j)→X=nthR (setsS m k 0) j):=fun j=>HF1.out k j hlt Hk.out
   have HTk : Hid ((∀ i,i<(setsS m k 0).length→p (nthR (setsS m k 0) i)=false)→∀ s,s<k+1→∀ t ∈ setsS m s 0,p t=false):=fun h s hs t ht=>by
    by_cases e : s=k
    ·subst e
     obtain ⟨i,hi,rfl⟩:=mem_nthR ht
     exact h i hi
    ·exact Hk.out s (by omega) t ht
   unfold SetsPost at Hcall
   have ht16 : (setsS m k 0).length≤65536:=by
    have h1:=setsS_len m k 0 (Nat.zero_le _)
    have h2 : 2 ^ (m - 0)≤2 ^ 16:=Nat.pow_le_pow_right (by omega) (by omega)
    omega
   obtain ⟨T,hT⟩ : ∃ T,setsS m k 0=T:=⟨_,rfl⟩
   rw [hT] at Hcall HF1k HTk ht16
   obtain ⟨t,ht⟩ : ∃ t,T.length=t:=⟨_,rfl⟩
   rw [ht] at Hcall HF1k HTk ht16
   clear hT ht
   go_wp2_with fail
   refine Hcall.out.mono ?_
   rintro e U ⟨a2,c2',R2,rfl,hO2,hbU⟩
   have hN2:=hO2.matN
   have hpl2:=hN2.pl
   have htm:=hN2.max
   unfold maxLen at htm
   have hbrU:=Below.next hbr hbU
   have hsz:=hbr.size
   have hsW:=HbW.out.size
   clear hO2 Hcall c0 c1 c2 c3 c4
   go_wp2_with fail
   go_loopw [7] (fun jv wx=>∃ j : Nat,j≤t∧jv = .int .i64 j∧Hid (∀ i,i<j→p (nthR T i)=false)∧Below U.heap.size U wx) (fun jv _=>t - (intOf jv).toNat)
   case atStart=>exact ⟨0,Nat.zero_le _,rfl,fun i hi=>by omega,Below.refl _ _⟩
   case round =>
    obtain ⟨j,hj,rfl,Hj,hbx⟩:=hrel
    by_cases hlj : j<t
    ·obtain ⟨rb,rn,rc,hcell,hrow⟩:=hN2.cell j hlj
     have Hdim : Hid (∀ V,Below U.heap.size U V→Calls Tryz.prog 75 #[.agg #[.int .i64 P,.int .i64 M,.slice am mn cm,.int .i64 m,.slice a n c],.slice rb rn rc] V fun e w'=>e = .returned (.int .i64 (dz (nthR T j)))∧Below V.heap.size V w'):=fun V hV =>
      HD.out V rb rn rc (nthR T j) (Below.next HbW.out (Below.next hbrU hV)) (hrow.ints.keep hV)
     have HS : Hid (∀ V,Below U.heap.size U V→V.cell? ⟨w.heap.size,0,none⟩=some (.int .i64 P)∧V.cell? ⟨w.heap.size,1,none⟩=some (.int .i64 M)∧V.cell? ⟨w.heap.size,2,none⟩=some (.slice am mn cm)∧V.cell? ⟨w.heap.size,3,none⟩=some (.int .i64 m)∧V.cell? ⟨w.heap.size,4,none⟩=some (.slice a n c)∧V.cell? ⟨ablk a2,aoff a2+j,none⟩=some (.slice rb rn rc)∧Below U.heap.size U V):=fun V hV=>by
      obtain ⟨x0,x1,x2,x3,x4⟩:=HX.out V (Below.next hbrU hV)
      exact ⟨x0,x1,x2,x3,x4,cell_keep hV hcell,hV⟩
     have Hbx:=Lib.hid hbx
     have Hrow : Hid (IntsN w.heap.size U rb rn (nthR T j)):=hrow.mono (by omega)
     have hrl:=hrow.ints.len
     have HFj:=Lib.hid (HF1k.out j Hj.out hlj)
     have HPj:=Lib.hid (HP.out (nthR T j))
     obtain ⟨tj,htj⟩ : ∃ tj,nthR T j=tj:=⟨_,rfl⟩
     have Htj:=Lib.hid htj
     rw [htj] at Hdim Hrow HFj HPj hrl
     clear hcell hrow hbx htj
     obtain ⟨d,hd⟩ : ∃ d,dz tj=d:=⟨_,rfl⟩
     rw [hd] at Hdim HFj HPj
     clear hd
     by_cases hrd : r≤d
     ·have hd' : decide (r≤d)=true:=by simpa using hrd
      have HXe : Hid (X=tj):=HFj.out hrd
      clear hrd
      go_wp2_with fail
      go_region_held3 (fun V=>V.cell? ⟨w.heap.size,0,none⟩=some (.int .i64 P)∧V.cell? ⟨w.heap.size,1,none⟩=some (.int .i64 M)∧V.cell? ⟨w.heap.size,2,none⟩=some (.slice am mn cm)∧V.cell? ⟨w.heap.size,3,none⟩=some (.int .i64 m)∧V.cell? ⟨w.heap.size,4,none⟩=some (.slice a n c)∧V.cell? ⟨ablk a2,aoff a2+j,none⟩=some (.slice rb rn rc)∧Below U.heap.size U V)
       ((refine HS.out _ ?_;first | exact Hbx.out.drew | (go_split_ands;exact Below.next (by assumption) (by assumption))))
       (first
        | (go_at_call 75;((with_reducible refine (Hdim.out _ (by go_split_ands;assumption)).mono ?_);rintro e w6 ⟨rfl,hb6⟩)))
      have hbV : Below U.heap.size U w6:=by go_split_ands;assumption
      have HR : Hid (IntsN w.heap.size w6 rb rn tj∧Below w.heap.size w w6):=⟨Hrow.out.keep hbV,Below.next HbW.out (Below.next hbrU hbV)⟩
      subst hrl
      go_wp2_with fail
      go_ret
      rw [HXe.out]
      exact ⟨rb,rc,rfl,HR.out.1,HR.out.2⟩
     ·have hd' : decide (r≤d)=false:=by simpa using hrd
      have Hfalse : Hid (p tj=false):=HPj.out (by omega)
      clear hrd
      go_wp2_with fail
      go_region_held3 (fun V=>V.cell? ⟨w.heap.size,0,none⟩=some (.int .i64 P)∧V.cell? ⟨w.heap.size,1,none⟩=some (.int .i64 M)∧V.cell? ⟨w.heap.size,2,none⟩=some (.slice am mn cm)∧V.cell? ⟨w.heap.size,3,none⟩=some (.int .i64 m)∧V.cell? ⟨w.heap.size,4,none⟩=some (.slice a n c)∧V.cell? ⟨ablk a2,aoff a2+j,none⟩=some (.slice rb rn rc)∧Below U.heap.size U V)
       ((refine HS.out _ ?_;first | exact Hbx.out.drew | (go_split_ands;exact Below.next (by assumption) (by assumption))))
       (first
        | (go_at_call 75;((with_reducible refine (Hdim.out _ (by go_split_ands;assumption)).mono ?_);rintro e w6 ⟨rfl,hb6⟩)))
      have hbV : Below U.heap.size U w6:=by go_split_ands;assumption
      go_wp2_with fail
      go_roundw
      case rel=>exact ⟨j+1,by omega,by go_num,fun i hi=>by
       by_cases e : i=j
       ·subst e;rw [Htj.out];exact Hfalse.out
       ·exact Hj.out i (by omega),hbV⟩
      case measure=>simp [intOf] <;> omega
    ·obtain rfl : j=t:=by omega
     have hbV:=Below.next hbrU hbx
     have Hn : Hid (∀ s,s<k+1→∀ t ∈ setsS m s 0,p t=false):=HTk.out Hj.out
     go_wp2_with fail
     go_roundw
     case rel=>exact ⟨k+1,by omega,by go_num,Hn.out,hbV⟩
     case measure=>simp [intOf] <;> omega
  ·obtain rfl : k=m+1:=by omega
   have hle : decide (((m+1 : Nat) : Int)≤(m : Int))=false:=by simp;omega
   have HXe : Hid (X=[]):=HF2.out Hk.out
   have hF:=Below.next HbW.out hbr
   go_wp2_with fail
   go_ret
   rw [HXe.out]
   exact ⟨none,0,rfl,⟨⟨rfl,fun h=>absurd h (Nat.lt_irrefl 0),Nat.zero_le _,fun i hi=>absurd hi (Nat.not_lt_zero i)⟩,fun h=>absurd h (Nat.lt_irrefl 0)⟩,hF⟩
end

section
open Go.RowKit
section
variable {O : FOps} {El : Int→Prop} {m : Nat} {L : List (List Int)}
theorem fir_some (F : Fld O El) (hL : Rws El m L) (hm : m≤64) {r : Int} (hr : r≤L.length) : Asc 0 m (firS O L m r)∧r≤dimZ O L m (firS O L m r)∧∀ t,Asc 0 m t→r≤dimZ O L m t→(firS O L m r).length≤t.length:=by
 have hfull : bitsTo (2 ^ m - 1) m ∈ allS m:=mem_allS.2 (bits_asc _ _)
 have hp2 : 0<2 ^ m:=Nat.two_pow_pos m
 have hd : pD O L m r (bitsTo (2 ^ m - 1) m)=true:=by
  unfold pD
  rw [decide_eq_true_eq,dimZ_bits F hL (by omega),dims_nth F hL (by omega)]
  have e : offTo (2 ^ m - 1) m=[]:=by
   refine List.eq_nil_iff_forall_not_mem.2 fun y hy=>?_
   obtain ⟨j,h1,_,h3⟩:=mem_offTo.1 hy
   rw [Nat.testBit_two_pow_sub_one] at h3
   simp at h3;omega
  rw [e]
  have:=rkQ_le O L []
  simp at this
  omega
 cases hf : (allS m).find? (pD O L m r) with
 | none=>exact absurd hd (List.find?_eq_none.1 hf _ hfull)
 | some t =>
  have e : firS O L m r=t:=by unfold firS;rw [hf];rfl
  obtain ⟨k1,k2,k3⟩:=find_first (allS_pair m) hf
  rw [e]
  refine ⟨mem_allS.1 k2,by unfold pD at k1;simpa using k1,fun u hu hru=>?_⟩
  rcases k3 u (mem_allS.2 hu) (by unfold pD;exact decide_eq_true hru) with h | h
  ·rw [h];exact Nat.le_refl _
  ·rw [lessS_iff] at h;omega
theorem prof_iff (l : List Int) (n : Nat) {i : Nat} (hi : i≤n) : ∀ k,k≤2 ^ n→(0≤nth (profTo l n k) i)∧(∀ x,x<k→(bitsTo x n).length=i→nth l x≤nth (profTo l n k) i)∧(nth (profTo l n k) i=0∨∃ x,x<k∧(bitsTo x n).length=i∧nth (profTo l n k) i=nth l x)
 | 0,_=>by
  have e : nth (profTo l n 0) i=0:=by rw [profTo];simp [nth,List.getD_eq_getElem?_getD,List.getElem?_replicate];split <;> rfl
  rw [e]
  exact ⟨Int.le_refl _,fun x hx=>by omega,.inl rfl⟩
 | k+1,hk=>by
  obtain ⟨h1,h2,h3⟩:=prof_iff l n hi k (by omega)
  have hbl:=bitsTo_len k n
  have e : nth (profTo l n (k+1)) i=if i=(bitsTo k n).length then max (nth (profTo l n k) (bitsTo k n).length) (nth l k) else nth (profTo l n k) i:=by
   rw [profTo,nth_set _ _ _ _ (by rw [profTo_len];omega)]
  rw [e]
  by_cases hc : i=(bitsTo k n).length
  ·rw [if_pos hc,← hc]
   refine ⟨by omega,fun x hx hxl=>?_,?_⟩
   ·by_cases e2 : x=k
    ·subst e2;omega
    ·have:=h2 x (by omega) hxl;omega
   ·by_cases h4 : nth l k≤nth (profTo l n k) i
    ·rw [Int.max_eq_left h4]
     rcases h3 with h3 | ⟨x,a1,a2,a3⟩
     ·exact .inl h3
     ·exact .inr ⟨x,by omega,a2,a3⟩
    ·rw [Int.max_eq_right (by omega)]
     exact .inr ⟨k,by omega,hc.symm,rfl⟩
  ·rw [if_neg hc]
   refine ⟨h1,fun x hx hxl=>?_,?_⟩
   ·by_cases e2 : x=k
    ·subst e2;exact absurd hxl.symm hc
    ·exact h2 x (by omega) hxl
   ·rcases h3 with h3 | ⟨x,a1,a2,a3⟩
    ·exact .inl h3
    ·exact .inr ⟨x,by omega,a2,a3⟩
def mxTo (f : List Int→Int) (T : List (List Int)) : Nat→Int
 | 0=>0
 | j+1=>max (mxTo f T j) (f (nthR T j))
def prfR (O : FOps) (L : List (List Int)) (m i : Nat) : Int:=mxTo (dimZ O L m) (setsS m i 0) (setsS m i 0).length
theorem mx_iff (f : List Int→Int) (T : List (List Int)) : ∀ k,0≤mxTo f T k∧(∀ j,j<k→f (nthR T j)≤mxTo f T k)∧(mxTo f T k=0∨∃ j,j<k∧mxTo f T k=f (nthR T j))
 | 0=>⟨Int.le_refl _,fun j hj=>by omega,.inl rfl⟩
 | k+1=>by
  obtain ⟨h1,h2,h3⟩:=mx_iff f T k
  rw [mxTo]
  refine ⟨by omega,fun j hj=>?_,?_⟩
  ·by_cases e : j=k
   ·subst e;omega
   ·have:=h2 j (by omega);omega
  ·by_cases h4 : f (nthR T k)≤mxTo f T k
   ·rw [Int.max_eq_left h4]
    rcases h3 with h3 | ⟨j,a1,a2⟩
    ·exact .inl h3
    ·exact .inr ⟨j,by omega,a2⟩
   ·rw [Int.max_eq_right (by omega)]
    exact .inr ⟨k,by omega,rfl⟩
theorem prof_at (F : Fld O El) (hL : Rws El m L) (hm : m≤64) {i : Nat} (hi : i≤m) : nth (profS (dimsS O m L) m) i=prfR O L m i:=by
 unfold profS prfR
 obtain ⟨h1,h2,h3⟩:=prof_iff (dimsS O m L) m hi (2 ^ m) (Nat.le_refl _)
 obtain ⟨g1,g2,g3⟩:=mx_iff (dimZ O L m) (setsS m i 0) (setsS m i 0).length
 apply Int.le_antisymm
 ·rcases h3 with h3 | ⟨x,a1,a2,a3⟩
  ·rw [h3];exact g1
  ·rw [a3,← dimZ_bits F hL a1]
   obtain ⟨j,hj,e⟩:=mem_nthR (mem_setsS.2 ⟨a2,bits_asc x m⟩)
   rw [← e];exact g2 j hj
 ·rcases g3 with g3 | ⟨j,a1,a2⟩
  ·rw [g3];exact h1
  ·obtain ⟨b1,b2⟩:=mem_setsS.1 (nthR_mem a1)
   obtain ⟨x,hx,e⟩:=asc_bits hm b2
   rw [a2,← e,dimZ_bits F hL hx]
   exact h2 x hx (by rw [e];exact b1)
def prfM (O : FOps) (L : List (List Int)) (m k : Nat) : List Int:=(List.range k).map fun i=>prfR O L m i
theorem prof_eq (F : Fld O El) (hL : Rws El m L) (hm : m≤64) : profS (dimsS O m L) m=prfM O L m (m+1):=by
 have h1 : (profS (dimsS O m L) m).length=m+1:=profTo_len _ _ _
 refine nth_ext (by rw [h1];simp [prfM]) fun i hi=>?_
 rw [h1] at hi
 rw [prof_at F hL hm (by omega),prfM,nth_mapRange _ _ _ hi]
def wtsR (O : FOps) (L : List (List Int)) (m k : Nat) : List Int:=(List.range k).map fun (i : Nat)=>((firS O L m ((i : Int)+1)).length : Int)
theorem wts_at (F : Fld O El) (hL : Rws El m L) (hm : m≤64) {r : Int} (h1 : 1≤r) (hr : r≤L.length) : ixGe (profS (dimsS O m L) m) r=((firS O L m r).length : Int):=by
 obtain ⟨a1,a2,a3⟩:=fir_some F hL hm hr
 have hlen : (profS (dimsS O m L) m).length=m+1:=profTo_len _ _ _
 have hal:=asc_len a1 (Nat.zero_le m)
 have h:=ixGo_at r (profS (dimsS O m L) m) (firS O L m r).length 0 (by omega) (fun j hj=>?_) ?_
 ·unfold ixGe;rw [h];simp
 ·rw [prof_at F hL hm (by omega)]
  obtain ⟨g1,g2,g3⟩:=mx_iff (dimZ O L m) (setsS m j 0) (setsS m j 0).length
  unfold prfR
  rcases g3 with g3 | ⟨q,b1,b2⟩
  ·omega
  ·obtain ⟨c1,c2⟩:=mem_setsS.1 (nthR_mem b1)
   rw [b2]
   rcases Int.lt_or_le (dimZ O L m (nthR (setsS m j 0) q)) r with h | h
   ·exact h
   ·have:=a3 _ c2 h;omega
 ·rw [prof_at F hL hm (by omega)]
  obtain ⟨g1,g2,g3⟩:=mx_iff (dimZ O L m) (setsS m (firS O L m r).length 0) (setsS m (firS O L m r).length 0).length
  obtain ⟨q,hq,e⟩:=mem_nthR (mem_setsS.2 ⟨rfl,a1⟩)
  have:=g2 q hq
  rw [e] at this
  unfold prfR;omega
theorem wts_eq (F : Fld O El) (hL : Rws El m L) (hm : m≤64) : wtsS O m L=wtsR O L m L.length:=by
 unfold wtsS wtsTo wtsR
 refine List.map_congr_left fun i hi=>?_
 rw [List.mem_range] at hi
 exact wts_at F hL hm (by omega) (by omega)
end
end

section
open Go.RowKit
def WtsRPost (P M : Int) (mod : List Int) (N : Int) (L : List (List Int)) (n : Nat) (X : List Int) (w : World) (e : Ending) (w' : World) : Prop :=
 Below w.heap.size w w'∧((dimE P M mod N L ≠ 0∧e = .returned (.tuple #[.slice none 0 0,.int .i64 (dimE P M mod N L)])) ∨
  (dimE P M mod N L=0∧∃ a c,e = .returned (.tuple #[.slice a n c,.int .i64 0])∧w'.ownsRow w.heap.size 3 1 (.slice a n c) n (X.map (Value.int .i64))))
set_option maxRecDepth 100000 in
set_option maxHeartbeats 4000000 in
theorem rWeights29_any (P M : Int) (am : Option Addr) (mn cm : Nat) (mod : List Int) (N : Int) (a : Option Addr) (n c : Nat) (L : List (List Int)) (w : World) (hmod : Ints w am mn mod) (hi : Mat w a n L) :
  Calls Tryz.prog 29 #[.agg #[.int .i64 P,.int .i64 M,.slice am mn cm,.int .i64 N,.slice a n c]] w (WtsRPost P M mod N L n (wtsR (tblOf P M.toNat mod).ops L N.toNat n) w):=by
 go_enter Tryz.func29,Tryz.ntmps29
 go_wp2_with fail
 obtain ⟨U,hU⟩ : ∃ U : World,U=w.alloc (.cells #[.int .i64 P,.int .i64 M,.slice am mn cm,.int .i64 N,.slice a n c] 27):=⟨_,rfl⟩
 rw [← hU]
 have hbU : Below w.heap.size w U:=by rw [hU];exact below1 _ _
 have x0 : Box U w.heap.size [.int .i64 P,.int .i64 M,.slice am mn cm,.int .i64 N,.slice a n c]:=by rw [hU];exact Box.new _ _ _ rfl
 have HX:=Lib.hid x0
 clear hU x0
 refine (rEnough29_any P M am mn cm mod N a n c L U (hmod.keep hbU) (hi.keep hbU)).mono ?_
 rintro e w1 ⟨rfl,hb1⟩
 have hbw1:=Below.next hbU hb1
 by_cases hE : dimE P M mod N L=0
 rotate_left
 ·obtain ⟨er,her⟩ : ∃ er,dimE P M mod N L=er:=⟨_,rfl⟩
  have Her:=Lib.hid her
  rw [her] at hE ⊢
  have Hne:=Lib.hid hE
  have hE' : (er != 0)=true:=by simpa using hE
  clear hE her
  go_wp2_with fail
  go_ret2
  exact ⟨hbw1,.inl ⟨by rw [Her.out];exact Hne.out,by rw [Her.out];rfl⟩⟩
 obtain ⟨hC,hN1,hN16⟩:=dimE_zero hE
 have HE0:=Lib.hid hE
 obtain ⟨m,rfl⟩ : ∃ m : Nat,N=m:=⟨N.toNat,by omega⟩
 have hm16 : m≤16:=by omega
 have hn256 : n≤256:=by rw [← hi.len];exact (codeE_rws hC).choose_spec.2.2.2.1
 have HC : Hid (∀ V r,Below w1.heap.size w1 V→Calls Tryz.prog 71 #[.agg #[.int .i64 P,.int .i64 M,.slice am mn cm,.int .i64 m,.slice a n c],.int .i64 r] V (FirPost (firS (tblOf P M.toNat mod).ops L m r) V)):=fun V r hV =>
  rFirst29_any P M am mn cm mod m a n c L r V (((hmod.keep hbU).keep hb1).keep hV) (((hi.keep hbU).keep hb1).keep hV) hC hm16
 have HW : Hid (∀ k,wtsR (tblOf P M.toNat mod).ops L m (k+1)=wtsR (tblOf P M.toNat mod).ops L m k ++ [((firS (tblOf P M.toNat mod).ops L m ((k : Int)+1)).length : Int)]):=fun k=>by unfold wtsR;rw [List.range_succ];simp
 have HWl : Hid (∀ k,(wtsR (tblOf P M.toNat mod).ops L m k).length=k):=fun k=>by simp [wtsR]
 have HW0 : Hid (wtsR (tblOf P M.toNat mod).ops L m 0=[]):=rfl
 unfold FirPost at HC
 have HPost : Hid (∀ a1 c1 V,V.ownsRow w.heap.size 3 1 (.slice a1 n c1) n ((wtsR (tblOf P M.toNat mod).ops L m n).map (Value.int .i64))→Below w.heap.size w V→WtsRPost P M mod m L n (wtsR (tblOf P M.toNat mod).ops L (m : Int).toNat n) w (.returned (.tuple #[.slice a1 n c1,.int .i64 0])) V):=fun a1 c1 V h1 h2 =>
  ⟨h2,.inr ⟨hE,a1,c1,rfl,by rw [Int.toNat_natCast];exact h1⟩⟩
 obtain ⟨fr,hfr⟩ : ∃ fr,firS (tblOf P M.toNat mod).ops L m=fr:=⟨_,rfl⟩
 rw [hfr] at HC HW
 obtain ⟨G,hG⟩ : ∃ G,wtsR (tblOf P M.toNat mod).ops L m=G:=⟨_,rfl⟩
 rw [hG] at HW HWl HW0 HPost
 rw [hE]
 clear hE hC hfr hG
 have HS : Hid (∀ V,Below w1.heap.size w1 V→V.cell? ⟨w.heap.size,0,none⟩=some (.int .i64 P)∧V.cell? ⟨w.heap.size,1,none⟩=some (.int .i64 M)∧V.cell? ⟨w.heap.size,2,none⟩=some (.slice am mn cm)∧V.cell? ⟨w.heap.size,3,none⟩=some (.int .i64 m)∧V.cell? ⟨w.heap.size,4,none⟩=some (.slice a n c)):=fun V hV=>by
  have x1:=(HX.out.keep hb1).keep hV
  exact ⟨x1.cell 0 rfl,x1.cell 1 rfl,x1.cell 2 rfl,x1.cell 3 rfl,x1.cell 4 rfl⟩
 have Hbw1:=Lib.hid hbw1
 clear hb1 hbw1
 go_wp2_with fail
 go_loopw [5,6] (fun ov iv wr=>∃ (k : Nat) (a1 : Option Addr) (c1 : Nat),k≤n∧iv = .int .i64 ((k : Int)+1)∧ov = .slice a1 k c1∧wr.ownsRow w1.heap.size 3 1 (.slice a1 k c1) k ((G k).map (Value.int .i64))∧Below w1.heap.size w1 wr) (fun _ iv _=>n+1 - (intOf iv).toNat)
 case atStart=>exact ⟨0,none,0,Nat.zero_le _,rfl,rfl,by rw [HW0.out];exact own_none,Below.refl _ _⟩
 case round =>
  obtain ⟨k,a1,c1,hk,rfl,rfl,hown,hbr⟩:=hrel
  obtain ⟨c0,c1',c2,c3,c4⟩:=HS.out wr hbr
  by_cases hlt : k<n
  ·have d1 : decide ((k : Int)+1≤(n : Int))=true:=by simp;omega
   have Hc:=Lib.hid (HC.out wr ((k : Int)+1) hbr)
   have Hst:=Lib.hid (HW.out k)
   obtain ⟨F1,hF1⟩ : ∃ F1,fr ((k : Int)+1)=F1:=⟨_,rfl⟩
   rw [hF1] at Hc Hst
   obtain ⟨v,hv⟩ : ∃ v,F1.length=v:=⟨_,rfl⟩
   rw [hv] at Hc Hst
   have hsz:=hbr.size
   have Hown:=Lib.hid hown
   have Hbr:=Lib.hid hbr
   clear hF1 hv hown hbr
   go_wp2_with fail
   refine Hc.out.mono ?_
   rintro e w3 ⟨a3,c3',rfl,_,hb3⟩
   have hb4 : Below wr.heap.size wr (w3.alloc (.cells #[.int .i64 v] 3)):=Below.next hb3 (below1 _ _)
   have hop:=own_keep Hown.out hb4
   have hcn:=cell_new w3 (.int .i64 v) 3
   have hbm:=Below.next Hbr.out hb4
   have hs8:=hbm.size
   clear c0 c1' c2 c3 c4
   go_wp2_with (at_builtin;refine wpList_push rfl _ _ 22 3 rfl (.int .i64 0) 8 Tryz.underlying22 infoInt rfl w1.heap.size a1 k c1 _ rfl hop ⟨w3.heap.size,0,none⟩ 1 (.int .i64 v) rfl hcn rfl (by omega) (by unfold maxLen;omega) hs8 ?_;intro a5 c5 w5 hown5 hgr5 hap5)
   go_roundw
   case rel=>exact ⟨k+1,a5,c5,by omega,by go_num,rfl,by rw [Hst.out];simpa using hown5,Below.app hbm hop hgr5 (Nat.le_refl _) hs8⟩
   case measure=>simp [intOf] <;> omega
  ·obtain rfl : k=n:=by omega
   have d1 : decide ((k : Int)+1≤(k : Int))=false:=by simp;omega
   have HF:=Lib.hid (HPost.out a1 c1 wr (own_mono hown Hbw1.out.size) (Below.next Hbw1.out hbr))
   clear hown hbr
   go_wp2_with fail
   go_ret2
   exact HF.out
end

section
open Go.RowKit
set_option maxRecDepth 100000 in
set_option maxHeartbeats 4000000 in
theorem rProfile29_any (P M : Int) (am : Option Addr) (mn cm : Nat) (mod : List Int) (N : Int) (a : Option Addr) (n c : Nat) (L : List (List Int)) (w : World) (hmod : Ints w am mn mod) (hi : Mat w a n L) :
  Calls Tryz.prog 31 #[.agg #[.int .i64 P,.int .i64 M,.slice am mn cm,.int .i64 N,.slice a n c]] w (WtsRPost P M mod N L (N.toNat+1) (prfM (tblOf P M.toNat mod).ops L N.toNat (N.toNat+1)) w):=by
 go_enter Tryz.func31,Tryz.ntmps31
 go_wp2_with fail
 obtain ⟨U,hU⟩ : ∃ U : World,U=w.alloc (.cells #[.int .i64 P,.int .i64 M,.slice am mn cm,.int .i64 N,.slice a n c] 27):=⟨_,rfl⟩
 rw [← hU]
 have hbU : Below w.heap.size w U:=by rw [hU];exact below1 _ _
 have x0 : Box U w.heap.size [.int .i64 P,.int .i64 M,.slice am mn cm,.int .i64 N,.slice a n c]:=by rw [hU];exact Box.new _ _ _ rfl
 have HX:=Lib.hid x0
 clear hU x0
 refine (rEnough29_any P M am mn cm mod N a n c L U (hmod.keep hbU) (hi.keep hbU)).mono ?_
 rintro e w1 ⟨rfl,hb1⟩
 have hbw1:=Below.next hbU hb1
 by_cases hE : dimE P M mod N L=0
 rotate_left
 ·obtain ⟨er,her⟩ : ∃ er,dimE P M mod N L=er:=⟨_,rfl⟩
  have Her:=Lib.hid her
  rw [her] at hE ⊢
  have Hne:=Lib.hid hE
  have hE' : (er != 0)=true:=by simpa using hE
  clear hE her
  go_wp2_with fail
  go_ret2
  exact ⟨hbw1,.inl ⟨by rw [Her.out];exact Hne.out,by rw [Her.out];rfl⟩⟩
 obtain ⟨hC,hN1,hN16⟩:=dimE_zero hE
 have HE0:=Lib.hid hE
 obtain ⟨m,rfl⟩ : ∃ m : Nat,N=m:=⟨N.toNat,by omega⟩
 have hm16 : m≤16:=by omega
 have HC : Hid (∀ V as' ns cs S,Below w1.heap.size w1 V→Ints V as' ns S→Calls Tryz.prog 75 #[.agg #[.int .i64 P,.int .i64 M,.slice am mn cm,.int .i64 m,.slice a n c],.slice as' ns cs] V fun e w'=>e = .returned (.int .i64 (dimZ (tblOf P M.toNat mod).ops L m S))∧Below V.heap.size V w'):=fun V as' ns cs S hV h1 =>
  rDim29_any P M am mn cm mod m a n c L as' ns cs S V (((hmod.keep hbU).keep hb1).keep hV) (((hi.keep hbU).keep hb1).keep hV) h1 hC
 have HSt : Hid (∀ k V,k≤m→Calls Tryz.prog 74 #[.int .i64 0,.int .i64 m,.int .i64 k] V (SetsPost (setsS m k 0) V)):=fun k V hk=>rSets29_any m hm16 k 0 V (Nat.zero_le _) (by omega)
 have HW : Hid (∀ k,prfM (tblOf P M.toNat mod).ops L m (k+1)=prfM (tblOf P M.toNat mod).ops L m k ++ [mxTo (dimZ (tblOf P M.toNat mod).ops L m) (setsS m k 0) (setsS m k 0).length]):=fun k=>by unfold prfM prfR;rw [List.range_succ];simp
 have HWl : Hid (∀ k,(prfM (tblOf P M.toNat mod).ops L m k).length=k):=fun k=>by simp [prfM]
 have HW0 : Hid (prfM (tblOf P M.toNat mod).ops L m 0=[]):=rfl
 have HPost : Hid (∀ a1 c1 V,V.ownsRow w.heap.size 3 1 (.slice a1 (m+1) c1) (m+1) ((prfM (tblOf P M.toNat mod).ops L m (m+1)).map (Value.int .i64))→Below w.heap.size w V→WtsRPost P M mod m L ((m : Int).toNat+1) (prfM (tblOf P M.toNat mod).ops L (m : Int).toNat ((m : Int).toNat+1)) w (.returned (.tuple #[.slice a1 (m+1) c1,.int .i64 0])) V):=fun a1 c1 V h1 h2 =>
  ⟨h2,.inr ⟨hE,a1,c1,by rw [Int.toNat_natCast],by rw [Int.toNat_natCast];exact h1⟩⟩
 obtain ⟨dz,hdz⟩ : ∃ dz,dimZ (tblOf P M.toNat mod).ops L m=dz:=⟨_,rfl⟩
 rw [hdz] at HC HW
 obtain ⟨G,hG⟩ : ∃ G,prfM (tblOf P M.toNat mod).ops L m=G:=⟨_,rfl⟩
 rw [hG] at HW HWl HW0 HPost
 rw [hE]
 clear hE hC hdz hG
 have HS : Hid (∀ V,Below w1.heap.size w1 V→V.cell? ⟨w.heap.size,0,none⟩=some (.int .i64 P)∧V.cell? ⟨w.heap.size,1,none⟩=some (.int .i64 M)∧V.cell? ⟨w.heap.size,2,none⟩=some (.slice am mn cm)∧V.cell? ⟨w.heap.size,3,none⟩=some (.int .i64 m)∧V.cell? ⟨w.heap.size,4,none⟩=some (.slice a n c)):=fun V hV=>by
  have x1:=(HX.out.keep hb1).keep hV
  exact ⟨x1.cell 0 rfl,x1.cell 1 rfl,x1.cell 2 rfl,x1.cell 3 rfl,x1.cell 4 rfl⟩
 have Hbw1:=Lib.hid hbw1
 clear hb1 hbw1
 go_wp2_with fail
 go_loopw [5,6] (fun ov iv wr=>∃ (k : Nat) (a1 : Option Addr) (c1 : Nat),k≤m+1∧iv = .int .i64 k∧ov = .slice a1 k c1∧wr.ownsRow w1.heap.size 3 1 (.slice a1 k c1) k ((G k).map (Value.int .i64))∧Below w1.heap.size w1 wr) (fun _ iv _=>m+1 - (intOf iv).toNat)
 case atStart=>exact ⟨0,none,0,Nat.zero_le _,rfl,rfl,by rw [HW0.out];exact own_none,Below.refl _ _⟩
 case round =>
  obtain ⟨k,a1,c1,hk,rfl,rfl,hown,hbr⟩:=hrel
  obtain ⟨c0,c1',c2,c3,c4⟩:=HS.out wr hbr
  by_cases hlt : k≤m
  ·have d1 : decide ((k : Int)≤(m : Int))=true:=by simp;omega
   have Hcall:=Lib.hid (HSt.out k wr hlt)
   have Hst:=Lib.hid (HW.out k)
   unfold SetsPost at Hcall
   have ht16 : (setsS m k 0).length≤65536:=by
    have h1:=setsS_len m k 0 (Nat.zero_le _)
    have h2 : 2 ^ (m - 0)≤2 ^ 16:=Nat.pow_le_pow_right (by omega) (by omega)
    omega
   obtain ⟨T,hT⟩ : ∃ T,setsS m k 0=T:=⟨_,rfl⟩
   rw [hT] at Hcall Hst ht16
   obtain ⟨t,ht⟩ : ∃ t,T.length=t:=⟨_,rfl⟩
   rw [ht] at Hcall Hst ht16
   have Hown:=Lib.hid hown
   clear hT ht hown
   go_wp2_with fail
   refine Hcall.out.mono ?_
   rintro e Y ⟨a2,c2',R2,rfl,hO2,hbY⟩
   have hN2:=hO2.matN
   have hpl2:=hN2.pl
   have hbrY:=Below.next hbr hbY
   have hownY:=own_keep Hown.out hbY
   have HownY:=Lib.hid hownY
   clear hO2 Hcall c0 c1' c2 c3 c4 hownY
   go_wp2_with fail
   go_loopw [8,9] (fun sv jv wx=>∃ j : Nat,j≤t∧jv = .int .i64 j∧sv = .int .i64 (mxTo dz T j)∧Below Y.heap.size Y wx) (fun _ jv _=>t - (intOf jv).toNat)
   case atStart=>exact ⟨0,Nat.zero_le _,rfl,rfl,Below.refl _ _⟩
   case round =>
    obtain ⟨j,hj,rfl,rfl,hbx⟩:=hrel
    by_cases hlj : j<t
    ·obtain ⟨rb,rn,rc,hcell,hrow⟩:=hN2.cell j hlj
     have Hdim : Hid (∀ V,Below Y.heap.size Y V→Calls Tryz.prog 75 #[.agg #[.int .i64 P,.int .i64 M,.slice am mn cm,.int .i64 m,.slice a n c],.slice rb rn rc] V fun e w'=>e = .returned (.int .i64 (dz (nthR T j)))∧Below V.heap.size V w'):=fun V hV =>
      HC.out V rb rn rc (nthR T j) (Below.next hbrY hV) (hrow.ints.keep hV)
     have HSr : Hid (∀ V,Below Y.heap.size Y V→V.cell? ⟨w.heap.size,0,none⟩=some (.int .i64 P)∧V.cell? ⟨w.heap.size,1,none⟩=some (.int .i64 M)∧V.cell? ⟨w.heap.size,2,none⟩=some (.slice am mn cm)∧V.cell? ⟨w.heap.size,3,none⟩=some (.int .i64 m)∧V.cell? ⟨w.heap.size,4,none⟩=some (.slice a n c)∧V.cell? ⟨ablk a2,aoff a2+j,none⟩=some (.slice rb rn rc)∧Below Y.heap.size Y V):=fun V hV=>by
      obtain ⟨x0,x1,x2,x3,x4⟩:=HS.out V (Below.next hbrY hV)
      exact ⟨x0,x1,x2,x3,x4,cell_keep hV hcell,hV⟩
     have HM : Hid (mxTo dz T (j+1)=max (mxTo dz T j) (dz (nthR T j))):=rfl
     have Hbx:=Lib.hid hbx
     obtain ⟨d,hd⟩ : ∃ d,dz (nthR T j)=d:=⟨_,rfl⟩
     obtain ⟨s,hs⟩ : ∃ s,mxTo dz T j=s:=⟨_,rfl⟩
     rw [hd] at Hdim HM
     rw [hs] at HM ⊢
     clear hd hs hcell hrow hbx
     go_wp2_with fail
     go_region_held3 (fun V=>V.cell? ⟨w.heap.size,0,none⟩=some (.int .i64 P)∧V.cell? ⟨w.heap.size,1,none⟩=some (.int .i64 M)∧V.cell? ⟨w.heap.size,2,none⟩=some (.slice am mn cm)∧V.cell? ⟨w.heap.size,3,none⟩=some (.int .i64 m)∧V.cell? ⟨w.heap.size,4,none⟩=some (.slice a n c)∧V.cell? ⟨ablk a2,aoff a2+j,none⟩=some (.slice rb rn rc)∧Below Y.heap.size Y V)
      ((refine HSr.out _ ?_;first | exact Hbx.out.drew | (go_split_ands;first | assumption | exact Below.next (by assumption) (by assumption))))
      (first
       | (go_at_call 75;((with_reducible refine (Hdim.out _ (by go_split_ands;assumption)).mono ?_);rintro e w6 ⟨rfl,hb6⟩)))
     have hbV : Below Y.heap.size Y w6:=by go_split_ands;assumption
     go_wp2_with fail
     go_roundw
     case rel=>exact ⟨j+1,by omega,by go_num,by rw [HM.out],hbV⟩
     case measure=>simp [intOf] <;> omega
    ·obtain rfl : j=t:=by omega
     obtain ⟨wx0,hwx0⟩ : ∃ wx0,wx0=wr:=⟨_,rfl⟩
     rw [← hwx0] at hbx ⊢
     clear hwx0
     have hownx:=own_keep HownY.out hbx
     have Hbwx:=Lib.hid (Below.next hbrY hbx)
     obtain ⟨s,hs⟩ : ∃ s,mxTo dz T j=s:=⟨_,rfl⟩
     rw [hs] at Hst ⊢
     clear hs
     obtain ⟨g,hg⟩ : ∃ g,G k=g:=⟨_,rfl⟩
     have hgl : g.length=k:=by rw [← hg];exact HWl.out k
     rw [hg] at hownx Hst
     have Hgl:=Lib.hid hgl
     have Hownx:=Lib.hid hownx
     clear hg hgl hownx
     have hb4 : Below wx0.heap.size wx0 (wx0.alloc (.cells #[.int .i64 s] 3)):=below1 _ _
     have hop:=own_keep Hownx.out hb4
     have hcn:=cell_new wx0 (.int .i64 s) 3
     have hbm:=Below.next Hbwx.out hb4
     have hs8:=hbm.size
     go_wp2_with (at_builtin;refine wpList_push rfl _ _ 22 3 rfl (.int .i64 0) 8 Tryz.underlying22 infoInt rfl w1.heap.size a1 k c1 _ rfl hop ⟨wx0.heap.size,0,none⟩ 1 (.int .i64 s) rfl hcn rfl (by omega) (by unfold maxLen;omega) hs8 ?_;intro a5 c5 w5 hown5 hgr5 hap5)
     go_roundw
     case rel=>exact ⟨k+1,a5,c5,by omega,by go_num,rfl,by rw [Hst.out];simpa using hown5,Below.app hbm hop hgr5 (Nat.le_refl _) hs8⟩
     case measure=>simp [intOf] <;> omega
  ·obtain rfl : k=m+1:=by omega
   have d1 : decide (((m+1 : Nat) : Int)≤(m : Int))=false:=by simp;omega
   have HF:=Lib.hid (HPost.out a1 c1 wr (own_mono hown Hbw1.out.size) (Below.next Hbw1.out hbr))
   clear hown hbr
   go_wp2_with fail
   go_ret2
   exact HF.out
end

section
open Go.RowKit
set_option maxRecDepth 100000 in
set_option maxHeartbeats 3200000 in
theorem rSmall29_any (P M : Int) (am : Option Addr) (mn cm : Nat) (mod : List Int) (N : Int) (a : Option Addr) (n c : Nat) (L : List (List Int)) (w : World) (hmod : Ints w am mn mod) (hi : Mat w a n L) :
  Calls Tryz.prog 27 #[.agg #[.int .i64 P,.int .i64 M,.slice am mn cm,.int .i64 N,.slice a n c]] w (SomeBool w):=by
 have H : Hid (∀ V,Below w.heap.size w V→Calls Tryz.prog 44 #[.agg #[.int .i64 P,.int .i64 M,.slice am mn cm,.int .i64 N,.slice a n c],.int .i64 120] V (SomeBool V)):=fun V hV=>rFew12_any P M am mn cm N a n c 120 L V (hi.keep hV) (by omega)
 have H2 : Hid (∀ V,Below w.heap.size w V→Calls Tryz.prog 47 #[.agg #[.int .i64 P,.int .i64 M,.slice am mn cm,.int .i64 N,.slice a n c]] V fun e w'=>e = .returned (.int .i64 (codeE P M mod N L))∧Below V.heap.size V w'):=fun V hV=>rCheck_any P M am mn cm mod N a n c L V (hmod.keep hV) (hi.keep hV)
 clear hi hmod
 go_enter Tryz.func27,Tryz.ntmps27
 go_upto_region 1 with fail
 obtain ⟨W,hW⟩ : ∃ W : World,W=w.alloc (.cells #[.int .i64 P,.int .i64 M,.slice am mn cm,.int .i64 N,.slice a n c] 27):=⟨_,rfl⟩
 rw [← hW]
 have hbW : Below w.heap.size w W:=by rw [hW];exact below1 _ _
 have x0 : Box W w.heap.size [.int .i64 P,.int .i64 M,.slice am mn cm,.int .i64 N,.slice a n c]:=by rw [hW];exact Box.new _ _ _ rfl
 have HX:=Lib.hid x0
 have c0:=x0.cell 0 rfl
 have c1:=x0.cell 1 rfl
 have c2:=x0.cell 2 rfl
 have c3:=x0.cell 3 rfl
 have c4:=x0.cell 4 rfl
 clear hW x0
 have Hf:=Lib.hid (H.out W hbW)
 generalize codeE P M mod N L=er at *
 clear H
 go_wp2_with fail
 refine Hf.out.mono ?_
 rintro e w1 ⟨z,rfl,hb1⟩
 have hF:=Below.next hbW hb1
 clear c0 c1 c2 c3 c4
 cases z
 ·go_wp2_with fail
  go_ret
  exact ⟨_,rfl,hF⟩
 have x1:=HX.out.keep hb1
 have c0:=x1.cell 0 rfl
 have c1:=x1.cell 1 rfl
 have c2:=x1.cell 2 rfl
 have c3:=x1.cell 3 rfl
 have c4:=x1.cell 4 rfl
 clear x1
 go_wp2_with fail
 refine (H2.out w1 hF).mono ?_
 rintro e w2 ⟨rfl,hb2⟩
 have hF2:=Below.next hF hb2
 have q3:=(HX.out.keep (Below.next hb1 hb2)).cell 3 rfl
 clear c0 c1 c2 c3 c4
 by_cases hE : er=0
 ·have d0 : (er != 0)=false:=by simpa using hE
  clear hE
  by_cases h1 : 16<N
  ·have d1 : decide (16<N)=true:=by simpa using h1
   clear h1
   go_wp2_with fail
   go_ret
   exact ⟨_,rfl,hF2⟩
  ·have d1 : decide (16<N)=false:=by simpa using h1
   clear h1
   go_wp2_with fail
   go_ret
   exact ⟨_,rfl,hF2⟩
 ·have d0 : (er != 0)=true:=by simpa using hE
  clear hE
  go_wp2_with fail
  go_ret
  exact ⟨_,rfl,hF2⟩
def wtsX (P M : Int) (mod : List Int) (N : Int) (L : List (List Int)) : List Int:=if dimE P M mod N L=0 then wtsR (tblOf P M.toNat mod).ops L N.toNat L.length else []
def prfX (P M : Int) (mod : List Int) (N : Int) (L : List (List Int)) : List Int:=if dimE P M mod N L=0 then prfM (tblOf P M.toNat mod).ops L N.toNat (N.toNat+1) else []
theorem dimE_rws {P M : Int} {mod : List Int} {N : Int} {L : List (List Int)} (h : dimE P M mod N L=0) : ∃ (m : Nat),N=m∧1≤m∧m≤16∧Fld (tblOf P M.toNat mod).ops (tblOf P M.toNat mod).El∧Rws (tblOf P M.toNat mod).El m L:=by
 obtain ⟨hE,h1,h16⟩:=dimE_zero h
 obtain ⟨m,hm,hm1,hm64,F,hR⟩:=codeE_fld hE
 exact ⟨m,hm,hm1,by omega,F,hR⟩
section
variable (P M : Int) (am : Option Addr) (mn cm : Nat) (mod : List Int) (N : Int) (a : Option Addr) (n c : Nat) (L : List (List Int)) (w : World)
theorem weights_u (hmod : Ints w am mn mod) (hi : Mat w a n L) :
  Calls Tryz.prog 28 #[.agg #[.int .i64 P,.int .i64 M,.slice am mn cm,.int .i64 N,.slice a n c]] w (PairU (dimE P M mod N L) (wtsX P M mod N L) w):=by
 refine (weights_any P M am mn cm mod N a n c L w hmod hi).mono ?_
 rintro e w' ⟨hb,⟨h0,rfl⟩ | ⟨h0,a',c',rfl,h⟩⟩
 ·exact pair_no hb h0
 ·refine pair_ok hb h0 ?_
  obtain ⟨m,rfl,hm1,hm16,F,hR⟩:=dimE_rws h0
  rw [Int.toNat_natCast] at h ⊢
  rw [← wts_eq F hR (by omega)]
  exact (Ints.own h).1
theorem rWeights_u (hmod : Ints w am mn mod) (hi : Mat w a n L) :
  Calls Tryz.prog 29 #[.agg #[.int .i64 P,.int .i64 M,.slice am mn cm,.int .i64 N,.slice a n c]] w (PairU (dimE P M mod N L) (wtsX P M mod N L) w):=by
 refine (rWeights29_any P M am mn cm mod N a n c L w hmod hi).mono ?_
 rintro e w' ⟨hb,⟨h0,rfl⟩ | ⟨h0,a',c',rfl,h⟩⟩
 ·exact pair_no hb h0
 ·exact pair_ok hb h0 (by rw [hi.len];exact (Ints.own h).1)
theorem profile_u (hmod : Ints w am mn mod) (hi : Mat w a n L) :
  Calls Tryz.prog 30 #[.agg #[.int .i64 P,.int .i64 M,.slice am mn cm,.int .i64 N,.slice a n c]] w (PairU (dimE P M mod N L) (prfX P M mod N L) w):=by
 refine (profile_any P M am mn cm mod N a n c L w hmod hi).mono ?_
 rintro e w' ⟨hb,⟨h0,rfl⟩ | ⟨h0,a',c',rfl,h⟩⟩
 ·exact pair_no hb h0
 ·refine pair_ok hb h0 ?_
  obtain ⟨m,rfl,hm1,hm16,F,hR⟩:=dimE_rws h0
  rw [Int.toNat_natCast] at h ⊢
  rw [← prof_eq F hR (by omega)]
  exact (Ints.own h).1
theorem rProfile_u (hmod : Ints w am mn mod) (hi : Mat w a n L) :
  Calls Tryz.prog 31 #[.agg #[.int .i64 P,.int .i64 M,.slice am mn cm,.int .i64 N,.slice a n c]] w (PairU (dimE P M mod N L) (prfX P M mod N L) w):=by
 refine (rProfile29_any P M am mn cm mod N a n c L w hmod hi).mono ?_
 rintro e w' ⟨hb,⟨h0,rfl⟩ | ⟨h0,a',c',rfl,h⟩⟩
 ·exact pair_no hb h0
 ·exact pair_ok hb h0 (Ints.own h).1
end
end

section
open Go.RowKit
set_option maxRecDepth 100000 in
set_option maxHeartbeats 4000000 in
theorem hLawWeights_any (P M : Int) (am : Option Addr) (mn cm : Nat) (mod : List Int) (N : Int) (a : Option Addr) (n c : Nat) (L : List (List Int)) (w : World) (hmod : Ints w am mn mod) (hi : Mat w a n L) :
  Calls Tryz.prog 5 #[.agg #[.int .i64 P,.int .i64 M,.slice am mn cm,.int .i64 N,.slice a n c]] w fun e w'=>e = .returned (.bool true)∧Below w.heap.size w w':=by
 have HSm : Hid (∀ V,Below w.heap.size w V→Calls Tryz.prog 27 #[.agg #[.int .i64 P,.int .i64 M,.slice am mn cm,.int .i64 N,.slice a n c]] V (SomeBool V)):=fun V hV=>rSmall29_any P M am mn cm mod N a n c L V (hmod.keep hV) (hi.keep hV)
 have H1 : Hid (∀ V,Below w.heap.size w V→Calls Tryz.prog 28 #[.agg #[.int .i64 P,.int .i64 M,.slice am mn cm,.int .i64 N,.slice a n c]] V (PairU (dimE P M mod N L) (wtsX P M mod N L) V)):=fun V hV=>weights_u P M am mn cm mod N a n c L V (hmod.keep hV) (hi.keep hV)
 have H2 : Hid (∀ V,Below w.heap.size w V→Calls Tryz.prog 29 #[.agg #[.int .i64 P,.int .i64 M,.slice am mn cm,.int .i64 N,.slice a n c]] V (PairU (dimE P M mod N L) (wtsX P M mod N L) V)):=fun V hV=>rWeights_u P M am mn cm mod N a n c L V (hmod.keep hV) (hi.keep hV)
 have H3 : Hid (∀ V,Below w.heap.size w V→Calls Tryz.prog 30 #[.agg #[.int .i64 P,.int .i64 M,.slice am mn cm,.int .i64 N,.slice a n c]] V (PairU (dimE P M mod N L) (prfX P M mod N L) V)):=fun V hV=>profile_u P M am mn cm mod N a n c L V (hmod.keep hV) (hi.keep hV)
 have H4 : Hid (∀ V,Below w.heap.size w V→Calls Tryz.prog 31 #[.agg #[.int .i64 P,.int .i64 M,.slice am mn cm,.int .i64 N,.slice a n c]] V (PairU (dimE P M mod N L) (prfX P M mod N L) V)):=fun V hV=>rProfile_u P M am mn cm mod N a n c L V (hmod.keep hV) (hi.keep hV)
 generalize dimE P M mod N L=er at *
 generalize wtsX P M mod N L=X at *
 generalize prfX P M mod N L=Y at *
 clear hmod hi
 go_enter Tryz.func5,Tryz.ntmps5
 go_wp2_with fail
 obtain ⟨W,hW⟩ : ∃ W : World,W=w.alloc (.cells #[.int .i64 P,.int .i64 M,.slice am mn cm,.int .i64 N,.slice a n c] 27):=⟨_,rfl⟩
 rw [← hW]
 have hbW : Below w.heap.size w W:=by rw [hW];exact below1 _ _
 have x0 : Box W w.heap.size [.int .i64 P,.int .i64 M,.slice am mn cm,.int .i64 N,.slice a n c]:=by rw [hW];exact Box.new _ _ _ rfl
 have HS : Hid (∀ V,Below W.heap.size W V→V.cell? ⟨w.heap.size,0,none⟩=some (.int .i64 P)∧V.cell? ⟨w.heap.size,1,none⟩=some (.int .i64 M)∧V.cell? ⟨w.heap.size,2,none⟩=some (.slice am mn cm)∧V.cell? ⟨w.heap.size,3,none⟩=some (.int .i64 N)∧V.cell? ⟨w.heap.size,4,none⟩=some (.slice a n c)):=fun V hV=>by
  have x1:=x0.keep hV
  exact ⟨x1.cell 0 rfl,x1.cell 1 rfl,x1.cell 2 rfl,x1.cell 3 rfl,x1.cell 4 rfl⟩
 have HbW:=Lib.hid hbW
 clear hW x0 hbW
 refine (awake29_any W).mono ?_
 rintro e w1 ⟨rfl,hb1⟩
 obtain ⟨c0,c1,c2,c3,c4⟩:=HS.out w1 hb1
 go_wp2_with fail
 refine (HSm.out w1 (Below.next HbW.out hb1)).mono ?_
 rintro e w2 ⟨z,rfl,hb2⟩
 have hB2:=Below.next hb1 hb2
 clear c0 c1 c2 c3 c4
 cases z
 ·go_wp2_with fail
  refine (awake29_any w2).mono ?_
  rintro e w3 ⟨rfl,hb3⟩
  have hF:=Below.next HbW.out (Below.next hB2 hb3)
  go_wp2_with fail
  go_ret
  exact ⟨rfl,hF⟩
 obtain ⟨c0,c1,c2,c3,c4⟩:=HS.out w2 hB2
 go_wp2_with fail
 refine (H1.out w2 (Below.next HbW.out hB2)).mono ?_
 rintro e w3 ⟨hb3,a1,n1,k1,rfl,h1⟩
 have hB3:=Below.next hB2 hb3
 clear c0 c1 c2 c3 c4
 obtain ⟨c0,c1,c2,c3,c4⟩:=HS.out w3 hB3
 go_wp2_with fail
 refine (H2.out w3 (Below.next HbW.out hB3)).mono ?_
 rintro e w4 ⟨hb4,a2,n2,k2,rfl,h2⟩
 have hB4:=Below.next hB3 hb4
 clear c0 c1 c2 c3 c4
 obtain ⟨c0,c1,c2,c3,c4⟩:=HS.out w4 hB4
 go_wp2_with fail
 refine (H3.out w4 (Below.next HbW.out hB4)).mono ?_
 rintro e w5 ⟨hb5,a3,n3,k3,rfl,h3⟩
 have hB5:=Below.next hB4 hb5
 clear c0 c1 c2 c3 c4
 obtain ⟨c0,c1,c2,c3,c4⟩:=HS.out w5 hB5
 go_wp2_with fail
 refine (H4.out w5 (Below.next HbW.out hB5)).mono ?_
 rintro e w6 ⟨hb6,a4,n4,k4,rfl,h4⟩
 have hB6:=Below.next hB5 hb6
 clear c0 c1 c2 c3 c4
 have s1:=h1.keep (Below.next hb4 (Below.next hb5 hb6))
 have s2:=h2.keep (Below.next hb5 hb6)
 have s3:=h3.keep hb6
 have Hc:=Lib.hid (sameInts_t a1 n1 k1 X a2 n2 k2 s1 s2)
 have HN:=Lib.hid (fun V (hV : Below w6.heap.size w6 V)=>sameInts_t a3 n3 k3 Y a4 n4 k4 (s3.keep hV) (h4.keep hV))
 have hF:=Below.next HbW.out hB6
 clear h1 h2 h3 h4 s1 s2 s3
 go_wp2_with fail
 refine Hc.out.mono ?_
 rintro e w7 ⟨rfl,r7⟩
 have hF7:=Below.next hF r7.below
 have Hd:=Lib.hid (HN.out w7 r7.below)
 clear HN
 go_wp2_with fail
 refine Hd.out.mono ?_
 rintro e w8 ⟨rfl,r8⟩
 have hF8:=Below.next hF7 r8.below
 go_wp2_with fail
 go_ret
 exact ⟨rfl,hF8⟩
end

end Go.Proofs.YtcflcogbpnmjeaaGreat
