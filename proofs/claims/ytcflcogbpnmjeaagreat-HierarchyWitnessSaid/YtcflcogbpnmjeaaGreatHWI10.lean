/-  -/
import Derived.Test.YtcflcogbpnmjeaaGreatK20
import Derived.Test.YtcflcogbpnmjeaaGreatHWI8
import Derived.Test.YtcflcogbpnmjeaaGreatK12
import Derived.Test.YtcflcogbpnmjeaaGreatHWI1
import Derived.Test.YtcflcogbpnmjeaaGreatK19
import Derived.Test.YtcflcogbpnmjeaaGreatHWI9
import Derived.Test.YtcflcogbpnmjeaaGreatK21
import Derived.Test.YtcflcogbpnmjeaaGreatK24
import Derived.Test.YtcflcogbpnmjeaaGreatK15
import Derived.Test.YtcflcogbpnmjeaaGreatK22
namespace Go.Proofs.YtcflcogbpnmjeaaGreat
set_option linter.unusedVariables false
set_option linter.unusedSimpArgs false
set_option linter.unusedSectionVars false

section
open Go.RowKit
set_option maxRecDepth 100000 in
set_option maxHeartbeats 4000000 in
theorem rKeep_any (m : Nat) (a : Option Addr) (n c : Nat) (L : List (List Int)) (ao : Option Addr) (no co : Nat) (Q : List Int) (w : World) (hi : Mat w a n L) (hq : Ints w ao no Q) (hL : ∀ r ∈ L,r.length=m) (hQ : InN m Q) (hn : n≤1000000) (hno : no≤1000000) :
  Calls Tryz.prog 171 #[.slice a n c,.slice ao no co] w fun e w'=>∃ a1 c1 R,e = .returned (.slice a1 n c1)∧OMat w' w.heap.size a1 n c1 R (L.map (pickL Q))∧Below w.heap.size w w':=by
 have Hlen:=Lib.hid hi.len
 have hpla:=hi.pl
 have HLl:=Lib.hid hL
 have HQ:=Lib.hid hQ
 obtain ⟨L2,hL2⟩ : ∃ L2,L.map (pickL Q)=L2:=⟨_,rfl⟩
 have hl2 : L2.length=n:=by rw [← hL2,List.length_map];exact Hlen.out
 have Hl2:=Lib.hid hl2
 have HLk : Hid (∀ k,k<n→nthR L2 k=pickL Q (nthR L k)):=fun k hk=>by rw [← hL2];exact nthR_map _ L (by rw [Hlen.out];exact hk)
 rw [hL2]
 clear hL2 hl2 hL hQ
 go_enter Tryz.func171,Tryz.ntmps171
 go_wp2_with fail
 go_loopw [5,6] (fun sv iv wr=>∃ (k : Nat) (a1 : Option Addr) (c1 : Nat),k≤n∧iv = .int .i64 k∧sv = .slice a1 k c1∧(∃ R,OMat wr w.heap.size a1 k c1 R (L2.take k))∧Below w.heap.size w wr) (fun _ iv _=>n - (intOf iv).toNat)
 case atStart=>exact ⟨0,none,0,Nat.zero_le _,rfl,rfl,⟨[],by simpa using OMat.empty w w.heap.size⟩,Below.refl _ _⟩
 case round =>
  obtain ⟨k,a1,c1,hk,rfl,rfl,⟨R,hO⟩,hbr⟩:=hrel
  by_cases hlt : k<n
  ·obtain ⟨ra,rn,rc,hcell,hrow⟩:=(hi.keep hbr).cell k hlt
   have hkL : k<L.length:=by rw [Hlen.out];exact hlt
   have hrl : rn=m:=by rw [← hrow.len,nthR_getElem hkL];exact HLl.out _ (List.getElem_mem hkL)
   have Htk : Hid (L2.take (k+1)=L2.take k ++ [pickL Q (nthR L k)]):=by show _=_;rw [List.take_succ_eq_append_getElem (by rw [Hl2.out];exact hlt),← HLk.out k hlt,nthR_getElem (by rw [Hl2.out];exact hlt)]
   obtain ⟨l,hl⟩ : ∃ l,nthR L k=l:=⟨_,rfl⟩
   rw [hl] at Htk hrow
   have hpk:=rPick_any ra rn rc l ao no co Q wr hrow (hq.keep hbr) (by rw [hrl];exact HQ.out) hno
   have hsz:=hbr.size
   clear hl hrl
   go_wp2_with fail
   refine hpk.mono ?_
   rintro e w3 ⟨a3,c3,rfl,hown3,hb3⟩
   have hO3:=hO.keep (Below.next hb3 (below1 w3 (.cells #[.slice a3 (pickL Q l).length c3] 22)))
   have hs3 : w.heap.size≤(w3.alloc (.cells #[.slice a3 (pickL Q l).length c3] 22)).heap.size:=by have h1:=hb3.size;simp;omega
   clear hpk
   go_wp2_with (at_builtin;refine wpList_push rfl _ _ 25 22 rfl (.slice none 0 0) 24 Tryz.underlying25 infoInts rfl w.heap.size a1 k c1 _ rfl hO3.own ⟨w3.heap.size,0,none⟩ 1 (.slice a3 (pickL Q l).length c3) rfl (cell_new w3 _ _) rfl (by omega) (by unfold maxLen;omega) hs3 ?_;intro a5 c5 w5 hown5 hgr5 hap5)
   go_roundw
   case rel =>
    have hb4 : Below wr.heap.size wr (w3.alloc (.cells #[.slice a3 (pickL Q l).length c3] 22)):=Below.next hb3 (below1 _ _)
    have hown4 : (w3.alloc (.cells #[.slice a3 (pickL Q l).length c3] 22)).ownsRow w.heap.size 3 1 (.slice a3 (pickL Q l).length c3) (pickL Q l).length ((pickL Q l).map (Value.int .i64)) :=
     own_mono (own_keep hown3 (below1 _ _)) hsz
    have hra : a3 ≠ none→¬ OIn a1 R (ablk a3):=fun h0 hI=>by
     have h1:=(own_ne hown3 h0).1
     have h2:=(hO.lt _ hI).2
     omega
    have hP:=OMat.push hO3 hown4 hra hown5 hgr5 hap5
    have hb5 : Below w.heap.size w w5:=Below.app (Below.next hbr hb4) hO3.own hgr5 (Nat.le_refl _) (Nat.le_trans hsz hb4.size)
    exact ⟨k+1,a5,c5,by omega,by go_num,rfl,⟨_,by rw [Htk.out];exact hP⟩,hb5⟩
   case measure=>simp [intOf] <;> omega
  ·obtain rfl : k=n:=by omega
   rw [List.take_of_length_le (by rw [Hl2.out];exact Nat.le_refl _)] at hO
   have HO:=Lib.hid hO
   clear hO
   go_wp2_with fail
   go_ret
   exact ⟨a1,c1,R,rfl,HO.out,hbr⟩
set_option maxRecDepth 100000 in
set_option maxHeartbeats 4000000 in
theorem rOf25_any (P M : Int) (am : Option Addr) (mn cm : Nat) (mod : List Int) (m : Nat) (a : Option Addr) (n c : Nat) (L : List (List Int)) (ao : Option Addr) (no co : Nat) (Q : List Int) (w : World) (hmod : Ints w am mn mod) (hi : Mat w a n L) (hq : Ints w ao no Q)
  (hE : codeE P M mod m L=0) (hQ : InN m Q) (hno : no≤1000000) :
  Calls Tryz.prog 124 #[.agg #[.int .i64 P,.int .i64 M,.slice am mn cm],.slice a n c,.slice ao no co] w fun e w'=>e = .returned (.int .i64 (grS (tblOf P M.toNat mod).ops L Q).length)∧Below w.heap.size w w':=by
 have hql:=hq.len
 obtain ⟨N',em,hm1,hm64,F,hR⟩:=codeE_fld hE
 obtain rfl : m=N':=by omega
 have hn : n≤256:=by rw [← hi.len];exact (codeE_rws hE).choose_spec.2.2.2.1
 have hB:=(codeE_zero hE).1
 have hinv:=hinv_all (P:=P) (M:=M) (mod:=mod) (by rw [fieldRB_eq];exact hB)
 have hgr:=elim_gr F hR hQ
 have hpr:=pick_rws hR hQ
 rw [hql] at hgr hpr
 obtain ⟨k,rfl,hel,_,hF,hA,_⟩:=eq_ops hB
 obtain ⟨k',e2,hrf,hmods⟩:=fieldRB_rf (by rw [fieldRB_eq];exact hB)
 obtain rfl : k=k':=by omega
 rw [Int.toNat_natCast] at hgr hpr hinv hR ⊢
 have hag:=(elimTo_agr hA hF.cl (by rw [hel];exact hpr) no (Nat.le_refl _)).1
 rw [hag] at hgr
 rw [← hel] at hpr
 have HKp : Hid (∀ V,Below w.heap.size w V→Calls Tryz.prog 171 #[.slice a n c,.slice ao no co] V fun e w'=>Below V.heap.size V w'∧∃ a1 c1,e = .returned (.slice a1 n c1)∧Mat w' a1 n (L.map (pickL Q))):=fun V hV=>by
  refine (rKeep_any m a n c L ao no co Q V (hi.keep hV) (hq.keep hV) (fun r hr=>(hR r hr).1) hQ (by omega) hno).mono ?_
  rintro e w' ⟨a1,c1,R,rfl,hO,hb⟩
  exact ⟨hb,a1,c1,rfl,hO.mat⟩
 have HCn : Hid (∀ V a1 c1,Below w.heap.size w V→Mat V a1 n (L.map (pickL Q))→∀ V2,Below V.heap.size V V2→Calls Tryz.prog 132 #[.agg #[.int .i64 P,.int .i64 k,.slice am mn cm],.slice a1 n c1,.int .i64 no] V2 fun e w' =>
   Below V2.heap.size V2 w'∧∃ v ap cp,e = .returned (.tuple #[v,.slice ap (grS (tblOf P k mod).ops L Q).length cp])):=fun V a1 c1 hV hM V2 hV2=>by
  refine (rCanon_any P k am mn cm mod a1 n c1 no (L.map (pickL Q)) V2 ⟨hrf,hmods V2 am mn (hmod.keep (Below.next hV hV2))⟩ (hM.keep hV2) hpr hno (by omega) hinv).mono ?_
  rintro e w' ⟨a4,c4,ap,cp,rfl,_,_,hb⟩
  exact ⟨hb,_,ap,cp,by rw [← hgr]⟩
 obtain ⟨r,hr⟩ : ∃ r,(grS (tblOf P k mod).ops L Q).length=r:=⟨_,rfl⟩
 rw [hr] at HCn ⊢
 clear hE em F hR hB hinv hgr hpr hel hF hA e2 hrf hmods hag hr hQ hql hmod hi hq
 go_enter Tryz.func124,Tryz.ntmps124
 go_upto_region 1 with fail
 obtain ⟨W,hW⟩ : ∃ W : World,W=w.alloc (.cells #[.int .i64 P,.int .i64 k,.slice am mn cm] 24):=⟨_,rfl⟩
 rw [← hW]
 have hbW : Below w.heap.size w W:=by rw [hW];exact below1 _ _
 have x0 : Box W w.heap.size [.int .i64 P,.int .i64 k,.slice am mn cm]:=by rw [hW];exact Box.new _ _ _ rfl
 have hS : ∀ V,Below W.heap.size W V→V.cell? ⟨w.heap.size,0,none⟩=some (.int .i64 P)∧V.cell? ⟨w.heap.size,1,none⟩=some (.int .i64 k)∧V.cell? ⟨w.heap.size,2,none⟩=some (.slice am mn cm)∧Below W.heap.size W V:=fun V hV=>by
  have x1:=x0.keep hV
  exact ⟨x1.cell 0 rfl,x1.cell 1 rfl,x1.cell 2 rfl,hV⟩
 have HS:=Lib.hid hS
 have HbW:=Lib.hid hbW
 clear hW x0 hS hbW
 go_region_held3 (fun V=>V.cell? ⟨w.heap.size,0,none⟩=some (.int .i64 P)∧V.cell? ⟨w.heap.size,1,none⟩=some (.int .i64 k)∧V.cell? ⟨w.heap.size,2,none⟩=some (.slice am mn cm)∧Below W.heap.size W V)
  ((refine HS.out _ ?_;first | exact (Below.refl _ _).drew | (go_split_ands;exact Below.next (by assumption) (by assumption))))
  (first
   | (go_at_call 171;((with_reducible refine (HKp.out _ (Below.next HbW.out (by go_split_ands;assumption))).mono ?_);rintro e w6 ⟨hb6,a6,c6,rfl,hM6⟩;have hb7 : Below W.heap.size W w6:=(by go_split_ands;exact Below.next (by assumption) hb6);have Hr2:=Lib.hid (HCn.out w6 a6 c6 (Below.next HbW.out hb7) hM6);clear hM6))
   | (go_at_call 132;((with_reducible refine (Hr2.out _ (by first | exact Below.refl _ _ | exact hb4)).mono ?_);rintro e w8 ⟨hb8,v8,ap8,cp8,rfl⟩)))
 all_goals (
  go_wp2_with fail
  go_ret
  exact ⟨rfl,Below.next HbW.out (by go_split_ands;assumption)⟩)
end

section
open Go.RowKit
def CanTPost (G : Tbl) (L : List (List Int)) (m : Nat) (w : World) (e : Ending) (w' : World) : Prop :=
 ∃ a c R ap cp,e = .returned (.tuple #[.slice a (pivS G L m).length c,.slice ap (pivS G L m).length cp])∧OMat w' w.heap.size a (pivS G L m).length c R (canS G L m)∧IntsN w.heap.size w' ap (pivS G L m).length (pivS G L m)∧Below w.heap.size w w'
def CanOPost (O : FOps) (L : List (List Int)) (m : Nat) (w : World) (e : Ending) (w' : World) : Prop :=
 ∃ a c R ap cp,e = .returned (.tuple #[.slice a (elimTo O L m).2.length c,.slice ap (elimTo O L m).2.length cp])∧OMat w' w.heap.size a (elimTo O L m).2.length c R ((elimTo O L m).1.take (elimTo O L m).2.length)∧IntsN w.heap.size w' ap (elimTo O L m).2.length (elimTo O L m).2∧Below w.heap.size w w'
set_option maxRecDepth 100000 in
set_option maxHeartbeats 1600000 in
theorem rCanonT_any (P M : Int) (am : Option Addr) (mn cm : Nat) (mod : List Int) (a : Option Addr) (n c cols : Nat) (L : List (List Int)) (w : World) (hmod : Ints w am mn mod) (hi : Mat w a n L)
  (hB : fieldB P M mod=true) (hR : Rws (tblOf P M.toNat mod).El cols L) (hlen : cols≤1000000) (hn : n≤1000000) :
  Calls Tryz.prog 132 #[.agg #[.int .i64 P,.int .i64 M,.slice am mn cm],.slice a n c,.int .i64 cols] w (CanTPost (tblOf P M.toNat mod) L cols w):=by
 have hinv:=hinv_all (P:=P) (M:=M) (mod:=mod) (by rw [fieldRB_eq];exact hB)
 obtain ⟨k,rfl,hel,_,hF,hA,_⟩:=eq_ops hB
 obtain ⟨k',e2,hrf,hmods⟩:=fieldRB_rf (by rw [fieldRB_eq];exact hB)
 obtain rfl : k=k':=by omega
 rw [Int.toNat_natCast] at hR hinv ⊢
 rw [← hel] at hR
 have hE:=(elimTo_agr hA hF.cl hR cols (Nat.le_refl _)).1
 have Hlen:=Lib.hid hi.len
 have Hc : Hid (∀ V,Below w.heap.size w V→Calls Tryz.prog 175 #[.agg #[.int .i64 P,.int .i64 k,.slice am mn cm],.slice a n c,.int .i64 cols] V (RElimPost (tblOf P k mod).ops L cols V)):=fun V hV=>by
  have h:=rElim_any P k am mn cm mod a n c cols cols L V ⟨hrf,hmods V am mn (hmod.keep hV)⟩ (hi.keep hV) hR (Nat.le_refl _) hlen hn hinv
  unfold RElimPost at h ⊢
  rw [hE];exact h
 show Calls Tryz.prog 132 _ w (CanOPost (tblOf P k mod).ops L cols w)
 obtain ⟨O,hO⟩ : ∃ O,(tblOf P k mod).ops=O:=⟨_,rfl⟩
 rw [hO] at Hc ⊢
 clear hO hinv hR hel hF hA e2 hrf hmods hE hB
 go_enter Tryz.func132,Tryz.ntmps132
 go_wp2_with fail
 obtain ⟨W,hW⟩ : ∃ W : World,W=w.alloc (.cells #[.int .i64 P,.int .i64 k,.slice am mn cm] 24):=⟨_,rfl⟩
 rw [← hW]
 have hbW : Below w.heap.size w W:=by rw [hW];exact below1 _ _
 clear hW
 refine (Hc.out W hbW).mono ?_
 rintro e w1 ⟨a1,c1,R1,ap,cp,rfl,hO1,hp1,hb1⟩
 have hpl:=elimTo_piv O L cols
 have hcap:=own_cap hO1.own
 have hpv:=(IntsN.own hp1).mono hbW.size
 have hmt:=(hO1.take (k:=(elimTo O L cols).2.length) hpl.2).mono hbW.size
 have HF : Hid (CanOPost O L cols w (.returned (.tuple #[.slice a1 (elimTo O L cols).2.length c1,.slice ap (elimTo O L cols).2.length cp])) w1):=⟨a1,c1,_,ap,cp,rfl,hmt,hpv,Below.next hbW hb1⟩
 have hle : (elimTo O L cols).2.length≤c1:=Nat.le_trans hpl.2 hcap
 clear hpv hmt hp1 hcap hpl
 generalize (elimTo O L cols).2.length=k at *
 go_wp2_with fail
 go_ret2
 simpa using HF.out
def ldTo (P : List Int) (m : Nat) : Nat→List Int
 | 0=>(List.range m).map fun _=>-1
 | i+1=>(ldTo P m i).set (nth P i).toNat i
def ngTo (m k : Nat) : List Int:=(List.range m).map fun i=>if i<k then -1 else 0
theorem ldTo_len (P : List Int) (m : Nat) : ∀ i,(ldTo P m i).length=m
 | 0=>by simp [ldTo]
 | i+1=>by rw [ldTo,List.length_set];exact ldTo_len P m i
theorem ld_iff {P : List Int} {m : Nat} (hP : ∀ j,j<P.length→0≤nth P j∧nth P j<m) {c : Nat} (hc : c<m) : ∀ i,i≤P.length→(0≤nth (ldTo P m i) c ↔ ∃ j,j<i∧nth P j=c)
 | 0,_=>by
  rw [ldTo,nth_mapRange _ _ _ hc]
  constructor
  ·intro h;omega
  ·rintro ⟨j,hj,_⟩;omega
 | i+1,hi=>by
  have ih:=ld_iff hP hc i (by omega)
  have hb:=hP i (by omega)
  rw [ldTo,nth_set _ _ _ _ (by rw [ldTo_len];omega)]
  by_cases e : c=(nth P i).toNat
  ·rw [if_pos e]
   exact ⟨fun _=>⟨i,by omega,by omega⟩,fun _=>by omega⟩
  ·rw [if_neg e,ih]
   constructor
   ·rintro ⟨j,h1,h2⟩;exact ⟨j,by omega,h2⟩
   ·rintro ⟨j,h1,h2⟩
    by_cases e2 : j=i
    ·subst e2;omega
    ·exact ⟨j,by omega,h2⟩
theorem ld_all {P : List Int} {m : Nat} (hP : ∀ j,j<P.length→0≤nth P j∧nth P j<m) {c : Nat} (hc : c<m) : (0≤nth (ldTo P m P.length) c ↔ (c : Int) ∈ P):=by
 rw [ld_iff hP hc _ (Nat.le_refl _)]
 constructor
 ·rintro ⟨j,h1,h2⟩;rw [← h2];exact nth_mem h1
 ·intro h
  obtain ⟨j,hj,e⟩:=List.mem_iff_getElem.1 h
  exact ⟨j,hj,by rw [nth_getElem hj];exact e⟩
theorem ng_set {m k : Nat} (hk : k<m) : (ngTo m k).set k (-1)=ngTo m (k+1):=by
 refine List.ext_getElem (by simp [ngTo]) fun i h1 h2=>?_
 simp only [ngTo,List.getElem_set,List.getElem_map,List.getElem_range]
 by_cases e : k=i
 ·subst e;rw [if_pos rfl,if_pos (by omega)]
 ·rw [if_neg e]
  by_cases h : i<k
  ·rw [if_pos h,if_pos (by omega)]
  ·rw [if_neg h,if_neg (by omega)]
def NulPost (G : Tbl) (L : List (List Int)) (m : Nat) (w : World) (e : Ending) (w' : World) : Prop :=
 ∃ a c R,e = .returned (.slice a (dualL G L m).length c)∧OMat w' w.heap.size a (dualL G L m).length c R (dualL G L m)∧Below w.heap.size w w'
set_option maxRecDepth 100000 in
set_option maxHeartbeats 8000000 in
theorem rNull_any (P M : Int) (am : Option Addr) (mn cm : Nat) (mod : List Int) (m : Nat) (a : Option Addr) (n c : Nat) (L : List (List Int)) (w : World) (hmod : Ints w am mn mod) (hi : Mat w a n L)
  (hB : fieldB P M mod=true) (hR : Rws (tblOf P M.toNat mod).El m L) (hm : m≤1000) (hn : n≤1000000) :
  Calls Tryz.prog 134 #[.agg #[.int .i64 P,.int .i64 M,.slice am mn cm],.slice a n c,.int .i64 m] w (NulPost (tblOf P M.toNat mod) L m w):=by
 have F:=fieldB_fld hB
 have hmo:=hmod
 have HC1 : Hid (∀ V,Below w.heap.size w V→Calls Tryz.prog 132 #[.agg #[.int .i64 P,.int .i64 M,.slice am mn cm],.slice a n c,.int .i64 m] V (CanTPost (tblOf P M.toNat mod) L m V)):=fun V hV =>
  rCanonT_any P M am mn cm mod a n c m L V (hmod.keep hV) (hi.keep hV) hB hR (by omega) hn
 have HC2 : Hid (∀ V a1 n1 c1 L1,Below w.heap.size w V→Mat V a1 n1 L1→Rws (tblOf P M.toNat mod).El m L1→n1≤1000000→Calls Tryz.prog 132 #[.agg #[.int .i64 P,.int .i64 M,.slice am mn cm],.slice a1 n1 c1,.int .i64 m] V (CanTPost (tblOf P M.toNat mod) L1 m V)):=fun V a1 n1 c1 L1 hV h1 h2 h3 =>
  rCanonT_any P M am mn cm mod a1 n1 c1 m L1 V (hmod.keep hV) h1 hB h2 (by omega) h3
 obtain ⟨k0,rfl,hel,_,_,hA,_⟩:=eq_ops hB
 obtain ⟨k',e2,hrf,_⟩:=fieldRB_rf (by rw [fieldRB_eq];exact hB)
 obtain rfl : k0=k':=by omega
 rw [Int.toNat_natCast] at hR F HC1 HC2 ⊢
 have HNg : Hid (∀ (V : World) (x : Int),(tblOf P k0 mod).El x→Calls Tryz.prog 176 #[.agg #[.int .i64 P,.int .i64 k0,.slice am mn cm],.int .i64 x] V fun e w'=>e = .returned (.int .i64 ((tblOf P k0 mod).ops.neg x))∧Below V.heap.size V w'):=fun V x hx =>
  rNeg_any P k0 am mn cm x V hrf (hrf.isQ (by rw [hel];exact hx))
 obtain ⟨hPv,hLd⟩:=canO_piv F hR
 have hRc : Rws (tblOf P k0 mod).El m (canS (tblOf P k0 mod) L m):=canO_rws F hR
 have hcl : (canS (tblOf P k0 mod) L m).length=(pivS (tblOf P k0 mod) L m).length:=canS_length _ L m
 have HPv : Hid (Piv (canS (tblOf P k0 mod) L m) (pivS (tblOf P k0 mod) L m) m):=hPv
 have hrws : ∀ k,k≤m→Rws (tblOf P k0 mod).El m (kerL (tblOf P k0 mod).ops m (canS (tblOf P k0 mod) L m) (pivS (tblOf P k0 mod) L m) k):=by
  intro k
  induction k with
  | zero=>intro _ r hr;simp [kerL] at hr
  | succ k ih =>
   intro hk r hr
   rw [kerL] at hr
   split at hr
   ·exact ih (by omega) r hr
   ·rw [List.mem_append,List.mem_singleton] at hr
    rcases hr with hr | rfl
    ·exact ih (by omega) r hr
    ·exact kerTo_vc F hRc hPv hcl (by omega) _ (Nat.le_refl _)
 have Hrws:=Lib.hid hrws
 have Hdl : Hid (dualL (tblOf P k0 mod) L m=canS (tblOf P k0 mod) (kerL (tblOf P k0 mod).ops m (canS (tblOf P k0 mod) L m) (pivS (tblOf P k0 mod) L m) m) m):=rfl
 have Hcp : Hid (∀ c,c<m→∀ i,i<(pivS (tblOf P k0 mod) L m).length→(tblOf P k0 mod).El (nth (nthR (canS (tblOf P k0 mod) L m) i) c)):=fun c hc i hi=>Vc.at (hRc.row (by rw [hcl];exact hi)) hc
 have Hrl : Hid (∀ i,i<(pivS (tblOf P k0 mod) L m).length→(nthR (canS (tblOf P k0 mod) L m) i).length=m):=fun i hi=>(hRc.row (by rw [hcl];exact hi)).1
 have Hkp : Hid (∀ c i,kerTo (tblOf P k0 mod).ops m (canS (tblOf P k0 mod) L m) (pivS (tblOf P k0 mod) L m) c (i+1)=(kerTo (tblOf P k0 mod).ops m (canS (tblOf P k0 mod) L m) (pivS (tblOf P k0 mod) L m) c i).set (nth (pivS (tblOf P k0 mod) L m) i).toNat ((tblOf P k0 mod).ops.neg (nth (nthR (canS (tblOf P k0 mod) L m) i) c))):=fun c i=>rfl
 have Hk0 : Hid (∀ c,kerTo (tblOf P k0 mod).ops m (canS (tblOf P k0 mod) L m) (pivS (tblOf P k0 mod) L m) c 0=(List.replicate m 0).set c 1):=fun c=>rfl
 have Hplt : Hid (∀ j,j<(pivS (tblOf P k0 mod) L m).length→0≤nth (pivS (tblOf P k0 mod) L m) j∧nth (pivS (tblOf P k0 mod) L m) j<m):=HPv.out.lt
 have Hld : Hid (∀ c,c<m→(0≤nth (ldTo (pivS (tblOf P k0 mod) L m) m (pivS (tblOf P k0 mod) L m).length) c ↔ (c : Int) ∈ pivS (tblOf P k0 mod) L m)):=fun c hc=>ld_all HPv.out.lt hc
 unfold CanTPost at HC1
 unfold NulPost
 obtain ⟨G,hGG⟩ : ∃ G,tblOf P k0 mod=G:=⟨_,rfl⟩
 rw [hGG] at HC1 HC2 HNg Hrws Hdl Hcp Hrl Hkp Hk0 Hplt Hld hcl ⊢
 obtain ⟨D,hD⟩ : ∃ D,dualL G L m=D:=⟨_,rfl⟩
 rw [hD] at Hdl ⊢
 obtain ⟨R,hRR⟩ : ∃ R,canS G L m=R:=⟨_,rfl⟩
 obtain ⟨Pv,hPP⟩ : ∃ Pv,pivS G L m=Pv:=⟨_,rfl⟩
 rw [hRR,hPP] at HC1 Hrws Hdl Hcp Hkp Hk0 Hrl
 rw [hPP] at Hplt Hld hcl
 rw [hRR] at hcl
 obtain ⟨t,ht⟩ : ∃ t,Pv.length=t:=⟨_,rfl⟩
 have Ht:=Lib.hid ht
 rw [ht] at HC1 Hcp Hrl Hplt Hld hcl
 clear hB hel hA e2 hrf hPv hLd hRc HPv hrws hR F hGG hD hRR hPP hmod ht
 go_enter Tryz.func134,Tryz.ntmps134
 go_wp2_with fail
 obtain ⟨W,hW⟩ : ∃ W : World,W=w.alloc (.cells #[.int .i64 P,.int .i64 k0,.slice am mn cm] 24):=⟨_,rfl⟩
 rw [← hW]
 have hbW : Below w.heap.size w W:=by rw [hW];exact below1 _ _
 have x0 : Box W w.heap.size [.int .i64 P,.int .i64 k0,.slice am mn cm]:=by rw [hW];exact Box.new _ _ _ rfl
 have HX:=Lib.hid x0
 have HbW:=Lib.hid hbW
 clear hW x0
 refine (HC1.out W hbW).mono ?_
 rintro e U ⟨a2,c2,R2,ap,cp,rfl,hO2,hp2,hbU⟩
 have hMM:=hO2.mat
 have hII:=hp2.ints
 have hplP:=hII.pl
 have hplR:=hMM.pl
 have hmaxP:=hII.max
 have hmaxR:=hMM.max
 unfold maxLen at hmaxP hmaxR
 have hbwU:=Below.next hbW hbU
 clear hO2 hp2 HC1 hbW
 go_wp2_with (at_make;refine wpList_mk rfl _ _ 22 3 rfl (.int .i64 0) 8 Tryz.underlying22 infoInt rfl m rfl rfl (by omega) (by unfold maxLen;omega) ?_;intro a4 w4 hown4 hb4 hge4 hlt4)
 have hown4' : w4.ownsRow U.heap.size 3 1 (.slice a4 m m) m ((ngTo m 0).map (Value.int .i64)):=by
  have e : ngTo m 0=List.replicate m 0:=by
   refine List.ext_getElem (by simp [ngTo]) fun i h1 h2=>?_
   simp [ngTo]
  rw [e];simpa using hown4
 clear hown4
 go_loopw [10] (fun iv wr=>∃ k : Nat,k≤m∧iv = .int .i64 k∧wr.ownsRow U.heap.size 3 1 (.slice a4 m m) m ((ngTo m k).map (Value.int .i64))∧Below U.heap.size U wr) (fun iv _=>m - (intOf iv).toNat)
 case atStart=>exact ⟨0,Nat.zero_le _,rfl,hown4',hb4⟩
 case round =>
  clear hown4' hb4 hge4 hlt4
  obtain ⟨k,hk,rfl,hown,hbr⟩:=hrel
  by_cases hlt : k<m
  ·obtain ⟨hi4,hm4⟩:=Ints.own hown
   have hpl4:=hi4.pl
   have c4:=hi4.cell k hlt
   have f4:=(hm4 (by omega)).2 k hlt
   have hB4:=(hm4 (by omega)).1
   have Hown:=Lib.hid hown
   clear hown hi4 hm4
   go_wp2_with fail
   go_roundw
   case rel =>
    have h1:=own_set Hown.out k hlt (.int .i64 (-1))
    rw [← List.map_set,ng_set hlt] at h1
    exact ⟨k+1,by omega,by go_num,h1,hbr.setCell hB4 _⟩
   case measure=>simp [intOf] <;> omega
  ·obtain rfl : k=m:=by omega
   have hown0 : wr.ownsRow U.heap.size 3 1 (.slice a4 k k) k ((ldTo Pv k 0).map (Value.int .i64)):=by
    have e : ngTo k k=ldTo Pv k 0:=by
     refine List.ext_getElem (by simp [ngTo,ldTo]) fun i h1 h2=>?_
     simp only [ngTo,ldTo,List.getElem_map,List.getElem_range]
     rw [if_pos (by simpa [ngTo] using h1)]
    rw [← e];exact hown
   clear hown
   go_wp2_with fail
   go_loopw [11] (fun iv wr=>∃ i : Nat,i≤t∧iv = .int .i64 i∧wr.ownsRow U.heap.size 3 1 (.slice a4 k k) k ((ldTo Pv k i).map (Value.int .i64))∧Below U.heap.size U wr) (fun iv _=>t - (intOf iv).toNat)
   case atStart=>exact ⟨0,Nat.zero_le _,rfl,hown0,hbr⟩
   case round =>
    clear hown0 hbr
    obtain ⟨i,hi',rfl,hown,hbr⟩:=hrel
    by_cases hlt : i<t
    ·have cpi:=(hII.keep hbr).cell i hlt
     have hpb:=Hplt.out i hlt
     obtain ⟨z,hz⟩ : ∃ z : Nat,nth Pv i=z:=⟨(nth Pv i).toNat,by omega⟩
     have hzm : z<k:=by omega
     have Hst : Hid (ldTo Pv k (i+1)=(ldTo Pv k i).set z i):=by show _=_;rw [ldTo,hz,Int.toNat_natCast]
     rw [hz] at cpi
     obtain ⟨hi4,hm4⟩:=Ints.own hown
     have hpl4:=hi4.pl
     have c4:=hi4.cell z hzm
     have f4:=(hm4 (by omega)).2 z hzm
     have hB4:=(hm4 (by omega)).1
     have Hown:=Lib.hid hown
     clear hown hi4 hm4 hz hpb
     go_wp2_with fail
     go_roundw
     case rel =>
      have h1:=own_set Hown.out z hzm (.int .i64 i)
      rw [← List.map_set,← Hst.out] at h1
      exact ⟨i+1,by omega,by go_num,h1,hbr.setCell hB4 _⟩
     case measure=>simp [intOf] <;> omega
    ·obtain rfl : i=t:=by omega
     obtain ⟨LD,hLD⟩ : ∃ LD,ldTo Pv k i=LD:=⟨_,rfl⟩
     rw [hLD] at hown Hld
     clear hLD
     obtain ⟨hi4,_⟩:=Ints.own hown
     have hpl4:=hi4.pl
     have hU:=hMM.keep hbr
     have hIU:=hII.keep hbr
     have hbwr:=Below.next hbwU hbr
     have HY : Hid (∀ V,Below wr.heap.size wr V→V.cell? ⟨w.heap.size,0,none⟩=some (.int .i64 P)∧V.cell? ⟨w.heap.size,1,none⟩=some (.int .i64 k0)∧V.cell? ⟨w.heap.size,2,none⟩=some (.slice am mn cm)):=fun V hV=>by
      have x1:=HX.out.keep (Below.next (Below.next hbU hbr) hV)
      exact ⟨x1.cell 0 rfl,x1.cell 1 rfl,x1.cell 2 rfl⟩
     have hsW:=hbwr.size
     have Hbwr:=Lib.hid hbwr
     generalize wr=X at *
     clear hown hMM hII hbr hbU hbwU hbwr
     go_wp2_with fail
     go_loopw [12,13] (fun ov iv wr=>∃ (j : Nat) (a1 : Option Addr) (c1 : Nat),j≤k∧iv = .int .i64 j∧ov = .slice a1 (npL Pv j).length c1∧(∃ Rr,OMat wr X.heap.size a1 (npL Pv j).length c1 Rr (kerL G.ops k R Pv j))∧Below X.heap.size X wr) (fun _ iv _=>k - (intOf iv).toNat)
     case atStart=>exact ⟨0,none,0,Nat.zero_le _,rfl,rfl,⟨[],OMat.nul X X.heap.size⟩,Below.refl _ _⟩
     case round =>
      obtain ⟨j,a1,c1,hj,rfl,rfl,⟨Rr,hO⟩,hbr⟩:=hrel
      have hnk:=npL_le Pv j
      by_cases hlt2 : j<k
      ·have cld:=(hi4.keep hbr).cell j hlt2
       have hiff:=Hld.out j hlt2
       obtain ⟨v,hv⟩ : ∃ v,nth LD j=v:=⟨_,rfl⟩
       rw [hv] at cld hiff
       clear hv
       by_cases hmem : (j : Int) ∈ Pv
       ·have hN : Hid (npL Pv (j+1)=npL Pv j):=by show _=_;rw [npL,if_pos hmem]
        have hKk : Hid (kerL G.ops k R Pv (j+1)=kerL G.ops k R Pv j):=by show _=_;rw [kerL,if_pos hmem]
        have hv0 : decide (0≤v)=true:=by simpa using hiff.2 hmem
        clear hmem hiff
        go_wp2_with fail
        go_roundw
        case rel=>exact ⟨j+1,a1,c1,by omega,by go_num,by rw [hN.out],⟨Rr,by rw [hN.out,hKk.out];exact hO⟩,hbr⟩
        case measure=>simp [intOf] <;> omega
       ·have hN : Hid (npL Pv (j+1)=npL Pv j ++ [j]):=by show _=_;rw [npL,if_neg hmem]
        have hKk : Hid (kerL G.ops k R Pv (j+1)=kerL G.ops k R Pv j ++ [kerTo G.ops k R Pv j i]):=by show _=_;rw [kerL,if_neg hmem,Ht.out]
        have hv0 : decide (0≤v)=false:=by simpa using fun h=>hmem (hiff.1 h)
        clear hmem hiff
        generalize wr=Y at *
        go_wp2_with (at_make;refine wpList_mk rfl _ _ 22 3 rfl (.int .i64 0) 8 Tryz.underlying22 infoInt rfl k rfl rfl (by omega) (by unfold maxLen;omega) ?_;intro a5 w5 hown5 hbel5 hge5 hlt5;obtain ⟨hi5,hm5⟩:=Ints.own (l:=List.replicate k 0) (by simpa using hown5);have hc5:=hi5.cell j hlt2;have hf5:=(hm5 (by omega)).2 j hlt2;have hpl5:=hi5.pl)
        have hB5:=(hm5 (by omega)).1
        have hx0:=own_set hown5 j hlt2 (.int .i64 1)
        have hx0' : (w5.setCell ⟨ablk a5,aoff a5+j,none⟩ (.int .i64 1)).ownsRow Y.heap.size 3 1 (.slice a5 k k) k ((kerTo G.ops k R Pv j 0).map (Value.int .i64)):=by
         rw [Hk0.out,List.map_set,List.map_replicate];exact hx0
        have hbx0:=hbel5.setCell (p:=⟨ablk a5,aoff a5+j,none⟩) hB5 (.int .i64 1)
        clear hx0 hown5 hbel5 hge5 hlt5 hi5 hm5 hc5 hf5
        go_loopw [15] (fun iv wx=>∃ q : Nat,q≤i∧iv = .int .i64 q∧wx.ownsRow Y.heap.size 3 1 (.slice a5 k k) k ((kerTo G.ops k R Pv j q).map (Value.int .i64))∧Below Y.heap.size Y wx) (fun iv _=>i - (intOf iv).toNat)
        case atStart=>exact ⟨0,Nat.zero_le _,rfl,hx0',hbx0⟩
        case round =>
         clear hx0' hbx0
         obtain ⟨q,hq',rfl,hown,hbx⟩:=hrel
         by_cases hlq : q<i
         ·have hpb:=Hplt.out q hlq
          obtain ⟨z,hz⟩ : ∃ z : Nat,nth Pv q=z:=⟨(nth Pv q).toNat,by omega⟩
          have hzm : z<k:=by omega
          obtain ⟨ra,rn,rc,hcell,hrow⟩:=(hU.keep hbr).cell q hlq
          have hrn : rn=k:=by rw [← hrow.len];exact Hrl.out q hlq
          subst hrn
          have hpr:=hrow.pl
          have hel:=Hcp.out j hlt2 q hlq
          have Hst : Hid (kerTo G.ops rn R Pv j (q+1)=(kerTo G.ops rn R Pv j q).set z (G.ops.neg (nth (nthR R q) j))):=by show _=_;rw [Hkp.out,hz,Int.toNat_natCast]
          obtain ⟨x9,hx9⟩ : ∃ x,nth (nthR R q) j=x:=⟨_,rfl⟩
          rw [hx9] at hel Hst
          have Hng : Hid (∀ V,Calls Tryz.prog 176 #[.agg #[.int .i64 P,.int .i64 k0,.slice am mn cm],.int .i64 x9] V fun e w'=>e = .returned (.int .i64 (G.ops.neg x9))∧Below V.heap.size V w'):=fun V=>HNg.out V x9 hel
          have HS : Hid (∀ V,Below Y.heap.size Y V→V.cell? ⟨w.heap.size,0,none⟩=some (.int .i64 P)∧V.cell? ⟨w.heap.size,1,none⟩=some (.int .i64 k0)∧V.cell? ⟨w.heap.size,2,none⟩=some (.slice am mn cm)∧V.cell? ⟨ablk ap,aoff ap+q,none⟩=some (.int .i64 z)∧V.cell? ⟨ablk a2,aoff a2+q,none⟩=some (.slice ra rn rc)∧V.cell? ⟨ablk ra,aoff ra+j,none⟩=some (.int .i64 x9)):=fun V hV=>by
           obtain ⟨y1,y2,y3⟩:=HY.out V (Below.next hbr hV)
           refine ⟨y1,y2,y3,?_,?_,?_⟩
           ·have h:=(hIU.keep (Below.next hbr hV)).cell q hlq
            rwa [hz] at h
           ·exact cell_keep hV hcell
           ·have h:=(hrow.keep hV).cell j hlt2
            rwa [hx9] at h
          obtain ⟨hi6,hm6⟩:=Ints.own hown
          have hpl6:=hi6.pl
          have HB6:=Lib.hid (hm6 (by omega)).1
          have HK : Hid (∀ V,Below wr.heap.size wr V→(∃ u,V.cell? ⟨ablk a5,aoff a5+z,none⟩=some u)∧V.frozen? ⟨ablk a5,aoff a5+z,none⟩=false∧V.ownsRow Y.heap.size 3 1 (.slice a5 rn rn) rn ((kerTo G.ops rn R Pv j q).map (Value.int .i64))):=fun V hV=>by
           have o:=own_keep hown hV
           obtain ⟨h1,h2⟩:=Ints.own o
           exact ⟨⟨_,h1.cell z hzm⟩,(h2 (by omega)).2 z hzm,o⟩
          have Hbx:=Lib.hid hbx
          clear hz hpb hx9 hel hown hi6 hm6 hrow hcell hbx
          go_wp2_with fail
          go_region_held3 (fun V=>V.cell? ⟨w.heap.size,0,none⟩=some (.int .i64 P)∧V.cell? ⟨w.heap.size,1,none⟩=some (.int .i64 k0)∧V.cell? ⟨w.heap.size,2,none⟩=some (.slice am mn cm)∧V.cell? ⟨ablk ap,aoff ap+q,none⟩=some (.int .i64 z)∧V.cell? ⟨ablk a2,aoff a2+q,none⟩=some (.slice ra rn rc)∧V.cell? ⟨ablk ra,aoff ra+j,none⟩=some (.int .i64 x9))
           ((refine HS.out _ ?_;first | exact Hbx.out.drew | exact Below.next Hbx.out hb7 | exact (Below.next Hbx.out hb7).setCell HB6.out _))
           (first
            | (go_at_call 176;((with_reducible refine (Hng.out _).mono ?_);rintro e w6 ⟨rfl,hb6⟩;have hb7 : Below wr.heap.size wr w6:=Below.next (Below.refl _ _).drew hb6;obtain ⟨⟨v9,k9⟩,f9,o9⟩:=HK.out w6 hb7)))
          clear k9 f9
          go_wp2_with fail
          go_roundw
          case rel =>
           have h:=own_set o9 z hzm (.int .i64 (G.ops.neg x9))
           rw [← List.map_set,← Hst.out] at h
           exact ⟨q+1,by omega,by go_num,h,(Below.next Hbx.out hb7).setCell HB6.out _⟩
          case measure=>simp [intOf] <;> omega
         ·obtain rfl : q=i:=by omega
          obtain ⟨Z,hZ⟩ : ∃ Z,kerTo G.ops k R Pv j q=Z:=⟨_,rfl⟩
          have hZl : Z.length=k:=by rw [← hZ];exact kerTo_len _ _ _ _ _ _
          rw [hZ] at hown hKk
          have HZl:=Lib.hid hZl
          have hO3:=hO.keep (Below.next hbx (below1 wr (.cells #[.slice a5 k k] 22)))
          have hsz:=hbr.size
          have hsx:=hbx.size
          have hs3 : X.heap.size≤(wr.alloc (.cells #[.slice a5 k k] 22)).heap.size:=by simp;omega
          have hcn:=cell_new wr (.slice a5 k k) 22
          clear hZ hZl
          go_wp2_with (at_builtin;refine wpList_push rfl _ _ 25 22 rfl (.slice none 0 0) 24 Tryz.underlying25 infoInts rfl X.heap.size a1 (npL Pv j).length c1 _ rfl hO3.own ⟨wr.heap.size,0,none⟩ 1 (.slice a5 k k) rfl hcn rfl (by omega) (by unfold maxLen;omega) hs3 ?_;intro a7 c7 w7 hown7 hgr7 hap7)
          go_roundw
          case rel =>
           have hb4' : Below Y.heap.size Y (wr.alloc (.cells #[.slice a5 k k] 22)):=Below.next hbx (below1 _ _)
           have hown4 : (wr.alloc (.cells #[.slice a5 k k] 22)).ownsRow X.heap.size 3 1 (.slice a5 Z.length k) Z.length (Z.map (Value.int .i64)):=by
            rw [HZl.out];exact own_mono (own_keep hown (below1 _ _)) hsz
           have hra : a5 ≠ none→¬ OIn a1 Rr (ablk a5):=fun h0 hI=>by
            have h1:=(own_ne hown h0).1
            have h2:=(hO.lt _ hI).2
            omega
           have hP:=OMat.push hO3 hown4 hra (by rw [HZl.out];exact hown7) hgr7 hap7
           have hb5 : Below X.heap.size X w7:=Below.app (Below.next hbr hb4') hO3.own hgr7 (Nat.le_refl _) (Nat.le_trans hsz hb4'.size)
           exact ⟨j+1,a7,c7,by omega,by go_num,by rw [hN.out];simp,⟨_,by rw [hN.out,hKk.out,List.length_append];exact hP⟩,hb5⟩
          case measure=>simp [intOf] <;> omega
      ·obtain rfl : j=k:=by omega
       obtain ⟨y1,y2,y3⟩:=HY.out wr hbr
       have hcan:=HC2.out wr a1 (npL Pv j).length c1 (kerL G.ops j R Pv j) (Below.next Hbwr.out hbr) hO.mat (Hrws.out j (Nat.le_refl _)) (by omega)
       unfold CanTPost at hcan
       have hlen8 : (pivS G (kerL G.ops j R Pv j) j).length=D.length:=by rw [Hdl.out,canS_length]
       rw [hlen8,← Hdl.out] at hcan
       obtain ⟨d,hd⟩ : ∃ d,D.length=d:=⟨_,rfl⟩
       rw [hd] at hcan
       have Hd:=Lib.hid hd
       have Hcan:=Lib.hid hcan
       have hbF:=Below.next Hbwr.out hbr
       clear hcan hlen8 hd
       go_wp2_with fail
       refine Hcan.out.mono ?_
       rintro e w8 ⟨a8,c8,R8,ap8,cp8,rfl,hO8,hp8,hb8⟩
       have HF : Hid (OMat w8 w.heap.size a8 d c8 R8 D∧Below w.heap.size w w8):=⟨hO8.mono hbF.size,Below.next hbF hb8⟩
       clear hO8 hp8 Hcan
       go_wp2_with fail
       go_ret
       rw [Hd.out]
       exact ⟨a8,c8,R8,rfl,HF.out.1,HF.out.2⟩
end

section
open Go.RowKit
theorem inN_of {m : Nat} {Q : List Int} (h : ∀ x ∈ Q,0≤x∧x<(m : Int)) : InN m Q:=fun j hj=>h _ (nth_mem hj)
end

section
open Go.RowKit
def inTo (l : List Int) (v : Int) (k : Nat) : Bool:=decide (v ∈ l.take k)
theorem inTo_succ {l : List Int} {k : Nat} (v : Int) (h : k<l.length) : inTo l v (k+1)=(inTo l v k || decide (nth l k=v)):=by
 unfold inTo
 rw [List.take_succ_eq_append_getElem h,nth_getElem h]
 simp only [List.mem_append,List.mem_singleton,Bool.decide_or]
 congr 1
 simp [eq_comm]
theorem inTo_all {l : List Int} {n : Nat} (v : Int) (h : l.length=n) : inTo l v n=decide (v ∈ l):=by
 unfold inTo
 rw [List.take_of_length_le (by omega)]
set_option maxRecDepth 100000 in
set_option maxHeartbeats 3200000 in
theorem rOthers10_any (a : Option Addr) (n c : Nat) (l : List Int) (m : Nat) (w : World) (h : Ints w a n l) (hm : m≤1000) :
  Calls Tryz.prog 84 #[.slice a n c,.int .i64 m] w fun e w'=>∃ a1 c1,e = .returned (.slice a1 (frTo false l m).length c1) ∧
   w'.ownsRow w.heap.size 3 1 (.slice a1 (frTo false l m).length c1) (frTo false l m).length ((frTo false l m).map (Value.int .i64))∧Below w.heap.size w w':=by
 have Hl:=Lib.hid h.len
 have hpl:=h.pl
 have hmax:=h.max
 unfold maxLen at hmax
 obtain ⟨G,hG⟩ : ∃ G,frTo false l=G:=⟨_,rfl⟩
 have HG1 : Hid (∀ k : Nat,decide ((k : Int) ∈ l)=false→G (k+1)=G k ++ [(k : Int)]):=fun k h=>by rw [← hG,frTo,if_pos h]
 have HG2 : Hid (∀ k : Nat,decide ((k : Int) ∈ l)=true→G (k+1)=G k):=fun k h=>by rw [← hG,frTo,if_neg (by rw [h];decide)]
 have HGl : Hid (∀ k,(G k).length≤k):=fun k=>by rw [← hG];exact frTo_len _ _ _
 have HG0 : Hid (G 0=[]):=by rw [← hG];rfl
 rw [hG]
 clear hG
 go_enter Tryz.func84,Tryz.ntmps84
 go_wp2_with fail
 go_loopw [5,6] (fun ov iv wr=>∃ (i g : Nat) (a1 : Option Addr) (c1 : Nat),i≤m∧iv = .int .i64 i∧Hid ((G i).length=g)∧ov = .slice a1 g c1∧wr.ownsRow w.heap.size 3 1 (.slice a1 g c1) g ((G i).map (Value.int .i64))∧Below w.heap.size w wr) (fun _ iv _=>m - (intOf iv).toNat)
 case atStart=>exact ⟨0,0,none,0,Nat.zero_le _,rfl,by show _=_;rw [HG0.out];rfl,rfl,by rw [HG0.out];exact own_none,Below.refl _ _⟩
 case round =>
  obtain ⟨i,g,a1,c1,hi,rfl,Hg,rfl,hown,hbr⟩:=hrel
  by_cases hlt : i<m
  ·have hiW:=h.keep hbr
   have hgi : g≤1000:=by have h1:=HGl.out i;rw [Hg.out] at h1;omega
   generalize wr=X1 at *
   go_wp2_with fail
   go_loopw [7,8] (fun bv kv ws=>∃ k : Nat,k≤n∧kv = .int .i64 k∧bv = .bool (inTo l i k)∧ws=X1) (fun _ kv _=>n - (intOf kv).toNat)
   case atStart=>exact ⟨0,Nat.zero_le _,rfl,by simp [inTo],rfl⟩
   case round =>
    obtain ⟨k,hk,rfl,rfl,rfl⟩:=hrel
    by_cases hltk : k<n
    ·have ck:=hiW.cell k hltk
     have Hs:=Lib.hid (inTo_succ (l:=l) (i : Int) (show k<l.length by rw [Hl.out];exact hltk))
     obtain ⟨b,hb⟩ : ∃ b,inTo l i k=b:=⟨_,rfl⟩
     rw [hb] at Hs ⊢
     clear hb
     cases b
     ·by_cases he : nth l k=i
      ·have he' : (nth l k == (i : Int))=true:=by rw [he];simp
       have Hn : Hid (inTo l i (k+1)=true):=by show _=_;rw [Hs.out,decide_eq_true he];rfl
       clear he
       go_wp2_with fail
       go_roundw
       case rel=>exact ⟨k+1,by omega,by go_num,by rw [Hn.out],by simp⟩
       case measure=>simp [intOf] <;> omega
      ·have he' : (nth l k == (i : Int))=false:=by simpa using he
       have Hn : Hid (inTo l i (k+1)=false):=by show _=_;rw [Hs.out,decide_eq_false he];rfl
       clear he
       go_wp2_with fail
       go_roundw
       case rel=>exact ⟨k+1,by omega,by go_num,by rw [Hn.out],by simp⟩
       case measure=>simp [intOf] <;> omega
     ·have Hn : Hid (inTo l i (k+1)=true):=by show _=_;rw [Hs.out];rfl
      go_wp2_with fail
      go_roundw
      case rel=>exact ⟨k+1,by omega,by go_num,by rw [Hn.out],by simp⟩
      case measure=>simp [intOf] <;> omega
    ·obtain rfl : k=n:=by omega
     rw [inTo_all (i : Int) Hl.out]
     have hH1:=HG1.out i
     have hH2:=HG2.out i
     obtain ⟨b,hb⟩ : ∃ b,decide ((i : Int) ∈ l)=b:=⟨_,rfl⟩
     rw [hb] at hH1 hH2 ⊢
     clear hb
     cases b
     ·have Hn:=Lib.hid (hH1 rfl)
      clear hH1 hH2
      have hsz:=hbr.size
      have hcn:=cell_new wr (.int .i64 i) 3
      have hbn:=below1 wr (.cells #[.int .i64 i] 3)
      go_wp2_with (at_builtin;refine wpList_push rfl _ _ 22 3 rfl (.int .i64 0) 8 Tryz.underlying22 infoInt rfl w.heap.size a1 g c1 _ rfl (hown.alloc _) ⟨wr.heap.size,0,none⟩ 1 (.int .i64 i) rfl hcn rfl (by omega) (by unfold maxLen;omega) (by simp;omega) ?_;intro a5 c5 w5 hown5 hgr5 hap5)
      go_roundw
      case rel =>
       refine ⟨i+1,g+1,a5,c5,by omega,by go_num,by show _=_;rw [Hn.out,List.length_append,Hg.out];rfl,rfl,by rw [Hn.out];simpa using hown5,Below.app (Below.allocN hbr _) (hown.alloc _) hgr5 (Nat.le_refl _) (Below.allocN hbr _).size⟩
      case measure=>simp [intOf] <;> omega
     ·have Hn:=Lib.hid (hH2 rfl)
      clear hH1 hH2
      go_wp2_with fail
      go_roundw
      case rel=>exact ⟨i+1,g,a1,c1,by omega,by go_num,by show _=_;rw [Hn.out];exact Hg.out,rfl,by rw [Hn.out];exact hown,hbr⟩
      case measure=>simp [intOf] <;> omega
  ·obtain rfl : i=m:=by omega
   have HF:=Lib.hid (And.intro hown hbr)
   clear hown hbr
   go_wp2_with fail
   go_ret
   rw [Hg.out]
   exact ⟨a1,c1,rfl,HF.out.1,HF.out.2⟩
end

section
open Go.RowKit
def setTo (n s lo : Nat) : Nat→List (List Int)
 | 0=>[]
 | k+1=>setTo n s lo k ++ (setsS n s (lo+k+1)).map fun t=>((lo+k : Nat) : Int) :: t
theorem setsS_to (n s lo : Nat) : setsS n (s+1) lo=setTo n s lo (n - lo):=by
 rw [setsS]
 generalize n - lo=k
 induction k with
 | zero=>rfl
 | succ k ih=>rw [List.range'_concat,List.flatMap_append,ih,setTo,Nat.one_mul];simp
theorem setsS_len (n : Nat) : ∀ (s lo : Nat),lo≤n→(setsS n s lo).length≤2 ^ (n - lo)
 | 0,lo,_=>by rw [setsS];exact Nat.one_le_two_pow
 | s+1,lo,h=>by
  have key : ∀ k,lo+k≤n→(setTo n s lo k).length+2 ^ (n - lo - k)≤2 ^ (n - lo):=fun k=>by
   induction k with
   | zero=>intro _;simp [setTo]
   | succ k ih =>
    intro hk
    have h1:=ih (by omega)
    have h2:=setsS_len n s (lo+k+1) (by omega)
    rw [setTo,List.length_append,List.length_map]
    obtain ⟨d,hd⟩ : ∃ d,n - lo - (k+1)=d:=⟨_,rfl⟩
    rw [show n - lo - k=d+1 by omega,Nat.pow_succ] at h1
    rw [show n - (lo+k+1)=d by omega] at h2
    rw [hd];omega
  rw [setsS_to]
  have:=key (n - lo) (by omega)
  exact Nat.le_trans (Nat.le_add_right _ _) this
theorem setTo_bd {n : Nat} (s lo k : Nat) (hk : lo+k<n) (hn : n≤16) : (setTo n s lo k).length+(setsS n s (lo+k+1)).length≤65536:=by
 have h1:=setsS_len n (s+1) lo (by omega)
 rw [setsS_to] at h1
 have h2 : ∀ d,(setTo n s lo (k+1)).length≤(setTo n s lo (k+1+d)).length:=fun d=>by
  induction d with
  | zero=>exact Nat.le_refl _
  | succ d ih=>rw [show k+1+(d+1)=(k+1+d)+1 by omega,setTo.eq_2 n s lo (k+1+d),List.length_append];omega
 have h3:=h2 (n - lo - (k+1))
 rw [show k+1+(n - lo - (k+1))=n - lo by omega] at h3
 rw [setTo,List.length_append,List.length_map] at h3
 have h4 : 2 ^ (n - lo)≤2 ^ 16:=Nat.pow_le_pow_right (by omega) (by omega)
 omega
def SetsPost (L : List (List Int)) (w : World) (e : Ending) (w' : World) : Prop :=
 ∃ a c R,e = .returned (.slice a L.length c)∧OMat w' w.heap.size a L.length c R L∧Below w.heap.size w w'
set_option maxRecDepth 100000 in
set_option maxHeartbeats 4000000 in
theorem rSets29_any (n : Nat) (hn : n≤16) : ∀ (s lo : Nat) (w : World),lo≤n→s≤1000→Calls Tryz.prog 74 #[.int .i64 lo,.int .i64 n,.int .i64 s] w (SetsPost (setsS n s lo) w)
 | 0,lo,w,hlo,_=>by
  have hO:=omat_made (own_mk w 22 (.slice none 0 0) 1 (Nat.le_refl _) (by unfold maxLen;omega))
  have hO' : OMat (w.alloc (.cells #[.slice none 0 0] 22)) w.heap.size (some ⟨w.heap.size,0,none⟩) 1 1 [(none,0)] [[]]:=hO
  go_enter Tryz.func74,Tryz.ntmps74
  go_wp2_with fail
  go_ret
  exact ⟨_,_,_,rfl,hO',below1 _ _⟩
 | s+1,lo,w,hlo,hs=>by
  have IH : Hid (∀ lo V,lo≤n→Calls Tryz.prog 74 #[.int .i64 lo,.int .i64 n,.int .i64 s] V (SetsPost (setsS n s lo) V)):=fun lo V h=>rSets29_any n hn s lo V h (by omega)
  obtain ⟨v,hv⟩ : ∃ v : Int,((s+1 : Nat) : Int)=v:=⟨_,rfl⟩
  rw [hv]
  have hv1 : v - 1=(s : Int):=by omega
  have hs0 : (v == 0)=false:=by simp;omega
  clear hv
  have HE:=Lib.hid (setsS_to n s lo)
  have HB : Hid (∀ k,lo+k<n→(setTo n s lo k).length+(setsS n s (lo+k+1)).length≤65536):=fun k hk=>setTo_bd s lo k hk hn
  rw [HE.out]
  go_enter Tryz.func74,Tryz.ntmps74
  go_wp2_with fail
  go_loopw [7,8] (fun ov iv wr=>∃ (k g : Nat) (a1 : Option Addr) (c1 : Nat),lo+k≤n∧iv = .int .i64 ((lo+k : Nat) : Int)∧Hid ((setTo n s lo k).length=g)∧ov = .slice a1 g c1∧(∃ R,OMat wr w.heap.size a1 g c1 R (setTo n s lo k))∧Below w.heap.size w wr) (fun _ iv _=>n - (intOf iv).toNat)
  case atStart=>exact ⟨0,0,none,0,by omega,rfl,rfl,rfl,⟨[],OMat.nul w w.heap.size⟩,Below.refl _ _⟩
  case round =>
   obtain ⟨k,g,a1,c1,hk,rfl,Hg,rfl,⟨R1,hO⟩,hbr⟩:=hrel
   by_cases hlt : lo+k<n
   ·have Hcall:=Lib.hid (IH.out (lo+k+1) wr (by omega))
    have HBk:=HB.out k hlt
    have HSt : Hid (setTo n s lo (k+1)=setTo n s lo k ++ (setsS n s (lo+k+1)).map fun t=>((lo+k : Nat) : Int) :: t):=rfl
    have HTs : Hid (∀ t ∈ setsS n s (lo+k+1),t.length=s):=fun t ht=>(mem_setsS.1 ht).1
    obtain ⟨T,hT⟩ : ∃ T,setsS n s (lo+k+1)=T:=⟨_,rfl⟩
    rw [hT] at Hcall HBk HSt HTs
    rw [Hg.out] at HBk
    unfold SetsPost at Hcall
    clear hT
    obtain ⟨t,ht⟩ : ∃ t,T.length=t:=⟨_,rfl⟩
    rw [ht] at HBk Hcall
    have Ht:=Lib.hid ht
    clear ht
    obtain ⟨x,hx⟩ : ∃ x : Nat,lo+k=x:=⟨_,rfl⟩
    rw [hx] at Hcall HSt hlt ⊢
    have Hx:=Lib.hid hx
    have hx16 : x<16:=by omega
    clear hx hk
    have ha1 : a1 ≠ none→ablk a1<wr.heap.size:=fun h=>(own_ne hO.own h).2
    go_wp2_with fail
    refine Hcall.out.mono ?_
    rintro e U ⟨a2,c2,R2,rfl,hO2,hbU⟩
    have hN2:=hO2.matN
    have hpl2:=hN2.pl
    have hOU:=hO.keep hbU
    have hbrU:=Below.next hbr hbU
    generalize wr.heap.size=B at *
    clear hO2 hO Hcall
    go_wp2_with fail
    go_loopw [7,10] (fun ov jv wx=>∃ (j : Nat) (a3 : Option Addr) (c3 : Nat),j≤t∧jv = .int .i64 j∧ov = .slice a3 (g+j) c3∧(∃ R,OMat wx w.heap.size a3 (g+j) c3 R (setTo n s lo k ++ (T.take j).map fun t=>(x : Int) :: t))∧Moves U wx (fun b=>b<B) (fun b=>b<B)∧Below w.heap.size w wx ∧
     Hid (a3 ≠ none→ablk a3<B∨U.heap.size≤ablk a3)) (fun _ jv _=>t - (intOf jv).toNat)
    case atStart=>exact ⟨0,a1,c1,Nat.zero_le _,rfl,rfl,⟨R1,by simpa using hOU⟩,Moves.refl _ _,hbrU,fun h=>.inl (ha1 h)⟩
    case round =>
     clear hOU
     obtain ⟨j,a3,c3,hj,rfl,rfl,⟨R3,hO3⟩,hM3,hb3,Ha3⟩:=hrel
     by_cases hlj : j<t
     ·have hNx:=hN2.moves hM3 (fun b hb=>hb)
      obtain ⟨rb,rn,rc,hcell,hrow⟩:=hNx.cell j hlj
      have hrl:=hrow.ints.len
      have hmx:=hrow.ints.max
      have hplr:=hrow.ints.pl
      obtain ⟨l,hl⟩ : ∃ l,nthR T j=l:=⟨_,rfl⟩
      have hjT : j<T.length:=by rw [Ht.out];exact hlj
      have Htk : Hid ((T.take (j+1)).map (fun t=>(x : Int) :: t)=(T.take j).map (fun t=>(x : Int) :: t) ++ [(x : Int) :: l]):=by
       show _=_
       rw [List.take_succ_eq_append_getElem hjT,List.map_append,← hl,nthR_getElem hjT];rfl
      have hrs : s=rn:=by rw [← hrl];exact (HTs.out _ (nthR_mem hjT)).symm
      subst hrs
      rw [hl] at hrow hrl
      have hb4:=below1 wr (.cells #[.int .i64 x] 3)
      have hrow4:=hrow.ints.keep hb4
      have hcell4:=cell_keep hb4 hcell
      have hO1:=own_litInts wr [(x : Int)] 3 (Nat.le_refl wr.heap.size) (by unfold maxLen;simp)
      have Hrl:=Lib.hid hrl
      clear hl hrl hrow
      go_upto_region 11 with fail
      iterate 22 go_step
      refine wpList_appAll (by rfl) (.tmp 34) (.tmp 38) 22 3 (by rfl) (.int .i64 0) 8 Tryz.underlying22 infoInt (by rfl) wr.heap.size _ 1 1 [.int .i64 x] (by rfl) hO1 rb s rc (l.map (Value.int .i64)) (by rfl) hplr (by simp [Hrl.out]) (Ints.news hrow4) (ints_oneCell _ _) (by omega) (by unfold maxLen;omega) (Below.size hb4) ?_
      intro a4 c4 w4 hown4 hgr4 hap4
      have hb5 : Below wr.heap.size wr w4:=Below.app (B:=wr.heap.size) (e:=3) (xs:=[.int .i64 x]) hb4 hO1 hgr4 (Nat.le_refl _) (Below.size hb4)
      have hb6 : Below wr.heap.size wr (w4.alloc (.cells #[.slice a4 (1+s) c4] 22)):=Below.next hb5 (below1 _ _)
      have hO6:=hO3.keep hb6
      have hs6 : w.heap.size≤(w4.alloc (.cells #[.slice a4 (1+s) c4] 22)).heap.size:=Nat.le_trans hb3.size hb6.size
      have hcn:=cell_new w4 (.slice a4 (1+s) c4) 22
      have Hown4:=Lib.hid hown4
      clear hown4 hgr4 hap4 hO1 hrow4 hcell4
      go_wp2_with (at_builtin;refine wpList_push rfl _ _ 25 22 rfl (.slice none 0 0) 24 Tryz.underlying25 infoInts rfl w.heap.size a3 (g+j) c3 _ rfl hO6.own ⟨w4.heap.size,0,none⟩ 1 (.slice a4 (1+s) c4) rfl hcn rfl (by omega) (by unfold maxLen;omega) hs6 ?_;intro a5 c5 w5 hown5 hgr5 hap5)
      go_roundw
      case rel =>
       have hul : ((x : Int) :: l).length=1+s:=by rw [List.length_cons,Hrl.out];omega
       have hr : (w4.alloc (.cells #[.slice a4 (1+s) c4] 22)).ownsRow w.heap.size 3 1 (.slice a4 ((x : Int) :: l).length c4) ((x : Int) :: l).length (((x : Int) :: l).map (Value.int .i64)):=by
        rw [hul];exact own_mono (own_keep (by simpa using Hown4.out) (below1 _ _)) hb3.size
       have hra : a4 ≠ none→¬ OIn a3 R3 (ablk a4):=fun h0 hI=>by
        have h1:=(own_ne Hown4.out h0).1
        have h2:=(hO3.lt _ hI).2
        omega
       have hP:=OMat.push hO6 hr hra (by rw [hul];exact hown5) hgr5 hap5
       have hb7 : Below w.heap.size w w5:=Below.app (Below.next hb3 hb6) hO6.own hgr5 (Nat.le_refl _) hs6
       have hM7 : Moves U w5 (fun b=>b<B) (fun b=>b<B):=(hM3.trans (Moves.of_below hb6 _)).grownI hgr5 Ha3.out
       refine ⟨j+1,a5,c5,by omega,by go_num,by rw [Nat.add_assoc],⟨_,by rw [Htk.out,← List.append_assoc];exact hP⟩,hM7,hb7,fun h0=>?_⟩
       rcases Nat.lt_or_ge (ablk a5) B with h1 | h1
       ·exact .inl h1
       ·rcases Nat.lt_or_ge (ablk a5) U.heap.size with h2 | h2
        ·have h3 : Apt a3 (ablk a5):=by
          by_cases ha : a3=none
          ·exact .inl ha
          ·refine .inr fun e=>?_
           rcases Ha3.out ha with h4 | h4 <;> omega
         have h5:=hM3.size
         have h6:=hb6.size
         rcases hap5 _ (by omega) h3 with h4 | h4
         ·exact absurd h4 h0
         ·exact absurd rfl h4
        ·exact .inr h2
      case measure=>simp [intOf] <;> omega
     ·obtain rfl : j=t:=by omega
      have HF : Hid (∃ R,OMat wr w.heap.size a3 (g+j) c3 R (setTo n s lo (k+1))):=⟨R3,by rw [HSt.out];rwa [List.take_of_length_le (by rw [Ht.out];exact Nat.le_refl _)] at hO3⟩
      clear hO3
      go_wp2_with fail
      go_roundw
      case rel=>exact ⟨k+1,g+j,a3,c3,by have:=Hx.out;omega,by have:=Hx.out;go_num,by show _=_;rw [HSt.out,List.length_append,List.length_map,Hg.out,Ht.out],rfl,HF.out,hb3⟩
      case measure=>have:=Hx.out;simp [intOf] <;> omega
   ·have hke : n - lo=k:=by omega
    have hlt' : decide (((lo+k : Nat) : Int)<(n : Int))=false:=by simp;omega
    have HF : Hid (SetsPost (setTo n s lo (n - lo)) w (.returned (.slice a1 g c1)) wr):=⟨a1,c1,R1,by rw [hke,Hg.out],by rw [hke,Hg.out];exact hO,hbr⟩
    clear hO
    go_wp2_with fail
    go_ret
    exact HF.out
end

end Go.Proofs.YtcflcogbpnmjeaaGreat
