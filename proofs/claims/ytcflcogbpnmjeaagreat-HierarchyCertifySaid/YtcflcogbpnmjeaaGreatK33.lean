/-  -/
import Derived.Test.YtcflcogbpnmjeaaGreatK32
import Derived.Test.YtcflcogbpnmjeaaGreatK28
import Derived.Test.YtcflcogbpnmjeaaGreatK31
import Derived.Test.YtcflcogbpnmjeaaGreatK20
namespace Go.Proofs.YtcflcogbpnmjeaaGreat
set_option linter.unusedVariables false
set_option linter.unusedSimpArgs false
set_option linter.unusedSectionVars false

section
open Go.RowKit
def hokB (P M : Int) (mod : List Int) (m : Nat) (L SS : List (List Int)) (TT : List (List (List Int))) (r : Nat) : Bool :=
 okSet m (nthR SS r) && (decide ((r : Int)+1≤dimZ (tblOf P M.toNat mod).ops L m (nthR SS r)) && decide (chkRE P M mod m L ((L.length : Int) - ((r : Int)+1)+1) (((nthR SS r).length : Int) - 1) (nthT TT r)=0))
def hokTo (P M : Int) (mod : List Int) (m : Nat) (L SS : List (List Int)) (TT : List (List (List Int))) : Nat→Bool
 | 0=>true
 | k+1=>hokTo P M mod m L SS TT k && hokB P M mod m L SS TT k
theorem hokTo_no {P M : Int} {mod : List Int} {m : Nat} {L SS : List (List Int)} {TT : List (List (List Int))} {k : Nat} (h : hokB P M mod m L SS TT k=false) : ∀ d,hokTo P M mod m L SS TT (k+1+d)=false
 | 0=>by show (hokTo P M mod m L SS TT k && hokB P M mod m L SS TT k)=false;rw [h,Bool.and_false]
 | d+1=>by
  have ih:=hokTo_no h d
  show (hokTo P M mod m L SS TT (k+1+d) && _)=false
  rw [ih,Bool.false_and]
def hcE (P M : Int) (mod : List Int) (N : Int) (L SS : List (List Int)) (TT : List (List (List Int))) : Int :=
 if codeE P M mod N L=0 then (if SS.length=L.length∧TT.length=L.length∧hokTo P M mod N.toNat L SS TT L.length=true then 0 else 13) else codeE P M mod N L
def lenL (SS : List (List Int)) (k : Nat) : List Int:=(List.range k).map fun r=>((nthR SS r).length : Int)
def HChkPost (P M : Int) (mod : List Int) (N : Int) (n : Nat) (L SS : List (List Int)) (TT : List (List (List Int))) (w : World) (e : Ending) (w' : World) : Prop :=
 Below w.heap.size w w'∧((hcE P M mod N L SS TT ≠ 0∧e = .returned (.tuple #[.slice none 0 0,.int .i64 (hcE P M mod N L SS TT)])) ∨
  (hcE P M mod N L SS TT=0∧∃ a c,e = .returned (.tuple #[.slice a n c,.int .i64 0])∧w'.ownsRow w.heap.size 3 1 (.slice a n c) n ((lenL SS n).map (Value.int .i64))))
set_option maxRecDepth 100000 in
set_option maxHeartbeats 8000000 in
theorem hCheck_any (P M : Int) (am : Option Addr) (mn cm : Nat) (mod : List Int) (N : Int) (a : Option Addr) (n c : Nat) (L : List (List Int)) (asx : Option Addr) (nsx csx : Nat) (SS : List (List Int)) (atx : Option Addr) (ntx ctx : Nat) (TT : List (List (List Int))) (w : World)
  (hmod : Ints w am mn mod) (hi : Mat w a n L) (hSS : Mat w asx nsx SS) (hTT : Trees w atx ntx TT) :
  Calls Tryz.prog 43 #[.agg #[.int .i64 P,.int .i64 M,.slice am mn cm,.int .i64 N,.slice a n c],.agg #[.slice asx nsx csx,.slice atx ntx ctx]] w (HChkPost P M mod N n L SS TT w):=by
 have Hil:=Lib.hid hi.len
 have HSl:=Lib.hid hSS.len
 have HTl:=Lib.hid hTT.len
 have hplS:=hSS.pl
 have hplT:=hTT.pl
 go_enter Tryz.func43,Tryz.ntmps43
 go_wp2_with fail
 obtain ⟨U,hU⟩ : ∃ U : World,U=(w.alloc (.cells #[.int .i64 P,.int .i64 M,.slice am mn cm,.int .i64 N,.slice a n c] 27)).alloc (.cells #[.slice asx nsx csx,.slice atx ntx ctx] 59):=⟨_,rfl⟩
 rw [← hU]
 have hbU : Below w.heap.size w U:=by rw [hU];exact below2 _ _ _
 have x0 : Box U w.heap.size [.int .i64 P,.int .i64 M,.slice am mn cm,.int .i64 N,.slice a n c]:=by rw [hU];exact (Box.new _ _ _ rfl).alloc _
 have z0 : Box U (w.heap.size+1) [.slice asx nsx csx,.slice atx ntx ctx]:=by rw [hU];exact Box.new _ _ _ (by simp)
 have HS : Hid (∀ V,Below U.heap.size U V→V.cell? ⟨w.heap.size,0,none⟩=some (.int .i64 P)∧V.cell? ⟨w.heap.size,1,none⟩=some (.int .i64 M)∧V.cell? ⟨w.heap.size,2,none⟩=some (.slice am mn cm)∧V.cell? ⟨w.heap.size,3,none⟩=some (.int .i64 N)∧V.cell? ⟨w.heap.size,4,none⟩=some (.slice a n c) ∧
   V.cell? ⟨w.heap.size+1,0,none⟩=some (.slice asx nsx csx)∧V.cell? ⟨w.heap.size+1,1,none⟩=some (.slice atx ntx ctx)):=fun V hV=>by
  have x1:=x0.keep hV
  have z1:=z0.keep hV
  exact ⟨x1.cell 0 rfl,x1.cell 1 rfl,x1.cell 2 rfl,x1.cell 3 rfl,x1.cell 4 rfl,z1.cell 0 rfl,z1.cell 1 rfl⟩
 have HbU:=Lib.hid hbU
 have HErr : Hid (∀ V er,hcE P M mod N L SS TT=er→er ≠ 0→Below U.heap.size U V→HChkPost P M mod N n L SS TT w (.returned (.tuple #[.slice none 0 0,.int .i64 er])) V):=fun V er h1 h2 hV =>
  ⟨Below.next hbU hV,.inl ⟨by rw [h1];exact h2,by rw [h1]⟩⟩
 clear hU x0 z0
 refine (codeCheck_any P M am mn cm mod N a n c L U (hmod.keep hbU) (hi.keep hbU)).mono ?_
 rintro e w1 ⟨rfl,hb1⟩
 by_cases hC : codeE P M mod N L=0
 rotate_left
 ·have HR:=Lib.hid (HErr.out w1 _ (if_neg hC) hC hb1)
  have hE' : (codeE P M mod N L != 0)=true:=by simpa using hC
  clear hC
  generalize codeE P M mod N L=er at *
  go_wp2_with fail
  go_ret2
  exact HR.out
 obtain ⟨m,em,hm1,hm64,F,hR⟩:=codeE_fld hC
 subst em
 have hn256 : n≤256:=by rw [← hi.len];exact (codeE_rws hC).choose_spec.2.2.2.1
 obtain ⟨d0,d1,d2,d3,d4,d5,d6⟩:=HS.out w1 hb1
 have HRej : Hid (∀ V,¬ (SS.length=L.length∧TT.length=L.length∧hokTo P M mod m L SS TT L.length=true)→Below U.heap.size U V→HChkPost P M mod m n L SS TT w (.returned (.tuple #[.slice none 0 0,.int .i64 13])) V):=fun V h hV =>
  HErr.out V 13 (by show hcE _ _ _ _ _ _ _=13;unfold hcE;rw [if_pos hC,Int.toNat_natCast,if_neg h]) (by decide) hV
 by_cases hs1 : nsx=n
 rotate_left
 ·have HR:=Lib.hid (HRej.out w1 (fun h=>hs1 (by rw [← hSS.len,h.1,hi.len])) hb1)
  have e1 : ((nsx : Int) != (n : Int))=true:=by simpa using fun h=>hs1 (by omega)
  rw [hC]
  clear hC hs1
  go_wp2_with fail
  go_ret2
  exact HR.out
 subst hs1
 by_cases ht1 : ntx=nsx
 rotate_left
 ·have HR:=Lib.hid (HRej.out w1 (fun h=>ht1 (by rw [← hTT.len,h.2.1,hi.len])) hb1)
  have e1 : ((ntx : Int) != (nsx : Int))=true:=by simpa using fun h=>ht1 (by omega)
  rw [hC]
  clear hC ht1
  go_wp2_with fail
  go_ret2
  exact HR.out
 subst ht1
 have hbw1:=Below.next hbU hb1
 have HRj : Hid (∀ V k,k<ntx→hokB P M mod m L SS TT k=false→Below U.heap.size U V→HChkPost P M mod m ntx L SS TT w (.returned (.tuple #[.slice none 0 0,.int .i64 13])) V):=fun V k hk hb hV =>
  HRej.out V (fun h=>by
   have h1:=hokTo_no hb (ntx - (k+1))
   rw [show k+1+(ntx - (k+1))=L.length by rw [hi.len];omega] at h1
   rw [h1] at h
   exact absurd h.2.2 (by decide)) hV
 have HOk : Hid (∀ a1 c1 V,hokTo P M mod m L SS TT ntx=true→V.ownsRow w1.heap.size 3 1 (.slice a1 ntx c1) ntx ((lenL SS ntx).map (Value.int .i64))→Below w1.heap.size w1 V→HChkPost P M mod m ntx L SS TT w (.returned (.tuple #[.slice a1 ntx c1,.int .i64 0])) V):=fun a1 c1 V h1 h2 h3 =>
  ⟨Below.next hbw1 h3,.inr ⟨by unfold hcE;rw [if_pos hC,Int.toNat_natCast,if_pos ⟨by rw [hSS.len,hi.len],by rw [hTT.len,hi.len],by rw [hi.len];exact h1⟩],a1,c1,rfl,own_mono h2 hbw1.size⟩⟩
 have HStep : Hid (∀ k,hokTo P M mod m L SS TT k=true→hokB P M mod m L SS TT k=true→hokTo P M mod m L SS TT (k+1)=true):=fun k h1 h2=>by
  show (hokTo P M mod m L SS TT k && hokB P M mod m L SS TT k)=true
  rw [h1,h2];rfl
 have HB0 : Hid (∀ k : Nat,okSet m (nthR SS k)=false→hokB P M mod m L SS TT k=false):=fun k h=>by unfold hokB;rw [h];rfl
 have HB1 : Hid (∀ k : Nat,¬ (k : Int)+1≤dimZ (tblOf P M.toNat mod).ops L m (nthR SS k)→hokB P M mod m L SS TT k=false):=fun k h=>by unfold hokB;rw [decide_eq_false h,Bool.false_and,Bool.and_false]
 have HB2 : Hid (∀ (k : Nat) er,chkRE P M mod m L ((ntx : Int) - ((k : Int)+1)+1) (((nthR SS k).length : Int) - 1) (nthT TT k)=er→er ≠ 0→hokB P M mod m L SS TT k=false):=fun k er h1 h2=>by
  unfold hokB
  rw [decide_eq_false (p:=chkRE _ _ _ _ _ _ _ _=0) (by rw [hi.len,h1];exact h2),Bool.and_false,Bool.and_false]
 have HB3 : Hid (∀ k : Nat,okSet m (nthR SS k)=true→(k : Int)+1≤dimZ (tblOf P M.toNat mod).ops L m (nthR SS k)→chkRE P M mod m L ((ntx : Int) - ((k : Int)+1)+1) (((nthR SS k).length : Int) - 1) (nthT TT k)=0→hokB P M mod m L SS TT k=true):=fun k h1 h2 h3=>by
  unfold hokB
  rw [h1,decide_eq_true h2,hi.len,h3];rfl
 have HW : Hid (∀ k,lenL SS (k+1)=lenL SS k ++ [((nthR SS k).length : Int)]):=fun k=>by unfold lenL;rw [List.range_succ];simp
 have HW0 : Hid (lenL SS 0=[]):=rfl
 have HCk : Hid (∀ V mm WW ax nx cx ts,Below w.heap.size w V→Mat V ax nx ts→nx≤cx→Calls Tryz.prog 56 #[.agg #[.int .i64 P,.int .i64 M,.slice am mn cm,.int .i64 m,.slice a ntx c],.int .i64 mm,.int .i64 WW,.agg #[.slice ax nx cx]] V fun e w'=>e = .returned (.int .i64 (chkRE P M mod m L mm WW ts))∧Below V.heap.size V w'):=fun V mm WW ax nx cx ts hV h1 h2 =>
  exCheckRank_any P M am mn cm mod m a ntx c L mm WW ax nx cx ts V (hmod.keep hV) (hi.keep hV) h1
 have HRk1 : Hid (∀ V ao no co Q,Below w.heap.size w V→Ints V ao no Q→Calls Tryz.prog 48 #[.agg #[.int .i64 P,.int .i64 M,.slice am mn cm,.int .i64 m,.slice a ntx c],.slice ao no co] V fun e w'=>((okSet m Q=false∧e = .returned (.tuple #[.int .i64 0,.int .i64 6]))∨(okSet m Q=true∧e = .returned (.tuple #[.int .i64 (rkQ (tblOf P M.toNat mod).ops L Q : Nat),.int .i64 0])))∧Below V.heap.size V w'):=fun V ao no co Q hV hQ=>by
  refine (rank_any P M am mn cm mod m a ntx c L ao no co Q V (hmod.keep hV) (hi.keep hV) hQ).mono ?_
  have he : rankE P M mod m L Q=if okSet m Q=true then 0 else 6:=by unfold rankE;rw [if_pos hC,setsE_one]
  rintro e w' ⟨hb,⟨h0,rfl⟩ | ⟨h0,rfl⟩⟩
  ·by_cases hq : okSet m Q=true
   ·rw [he,if_pos hq] at h0;exact absurd rfl h0
   ·rw [he,if_neg hq];exact ⟨.inl ⟨by simpa using hq,rfl⟩,hb⟩
  ·by_cases hq : okSet m Q=true
   ·exact ⟨.inr ⟨hq,rfl⟩,hb⟩
   ·rw [he,if_neg hq] at h0;cases h0
 have HDz : Hid (∀ S,dimZ (tblOf P M.toNat mod).ops L m S=(ntx : Int) - (rkQ (tblOf P M.toNat mod).ops L (frTo false S m) : Nat)):=fun S=>by unfold dimZ;rw [hi.len]
 have HRb : Hid (∀ S,rkQ (tblOf P M.toNat mod).ops L (frTo false S m)≤m):=fun S=>Nat.le_trans (rkQ_le _ _ _) (frTo_len _ _ _)
 have HOs : Hid (∀ S,okSet m (frTo false S m)=true):=fun S=>okSet_frTo false S m
 have HG1 : Hid (∀ (S : List Int) (k : Nat),decide ((k : Int) ∈ S)=false→frTo false S (k+1)=frTo false S k ++ [(k : Int)]):=fun S k h=>by rw [frTo,if_pos h]
 have HG2 : Hid (∀ (S : List Int) (k : Nat),decide ((k : Int) ∈ S)=true→frTo false S (k+1)=frTo false S k):=fun S k h=>by rw [frTo,if_neg (by rw [h];decide)]
 have HGl : Hid (∀ (S : List Int) k,(frTo false S k).length≤k):=fun S k=>frTo_len _ _ _
 obtain ⟨rk,hrk⟩ : ∃ rk,rkQ (tblOf P M.toNat mod).ops L=rk:=⟨_,rfl⟩
 rw [hrk] at HRk1 HDz HRb
 clear hrk
 obtain ⟨ck,hck⟩ : ∃ ck,chkRE P M mod m L=ck:=⟨_,rfl⟩
 obtain ⟨dz,hdz⟩ : ∃ dz,dimZ (tblOf P M.toNat mod).ops L m=dz:=⟨_,rfl⟩
 obtain ⟨G,hG⟩ : ∃ G,lenL SS=G:=⟨_,rfl⟩
 obtain ⟨H,hH⟩ : ∃ H,hokTo P M mod m L SS TT=H:=⟨_,rfl⟩
 obtain ⟨hb,hhb⟩ : ∃ hb,hokB P M mod m L SS TT=hb:=⟨_,rfl⟩
 rw [hck] at HCk HB2 HB3
 rw [hdz] at HB1 HB3 HDz
 rw [hG] at HW HW0 HOk
 rw [hH] at HOk HStep
 rw [hhb] at HRj HStep HB0 HB1 HB2 HB3
 have HH0 : Hid (H 0=true):=by show _=_;rw [← hH];rfl
 rw [hC]
 have HSw : Hid (∀ V,Below w1.heap.size w1 V→V.cell? ⟨w.heap.size,0,none⟩=some (.int .i64 P)∧V.cell? ⟨w.heap.size,1,none⟩=some (.int .i64 M)∧V.cell? ⟨w.heap.size,2,none⟩=some (.slice am mn cm)∧V.cell? ⟨w.heap.size,3,none⟩=some (.int .i64 m)∧V.cell? ⟨w.heap.size,4,none⟩=some (.slice a ntx c) ∧
   V.cell? ⟨w.heap.size+1,0,none⟩=some (.slice asx ntx csx)∧V.cell? ⟨w.heap.size+1,1,none⟩=some (.slice atx ntx ctx)):=fun V hV=>HS.out V (Below.next hb1 hV)
 have Hbw1:=Lib.hid hbw1
 have Hb1:=Lib.hid hb1
 clear hck hdz hG hH hhb hC F hR HErr HRej HS hb1 hbU hbw1
 go_wp2_with fail
 go_loopw [8,9] (fun ov iv wr=>∃ (k : Nat) (a1 : Option Addr) (c1 : Nat),k≤ntx∧iv = .int .i64 ((k : Int)+1)∧ov = .slice a1 k c1∧wr.ownsRow w1.heap.size 3 1 (.slice a1 k c1) k ((G k).map (Value.int .i64))∧Hid (H k=true)∧Below w1.heap.size w1 wr) (fun _ iv _=>ntx+1 - (intOf iv).toNat)
 case atStart=>exact ⟨0,none,0,Nat.zero_le _,rfl,rfl,by rw [HW0.out];exact own_none,HH0.out,Below.refl _ _⟩
 case round =>
  obtain ⟨k,a1,c1,hk,rfl,rfl,hown,Hk,hbr⟩:=hrel
  obtain ⟨d0,d1,d2,d3,d4,d5,d6⟩:=HSw.out wr hbr
  by_cases hlt : k<ntx
  ·obtain ⟨r,hr⟩ : ∃ r : Int,(k : Int)+1=r:=⟨_,rfl⟩
   have hr1 : 1≤r:=by omega
   have hrn : r≤ntx:=by omega
   have g1 : decide (r≤(ntx : Int))=true:=by simp;omega
   have g2 : r - 1=(k : Int):=by omega
   have HRk:=Lib.hid (fun V=>HRj.out V k hlt)
   have HB0k:=Lib.hid (HB0.out k)
   have HB1k:=Lib.hid (HB1.out k)
   have HB2k:=Lib.hid (HB2.out k)
   have HB3k:=Lib.hid (HB3.out k)
   have HStk:=Lib.hid (HStep.out k Hk.out)
   have HWk:=Lib.hid (HW.out k)
   rw [hr] at HB1k HB2k HB3k ⊢
   obtain ⟨rb,rn,rc,hcell,hrow⟩:=(hSS.keep (Below.next Hbw1.out hbr)).cell k (by omega)
   obtain ⟨tb,tn,tc,htcell,htree,htc⟩:=(hTT.keep (Below.next Hbw1.out hbr)).cell k (by omega)
   obtain ⟨S,hS⟩ : ∃ S,nthR SS k=S:=⟨_,rfl⟩
   obtain ⟨ts,hts⟩ : ∃ ts,nthT TT k=ts:=⟨_,rfl⟩
   rw [hS] at HB0k HB1k HB2k HB3k HWk hrow
   rw [hts] at HB2k HB3k htree
   have hrl:=hrow.len
   rw [hrl] at HB2k HB3k HWk
   have hrmax : rn≤maxLen:=hrow.max
   unfold maxLen at hrmax
   have Hr:=Lib.hid hr
   have Hown:=Lib.hid hown
   have Hbr:=Lib.hid hbr
   have Hrow:=Lib.hid hrow
   have Htree:=Lib.hid htree
   have Hrl:=Lib.hid hrl
   clear hr hown hbr hrow htree hS hts hrl
   have HG1:=Lib.hid (HG1.out S)
   have HG2:=Lib.hid (HG2.out S)
   have HGl:=Lib.hid (HGl.out S)
   have hRb:=HRb.out S
   have HDz:=Lib.hid (HDz.out S)
   have HOs:=Lib.hid (HOs.out S)
   obtain ⟨Z,hZ⟩ : ∃ Z,frTo false S=Z:=⟨_,rfl⟩
   rw [hZ] at HG1 HG2 HGl hRb HDz HOs
   have HZ0 : Hid (Z 0=[]):=by show _=_;rw [← hZ];rfl
   have hbw:=Below.next Hbw1.out Hbr.out
   have Hbw:=Lib.hid hbw
   have HSr : Hid (∀ V,Below wr.heap.size wr V→V.cell? ⟨w.heap.size,0,none⟩=some (.int .i64 P)∧V.cell? ⟨w.heap.size,1,none⟩=some (.int .i64 M)∧V.cell? ⟨w.heap.size,2,none⟩=some (.slice am mn cm)∧V.cell? ⟨w.heap.size,3,none⟩=some (.int .i64 m)∧V.cell? ⟨w.heap.size,4,none⟩=some (.slice a ntx c) ∧
     V.cell? ⟨w.heap.size+1,0,none⟩=some (.slice asx ntx csx)∧V.cell? ⟨w.heap.size+1,1,none⟩=some (.slice atx ntx ctx)∧V.cell? ⟨ablk atx,aoff atx+k,none⟩=some (.slice tb tn tc)):=fun V hV=>by
    obtain ⟨x0,x1,x2,x3,x4,x5,x6⟩:=HSw.out V (Below.next Hbr.out hV)
    exact ⟨x0,x1,x2,x3,x4,x5,x6,cell_keep hV htcell⟩
   have hU1:=Below.next Hb1.out Hbr.out
   have HU1:=Lib.hid hU1
   clear hZ hbw htcell hU1
   generalize wr=X at *
   go_upto_region 14 with fail
   clear hcell
   go_loopw [11,50] (fun ov iv wr=>∃ (k g : Nat) (a1 : Option Addr) (c1 : Nat),k≤m∧iv = .int .i64 k∧Hid ((Z k).length=g)∧ov = .slice a1 g c1∧wr.ownsRow X.heap.size 3 1 (.slice a1 g c1) g ((Z k).map (Value.int .i64))∧Below X.heap.size X wr) (fun _ iv _=>m - (intOf iv).toNat)
   case atStart=>exact ⟨0,0,none,0,Nat.zero_le _,rfl,by show _=_;rw [HZ0.out];rfl,rfl,by rw [HZ0.out];exact own_none,Below.refl _ _⟩
   case round =>
    obtain ⟨j,g,a2,c2,hj,rfl,Hg2,rfl,hown,hbz⟩:=hrel
    by_cases hltj : j<m
    ·have hgk : g≤64:=by have h:=HGl.out j;rw [Hg2.out] at h;omega
     have hcont:=contains_any rb rn rc S j wr (Hrow.out.keep hbz)
     have hG1:=HG1.out j
     have hG2:=HG2.out j
     obtain ⟨b2,hb2⟩ : ∃ b2,decide ((j : Int) ∈ S)=b2:=⟨_,rfl⟩
     rw [hb2] at hcont hG1 hG2
     have Hcont:=Lib.hid hcont
     clear hb2 hcont
     cases b2
     ·have Hn:=Lib.hid (hG1 rfl)
      clear hG1 hG2
      have hsz:=hbz.size
      have hcn:=cell_new wr (.int .i64 j) 3
      go_wp2_with (first | (go_at_call 83;refine Hcont.out.mono ?_;rintro e w3 ⟨rfl,rfl⟩) | (at_builtin;refine wpList_push rfl _ _ 22 3 rfl (.int .i64 0) 8 Tryz.underlying22 infoInt rfl X.heap.size a2 g c2 _ rfl (hown.alloc _) ⟨w3.heap.size,0,none⟩ 1 (.int .i64 j) rfl hcn rfl (by omega) (by unfold maxLen;omega) (by simp;omega) ?_;intro a5 c5 w5 hown5 hgr5 hap5))
      go_roundw
      case rel =>
       refine ⟨j+1,g+1,a5,c5,by omega,by go_num,by show _=_;rw [Hn.out,List.length_append,Hg2.out];rfl,rfl,by rw [Hn.out];simpa using hown5,Below.app (Below.allocN hbz _) (hown.alloc _) hgr5 (Nat.le_refl _) (Below.allocN hbz _).size⟩
      case measure=>simp [intOf] <;> omega
     ·have Hn:=Lib.hid (hG2 rfl)
      clear hG1 hG2
      go_wp2_with (go_at_call 83;refine Hcont.out.mono ?_;rintro e w3 ⟨rfl,rfl⟩)
      go_roundw
      case rel=>exact ⟨j+1,g,a2,c2,by omega,by go_num,by show _=_;rw [Hn.out];exact Hg2.out,rfl,by rw [Hn.out];exact hown,hbz⟩
      case measure=>simp [intOf] <;> omega
    ·obtain rfl : j=m:=by omega
     have HIo:=Lib.hid (Ints.own hown).1
     rw [← Hg2.out] at HIo
     have HR1:=Lib.hid (HRk1.out wr rb rn rc S (Below.next Hbw.out hbz) (Hrow.out.keep hbz))
     have Hbz:=Lib.hid hbz
     obtain ⟨d0,d1,d2,d3,d4,d5,d6,_⟩:=HSr.out wr hbz
     generalize wr=Y at *
     clear hown hbz
     go_wp2_with fail
     refine HR1.out.mono ?_
     rintro e w4 ⟨⟨hq,rfl⟩ | ⟨hq,rfl⟩,hb4⟩
     ·have HR:=Lib.hid (HRk.out w4 (HB0k.out hq) (Below.next HU1.out (Below.next Hbz.out hb4)))
      clear hq d0 d1 d2 d3 d4 d5 d6
      go_wp2_with fail
      go_ret2
      exact HR.out
     have hb4X:=Below.next Hbz.out hb4
     have HR2:=Lib.hid (HRk1.out w4 a2 (Z j).length c2 (Z j) (Below.next Hbw.out hb4X) (HIo.out.keep hb4))
     rw [Hg2.out] at HR2
     have Hq:=Lib.hid hq
     clear hq d0 d1 d2 d3 d4 d5 d6 HR1
     obtain ⟨d0,d1,d2,d3,d4,d5,d6,_⟩:=HSr.out w4 hb4X
     obtain ⟨v1,hv1⟩ : ∃ v1 : Nat,rk S=v1:=⟨_,rfl⟩
     rw [hv1]
     obtain ⟨v2,hv2⟩ : ∃ v2 : Nat,rk (Z j)=v2:=⟨_,rfl⟩
     rw [hv2] at HR2 HDz hRb
     clear hv1 hv2
     go_wp2_with fail
     refine HR2.out.mono ?_
     rintro e w5 ⟨⟨hq,rfl⟩ | ⟨_,rfl⟩,hb5⟩
     ·rw [HOs.out] at hq;cases hq
     have hb5X:=Below.next hb4X hb5
     clear d0 d1 d2 d3 d4 d5 d6 HR2
     obtain ⟨d0,d1,d2,d3,d4,d5,d6,d7⟩:=HSr.out w5 hb5X
     have Hb5X:=Lib.hid hb5X
     obtain ⟨v3,hv3⟩ : ∃ v3 : Int,(ntx : Int) - v2=v3:=⟨_,rfl⟩
     have Hv3:=Lib.hid hv3
     have hwv3 : IntKind.i64.wrap v3=v3:=IntWalk.i64_in _ (by omega)
     have hw1 : IntKind.i64.wrap ((ntx : Int) - r)=(ntx : Int) - r:=IntWalk.i64_in _ (by omega)
     have hw2 : IntKind.i64.wrap ((ntx : Int) - r+1)=(ntx : Int) - r+1:=IntWalk.i64_in _ (by omega)
     have hw3 : IntKind.i64.wrap ((rn : Int) - 1)=(rn : Int) - 1:=IntWalk.i64_in _ (by omega)
     have hwk : IntKind.i64.wrap (k : Int)=(k : Int):=IntWalk.i64_in _ (by omega)
     have hkI : (k : Int)<(ntx : Int):=by omega
     have hkI0 : (0 : Int)≤(k : Int):=by omega
     by_cases hd : v3<r
     ·have HR : Hid (∀ V,Below w5.heap.size w5 V→HChkPost P M mod j ntx L SS TT w (.returned (.tuple #[.slice none 0 0,.int .i64 13])) V):=fun V hV=>HRk.out V (HB1k.out (by rw [HDz.out,Hv3.out];omega)) (Below.next HU1.out (Below.next Hb5X.out hV))
      have g5 : decide (v3<r)=true:=by simpa using hd
      clear hd d7
      go_wp2_with fail
      go_quiet (fail)
      go_wp2_with fail
      go_ret2
      exact HR.out _ (by first | exact Below.refl _ _ | exact (Below.refl _ _).drew | exact Drawn.below ⟨_,rfl⟩)
     ·have g5 : decide (v3<r)=false:=by simpa using hd
      have HB3d : Hid (ck ((ntx : Int) - r+1) ((rn : Int) - 1) ts=0→hb k=true):=fun h=>HB3k.out Hq.out (by rw [HDz.out,Hv3.out];omega) h
      have HCkk : Hid (∀ V,Below X.heap.size X V→Calls Tryz.prog 56 #[.agg #[.int .i64 P,.int .i64 M,.slice am mn cm,.int .i64 j,.slice a ntx c],.int .i64 ((ntx : Int) - r+1),.int .i64 ((rn : Int) - 1),.agg #[.slice tb tn tc]] V fun e w'=>e = .returned (.int .i64 (ck ((ntx : Int) - r+1) ((rn : Int) - 1) ts))∧Below V.heap.size V w'):=fun V hV =>
       HCk.out V _ _ tb tn tc ts (Below.next Hbw.out hV) (Htree.out.keep hV) htc
      obtain ⟨er,her⟩ : ∃ er,ck ((ntx : Int) - r+1) ((rn : Int) - 1) ts=er:=⟨_,rfl⟩
      have HB2d:=Lib.hid (HB2k.out er)
      rw [her] at HCkk HB3d HB2d
      clear her hd d0 d1 d2 d3 d4 d5 d6 d7
      by_cases h0 : er=0
      ·subst h0
       have HStn : Hid (H (k+1)=true):=HStk.out (HB3d.out rfl)
       go_wp2_with fail
       go_region_held3 (fun V=>V.cell? ⟨w.heap.size,0,none⟩=some (.int .i64 P)∧V.cell? ⟨w.heap.size,1,none⟩=some (.int .i64 M)∧V.cell? ⟨w.heap.size,2,none⟩=some (.slice am mn cm)∧V.cell? ⟨w.heap.size,3,none⟩=some (.int .i64 j)∧V.cell? ⟨w.heap.size,4,none⟩=some (.slice a ntx c)∧V.cell? ⟨w.heap.size+1,0,none⟩=some (.slice asx ntx csx)∧V.cell? ⟨w.heap.size+1,1,none⟩=some (.slice atx ntx ctx)∧V.cell? ⟨ablk atx,aoff atx+k,none⟩=some (.slice tb tn tc))
        ((refine HSr.out _ ?_;first | exact Hb5X.out.drew | exact Below.next Hb5X.out hb7))
        (first
         | (go_at_call 56;((with_reducible refine (HCkk.out _ Hb5X.out.drew).mono ?_);rintro e w6 ⟨rfl,hb6⟩;have hb7 : Below w5.heap.size w5 w6:=Below.next (Below.refl _ _).drew hb6)))
       have hbX6:=Below.next Hb5X.out hb7
       have hbm : Below w1.heap.size w1 (w6.alloc (.cells #[.int .i64 rn] 3)):=Below.next (Below.next Hbr.out hbX6) (below1 _ _)
       have hop:=own_keep Hown.out (Below.next hbX6 (below1 w6 (.cells #[.int .i64 rn] 3)))
       have hcn:=cell_new w6 (.int .i64 rn) 3
       have hs8:=hbm.size
       go_wp2_with (at_builtin;refine wpList_push rfl _ _ 22 3 rfl (.int .i64 0) 8 Tryz.underlying22 infoInt rfl w1.heap.size a1 k c1 _ rfl hop ⟨w6.heap.size,0,none⟩ 1 (.int .i64 rn) rfl hcn rfl (by omega) (by unfold maxLen;omega) hs8 ?_;intro a5 c5 w5 hown5 hgr5 hap5)
       go_roundw
       case rel =>
        refine ⟨k+1,a5,c5,by omega,?_,rfl,by rw [HWk.out];simpa using hown5,HStn.out,Below.app hbm hop hgr5 (Nat.le_refl _) hs8⟩
        have:=Hr.out
        congr 1
        omega
       case measure =>
        have:=Hr.out
        simp [intOf] <;> omega
      ·have HR : Hid (∀ V,Below X.heap.size X V→HChkPost P M mod j ntx L SS TT w (.returned (.tuple #[.slice none 0 0,.int .i64 13])) V):=fun V hV=>HRk.out V (HB2d.out rfl h0) (Below.next HU1.out hV)
       have g6 : (er != 0)=true:=by simpa using h0
       clear h0
       go_wp2_with fail
       go_region_held3 (fun V=>V.cell? ⟨w.heap.size,0,none⟩=some (.int .i64 P)∧V.cell? ⟨w.heap.size,1,none⟩=some (.int .i64 M)∧V.cell? ⟨w.heap.size,2,none⟩=some (.slice am mn cm)∧V.cell? ⟨w.heap.size,3,none⟩=some (.int .i64 j)∧V.cell? ⟨w.heap.size,4,none⟩=some (.slice a ntx c)∧V.cell? ⟨w.heap.size+1,0,none⟩=some (.slice asx ntx csx)∧V.cell? ⟨w.heap.size+1,1,none⟩=some (.slice atx ntx ctx)∧V.cell? ⟨ablk atx,aoff atx+k,none⟩=some (.slice tb tn tc))
        ((refine HSr.out _ ?_;first | exact Hb5X.out.drew | exact Below.next Hb5X.out hb7))
        (first
         | (go_at_call 56;((with_reducible refine (HCkk.out _ Hb5X.out.drew).mono ?_);rintro e w6 ⟨rfl,hb6⟩;have hb7 : Below w5.heap.size w5 w6:=Below.next (Below.refl _ _).drew hb6)))
       have HF:=Lib.hid (HR.out w6 (Below.next Hb5X.out hb7))
       go_wp2_with fail
       go_ret2
       exact HF.out
  ·obtain rfl : k=ntx:=by omega
   have g1 : decide ((k : Int)+1≤(k : Int))=false:=by simp;omega
   have HF:=Lib.hid (HOk.out a1 c1 wr Hk.out hown hbr)
   clear hown hbr
   go_wp2_with fail
   go_ret2
   exact HF.out
end

section
theorem aw29_we : witnE 2 1 [] 4 awG26 1=0:=by decide +kernel
theorem aw29_w : witS (tblOf 2 1 []).ops 4 awG26 1=[0,2]:=by decide +kernel
theorem aw29_de : dimE 2 1 [] 4 awG26=0:=by decide +kernel
theorem aw29_ws : wtsS (tblOf 2 1 []).ops 4 awG26=[2,4]:=by decide +kernel
theorem aw29_p : profS (dimsS (tblOf 2 1 []).ops 4 awG26) 4=[0,0,1,1,2]:=by decide +kernel
theorem aw29_ue : duaE [2,4] 4=0:=by decide +kernel
theorem aw29_u : duaS [2,4] 4=[2,4]:=by decide +kernel
theorem aw29_se : suE 2 1 [] 4 awG26 [0,2,3]=0:=by decide +kernel
theorem aw29_s : supS (tblOf 2 1 []) 4 awG26 [0,2,3]=[[1,0,1,0]]:=by decide +kernel
theorem aw29_f1 : firS (tblOf 2 1 []).ops awG26 4 1=[0,2]:=by decide +kernel
theorem aw29_f2 : firS (tblOf 2 1 []).ops awG26 4 2=[0,1,2,3]:=by decide +kernel
theorem aw29_r13 : rkcE 2 1 [] 4 awG26 1 3=0:=by decide +kernel
theorem aw29_b1 : bldRE 2 1 [] 4 awG26 1 3=(0,[[0],[1],[2],[3]]):=by rw [bldRE,if_pos aw29_r13,treeI];decide +kernel
theorem aw29_c0 : cerB 2 1 [] 4 awG26 0=(0,[[0,1],[1,2],[0,2]]):=by
 have h : firS (tblOf 2 (1 : Int).toNat []).ops awG26 (4 : Int).toNat (((0 : Nat) : Int)+1)=[0,2]:=aw29_f1
 unfold cerB;rw [h];exact aw26_b2
theorem aw29_c1 : cerB 2 1 [] 4 awG26 1=(0,[[0],[1],[2],[3]]):=by
 have h : firS (tblOf 2 (1 : Int).toNat []).ops awG26 (4 : Int).toNat (((1 : Nat) : Int)+1)=[0,1,2,3]:=aw29_f2
 unfold cerB;rw [h];exact aw29_b1
theorem aw29_ce : cerE 2 1 [] 4 awG26=0:=by
 unfold cerE
 rw [if_pos aw29_de]
 show cerTo 2 1 [] 4 awG26 2=0
 simp only [cerTo,aw29_c0,aw29_c1,if_true]
theorem aw29_ss : cerSS 2 1 [] 4 awG26 2=[[0,2],[0,1,2,3]]:=by
 unfold cerSS
 show [_,_]=_
 exact congr (congrArg List.cons aw29_f1) (congrArg (fun x=>[x]) aw29_f2)
theorem aw29_tt : cerTT 2 1 [] 4 awG26 2=[[[0,1],[1,2],[0,2]],[[0],[1],[2],[3]]]:=by
 unfold cerTT
 show [(cerB 2 1 [] 4 awG26 0).2,(cerB 2 1 [] 4 awG26 1).2]=_
 rw [aw29_c0,aw29_c1]
theorem aw29_h : hcE 2 1 [] 4 awG26 [[0,2],[0,1,2,3]] [[[0,1],[1,2],[0,2]],[[0],[1],[2],[3]]]=0:=by decide +kernel
theorem aw29_l : lenL [[0,2],[0,1,2,3]] 2=[2,4]:=by decide +kernel
end

section
open Go.RowKit
end

section
open Go.RowKit
section
variable {O : FOps} {El : Int→Prop} {m : Nat} {A L : List (List Int)}
end
section
variable {P M : Int} {mod : List Int} {m : Nat} {L : List (List Int)}
end
end

end Go.Proofs.YtcflcogbpnmjeaaGreat
