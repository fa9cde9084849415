/-  -/
import Derived.Test.YtcflcogbpnmjeaaGreatHSB8
import Derived.Test.YtcflcogbpnmjeaaGreatK12
import Derived.Test.YtcflcogbpnmjeaaGreatHSB1
import Derived.Test.YtcflcogbpnmjeaaGreatK20
import Derived.Test.YtcflcogbpnmjeaaGreatHSB5
import Derived.Test.YtcflcogbpnmjeaaGreatK32
import Derived.Test.YtcflcogbpnmjeaaGreatHSB2
import Derived.Test.YtcflcogbpnmjeaaGreatHSB4
namespace Go.Proofs.YtcflcogbpnmjeaaGreat
set_option linter.unusedVariables false
set_option linter.unusedSimpArgs false
set_option linter.unusedSectionVars false

section
open Go.RowKit
set_option maxRecDepth 100000 in
set_option maxHeartbeats 16000000 in
theorem hLawSub_any (P M : Int) (am : Option Addr) (mn cm : Nat) (mod : List Int) (N : Int) (a : Option Addr) (n c : Nat) (L : List (List Int)) (as' : Option Addr) (ns cs : Nat) (SS : List (List Int)) (w : World)
  (hmod : Ints w am mn mod) (hi : Mat w a n L) (hSS : Mat w as' ns SS) :
  Calls Tryz.prog 12 #[.agg #[.int .i64 P,.int .i64 M,.slice am mn cm,.int .i64 N,.slice a n c],.slice as' ns cs] w fun e w'=>e = .returned (.bool true)∧Below w.heap.size w w':=by
 have HSm : Hid (∀ V,Below w.heap.size w V→Calls Tryz.prog 27 #[.agg #[.int .i64 P,.int .i64 M,.slice am mn cm,.int .i64 N,.slice a n c]] V (SomeBool V)):=fun V hV=>rSmall29_any P M am mn cm mod N a n c L V (hmod.keep hV) (hi.keep hV)
 have HCk:=Lib.hid (fun V (hV : Below w.heap.size w V)=>rCheck_any P M am mn cm mod N a n c L V (hmod.keep hV) (hi.keep hV))
 have Hln:=Lib.hid hi.len
 have Hlns:=Lib.hid hSS.len
 have hplS:=hSS.pl
 have Hmi:=Lib.hid (And.intro hmod (And.intro hi hSS))
 clear hmod hi hSS
 go_enter Tryz.func12,Tryz.ntmps12
 go_wp2_with fail
 obtain ⟨W,hW⟩ : ∃ W : World,W=w.alloc (.cells #[.int .i64 P,.int .i64 M,.slice am mn cm,.int .i64 N,.slice a n c] 27):=⟨_,rfl⟩
 rw [← hW]
 have hbW : Below w.heap.size w W:=by rw [hW];exact below1 _ _
 have x0 : Box W w.heap.size [.int .i64 P,.int .i64 M,.slice am mn cm,.int .i64 N,.slice a n c]:=by rw [hW];exact Box.new _ _ _ rfl
 have HS : Hid (∀ V,Below W.heap.size W V→V.cell? ⟨w.heap.size,0,none⟩=some (.int .i64 P)∧V.cell? ⟨w.heap.size,1,none⟩=some (.int .i64 M)∧V.cell? ⟨w.heap.size,2,none⟩=some (.slice am mn cm)∧V.cell? ⟨w.heap.size,3,none⟩=some (.int .i64 N)∧V.cell? ⟨w.heap.size,4,none⟩=some (.slice a n c)):=fun V hV=>by
  have x1:=x0.keep hV
  exact ⟨x1.cell 0 rfl,x1.cell 1 rfl,x1.cell 2 rfl,x1.cell 3 rfl,x1.cell 4 rfl⟩
 have HbW:=Lib.hid hbW
 clear hW x0 hbW
 refine (awake29_any W).mono ?_
 rintro e w1 ⟨rfl,hb1⟩
 obtain ⟨c0,c1,c2,c3,c4⟩:=HS.out w1 hb1
 go_wp2_with fail
 refine (HSm.out w1 (Below.next HbW.out hb1)).mono ?_
 rintro e w2 ⟨z,rfl,hb2⟩
 have hB2:=Below.next hb1 hb2
 clear c0 c1 c2 c3 c4
 cases z
 ·go_wp2_with fail
  refine (awake29_any w2).mono ?_
  rintro e w3 ⟨rfl,hb3⟩
  have hF:=Below.next HbW.out (Below.next hB2 hb3)
  go_wp2_with fail
  go_ret
  exact ⟨rfl,hF⟩
 obtain ⟨c0,c1,c2,c3,c4⟩:=HS.out w2 hB2
 by_cases h9 : 9<N
 ·have d1 : decide ((9 : Int)<N)=true:=by simpa using h9
  clear h9
  go_wp2_with fail
  refine (awake29_any w2).mono ?_
  rintro e w4 ⟨rfl,hb4⟩
  have hF:=Below.next HbW.out (Below.next hB2 hb4)
  go_wp2_with fail
  go_ret
  exact ⟨rfl,hF⟩
 have d1 : decide ((9 : Int)<N)=false:=by simpa using h9
 have H9:=Lib.hid h9
 have Hck:=Lib.hid (HCk.out w2 (Below.next HbW.out hB2))
 clear h9
 go_wp2_with fail
 refine Hck.out.mono ?_
 rintro e w3 ⟨rfl,hb3⟩
 have hB3:=Below.next hB2 hb3
 clear c0 c1 c2 c3 c4 Hck HCk hb1 hb2 hb3
 by_cases hE : codeE P M mod N L=0
 rotate_left
 ·have hE2 : (codeE P M mod N L != 0)=true:=by simpa using hE
  clear hE
  generalize codeE P M mod N L=er at *
  go_wp2_with fail
  refine (awake29_any w3).mono ?_
  rintro e w4 ⟨rfl,hb4⟩
  have hF:=Below.next HbW.out (Below.next hB3 hb4)
  go_wp2_with fail
  go_ret
  exact ⟨rfl,hF⟩
 rw [hE]
 obtain ⟨m,rfl,hm1,hm64,F,hR⟩:=codeE_fld hE
 obtain ⟨c0,c1,c2,c3,c4⟩:=HS.out w3 hB3
 by_cases hs9 : 9<ns
 ·have d2 : decide ((9 : Int)<(ns : Int))=true:=by simp;omega
  clear hs9 hE
  go_wp2_with fail
  refine (awake29_any w3).mono ?_
  rintro e w4 ⟨rfl,hb4⟩
  have hF:=Below.next HbW.out (Below.next hB3 hb4)
  go_wp2_with fail
  go_ret
  exact ⟨rfl,hF⟩
 have d2 : decide ((9 : Int)<(ns : Int))=false:=by simp;omega
 have hm9 : m≤9:=by have:=H9.out;omega
 have hns9 : ns≤9:=by omega
 have hmn : mn≤1000000:=by have h:=mod_len (codeE_zero hE).1;rw [Hmi.out.1.len] at h;omega
 have hn256 : n≤256:=by rw [← Hln.out];exact (codeE_rws hE).choose_spec.2.2.2.1
 have hq : ((tblOf P M.toNat mod).q : Int)=orderS P M:=by
  obtain ⟨m0,rfl,_,h,_⟩:=eq_ops (codeE_zero hE).1
  rw [Int.toNat_natCast];exact h
 have H1 : Hid (∀ V,Below w.heap.size w V→Calls Tryz.prog 28 #[.agg #[.int .i64 P,.int .i64 M,.slice am mn cm,.int .i64 m,.slice a n c]] V (PairU 0 (wtsR (tblOf P M.toNat mod).ops L m L.length) V)):=fun V hV=>by
  have h:=weights_u P M am mn cm mod m a n c L V (Hmi.out.1.keep hV) (Hmi.out.2.1.keep hV)
  rw [dimE_small hE (by omega),wtsX_small hE (by omega)] at h
  exact h
 have HLi : Hid (∀ V ra rn rc l,Ints V ra rn l→Calls Tryz.prog 22 #[.agg #[.int .i64 P,.int .i64 M,.slice am mn cm],.slice ra rn rc,.int .i64 n] V fun e w'=>e = .returned (.int .i64 (lstE (orderS P M) l n))∧Below V.heap.size V w'):=fun V ra rn rc l h=>rList12_any P M am mn cm ra rn rc l n V h
 have HEn : Hid (∀ V ra rn rc l,Below w.heap.size w V→Ints V ra rn l→lstE (orderS P M) l n=0→Calls Tryz.prog 50 #[.agg #[.int .i64 P,.int .i64 M,.slice am mn cm,.int .i64 m,.slice a n c],.slice ra rn rc] V fun e w'=>Below V.heap.size V w' ∧
   ∃ a1 c1,e = .returned (.tuple #[.slice a1 m c1,.int .i64 0])∧w'.ownsRow V.heap.size 3 1 (.slice a1 m c1) m ((cmbTo (tblOf P M.toNat mod).ops m l L n).map (Value.int .i64))):=fun V ra rn rc l hV h h0=>by
  refine (encodeO_any P M am mn cm mod m a n c L ra rn rc l V (Hmi.out.1.keep hV) (Hmi.out.2.1.keep hV) h hE (Nat.le_refl V.heap.size)).mono ?_
  rw [← hq] at h0
  rintro e w' ⟨hb,⟨h1,_⟩ | ⟨_,a1,c1,rfl,ho⟩⟩
  ·exact absurd h0 h1
  ·exact ⟨hb,a1,c1,rfl,ho⟩
 have HNew : Hid (∀ V a1 k c1 WW,Below w.heap.size w V→Mat V a1 k WW→Rws (tblOf P M.toNat mod).El m WW→WW.length≤9→Calls Tryz.prog 51 #[.agg #[.int .i64 P,.int .i64 M,.slice am mn cm],.agg #[.int .i64 m,.slice a1 k c1]] V (CNewPost P M mod m WW V)):=fun V a1 k c1 WW hV h hWr hWl =>
  codeNew_any P M am mn cm mod m a1 k c1 WW V (Hmi.out.1.keep hV) h (fmat_of (codeE_zero hE).1 hWr (by omega) (by omega)) hm1 hm64 hmn
 have HLaw:=Lib.hid (fun (W : List (List Int)) hW=>sub_law hE (W:=W) hW)
 have HLst : Hid (∀ l,lstE (orderS P M) l n=0→Vc (tblOf P M.toNat mod).El m (cmbTo (tblOf P M.toNat mod).ops m l L n)∧RS (tblOf P M.toNat mod).ops (tblOf P M.toNat mod).El m L (fun i=>nth (cmbTo (tblOf P M.toNat mod).ops m l L n) i)):=fun l h=>by
  rw [← hq] at h
  obtain ⟨h1,h2⟩:=els_nth h
  have h3:=Hln.out
  exact cmb_rs F hR (x:=l) (fun k hk=>h2 k (by omega)) n (by omega)
 have HX:=Lib.hid (wtsR_len (tblOf P M.toNat mod).ops L m L.length)
 have Hcn : Hid (∀ W,Rws (tblOf P M.toNat mod).El m W→Rws (tblOf P M.toNat mod).El m (canS (tblOf P M.toNat mod) W m)):=fun W h=>canO_rws F h
 clear hE hq F hR hmn hs9
 generalize wtsR (tblOf P M.toNat mod).ops L m L.length=X at *
 go_wp2_with fail
 refine (H1.out w3 (Below.next HbW.out hB3)).mono ?_
 rintro e w5 ⟨hb5,ad,nd,cd,rfl,hd⟩
 obtain rfl : nd=n:=by rw [← hd.len,HX.out];exact Hln.out
 have hB5:=Below.next hB3 hb5
 have Hd:=Lib.hid hd
 have hpld:=hd.pl
 have hne : ((nd : Int) != nd)=false:=by simp
 clear c0 c1 c2 c3 c4 H1 hb5 hd
 obtain ⟨c0,c1,c2,c3,c4⟩:=HS.out w5 hB5
 go_upto_region 6 with fail
 obtain ⟨g,hg⟩ : ∃ g,w5.heap.size=g:=⟨_,rfl⟩
 have HG:=Lib.hid hg
 clear hg
 go_cut [7] (fun v wx=>v = .pointer (some ⟨w5.heap.size,0,none⟩)∧MOut wx w5.heap.size (.int .i64 m) none 0 0 [] []∧Below w5.heap.size w5 wx)
 case first =>
  go_wp2_with fail
  go_meet
  exact ⟨rfl,MOut.start (Box.new w5 [.int .i64 m,.slice none 0 0] _ rfl),below1 _ _⟩
 obtain ⟨rfl,hO0,hbc⟩:=hcut
 generalize wc=U at *
 have hs3:=HG.out
 have hBU:=Below.next hB5 hbc
 have HBU:=Lib.hid hBU
 have Hdk : Hid (∀ V,Below g w5 V→Ints V ad nd X):=fun V hV=>Hd.out.keep (by rw [hs3];exact hV)
 rw [hs3] at hO0 hbc ⊢
 have HU:=Lib.hid hbc
 have hgU:=hO0.lt
 have hgW : W.heap.size≤g:=by have:=hB5.size;omega
 clear c0 c1 c2 c3 c4 hbc hs3 hBU
 go_wp2_with fail
 go_loopw [60] (fun iv wr=>∃ (k : Nat) (a1 : Option Addr) (c1 : Nat) (Rr : List (Option Addr × Nat)),k≤ns∧iv = .int .i64 k∧MOut wr g (.int .i64 m) a1 k c1 Rr ((SS.take k).map fun x=>cmbTo (tblOf P M.toNat mod).ops m x L nd)∧Hid (∀ i,i<k→lstE (orderS P M) (nthR SS i) nd=0)∧Below g U wr) (fun iv _=>ns - (intOf iv).toNat)
 case atStart=>exact ⟨0,none,0,[],Nat.zero_le _,rfl,by simpa using hO0,fun i hi=>by omega,Below.refl _ _⟩
 case round =>
  clear hO0
  obtain ⟨k,a1,c1,Rr,hk,rfl,hO,hel,hbr⟩:=hrel
  have hbWr:=Below.trans HBU.out (hbr.mono hgW)
  have hbwr:=Below.next HbW.out hbWr
  obtain ⟨d0,d3,d4,d5,d6⟩:=HS.out wr hbWr
  have hgr:=hO.lt
  generalize wr=V at *
  by_cases hlt : k<ns
  ·obtain ⟨ra,rn,rc,hcell,hrow⟩:=(Hmi.out.2.2.keep hbwr).cell k hlt
   have Htk : Hid ((SS.take (k+1)).map (fun x=>cmbTo (tblOf P M.toNat mod).ops m x L nd)=(SS.take k).map (fun x=>cmbTo (tblOf P M.toNat mod).ops m x L nd) ++ [cmbTo (tblOf P M.toNat mod).ops m (nthR SS k) L nd]):=by
    show _=_
    rw [List.take_succ_eq_append_getElem (by rw [Hlns.out];exact hlt),List.map_append,nthR_getElem (by rw [Hlns.out];exact hlt)];rfl
   have Hst : Hid (lstE (orderS P M) (nthR SS k) nd=0→∀ i,i<k+1→lstE (orderS P M) (nthR SS i) nd=0):=fun h i hi=>by
    by_cases e : i=k
    ·rw [e];exact h
    ·exact hel.out i (by omega)
   obtain ⟨l,hl⟩ : ∃ l,nthR SS k=l:=⟨_,rfl⟩
   rw [hl] at Htk hrow Hst
   have hplr:=hrow.pl
   clear hl
   by_cases h64 : 64<rn
   ·have d8 : decide ((64 : Int)<(rn : Int))=true:=by simp;omega
    clear h64
    go_wp2_with fail
    go_ret
    exact ⟨rfl,hbwr⟩
   have d8 : decide ((64 : Int)<(rn : Int))=false:=by simp;omega
   clear h64
   have Hli:=Lib.hid (HLi.out V ra rn rc l hrow)
   go_wp2_with fail
   refine Hli.out.mono ?_
   rintro e w6 ⟨rfl,hb6⟩
   have hF6:=Below.next hbwr hb6
   have hBW6:=Below.next hbWr hb6
   clear d0 d3 d4 d5 d6 Hli
   by_cases hz : lstE (orderS P M) l nd=0
   rotate_left
   ·have hz2 : (lstE (orderS P M) l nd != 0)=true:=by simpa using hz
    clear hz
    generalize lstE (orderS P M) l nd=er at *
    go_wp2_with fail
    go_ret
    exact ⟨rfl,hF6⟩
   have hel2:=Hst.out hz
   have Hen:=Lib.hid (HEn.out w6 ra rn rc l hF6 (hrow.keep hb6) hz)
   have Hel2:=Lib.hid hel2
   rw [hz]
   have hzz:=(HLst.out l hz).1.1
   obtain ⟨Y,hY⟩ : ∃ Y,cmbTo (tblOf P M.toNat mod).ops m l L nd=Y:=⟨_,rfl⟩
   rw [hY] at Hen Htk hzz
   have HYl:=Lib.hid hzz
   obtain ⟨d0,d3,d4,d5,d6⟩:=HS.out w6 hBW6
   have hO6:=hO.keep hb6
   have HO:=Lib.hid hO
   clear hz hY hel hel2 Hst hrow hcell hO hzz
   go_wp2_with fail
   refine Hen.out.mono ?_
   rintro e w7 ⟨hb7,a5,c5,rfl,hown⟩
   have hs:=hO6.keep hb7
   have hOk:=hs.om.keep (below1 w7 (.cells #[.slice a5 m c5] 22))
   have hcp:=hs.c1
   have hgs:=hs.lt
   clear d0 d3 d4 d5 d6 Hen
   go_wp2_with (at_builtin;refine wpList_push rfl _ _ 25 22 rfl (.slice none 0 0) 24 Tryz.underlying25 infoInts rfl (g+1) a1 k c1 _ rfl hOk.own ⟨w7.heap.size,0,none⟩ 1 (.slice a5 m c5) rfl (cell_new w7 _ _) rfl (by omega) (by unfold maxLen;omega) (by simp;omega) ?_;intro a6 c6 w8 hown6 hgr6 hap6;have hk6:=(hs.pushed hgr6).2.1;have hf6:=(hs.pushed hgr6).2.2)
   go_roundw
   case rel =>
    have hra : a5 ≠ none→¬ OIn a1 Rr (ablk a5):=fun h0 hI=>by
     have h1:=(own_ne hown h0).1
     have h2:=(HO.out.om.lt _ hI).2
     have h3:=hb6.size
     omega
    obtain ⟨hP,hbP⟩:=hs.push HYl.out (own_mono hown (by have:=hb6.size;omega)) hra hown6 hgr6 hap6
    exact ⟨k+1,a6,c6,_,by omega,by go_num,by rw [Htk.out];exact hP,Hel2.out,Below.trans hbr ((Below.next hb6 hb7).mono (by omega) |>.trans (hbP.mono (Nat.le_refl _)))⟩
   case measure=>simp [intOf] <;> omega
  ·obtain rfl : k=ns:=by omega
   rw [List.take_of_length_le (by rw [Hlns.out];exact Nat.le_refl _)] at hO
   have hWr : ∀ r ∈ SS.map (fun x=>cmbTo (tblOf P M.toNat mod).ops m x L nd),Vc (tblOf P M.toNat mod).El m r∧RS (tblOf P M.toNat mod).ops (tblOf P M.toNat mod).El m L (fun i=>nth r i):=fun r hr=>by
    obtain ⟨l,hl,rfl⟩:=List.mem_map.1 hr
    obtain ⟨j,hj,rfl⟩:=List.mem_iff_getElem.1 hl
    have h:=hel.out j (by rw [← Hlns.out];exact hj)
    rw [nthR_getElem hj] at h
    exact HLst.out _ h
   obtain ⟨hle,hwt⟩:=HLaw.out _ hWr
   have hDr:=Hcn.out _ fun r hr=>(hWr r hr).1
   have Hnw:=Lib.hid (HNew.out V a1 k c1 _ hbwr hO.om.mat (fun r hr=>(hWr r hr).1) (by rw [List.length_map,Hlns.out];omega))
   unfold CNewPost at Hnw
   generalize canS (tblOf P M.toNat mod) (SS.map fun x=>cmbTo (tblOf P M.toNat mod).ops m x L nd) m=D at *
   rw [Hln.out] at hle
   obtain ⟨q,hq⟩ : ∃ q,D.length=q:=⟨_,rfl⟩
   rw [hq] at hle hwt Hnw
   have Hq:=Lib.hid hq
   have Hwt:=Lib.hid hwt
   have HDr:=Lib.hid hDr
   have Hdd : Hid (∀ V2,Below V.heap.size V V2→Ints V2 ad nd X):=fun V2 h2=>Hdk.out V2 (Below.trans HU.out (Below.trans hbr (h2.mono (Nat.le_of_lt hgr))))
   have g0:=hO.c0
   have g1:=hO.c1
   clear hO hel hWr hwt hDr hq HNew HEn HLi HLaw HLst Hcn
   go_wp2_with fail
   refine Hnw.out.mono ?_
   rintro e w6 ⟨a6,c6,a7,c7,rfl,_,hN2,hb6⟩
   obtain ⟨nm,hnm⟩ : ∃ nm,mod.length=nm:=⟨_,rfl⟩
   rw [hnm]
   have t4:=below1 w6 (.cells #[.int .i64 P,.int .i64 M,.slice a6 nm c6,.int .i64 m,.slice a7 q c7] 27)
   have y4 : Box (w6.alloc (.cells #[.int .i64 P,.int .i64 M,.slice a6 nm c6,.int .i64 m,.slice a7 q c7] 27)) w6.heap.size [.int .i64 P,.int .i64 M,.slice a6 nm c6,.int .i64 m,.slice a7 q c7]:=Box.new _ _ _ rfl
   have hB7:=Below.next hbWr (Below.next hb6 t4)
   have hDm:=hN2.mat.keep t4
   have hplD:=hDm.pl
   have HP : Hid (∀ V2,Below (w6.alloc (.cells #[.int .i64 P,.int .i64 M,.slice a6 nm c6,.int .i64 m,.slice a7 q c7] 27)).heap.size (w6.alloc (.cells #[.int .i64 P,.int .i64 M,.slice a6 nm c6,.int .i64 m,.slice a7 q c7] 27)) V2→V2.cell? ⟨w6.heap.size,4,none⟩=some (.slice a7 q c7)∧Mat V2 a7 q D):=fun V2 hV=>⟨(y4.keep hV).cell 4 rfl,hDm.keep hV⟩
   have d9 : decide ((nd : Int)<(q : Int))=false:=by simp;omega
   obtain ⟨d0,d3,d4,d5,d6⟩:=HS.out _ hB7
   have q4:=y4.cell 4 rfl
   clear g0 g1 hnm hDm hN2 y4
   go_wp2_with fail
   obtain ⟨w8,hw8⟩ : ∃ w8,w6.alloc (.cells #[.int .i64 P,.int .i64 M,.slice a6 nm c6,.int .i64 m,.slice a7 q c7] 27)=w8:=⟨_,rfl⟩
   rw [hw8] at HP hB7 t4 ⊢
   clear hw8 d0 d3 d4 d5 d6 q4
   go_loopw [13,111] (fun sv iv wr=>∃ i : Nat,i≤m∧iv = .int .i64 i∧sv = .int .i64 ((supTo D i).length : Nat)∧Below w8.heap.size w8 wr) (fun _ iv _=>m - (intOf iv).toNat)
   case atStart=>exact ⟨0,Nat.zero_le _,rfl,rfl,Below.refl _ _⟩
   case round =>
    obtain ⟨i,hi,rfl,rfl,hbr2⟩:=hrel
    generalize wr=V3 at *
    obtain ⟨s4,hD3⟩:=HP.out V3 hbr2
    obtain ⟨sl,hsl⟩ : ∃ sl,(supTo D i).length=sl:=⟨_,rfl⟩
    have hsl9 : sl≤9:=by have:=supTo_len D i;omega
    by_cases hlt2 : i<m
    ·have Hyes : Hid (anyR D i=true→(supTo D (i+1)).length=sl+1):=fun h=>by rw [supTo,if_pos h,List.length_append,List.length_singleton,hsl]
     have Hno : Hid (anyR D i=false→(supTo D (i+1)).length=sl):=fun h=>by rw [supTo,if_neg (by rw [h];decide),hsl]
     rw [hsl]
     clear hsl hD3
     go_wp2_with fail
     go_loopw [13,117] (fun sv jv ws=>∃ j : Nat,j≤q∧jv = .int .i64 j∧sv = .int .i64 (sl : Nat)∧Hid (∀ t,t<j→nth (nthR D t) i=0)∧Below V3.heap.size V3 ws) (fun _ jv _=>q - (intOf jv).toNat)
     case atStart=>exact ⟨0,Nat.zero_le _,rfl,rfl,fun t ht=>by omega,Below.refl _ _⟩
     case round =>
      clear s4
      obtain ⟨j,hj,rfl,rfl,hall,hbj⟩:=hrel
      generalize wr=V4 at *
      have hB4:=Below.next hbr2 hbj
      obtain ⟨s4,hD4⟩:=HP.out V4 hB4
      by_cases hltj : j<q
      ·obtain ⟨rb,rm,rk,hcR,hRw⟩:=hD4.cell j hltj
       have hrm : rm=m:=by rw [← hRw.len];exact (HDr.out.row (by rw [Hq.out];exact hltj)).1
       rw [hrm] at hcR hRw
       have hplr2:=hRw.pl
       have hce:=hRw.cell i hlt2
       have d10 : decide (i<m)=true:=by simpa using hlt2
       by_cases hz : nth (nthR D j) i=0
       ·have hz' : (nth (nthR D j) i != 0)=false:=by simpa using hz
        have Hz:=Lib.hid hz
        clear hz hD4 hRw
        go_wp2_with fail
        go_roundw
        case rel=>exact ⟨j+1,by omega,by go_num,rfl,fun t ht=>by
         rcases Nat.lt_or_ge t j with h | h
         ·exact hall.out t h
         ·rw [show t=j by omega];exact Hz.out,hbj⟩
        case measure=>simp [intOf] <;> omega
       ·have hz' : (nth (nthR D j) i != 0)=true:=by simpa using hz
        have Hy:=Lib.hid (Hyes.out (by unfold anyR;exact List.any_eq_true.2 ⟨nthR D j,nthR_mem (by rw [Hq.out];exact hltj),hz'⟩))
        clear hz hD4 hRw
        go_wp2_with fail
        go_roundw
        case rel=>exact ⟨i+1,by omega,by go_num,by rw [Hy.out];go_num,hB4⟩
        case measure=>simp [intOf] <;> omega
      ·obtain rfl : j=q:=by omega
       have Hn : Hid ((supTo D (i+1)).length=sl):=Hno.out (by
        unfold anyR
        rw [List.any_eq_false]
        intro r hr
        obtain ⟨t,ht,rfl⟩:=List.mem_iff_getElem.1 hr
        have h:=hall.out t (by rw [← Hq.out];exact ht)
        rw [nthR_getElem ht] at h
        simpa using h)
       clear hD4
       go_wp2_with fail
       go_roundw
       case rel=>exact ⟨i+1,by omega,by go_num,by rw [Hn.out],hB4⟩
       case measure=>simp [intOf] <;> omega
    ·obtain rfl : i=m:=by omega
     have hF:=Below.next HbW.out (Below.next hB7 hbr2)
     have hdF:=Hdd.out V3 (Below.next (Below.next hb6 t4) hbr2)
     rw [hsl]
     rcases Nat.eq_zero_or_pos q with hq0 | hq0
     ·subst hq0
      clear hsl hD3 hdF
      go_wp2_with fail
      go_ret
      exact ⟨rfl,hF⟩
     ·have hw:=Hwt.out hq0
      obtain ⟨t,rfl⟩ : ∃ t,q=t+1:=⟨q - 1,by omega⟩
      rw [Nat.add_sub_cancel,hsl] at hw
      have hct:=hdF.cell t (by omega)
      have d11 : decide (nth X t≤(sl : Int))=true:=by simpa using hw
      have e1 : (((t : Int)+1) == 0)=false:=by simp;omega
      have hti : (t : Int)<(nd : Int):=by omega
      have htn : t<nd:=by omega
      have kw : IntKind.i64.wrap (t : Int)=t:=IntWalk.i64_in _ (by omega)
      clear hsl hD3 hdF hw
      go_wp2_with fail
      go_ret
      exact ⟨rfl,hF⟩
end

section
open Go.ChangeShapes Go.WideShapes Go.ChangeAt Go.RowKit
section
variable {H : Type} {enc : TypeId × Value→H} {W : World} {held : Bool} {fuel : Nat} {cs : List Value} {x : DataW H × List MemPlace}
end
section
variable {H : Type} {enc : TypeId × Value→H} {W : World} {held : Bool} {b0 : Nat} {v : Value} {d : DataW H} {p : List MemPlace}
set_option maxRecDepth 100000 in
theorem arg_mat (hv : Value.okWide Tryz.prog W .any b0 25 v) (h : DataW.Trod enc Tryz.prog W 0 (fun _=>true) held 25 v d p) : ∃ a n c L,v = .slice a n c∧Mat W a n L:=by
 obtain ⟨a,n,c,rfl⟩:=okWide_slice Tryz.underlying25 hv
 obtain ⟨fuel,hf⟩:=h
 obtain ⟨a',n',c',l,e,hi⟩:=opened_mat hf
 simp [Value.cells] at e
 obtain ⟨rfl,rfl,rfl⟩:=e
 exact ⟨_,_,_,l,rfl,hi⟩
end
end

end Go.Proofs.YtcflcogbpnmjeaaGreat
