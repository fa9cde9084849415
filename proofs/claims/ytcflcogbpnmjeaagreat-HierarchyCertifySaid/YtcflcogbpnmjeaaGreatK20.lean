/-  -/
import Derived.Test.YtcflcogbpnmjeaaGreatK18
import Derived.Test.YtcflcogbpnmjeaaGreatK17
import Derived.Test.YtcflcogbpnmjeaaGreatK15
import Derived.Test.YtcflcogbpnmjeaaGreatK11
import Derived.Test.YtcflcogbpnmjeaaGreatK6
import Derived.Test.YtcflcogbpnmjeaaGreatK12
import Derived.Test.YtcflcogbpnmjeaaGreatK9
import Derived.Test.YtcflcogbpnmjeaaGreatK8
import Derived.RangeFuncNested
namespace Go.Proofs.YtcflcogbpnmjeaaGreat
set_option linter.unusedVariables false
set_option linter.unusedSimpArgs false
set_option linter.unusedSectionVars false

section
open Go.RowKit
def prfL (b : Nat) (P M : Int) (am : Option Addr) (mn cm : Nat) (m : Nat) (a : Option Addr) (n c : Nat) (ay : Option Addr) (ny cy : Nat) (C : Clm) (sv : Value) (k : Nat) : List Value :=
 [.pointer (some ⟨b,0,none⟩),.int .i64 P,.int .i64 M,.slice am mn cm,.int .i64 m,.slice a n c,.slice ay ny cy,.bool C.cos,.int .i64 C.M,.int .i64 C.W,sv,.int .i64 k]
structure PEnv (w0 : World) (b : Nat) (G : Tbl) (a : Option Addr) (n : Nat) (L : List (List Int)) (m : Nat) (ay : Option Addr) (ny : Nat) (C : Clm) : Prop where
 g : GFw w0 b G
 mat : Mat w0 a n L
 rws : Rws G.El m L
 n6 : n≤1000000
 m6 : m≤64
 w6 : C.W≤64
 yl : C.cos=true→ny=m
 y : C.cos=true→Ints w0 ay m C.y
 ye : C.cos=true→G.Els C.y
theorem outS_nil (m : Nat) (s : List Int) : outS m s []=frTo false s m:=by
 unfold outS
 rw [List.append_nil,show sortL []=[] by unfold sortL;simp]
 rfl
theorem Box.setCell {w : World} {b : Nat} {cs : List Value} (h : Box w b cs) (i : Nat) (v : Value) : Box (w.setCell ⟨b,i,none⟩ v) b (cs.set i v):=by
 refine ⟨by simpa using h.1,fun j u hu=>?_,fun j=>by rw [World.frozen?_setCell];exact h.2.2 j⟩
 by_cases e : j=i
 ·subst e
  by_cases hl : j<cs.length
  ·rw [List.getElem?_set_self hl] at hu
   cases hu
   exact World.cell?_setCell_same _ _ _ (h.2.1 j cs[j] (List.getElem?_eq_getElem hl))
  ·rw [List.set_eq_of_length_le (by omega),List.getElem?_eq_none (by omega)] at hu
   cases hu
 ·rw [List.getElem?_set_ne (by omega)] at hu
  rw [World.cell?_setCell_other _ _ _ _ (by simp <;> omega)]
  exact h.2.1 j u hu
theorem okSet_rng {m : Nat} {t : List Int} (h : okSet m t=true) : ∀ k,k<t.length→0≤nth t k∧nth t k<m:=fun _ hk=>⟨(okSet_at h hk).1,(okSet_at h hk).2.1⟩
end

section
section
variable {m : Nat} {Q : List Int}
end
end

section
open Go.RowKit
def CNewPost (P M : Int) (mod : List Int) (m : Nat) (L : List (List Int)) (w : World) (e : Ending) (w' : World) : Prop :=
 ∃ a1 c1 a2 c2,e = .returned (.tuple #[.agg #[.int .i64 P,.int .i64 M,.slice a1 mod.length c1,.int .i64 m,.slice a2 (canS (tblOf P M.toNat mod) L m).length c2],.int .i64 0])∧IntsN w.heap.size w' a1 mod.length mod ∧
  MatN w.heap.size w' a2 (canS (tblOf P M.toNat mod) L m).length (canS (tblOf P M.toNat mod) L m)∧Below w.heap.size w w'
set_option maxRecDepth 100000 in
set_option maxHeartbeats 4000000 in
theorem codeNew_any (P M : Int) (am : Option Addr) (mn cm : Nat) (mod : List Int) (m : Nat) (a : Option Addr) (n c : Nat) (L : List (List Int)) (w : World) (hmod : Ints w am mn mod) (hi : Mat w a n L)
  (hE : fmatE P M mod m L=0) (hm1 : 1≤m) (hm64 : m≤64) (hmn : mn≤1000000) :
  Calls Tryz.prog 51 #[.agg #[.int .i64 P,.int .i64 M,.slice am mn cm],.agg #[.int .i64 m,.slice a n c]] w (CNewPost P M mod m L w):=by
 go_enter Tryz.func51,Tryz.ntmps51
 go_upto_region 1 with fail
 obtain ⟨W,hW⟩ : ∃ W : World,W=((w.alloc (.cells #[.int .i64 P,.int .i64 M,.slice am mn cm] 24)).alloc (.cells #[.int .i64 m,.slice a n c] 73)).alloc (.cells #[.int .i64 0,.int .i64 0,.slice none 0 0,.int .i64 0,.slice none 0 0] 27):=⟨_,rfl⟩
 rw [← hW]
 have hbW : Below w.heap.size w W:=by rw [hW];exact below3 _ _ _ _
 have hsW : W.heap.size=w.heap.size+3:=by rw [hW];simp
 have x0 : Box W w.heap.size [.int .i64 P,.int .i64 M,.slice am mn cm]:=by rw [hW];exact ((Box.new _ _ _ rfl).alloc _).alloc _
 have y0 : Box W (w.heap.size+1) [.int .i64 m,.slice a n c]:=by rw [hW];exact (Box.new _ _ _ (by simp)).alloc _
 have z0 : Box W (w.heap.size+1+1) [.int .i64 0,.int .i64 0,.slice none 0 0,.int .i64 0,.slice none 0 0]:=by rw [hW];exact Box.new _ _ _ (by simp)
 clear hW
 have HC : Hid (Calls Tryz.prog 99 #[.agg #[.int .i64 P,.int .i64 M,.slice am mn cm],.agg #[.int .i64 m,.slice a n c]] W fun e w'=>Below W.heap.size W w'∧∃ a2 c2 ap cp,e = .returned (.tuple #[.agg #[.int .i64 m,.slice a2 (canS (tblOf P M.toNat mod) L m).length c2],.slice ap (canS (tblOf P M.toNat mod) L m).length cp,.int .i64 0]) ∧
   MatN W.heap.size w' a2 (canS (tblOf P M.toNat mod) L m).length (canS (tblOf P M.toNat mod) L m)):=by
  refine (canonical_any P M am mn cm mod m a n c L W (hmod.keep hbW) (hi.keep hbW)).mono ?_
  rintro e w1 ⟨hb1,⟨h0,_⟩ | ⟨_,m',hm',a1,c1,ap,cp,rfl,hN1,_⟩⟩
  ·exact absurd hE h0
  ·obtain rfl : m=m':=by omega
   rw [← canS_length] at hN1 ⊢
   exact ⟨hb1,a1,c1,ap,cp,rfl,hN1⟩
 have HO : Hid (∀ V a5 k5 c5,Below W.heap.size W V→Calls Tryz.prog 96 #[.agg #[.int .i64 P,.int .i64 M,.slice am mn cm],.agg #[.int .i64 m,.slice a5 k5 c5],.int .i64 0] V (OfPost P M mod m a5 k5 c5 V)):=fun V a5 k5 c5 hV =>
  of_any P M am mn cm mod m a5 k5 c5 V (hmod.keep (Below.next hbW hV)) hmn
 have HPost : Hid (∀ a1 c1 a2 c2 w',IntsN w.heap.size w' a1 mod.length mod→MatN w.heap.size w' a2 (canS (tblOf P M.toNat mod) L m).length (canS (tblOf P M.toNat mod) L m)→Below w.heap.size w w' →
   CNewPost P M mod m L w (.returned (.tuple #[.agg #[.int .i64 P,.int .i64 M,.slice a1 mod.length c1,.int .i64 m,.slice a2 (canS (tblOf P M.toNat mod) L m).length c2],.int .i64 0])) w'):=fun a1 c1 a2 c2 w' h1 h2 h3=>⟨a1,c1,a2,c2,rfl,h1,h2,h3⟩
 have Hle : Hid (lenE (m : Int)=0):=lenE_in (by omega) (by omega)
 obtain ⟨KM,hKM⟩ : ∃ KM,canS (tblOf P M.toNat mod) L m=KM:=⟨_,rfl⟩
 rw [hKM] at HC HPost
 have hS : ∀ V,Below W.heap.size W V→V.cell? ⟨w.heap.size,0,none⟩=some (.int .i64 P)∧V.cell? ⟨w.heap.size,1,none⟩=some (.int .i64 M)∧V.cell? ⟨w.heap.size,2,none⟩=some (.slice am mn cm)∧V.cell? ⟨w.heap.size+1,0,none⟩=some (.int .i64 m)∧V.cell? ⟨w.heap.size+1,1,none⟩=some (.slice a n c) ∧
   Box V (w.heap.size+1+1) [.int .i64 0,.int .i64 0,.slice none 0 0,.int .i64 0,.slice none 0 0]:=fun V hV=>by
  have x1:=x0.keep hV
  have y1:=y0.keep hV
  exact ⟨x1.cell 0 rfl,x1.cell 1 rfl,x1.cell 2 rfl,y1.cell 0 rfl,y1.cell 1 rfl,z0.keep hV⟩
 have HS:=Lib.hid hS
 have HbW:=Lib.hid hbW
 have HsW:=Lib.hid hsW
 obtain ⟨q,hq⟩ : ∃ q,KM.length=q:=⟨_,rfl⟩
 rw [hq] at HC HPost
 clear hE hKM hS x0 y0 z0 hbW hsW hmod hi hq
 go_cut [6,7,8] (fun v6 v7 v8 wx=>∃ g a5 c5,v6 = .pointer (some ⟨g,0,none⟩)∧v8 = .int .i64 0∧wx.cell? ⟨g,0,none⟩=some (.int .i64 m)∧wx.cell? ⟨g,1,none⟩=some (.slice a5 q c5)∧MatN W.heap.size wx a5 q KM∧Below W.heap.size W wx)
 case first =>
  obtain ⟨c0,c1,c2,c3,c4,_⟩:=HS.out W (Below.refl _ _)
  go_wp2_with fail
  refine HC.out.mono ?_
  rintro e w1 ⟨hb1,a5,c5,ap,cp,rfl,hN5⟩
  clear c0 c1 c2 c3 c4
  go_wp2_with fail
  go_meet
  exact ⟨w1.heap.size,a5,c5,rfl,rfl,cell_alloc_at _ _ _ rfl 0,cell_alloc_at _ _ _ rfl 1,hN5.keep (below1 _ _),Below.next hb1 (below1 _ _)⟩
 obtain ⟨g,a5,c5,rfl,rfl,g0,g1,hN5,hb5⟩:=hcut
 generalize wc=V at *
 obtain ⟨c0,c1,c2,c3,c4,zz⟩:=HS.out V hb5
 have HOV:=Lib.hid (HO.out V a5 q c5 hb5)
 clear HC HO
 go_wp2_with fail
 refine (length_any m V).mono ?_
 rintro e w5 ⟨rfl,rfl⟩
 rw [Hle.out]
 go_wp2_with fail
 refine HOV.out.mono ?_
 rintro e w6 ⟨a6,c6,rfl,hN6,hb6⟩
 obtain ⟨_,_,_,_,_,zz6⟩:=HS.out w6 (Below.next hb5 hb6)
 have z0:=zz6.cell 0 rfl
 have z1:=zz6.cell 1 rfl
 have z2:=zz6.cell 2 rfl
 have z3:=zz6.cell 3 rfl
 have z4:=zz6.cell 4 rfl
 have f0:=zz6.frozen 0
 have f1:=zz6.frozen 1
 have f2:=zz6.frozen 2
 have f3:=zz6.frozen 3
 have f4:=zz6.frozen 4
 have hbF:=Below.next HbW.out (Below.next hb5 hb6)
 have hs:=HsW.out
 have hs2:=hb5.size
 have hM6:=hN5.keep hb6
 have hFin:=HPost.out a6 c6 a5 c5 (((((w6.setCell ⟨w.heap.size+1+1,0,none⟩ (.int .i64 P)).setCell ⟨w.heap.size+1+1,1,none⟩ (.int .i64 M)).setCell ⟨w.heap.size+1+1,2,none⟩ (.slice a6 mod.length c6)).setCell ⟨w.heap.size+1+1,3,none⟩ (.int .i64 m)).setCell ⟨w.heap.size+1+1,4,none⟩ (.slice a5 q c5))
  ((((((hN6.setCell (p:=⟨w.heap.size+1+1,0,none⟩) (by simp;omega) _).setCell (p:=⟨w.heap.size+1+1,1,none⟩) (by simp;omega) _).setCell (p:=⟨w.heap.size+1+1,2,none⟩) (by simp;omega) _).setCell (p:=⟨w.heap.size+1+1,3,none⟩) (by simp;omega) _).setCell (p:=⟨w.heap.size+1+1,4,none⟩) (by simp;omega) _).mono (by omega))
  ((((((hM6.setCell (p:=⟨w.heap.size+1+1,0,none⟩) (by simp;omega) _).setCell (p:=⟨w.heap.size+1+1,1,none⟩) (by simp;omega) _).setCell (p:=⟨w.heap.size+1+1,2,none⟩) (by simp;omega) _).setCell (p:=⟨w.heap.size+1+1,3,none⟩) (by simp;omega) _).setCell (p:=⟨w.heap.size+1+1,4,none⟩) (by simp;omega) _).mono (by omega))
  (((((hbF.setCell (p:=⟨w.heap.size+1+1,0,none⟩) (by simp;omega) _).setCell (p:=⟨w.heap.size+1+1,1,none⟩) (by simp;omega) _).setCell (p:=⟨w.heap.size+1+1,2,none⟩) (by simp;omega) _).setCell (p:=⟨w.heap.size+1+1,3,none⟩) (by simp;omega) _).setCell (p:=⟨w.heap.size+1+1,4,none⟩) (by simp;omega) _)
 have HFin:=Lib.hid hFin
 clear hFin hM6 hN5 hN6 HOV zz zz6
 go_wp2_with fail
 exact bodyPost_ret (v:=.tuple #[.agg #[.int .i64 P,.int .i64 M,.slice a6 mod.length c6,.int .i64 m,.slice a5 q c5],.int .i64 0]) (by simp [results,Tryz.results51,go_sem,z0,z1,z2,z3,z4]) rfl HFin.out
end

section
section
variable {O : FOps} {El : Int→Prop} {m : Nat} {R : List (List Int)} {P : List Int}
def cmbTo (O : FOps) (m : Nat) (x : List Int) (L : List (List Int)) : Nat→List Int
 | 0=>List.replicate m 0
 | k+1=>if nth x k=0 then cmbTo O m x L k else addRow O (cmbTo O m x L k) (nth x k) (nthR L k)
theorem RS.add (F : Fld O El) {L : List (List Int)} {f g : Nat→Int} (hL : Rws El m L) (hf : RS O El m L f) (hg : RS O El m L g) {s : Int} (hs : El s) : RS O El m L (fun x=>O.add (f x) (O.mul (g x) s)):=by
 refine (hf.comb F hg (F.cl.neg s hs)).congr fun x hx=>?_
 obtain ⟨e,he,h⟩:=hg
 have hgx : El (g x):=by rw [h x hx];exact he.el _ (colS_vc hL F.zero x)
 rw [F.mul_neg hgx hs,F.neg_neg (F.cl.mul _ _ hgx hs)]
theorem cmb_rs (F : Fld O El) {L : List (List Int)} (hL : Rws El m L) {x : List Int} (hx : ∀ k,k<L.length→El (nth x k)) : ∀ k,k≤L.length→Vc El m (cmbTo O m x L k)∧RS O El m L (fun i=>nth (cmbTo O m x L k) i)
 | 0,_=>by
  have h0 : ∀ i,nth (List.replicate m (0 : Int)) i=0:=fun i=>by
   unfold nth
   simp only [List.getD_eq_getElem?_getD,List.getElem?_replicate]
   split <;> rfl
  exact ⟨⟨by simp [cmbTo],fun y hy=>by rw [List.eq_of_mem_replicate hy];exact F.zero⟩,RS.nul F fun i _=>h0 i⟩
 | k+1,hk=>by
  obtain ⟨h1,h2⟩:=cmb_rs F hL hx k (by omega)
  have hr:=hL.row (i:=k) (by omega)
  have hs:=hx k (by omega)
  rw [cmbTo]
  split
  ·exact ⟨h1,h2⟩
  ·have hl : (nthR L k).length=(cmbTo O m x L k).length:=by rw [hr.1,h1.1]
   refine ⟨⟨by rw [addRow_length _ _ _ _ hl];exact h1.1,addRow_el F.cl h1.2 hr.2 hs⟩,(RS.add F hL h2 (.row F (i:=k) (by omega)) hs).congr fun i hi=>?_⟩
   have hri : El (nth (nthR L k) i):=Vc.at hr hi
   rw [nth_addRow O _ _ _ i hl (by rw [h1.1];exact hi)]
   split
   ·rename_i e0
    rw [e0,F.zmul hs,F.add_zero _ (h1.at hi)]
   ·rw [F.mul_comm _ _ hs hri]
theorem RS.pick {L : List (List Int)} {w Q : List Int} (hQ : Q.length=m) (hI : InN m Q) (h : RS O El m L (fun x=>nth w x)) : RS O El m (L.map (pickL Q)) (fun x=>nth (pickL Q w) x):=by
 obtain ⟨e,he,h⟩:=h
 refine ⟨e,by rw [List.length_map];exact he,fun x hx=>?_⟩
 have hq:=hI x (by omega)
 have hcol : colS (L.map (pickL Q)) x=colS L (nth Q x).toNat:=by
  unfold colS
  rw [List.map_map]
  exact List.map_congr_left fun r _=>nth_pickL Q r (by omega)
 show nth (pickL Q w) x=_
 rw [nth_pickL Q w (by omega),hcol]
 exact h _ (by omega)
end
end

section
open Go.RowKit
def unitR (n k : Nat) : List Int:=(List.replicate n 0).set k 1
theorem unitR_len (n k : Nat) : (unitR n k).length=n:=by simp [unitR]
variable {w : World} {b : Nat} {G : Tbl}
set_option maxRecDepth 100000 in
set_option maxHeartbeats 1600000 in
theorem vec_any (ax : Option Addr) (cx : Nat) (x : List Int) (a : Option Addr) (n c : Nat) (L : List (List Int)) (cols : Nat) (h : GFw w b G) (F : Fld G.ops G.El) (hx : Ints w ax n x) (hi : Mat w a n L) (hxe : ∀ k,k<n→G.El (nth x k)) (hR : Rws G.El cols L) (hc1 : 1≤cols) (hc : cols≤1000000) (hn : n≤1000000) :
  Calls Tryz.prog 150 #[.pointer (some ⟨b,0,none⟩),.slice ax n cx,.slice a n c,.int .i64 cols] w fun e w' =>
   ∃ a1 c1,e = .returned (.slice a1 cols c1)∧w'.ownsRow w.heap.size 3 1 (.slice a1 cols c1) cols ((cmbTo G.ops cols x L n).map (Value.int .i64))∧Below w.heap.size w w':=by
 have Hil:=Lib.hid hi.len
 have hplx:=hx.pl
 have hpla:=hi.pl
 have hcm:=cmb_rs F hR (x:=x) (by rw [hi.len];exact hxe)
 have Hcm:=Lib.hid hcm
 have HR:=Lib.hid hR
 have hz : (cmbTo G.ops cols x L 0).map (Value.int .i64)=List.replicate cols (Value.int .i64 0):=by simp [cmbTo]
 have Hz:=Lib.hid hz
 clear hcm hR hz F
 go_enter Tryz.func150,Tryz.ntmps150
 go_wp2_with (at_make;refine wpList_mk rfl _ _ 22 3 rfl (.int .i64 0) 8 Tryz.underlying22 infoInt rfl cols rfl rfl (by omega) (by unfold maxLen;omega) ?_;intro a5 w5 hown hbel hge hlt)
 have hown0 : w5.ownsRow w.heap.size 3 1 (.slice a5 cols cols) cols ((cmbTo G.ops cols x L 0).map (Value.int .i64)):=by rw [Hz.out];exact hown
 clear hown hlt
 go_loopw [16] (fun iv wr=>∃ k : Nat,k≤n∧iv = .int .i64 k∧wr.ownsRow w.heap.size 3 1 (.slice a5 cols cols) cols ((cmbTo G.ops cols x L k).map (Value.int .i64))∧Below w.heap.size w wr) (fun iv _=>n - (intOf iv).toNat)
 case atStart=>exact ⟨0,Nat.zero_le _,rfl,hown0,hbel⟩
 case round =>
  clear hown0 hbel
  obtain ⟨k,hk,rfl,hown,hbr⟩:=hrel
  by_cases hlt : k<n
  ·have cxk:=(hx.keep hbr).cell k hlt
   have hrow:=HR.out.row (i:=k) (by rw [Hil.out];exact hlt)
   obtain ⟨ra,rn,rc,er0,ir0⟩:=hi.cell k hlt
   have hrn : rn=cols:=by rw [← ir0.len];exact hrow.1
   rw [hrn] at er0 ir0
   have er:=cell_keep hbr er0
   have hra : ablk ra<w.heap.size:=World.block_lt_of_cell? w _ (ir0.cell 0 (by omega))
   clear hrn er0
   by_cases h0 : nth x k=0
   ·have h0' : (nth x k != 0)=false:=by simpa using h0
    have Hn : Hid (cmbTo G.ops cols x L (k+1)=cmbTo G.ops cols x L k):=by show _=_;rw [cmbTo,if_pos h0]
    clear h0
    go_wp2_with fail
    go_roundw
    case rel=>exact ⟨k+1,by omega,by go_num,by rw [Hn.out];exact hown,hbr⟩
    case measure=>simp [intOf] <;> omega
   ·have h0' : (nth x k != 0)=true:=by simpa using h0
    have Hn : Hid (cmbTo G.ops cols x L (k+1)=addRow G.ops (cmbTo G.ops cols x L k) (nth x k) (nthR L k)):=by show _=_;rw [cmbTo,if_neg h0]
    have hvk:=(Hcm.out k (by rw [Hil.out];exact hk)).1
    have Ha:=Lib.hid (add_any w a5 cols cols (cmbTo G.ops cols x L k) (nth x k) ra rc (nthR L k) h hbr hown (ir0.keep hbr) (.inr (.inr (by omega))) hvk.2 hrow.2 (hxe k hlt))
    clear h0 hown ir0 hrow hvk
    go_wp2_with fail
    refine Ha.out.mono ?_
    rintro e w4 ⟨rfl,hown4,honly⟩
    have hb4 : Below w.heap.size w w4:=hbr.trans (honly.below (fun _=>hge) hbr.size)
    go_wp2_with fail
    go_roundw
    case rel=>exact ⟨k+1,by omega,by go_num,by rw [Hn.out];exact hown4,hb4⟩
    case measure=>simp [intOf] <;> omega
  ·obtain rfl : k=n:=by omega
   have HF:=Lib.hid hown
   clear hown
   go_wp2_with fail
   go_ret
   exact ⟨a5,cols,rfl,HF.out,hbr⟩
end

section

end

section
open Go.RowKit
end

section
open Go.RowKit
theorem InN.take {n : Nat} {Q : List Int} (h : InN n Q) {i : Nat} (hi : i≤Q.length) : InN n (Q.take i):=fun j hj=>by
 rw [List.length_take] at hj
 have e : nth (Q.take i) j=nth Q j:=by unfold nth;simp only [List.getD_eq_getElem?_getD,List.getElem?_take];rw [if_pos (by omega)]
 rw [e];exact h j (by omega)
end

section
open Go.RowKit
end

section
open Go.RowKit
theorem fmatE_mk {P M : Int} {mod : List Int} {m : Nat} {D : List (List Int)} (hfB : fieldB P M mod=true) (hm : m≤256) (hD : D.length≤256) (hR : Rws (tblOf P M.toNat mod).El m D) : fmatE P M mod m D=0:=by
 unfold fmatE
 rw [if_pos hfB]
 unfold matE
 rw [if_neg (by omega)]
 have hsh : shapeQ (m : Int) D=true:=by
  unfold shapeQ
  rw [List.all_eq_true]
  intro r hr
  have:=(hR r hr).1
  simp;omega
 rw [if_neg (by rw [hsh];decide),if_pos]
 rw [List.all_eq_true]
 intro r hr
 unfold elsQ isQ
 rw [List.all_eq_true]
 intro x hx
 have:=(hR r hr).2 x hx
 unfold Tbl.El at this
 simp
 exact this
end

section
open Go.RowKit
end

section
section
variable {O : FOps} {k : Nat}
end
section
variable {O : FOps} {El : Int→Prop} {m : Nat}
end
end

section
open Go.RowKit
end

section
open Go.RowKit
def ExOpenPost (P M : Int) (am : Option Addr) (mn cm : Nat) (mod : List Int) (N : Int) (a : Option Addr) (n c : Nat) (L : List (List Int)) (W : Int) (w : World) (e : Ending) (w' : World) : Prop :=
 Below w.heap.size w w'∧((codeE P M mod N L ≠ 0∧e = .returned (.tuple #[.pointer none,.int .i64 (codeE P M mod N L)])) ∨
 (codeE P M mod N L=0∧∃ (b : Nat) (w2 : World),e = .returned (.tuple #[.pointer (some ⟨w2.heap.size,0,none⟩),.int .i64 0])∧Below w.heap.size w w2∧GFw w2 b (tblOf P M.toNat mod)∧Below w2.heap.size w2 w' ∧
  Box w' w2.heap.size [.pointer (some ⟨b,0,none⟩),.int .i64 P,.int .i64 M,.slice am mn cm,.int .i64 N,.slice a n c,.slice none 0 0,.bool false,.int .i64 0,.int .i64 W,.slice none 0 0,.int .i64 0]))
theorem exOpen_any (P M : Int) (am : Option Addr) (mn cm : Nat) (mod : List Int) (N : Int) (a : Option Addr) (n c : Nat) (L : List (List Int)) (W : Int) (w : World) (hmod : Ints w am mn mod) (hi : Mat w a n L) :
  Calls Tryz.prog 116 #[.agg #[.int .i64 P,.int .i64 M,.slice am mn cm,.int .i64 N,.slice a n c],.int .i64 W] w (ExOpenPost P M am mn cm mod N a n c L W w):=by
 go_enter Tryz.func116,Tryz.ntmps116
 go_wp2_with fail
 obtain ⟨U,hU⟩ : ∃ U : World,U=w.alloc (.cells #[.int .i64 P,.int .i64 M,.slice am mn cm,.int .i64 N,.slice a n c] 27):=⟨_,rfl⟩
 rw [← hU]
 have hbU : Below w.heap.size w U:=by rw [hU];exact below1 _ _
 have x0 : Box U w.heap.size [.int .i64 P,.int .i64 M,.slice am mn cm,.int .i64 N,.slice a n c]:=by rw [hU];exact Box.new _ _ _ rfl
 have HX:=Lib.hid x0
 clear hU x0
 refine (codeCheck_any P M am mn cm mod N a n c L U (hmod.keep hbU) (hi.keep hbU)).mono ?_
 rintro e w1 ⟨rfl,hb1⟩
 have hbw1:=Below.next hbU hb1
 by_cases hE : codeE P M mod N L=0
 ·obtain ⟨hf,_⟩:=codeE_zero hE
  have HE:=Lib.hid hE
  have Hf:=Lib.hid hf
  rw [hE]
  have x1:=HX.out.keep hb1
  have c0:=x1.cell 0 rfl
  have c1:=x1.cell 1 rfl
  have c2:=x1.cell 2 rfl
  have hm1:=(hmod.keep hbU).keep hb1
  clear hE x1 hf
  go_wp2_with fail
  refine (fieldNew_any P M am mn cm mod w1 hm1).mono ?_
  rintro e w2 (⟨hB,rfl,hb2⟩ | ⟨hB,b,rfl,hG,hbl,hb2⟩)
  ·rw [Hf.out] at hB;cases hB
  ·clear hB
   have hg:=hG.gf
   have x2:=(HX.out.keep hb1).keep hb2
   have e0:=x2.cell 0 rfl
   have e1:=x2.cell 1 rfl
   have e2:=x2.cell 2 rfl
   have e3:=x2.cell 3 rfl
   have e4:=x2.cell 4 rfl
   clear x2 c0 c1 c2
   go_wp2_with fail
   go_ret2
   exact ⟨Below.next (Below.next hbw1 hb2) (below1 _ _),.inr ⟨HE.out,b,w2,rfl,Below.next hbw1 hb2,hg,below1 _ _,Box.new w2 [.pointer (some ⟨b,0,none⟩),.int .i64 P,.int .i64 M,.slice am mn cm,.int .i64 N,.slice a n c,.slice none 0 0,.bool false,.int .i64 0,.int .i64 W,.slice none 0 0,.int .i64 0] _ rfl⟩⟩
 ·have HE:=Lib.hid hE
  have hE' : (codeE P M mod N L != 0)=true:=by simpa using hE
  clear hE
  go_wp2_with fail
  go_ret2
  exact ⟨hbw1,.inl ⟨HE.out,rfl⟩⟩
def rkcE (P M : Int) (mod : List Int) (N : Int) (L : List (List Int)) (mm W : Int) : Int :=
 if codeE P M mod N L=0 then (if mm<0∨(L.length : Int)<mm∨W<0∨N<W then 6 else 0) else codeE P M mod N L
def ExClaim (P M : Int) (am : Option Addr) (mn cm : Nat) (mod : List Int) (m : Nat) (a : Option Addr) (n c : Nat) (L : List (List Int)) (ay : Option Addr) (ny cy : Nat) (C : Clm) (w w' : World) (pb : Nat) : Prop :=
 ∃ (b : Nat) (w2 : World),pb=w2.heap.size∧Below w.heap.size w w2∧PEnv w2 b (tblOf P M.toNat mod) a n L m ay ny C∧Below w2.heap.size w2 w'∧Box w' pb (prfL b P M am mn cm m a n c ay ny cy C (.slice none 0 0) 0)
def ExRankPost (P M : Int) (am : Option Addr) (mn cm : Nat) (mod : List Int) (N : Int) (a : Option Addr) (n c : Nat) (L : List (List Int)) (mm W : Int) (w : World) (e : Ending) (w' : World) : Prop :=
 Below w.heap.size w w'∧((rkcE P M mod N L mm W ≠ 0∧e = .returned (.tuple #[.pointer none,.int .i64 (rkcE P M mod N L mm W)])) ∨
 (rkcE P M mod N L mm W=0∧∃ pb,e = .returned (.tuple #[.pointer (some ⟨pb,0,none⟩),.int .i64 0])∧ExClaim P M am mn cm mod N.toNat a n c L none 0 0 ⟨mm.toNat,W.toNat,false,[]⟩ w w' pb))
set_option maxRecDepth 100000 in
set_option maxHeartbeats 1600000 in
theorem exRank_any (P M : Int) (am : Option Addr) (mn cm : Nat) (mod : List Int) (N : Int) (a : Option Addr) (n c : Nat) (L : List (List Int)) (mm W : Int) (w : World) (hmod : Ints w am mn mod) (hi : Mat w a n L) :
  Calls Tryz.prog 103 #[.agg #[.int .i64 P,.int .i64 M,.slice am mn cm,.int .i64 N,.slice a n c],.int .i64 mm,.int .i64 W] w (ExRankPost P M am mn cm mod N a n c L mm W w):=by
 have Hil:=Lib.hid hi.len
 go_enter Tryz.func103,Tryz.ntmps103
 go_wp2_with fail
 obtain ⟨U,hU⟩ : ∃ U : World,U=w.alloc (.cells #[.int .i64 P,.int .i64 M,.slice am mn cm,.int .i64 N,.slice a n c] 27):=⟨_,rfl⟩
 rw [← hU]
 have hbU : Below w.heap.size w U:=by rw [hU];exact below1 _ _
 have x0 : Box U w.heap.size [.int .i64 P,.int .i64 M,.slice am mn cm,.int .i64 N,.slice a n c]:=by rw [hU];exact Box.new _ _ _ rfl
 have HX:=Lib.hid x0
 clear hU x0
 refine (exOpen_any P M am mn cm mod N a n c L W U (hmod.keep hbU) (hi.keep hbU)).mono ?_
 rintro e w1 ⟨hb1,⟨hE,rfl⟩ | ⟨hE,b,w2,rfl,hb2,hG,hb3,hB⟩⟩
 ·have HE : Hid (rkcE P M mod N L mm W=codeE P M mod N L):=if_neg hE
  have Hne:=Lib.hid hE
  have hE1 : (codeE P M mod N L == 0)=false:=by simpa using hE
  have hE2 : (codeE P M mod N L != 0)=true:=by simpa using hE
  have hbF:=Below.next hbU hb1
  clear hE
  go_wp2_with fail
  go_ret2
  exact ⟨hbF,.inl ⟨by rw [HE.out];exact Hne.out,by rw [HE.out];rfl⟩⟩
 ·have hbF:=Below.next hbU hb1
  have x1:=HX.out.keep hb1
  have c3:=x1.cell 3 rfl
  have c4:=x1.cell 4 rfl
  have HE : Hid (rkcE P M mod N L mm W=if mm<0∨(n : Int)<mm∨W<0∨N<W then 6 else 0):=by show _=_;rw [rkcE,if_pos hE,Hil.out]
  have Hrw:=Lib.hid (codeE_rws hE)
  have HB:=Lib.hid hB
  have hf8:=hB.frozen 8
  have h8:=hB.cell 8 rfl
  clear x1 hB hE
  by_cases h1 : mm<0
  ·have HE2 : Hid (rkcE P M mod N L mm W=6):=by show _=_;rw [HE.out,if_pos (.inl h1)]
   have d1 : decide (mm<0)=true:=by simpa using h1
   clear h1
   go_wp2_with fail
   go_ret2
   exact ⟨hbF,.inl ⟨by rw [HE2.out];decide,by rw [HE2.out];rfl⟩⟩
  have d1 : decide (mm<0)=false:=by simpa using h1
  by_cases h2 : (n : Int)<mm
  ·have HE2 : Hid (rkcE P M mod N L mm W=6):=by show _=_;rw [HE.out,if_pos (.inr (.inl h2))]
   have d2 : decide ((n : Int)<mm)=true:=by simpa using h2
   clear h1 h2
   go_wp2_with fail
   go_ret2
   exact ⟨hbF,.inl ⟨by rw [HE2.out];decide,by rw [HE2.out];rfl⟩⟩
  have d2 : decide ((n : Int)<mm)=false:=by simpa using h2
  by_cases h3 : W<0
  ·have HE2 : Hid (rkcE P M mod N L mm W=6):=by show _=_;rw [HE.out,if_pos (.inr (.inr (.inl h3)))]
   have d3 : decide (W<0)=true:=by simpa using h3
   clear h1 h2 h3
   go_wp2_with fail
   go_ret2
   exact ⟨hbF,.inl ⟨by rw [HE2.out];decide,by rw [HE2.out];rfl⟩⟩
  have d3 : decide (W<0)=false:=by simpa using h3
  by_cases h4 : N<W
  ·have HE2 : Hid (rkcE P M mod N L mm W=6):=by show _=_;rw [HE.out,if_pos (.inr (.inr (.inr h4)))]
   have d4 : decide (N<W)=true:=by simpa using h4
   clear h1 h2 h3 h4
   go_wp2_with fail
   go_ret2
   exact ⟨hbF,.inl ⟨by rw [HE2.out];decide,by rw [HE2.out];rfl⟩⟩
  have d4 : decide (N<W)=false:=by simpa using h4
  have HE2 : Hid (rkcE P M mod N L mm W=0):=by
   show _=_
   rw [HE.out,if_neg]
   rintro (h | h | h | h)
   ·exact h1 h
   ·exact h2 h
   ·exact h3 h
   ·exact h4 h
  obtain ⟨m,hm,hm1,hm2,hLl,hRw⟩:=Hrw.out
  have HCl : Hid (ExClaim P M am mn cm mod N.toNat a n c L none 0 0 ⟨mm.toNat,W.toNat,false,[]⟩ w (w1.setCell ⟨w2.heap.size,8,none⟩ (.int .i64 mm)) w2.heap.size):=by
   have hn256 : n≤1000000:=by rw [← Hil.out];omega
   have hPE : PEnv w2 b (tblOf P M.toNat mod) a n L N.toNat none 0 ⟨mm.toNat,W.toNat,false,[]⟩ :=
    { g:=hG,mat:=(hi.keep hbU).keep hb2,rws:=by rw [hm,Int.toNat_natCast];exact hRw,n6:=hn256,m6:=by omega,w6:=by show W.toNat≤64;omega,yl:=fun h=>(by cases h),y:=fun h=>(by cases h),ye:=fun h=>(by cases h) }
   refine ⟨b,w2,rfl,Below.next hbU hb2,hPE,hb3.setCell (by simp) _,?_⟩
   have h5:=HB.out.setCell 8 (.int .i64 mm)
   rw [prfL]
   dsimp only
   rw [Int.toNat_of_nonneg (show 0≤N by omega),Int.toNat_of_nonneg (show 0≤mm by omega),Int.toNat_of_nonneg (show 0≤W by omega)]
   exact h5
  have hbF2:=hbF.setCell (p:=⟨w2.heap.size,8,none⟩) (Nat.le_trans hbU.size hb2.size) (.int .i64 mm)
  clear h1 h2 h3 h4 hm hm1 hm2
  go_wp2_with fail
  go_ret2
  exact ⟨hbF2,.inr ⟨HE2.out,w2.heap.size,rfl,HCl.out⟩⟩
end

section
open Go.RowKit
def ColsPost (n : Nat) (Q : List Int) (L : List (List Int)) (w : World) (e : Ending) (w' : World) : Prop :=
 ∃ a1 c1,e = .returned (.tuple #[.agg #[.int .i64 Q.length,.slice a1 n c1],.int .i64 0])∧MatN w.heap.size w' a1 n (L.map (pickL Q))∧Below w.heap.size w w'
set_option maxRecDepth 100000 in
set_option maxHeartbeats 4000000 in
theorem columns_any (P M : Int) (am : Option Addr) (mn cm : Nat) (mod : List Int) (m : Nat) (a : Option Addr) (n c : Nat) (L : List (List Int)) (ao : Option Addr) (no co : Nat) (Q : List Int) (w : World) (hmod : Ints w am mn mod) (hi : Mat w a n L) (hq : Ints w ao no Q)
  (hE : codeE P M mod m L=0) (hQ : InN m Q) (hno : no≤256) :
  Calls Tryz.prog 129 #[.agg #[.int .i64 P,.int .i64 M,.slice am mn cm],.agg #[.int .i64 m,.slice a n c],.slice ao no co] w (ColsPost n Q L w):=by
 have Hlen:=Lib.hid hi.len
 have Hql:=Lib.hid hq.len
 have hplq:=hq.pl
 have hpla:=hi.pl
 obtain ⟨N',e,hm1,hm64,F,hR⟩:=codeE_fld hE
 obtain rfl : m=N':=by omega
 have hL256:=(codeE_rws hE).choose_spec.2.2.2.1
 have hn : n≤256:=by rw [← hi.len];exact hL256
 obtain ⟨h5,h6⟩:=spaceE_zero (codeE_zero hE).2.2.2
 obtain ⟨hfB,h8⟩:=fmatE_zero h5
 have HLl : Hid (∀ k,k<n→(nthR L k).length=m):=fun k hk=>(hR.row (i:=k) (by rw [hi.len];exact hk)).1
 have HQ:=Lib.hid hQ
 obtain ⟨L2,hL2⟩ : ∃ L2,L.map (pickL Q)=L2:=⟨_,rfl⟩
 have HL2l : Hid (L2.length=n):=by show _=_;rw [← hL2,List.length_map];exact Hlen.out
 have HLk : Hid (∀ k,k<n→L2.take (k+1)=L2.take k ++ [pickL Q (nthR L k)]):=fun k hk=>by
  have hk' : k<L2.length:=by rw [HL2l.out];exact hk
  rw [List.take_succ_eq_append_getElem hk',← nthR_getElem hk',← hL2,nthR_map _ L (by rw [Hlen.out];exact hk)]
 unfold ColsPost
 rw [hL2,Hql.out]
 clear hE h5 h6 e hL256 F hR hQ hL2
 go_enter Tryz.func129,Tryz.ntmps129
 go_wp2_with fail
 obtain ⟨W,hW⟩ : ∃ W : World,W=((((w.alloc (.cells #[.int .i64 P,.int .i64 M,.slice am mn cm] 24)).alloc (.cells #[.int .i64 m,.slice a n c] 73)).alloc (.cells #[.int .i64 0,.slice none 0 0] 73)).alloc (.cells #[.int .i64 m,.slice a n c] 73)):=⟨_,rfl⟩
 rw [← hW]
 have hbW : Below w.heap.size w W:=by rw [hW];exact ((((Below.refl _ _).alloc (Nat.le_refl _) _).alloc (by simp) _).alloc (by simp;omega) _).alloc (by simp;omega) _
 have hsW : W.heap.size=w.heap.size+4:=by rw [hW];simp
 have x1 : Box W (w.heap.size+1) [.int .i64 m,.slice a n c]:=by rw [hW];exact ((Box.new _ _ _ (by simp)).alloc _).alloc _
 have x2 : Box W (w.heap.size+1+1) [.int .i64 0,.slice none 0 0]:=by rw [hW];exact (Box.new _ _ _ (by simp)).alloc _
 have q3 : W.cell? ⟨w.heap.size+1+1+1,0,none⟩=some (.int .i64 m)∧W.cell? ⟨w.heap.size+1+1+1,1,none⟩=some (.slice a n c):=by rw [hW];exact ⟨cell_alloc_at _ _ _ (by simp) 0,cell_alloc_at _ _ _ (by simp) 1⟩
 have hMs : Mats W (some ⟨w.heap.size+1+1+1,0,none⟩) 1 [((m : Int),L)]:=⟨rfl,fun _=>rfl,by unfold maxLen;omega,fun i hi'=>by
  have : i=0:=by simp at hi';omega
  subst this
  exact ⟨a,n,c,by simpa using q3.1,by simpa using q3.2,hi.keep hbW⟩⟩
 have HX:=Lib.hid (And.intro x1 x2)
 have HsW:=Lib.hid hsW
 have HbW:=Lib.hid hbW
 clear hW hsW x1 x2 q3
 refine (open_any P M am mn cm mod _ 1 1 _ W (hmod.keep hbW) hMs).mono ?_
 rintro e w1 ⟨hb1,hcase⟩
 rw [matsE_one] at hcase
 rcases hcase with ⟨hB,_⟩ | ⟨_,er,h0,h1,_⟩ | ⟨_,_,b,rfl,hG,hbl⟩
 ·rw [hfB] at hB;exact absurd hB (by decide)
 ·rw [h8] at h1;exact absurd h1.symm h0
 have hbw1:=Below.next hbW hb1
 have r1:=HX.out.1.keep hb1
 have m0:=r1.cell 0 rfl
 have m1:=r1.cell 1 rfl
 have hq1:=hq.keep hbw1
 have d256 : decide ((256 : Int)<no)=false:=by simp;omega
 clear hMs hfB h8 hbW r1 hG hbl
 go_wp2_with fail
 go_loop [35] (fun iv=>∃ k : Nat,k≤no∧iv = .int .i64 k) (fun iv=>no - (intOf iv).toNat)
 case atStart=>exact ⟨0,Nat.zero_le _,rfl⟩
 case round =>
  obtain ⟨k,hk,rfl⟩:=hrel
  by_cases hlt : k<no
  ·have cq:=hq1.cell k hlt
   have hb:=HQ.out k (by rw [Hql.out];exact hlt)
   have e1 : decide (nth Q k<0)=false:=by simp;omega
   have e2 : decide ((m : Int)≤nth Q k)=false:=by simp;omega
   clear hb
   go_wp2_with fail
   go_round
   case rel=>exact ⟨k+1,by omega,by go_num⟩
   case measure=>simp [intOf] <;> omega
  ·obtain rfl : k=no:=by omega
   go_upto_region 12 with fail
   obtain ⟨g,hg⟩ : ∃ g,w1.heap.size=g:=⟨_,rfl⟩
   have HG:=Lib.hid hg
   clear hg
   go_cut [12] (fun v wx=>v = .pointer (some ⟨w1.heap.size,0,none⟩)∧MOut wx w1.heap.size (.int .i64 k) none 0 0 [] []∧Below w1.heap.size w1 wx)
   case first =>
    go_wp2_with fail
    go_meet
    exact ⟨rfl,MOut.start (Box.new w1 [.int .i64 k,.slice none 0 0] _ rfl),below1 _ _⟩
   obtain ⟨rfl,hO0,hbc⟩:=hcut
   generalize wc=U at *
   have hs3:=HG.out
   rw [hs3] at hO0 ⊢
   have HbU:=Lib.hid (Below.next hb1 hbc)
   have r1:=HX.out.1.keep HbU.out
   clear m0 m1
   have m0:=r1.cell 0 rfl
   have m1:=r1.cell 1 rfl
   have hgU:=hO0.lt
   have hgW : W.heap.size≤g:=by have:=hb1.size;omega
   have hqU:=hq1.keep hbc
   clear r1 hbc hs3 hq1
   go_wp2_with fail
   clear m0 m1
   go_loopw [55] (fun iv wr=>∃ (j : Nat) (a1 : Option Addr) (c1 : Nat) (Rr : List (Option Addr × Nat)),j≤n∧iv = .int .i64 j∧MOut wr g (.int .i64 k) a1 j c1 Rr (L2.take j)∧Below g U wr) (fun iv _=>n - (intOf iv).toNat)
   case atStart=>exact ⟨0,none,0,[],Nat.zero_le _,rfl,by simpa using hO0,Below.refl _ _⟩
   case round =>
    clear hO0
    obtain ⟨j,a1,c1,Rr,hj,rfl,hO,hbr⟩:=hrel
    have hbWr:=Below.trans HbU.out (hbr.mono hgW)
    have hbwr:=Below.next HbW.out hbWr
    have hgr:=hO.lt
    by_cases hltj : j<n
    ·obtain ⟨ra,rn,rc,hcell,hrow⟩:=(hi.keep hbwr).cell j hltj
     have hrn : rn=m:=by rw [← hrow.len];exact HLl.out j hltj
     rw [hrn] at hcell hrow
     have Htk:=Lib.hid (HLk.out j hltj)
     obtain ⟨l,hl⟩ : ∃ l,nthR L j=l:=⟨_,rfl⟩
     rw [hl] at Htk hrow
     have hplr:=hrow.pl
     obtain ⟨pk,hpk⟩ : ∃ pk,pickL Q l=pk:=⟨_,rfl⟩
     have Hpk:=Lib.hid hpk
     have hpl : pk.length=k:=by rw [← hpk];simp [pickL];exact Hql.out
     have Hpl:=Lib.hid hpl
     clear hl hrn hpk hpl
     go_wp2_with (at_make;refine wpList_mk rfl _ _ 22 3 rfl (.int .i64 0) 8 Tryz.underlying22 infoInt rfl k rfl rfl (by omega) (by unfold maxLen;omega) ?_;intro a5 w5 hown hbel hge hlt5)
     have hown0 : w5.ownsRow wr.heap.size 3 1 (.slice a5 k k) k ((mixTo pk (List.replicate k 0) 0).map (Value.int .i64)):=by rw [mixTo_zero,List.map_replicate];exact hown
     clear hown hge hlt5 hcell
     generalize wr=X1 at *
     go_loopw [64] (fun jv ws=>∃ t : Nat,t≤k∧jv = .int .i64 t∧ws.ownsRow X1.heap.size 3 1 (.slice a5 k k) k ((mixTo pk (List.replicate k 0) t).map (Value.int .i64))∧Below X1.heap.size X1 ws) (fun jv _=>k - (intOf jv).toNat)
     case atStart=>exact ⟨0,Nat.zero_le _,rfl,hown0,hbel⟩
     case round =>
      clear hown0 hbel
      obtain ⟨t,ht,rfl,hown,hbs⟩:=hrel
      by_cases hltt : t<k
      ·have hbU1 : Below w.heap.size w wr:=Below.next hbwr hbs
       have cq:=(hq.keep hbU1).cell t hltt
       have hqb:=HQ.out t (by rw [Hql.out];exact hltt)
       obtain ⟨z,hz⟩ : ∃ z : Nat,nth Q t=z:=⟨(nth Q t).toNat,by omega⟩
       have hzm : z<m:=by omega
       have cr:=(hrow.keep hbs).cell z hzm
       have Hst : Hid ((mixTo pk (List.replicate k 0) t).set t (nth l z)=mixTo pk (List.replicate k 0) (t+1)):=by
        show _=_
        have h1:=mixTo_set pk (List.replicate k 0) t (by rw [Hpl.out,List.length_replicate]) (by rw [List.length_replicate];exact hltt)
        rw [← Hpk.out,nth_pickL Q l (by rw [Hql.out];exact hltt),hz,Int.toNat_natCast] at h1
        rw [← Hpk.out]
        exact h1
       rw [hz] at cq
       obtain ⟨hints,hmine⟩:=Ints.own hown
       have hpl5:=hints.pl
       have cz:=hints.cell t hltt
       have fz:=(hmine (by omega)).2 t hltt
       have hB:=(hmine (by omega)).1
       clear hz hqb
       go_wp2_with fail
       go_roundw
       case rel =>
        have h:=own_set hown t hltt (.int .i64 (nth l z))
        rw [← List.map_set,Hst.out] at h
        exact ⟨t+1,by omega,by go_num,h,hbs.setCell hB _⟩
       case measure=>simp [intOf] <;> omega
      ·obtain rfl : t=k:=by omega
       rw [mixTo_all pk (List.replicate t 0) t (by simp [Hpl.out]) (by simp)] at hown
       have hs:=hO.keep hbs
       have hOk:=hs.om.keep (below1 wr (.cells #[.slice a5 t t] 22))
       have hcp:=hs.c1
       have hgs:=hs.lt
       go_wp2_with (at_builtin;refine wpList_push rfl _ _ 25 22 rfl (.slice none 0 0) 24 Tryz.underlying25 infoInts rfl (g+1) a1 j c1 _ rfl hOk.own ⟨wr.heap.size,0,none⟩ 1 (.slice a5 t t) rfl (cell_new wr _ _) rfl (by omega) (by unfold maxLen;omega) (by simp;omega) ?_;intro a6 c6 w6 hown6 hgr6 hap6;have hk6:=(hs.pushed hgr6).2.1;have hf6:=(hs.pushed hgr6).2.2)
       go_roundw
       case rel =>
        have hra : a5 ≠ none→¬ OIn a1 Rr (ablk a5):=fun h0 hI=>by
         have h1:=(own_ne hown h0).1
         have h2:=(hO.om.lt _ hI).2
         omega
        obtain ⟨hP,hbP⟩:=hs.push Hpl.out (own_mono hown (by omega)) hra hown6 hgr6 hap6
        exact ⟨j+1,a6,c6,_,by omega,by go_num,by rw [Htk.out,Hpk.out];exact hP,Below.trans hbr ((hbs.mono (by omega)).trans hbP)⟩
       case measure=>simp [intOf] <;> omega
    ·obtain rfl : j=n:=by omega
     rw [List.take_of_length_le (by rw [HL2l.out];exact Nat.le_refl _)] at hO
     have g0:=hO.c0
     have g1:=hO.c1
     have z6:=HX.out.2.keep hbWr
     have z0:=z6.cell 0 rfl
     have z1:=z6.cell 1 rfl
     have f0:=z6.frozen 0
     have f1:=z6.frozen 1
     have hs:=HsW.out
     have hMN : MatN (g+1) wr a1 j L2:=MatN.own hO.om
     have HF:=Lib.hid (And.intro (((hMN.setCell (p:=⟨w.heap.size+1+1,0,none⟩) (by simp;omega) (.int .i64 k)).setCell (p:=⟨w.heap.size+1+1,1,none⟩) (by simp;omega) (.slice a1 j c1)).mono (show w.heap.size≤g+1 by omega))
      ((hbwr.setCell (p:=⟨w.heap.size+1+1,0,none⟩) (by simp;omega) (.int .i64 k)).setCell (p:=⟨w.heap.size+1+1,1,none⟩) (by simp;omega) (.slice a1 j c1)))
     clear hMN z6 hO
     go_wp2_with fail
     exact bodyPost_ret (v:=.tuple #[.agg #[.int .i64 k,.slice a1 j c1],.int .i64 0]) (by simp [results,Tryz.results129,go_sem,z0,z1]) rfl ⟨a1,c1,rfl,HF.out.1,HF.out.2⟩
end

section
open Go.RowKit
def mtL (O : FOps) (m : Nat) (A B : List (List Int)) : List (List Int):=A.map fun r=>cmbTo O m r B B.length
set_option maxRecDepth 100000 in
set_option maxHeartbeats 8000000 in
theorem mul_any (P M : Int) (am : Option Addr) (mn cm : Nat) (mod : List Int) (k : Nat) (a : Option Addr) (n c : Nat) (A : List (List Int)) (m : Nat) (ab : Option Addr) (cb : Nat) (B : List (List Int)) (w : World) (hmod : Ints w am mn mod) (hi : Mat w a n A) (hb : Mat w ab k B)
  (hfB : fieldB P M mod=true) (hA : Rws (tblOf P M.toNat mod).El k A) (hBr : Rws (tblOf P M.toNat mod).El m B) (hk : k≤64) (hm1 : 1≤m) (hm : m≤64) (hn : n≤64) :
  Calls Tryz.prog 131 #[.agg #[.int .i64 P,.int .i64 M,.slice am mn cm],.agg #[.int .i64 k,.slice a n c],.agg #[.int .i64 m,.slice ab k cb]] w
   fun e w'=>∃ a1 c1,e = .returned (.tuple #[.agg #[.int .i64 m,.slice a1 n c1],.int .i64 0])∧MatN w.heap.size w' a1 n (mtL (tblOf P M.toNat mod).ops m A B)∧Below w.heap.size w w':=by
 have hAl:=hi.len
 have hBl:=hb.len
 have F:=fieldB_fld hfB
 have hmE1 : matE (tblOf P M.toNat mod).q k A=0:=(fmatE_zero (fmatE_mk hfB (show k≤256 by omega) (show A.length≤256 by omega) hA)).2
 have hmE2 : matE (tblOf P M.toNat mod).q m B=0:=(fmatE_zero (fmatE_mk hfB (show m≤256 by omega) (show B.length≤256 by omega) hBr)).2
 have hpla:=hi.pl
 obtain ⟨G,hGG⟩ : ∃ G,tblOf P M.toNat mod=G:=⟨_,rfl⟩
 rw [hGG] at hA hBr F hmE1 hmE2 ⊢
 obtain ⟨L2,hL2⟩ : ∃ L2,mtL G.ops m A B=L2:=⟨_,rfl⟩
 have HL2l : Hid (L2.length=n):=by show _=_;rw [← hL2,mtL,List.length_map];exact hAl
 have HLk : Hid (∀ j,j<n→L2.take (j+1)=L2.take j ++ [cmbTo G.ops m (nthR A j) B k]):=fun j hj=>by
  have hj' : j<L2.length:=by rw [HL2l.out];exact hj
  rw [List.take_succ_eq_append_getElem hj',← nthR_getElem hj',← hL2,mtL,nthR_map _ A (by omega),hBl]
 rw [hL2]
 have HAr : Hid (∀ j,j<n→(nthR A j).length=k∧∀ x ∈ nthR A j,G.El x):=fun j hj=>hA.row (by omega)
 have HBr:=Lib.hid hBr
 have HFl:=Lib.hid F
 have HBl:=Lib.hid hBl
 have HB:=Lib.hid hfB
 have HmE:=Lib.hid (And.intro hmE1 hmE2)
 have HGG:=Lib.hid hGG
 clear hA hBr F hAl hBl hfB hmE1 hmE2 hGG hL2
 go_enter Tryz.func131,Tryz.ntmps131
 go_wp2_with fail
 obtain ⟨W,hW⟩ : ∃ W : World,W=(((((w.alloc (.cells #[.int .i64 P,.int .i64 M,.slice am mn cm] 24)).alloc (.cells #[.int .i64 k,.slice a n c] 73)).alloc (.cells #[.int .i64 m,.slice ab k cb] 73)).alloc (.cells #[.int .i64 0,.slice none 0 0] 73)).alloc (.cells #[.int .i64 k,.slice a n c,.int .i64 m,.slice ab k cb] 73)):=⟨_,rfl⟩
 rw [← hW]
 have hbW : Below w.heap.size w W:=by rw [hW];exact (((((Below.refl _ _).alloc (Nat.le_refl _) _).alloc (by simp) _).alloc (by simp;omega) _).alloc (by simp;omega) _).alloc (by simp;omega) _
 have hsW : W.heap.size=w.heap.size+5:=by rw [hW];simp
 have x1 : Box W (w.heap.size+1) [.int .i64 k,.slice a n c]:=by rw [hW];exact (((Box.new _ _ _ (by simp)).alloc _).alloc _).alloc _
 have x2 : Box W (w.heap.size+1+1) [.int .i64 m,.slice ab k cb]:=by rw [hW];exact ((Box.new _ _ _ (by simp)).alloc _).alloc _
 have x3 : Box W (w.heap.size+1+1+1) [.int .i64 0,.slice none 0 0]:=by rw [hW];exact (Box.new _ _ _ (by simp)).alloc _
 have q3 : ∀ i v,[Value.int .i64 k,.slice a n c,.int .i64 m,.slice ab k cb][i]? = some v→W.cell? ⟨w.heap.size+1+1+1+1,i,none⟩=some v:=fun i v hv=>by
  have h : Box W (w.heap.size+1+1+1+1) [.int .i64 k,.slice a n c,.int .i64 m,.slice ab k cb]:=by rw [hW];exact Box.new _ _ _ (by simp)
  exact h.cell i hv
 have hMs : Mats W (some ⟨w.heap.size+1+1+1+1,0,none⟩) 2 [((k : Int),A),((m : Int),B)]:=⟨rfl,fun _=>rfl,by unfold maxLen;omega,fun i hi'=>by
  match i,hi' with
  | 0,_=>exact ⟨a,n,c,by simpa using q3 0 _ rfl,by simpa using q3 1 _ rfl,hi.keep hbW⟩
  | 1,_=>exact ⟨ab,k,cb,by simpa using q3 2 _ rfl,by simpa using q3 3 _ rfl,hb.keep hbW⟩⟩
 have HX:=Lib.hid (And.intro x1 (And.intro x2 x3))
 have HsW:=Lib.hid hsW
 have HbW:=Lib.hid hbW
 clear hW hsW x1 x2 x3 q3
 refine (open_any P M am mn cm mod _ 2 2 _ W (hmod.keep hbW) hMs).mono ?_
 rintro e w1 ⟨hb1,hcase⟩
 have hms : matsE (tblOf P M.toNat mod).q [((k : Int),A),((m : Int),B)]=0:=by
  rw [HGG.out]
  simp [matsE,HmE.out.1,HmE.out.2]
 rcases hcase with ⟨hB,_⟩ | ⟨_,er,h0,h1,_⟩ | ⟨_,_,b,rfl,hG,hbl⟩
 ·rw [HB.out] at hB;exact absurd hB (by decide)
 ·rw [hms] at h1;exact absurd h1.symm h0
 rw [HGG.out] at hG
 have hbw1:=Below.next hbW hb1
 have r1:=HX.out.1.keep hb1
 have r2:=HX.out.2.1.keep hb1
 have m0:=r1.cell 0 rfl
 have m1:=r1.cell 1 rfl
 have p0:=r2.cell 0 rfl
 have p1:=r2.cell 1 rfl
 have hkk : ((k : Int) != k)=false:=by simp
 clear hMs hbW r1 r2 hbl hmod hms
 go_upto_region 6 with fail
 obtain ⟨g,hg⟩ : ∃ g,w1.heap.size=g:=⟨_,rfl⟩
 have HGs:=Lib.hid hg
 clear hg
 go_cut [10] (fun v wx=>v = .pointer (some ⟨w1.heap.size,0,none⟩)∧MOut wx w1.heap.size (.int .i64 m) none 0 0 [] []∧Below w1.heap.size w1 wx)
 case first =>
  go_wp2_with fail
  go_meet
  exact ⟨rfl,MOut.start (Box.new w1 [.int .i64 m,.slice none 0 0] _ rfl),below1 _ _⟩
 obtain ⟨rfl,hO0,hbc⟩:=hcut
 generalize wc=U at *
 have hs3:=HGs.out
 rw [hs3] at hO0 ⊢
 have HbU:=Lib.hid (Below.next hb1 hbc)
 have HbU1:=Lib.hid hbc
 have HS : Hid (∀ V,Below W.heap.size W V→V.cell? ⟨w.heap.size+1,0,none⟩=some (.int .i64 k)∧V.cell? ⟨w.heap.size+1,1,none⟩=some (.slice a n c)∧V.cell? ⟨w.heap.size+1+1,0,none⟩=some (.int .i64 m)∧V.cell? ⟨w.heap.size+1+1,1,none⟩=some (.slice ab k cb)):=fun V hV=>by
  have r1:=HX.out.1.keep hV
  have r2:=HX.out.2.1.keep hV
  exact ⟨r1.cell 0 rfl,r1.cell 1 rfl,r2.cell 0 rfl,r2.cell 1 rfl⟩
 clear m0 m1 p0 p1
 obtain ⟨m0,m1,p0,p1⟩:=HS.out U HbU.out
 have hgU:=hO0.lt
 have hgW : W.heap.size≤g:=by have:=hb1.size;omega
 have hw1g : w1.heap.size≤g:=by omega
 clear hbc hs3
 go_wp2_with fail
 clear m0 m1 p0 p1
 go_loopw [38] (fun iv wr=>∃ (j : Nat) (a1 : Option Addr) (c1 : Nat) (Rr : List (Option Addr × Nat)),j≤n∧iv = .int .i64 j∧MOut wr g (.int .i64 m) a1 j c1 Rr (L2.take j)∧Below g U wr) (fun iv _=>n - (intOf iv).toNat)
 case atStart=>exact ⟨0,none,0,[],Nat.zero_le _,rfl,by simpa using hO0,Below.refl _ _⟩
 case round =>
  clear hO0
  obtain ⟨j,a1,c1,Rr,hj,rfl,hO,hbr⟩:=hrel
  have hbWr:=Below.trans HbU.out (hbr.mono hgW)
  have hbwr:=Below.next HbW.out hbWr
  have hb1r : Below w1.heap.size w1 wr:=Below.trans HbU1.out (hbr.mono hw1g)
  have hgr:=hO.lt
  by_cases hltj : j<n
  ·obtain ⟨ra,rn,rc,hcell,hrow⟩:=(hi.keep hbwr).cell j hltj
   have hA:=HAr.out j hltj
   have hrn : rn=k:=by rw [← hrow.len];exact hA.1
   rw [hrn] at hcell hrow
   have Htk:=Lib.hid (HLk.out j hltj)
   obtain ⟨l,hl⟩ : ∃ l,nthR A j=l:=⟨_,rfl⟩
   rw [hl] at Htk hrow hA
   have Hvec : Hid (∀ V,Below wr.heap.size wr V→Calls Tryz.prog 150 #[.pointer (some ⟨b,0,none⟩),.slice ra k rc,.slice ab k cb,.int .i64 m] V fun e w' =>
     ∃ a1 c1,e = .returned (.slice a1 m c1)∧w'.ownsRow V.heap.size 3 1 (.slice a1 m c1) m ((cmbTo G.ops m l B k).map (Value.int .i64))∧Below V.heap.size V w'):=fun V hV =>
    vec_any ra rc l ab k cb B m (hG.keep (Below.next hb1r hV)) HFl.out (hrow.keep hV) (hb.keep (Below.next hbwr hV)) (fun t ht=>hA.2 _ (nth_mem (by rw [hA.1];exact ht))) HBr.out hm1 (by omega) (by omega)
   have hvl : (cmbTo G.ops m l B k).length=m:=(cmb_rs HFl.out HBr.out (x:=l) (fun t ht=>hA.2 _ (nth_mem (by rw [hA.1,← HBl.out];exact ht))) k (by rw [HBl.out];exact Nat.le_refl _)).1.1
   obtain ⟨pk,hpk⟩ : ∃ pk,cmbTo G.ops m l B k=pk:=⟨_,rfl⟩
   rw [hpk] at Hvec hvl Htk
   have Hvl:=Lib.hid hvl
   have Hbr:=Lib.hid hbr
   have HbWr:=Lib.hid hbWr
   have HO:=Lib.hid hO
   have g1:=hO.c1
   obtain ⟨_,_,p0,p1⟩:=HS.out wr hbWr
   clear hl hrn hpk hvl hA hrow hbr hbWr hbwr hb1r hO
   go_wp2_with fail
   go_region_law ((first
    | (go_simp;go_at_call 150;((with_reducible refine (Hvec.out _ (Below.refl _ _).drew).mono ?_);rintro e w4 ⟨a4,c4,rfl,hown4,hb4⟩;have hb4':=Below.next (Below.refl wr.heap.size wr).drew hb4;have hs4:=HO.out.keep hb4';have g2:=hs4.c1;have g3:=cell_box hs4.c1 (.cells #[.slice a4 m c4] 22)))
    | (refine step_appAll (by rfl) (.tmp 43) (.tmp 51) 25 22 (by rfl) (.slice none 0 0) 24 Tryz.underlying25 infoInts (by rfl) (g+1) a1 j c1 (List.zipWith rowV Rr (L2.take j)) (by rfl) ((hs4.om.keep (below1 _ _)).own) (some ⟨w4.heap.size,0,none⟩) 1 1 [.slice a4 m c4] (by rfl) (fun _=>rfl) rfl (by intro y hy;obtain rfl : y=0:=(by omega);exact cell_new' _ _ _ rfl) (by intro y hy;simp at hy;subst hy;rfl) (by omega) (by unfold maxLen;omega) (by have e2:=hs4.lt;simp;omega) ?_;intro a5 c5 w5 hown5 hgr5 hap5;have k5:=(hs4.pushed hgr5).2.1;have f5:=(hs4.pushed hgr5).2.2)))
   all_goals (
    go_wp2_with fail
    go_roundw
    case rel =>
     have hra : a4 ≠ none→¬ OIn a1 Rr (ablk a4):=fun h0 hI=>by
      have h1:=(own_ne hown4 h0).1
      have h2:=(HO.out.om.lt _ hI).2
      have h3 : wr.drew.heap.size=wr.heap.size:=rfl
      omega
     obtain ⟨hP,hbP⟩:=hs4.push Hvl.out (own_mono hown4 (show g+1≤wr.drew.heap.size from hgr)) hra hown5 hgr5 hap5
     exact ⟨j+1,a5,c5,_,by omega,by go_num,by rw [Htk.out];exact hP,Below.trans Hbr.out ((hb4'.mono (by omega)).trans hbP)⟩
    case measure=>simp [intOf] <;> omega)
  ·obtain rfl : j=n:=by omega
   rw [List.take_of_length_le (by rw [HL2l.out];exact Nat.le_refl _)] at hO
   have g0:=hO.c0
   have g1:=hO.c1
   have z6:=HX.out.2.2.keep hbWr
   have z0:=z6.cell 0 rfl
   have z1:=z6.cell 1 rfl
   have f0:=z6.frozen 0
   have f1:=z6.frozen 1
   have hs:=HsW.out
   have hMN : MatN (g+1) wr a1 j L2:=MatN.own hO.om
   have HF:=Lib.hid (And.intro (((hMN.setCell (p:=⟨w.heap.size+1+1+1,0,none⟩) (by simp;omega) (.int .i64 m)).setCell (p:=⟨w.heap.size+1+1+1,1,none⟩) (by simp;omega) (.slice a1 j c1)).mono (show w.heap.size≤g+1 by omega))
    ((hbwr.setCell (p:=⟨w.heap.size+1+1+1,0,none⟩) (by simp;omega) (.int .i64 m)).setCell (p:=⟨w.heap.size+1+1+1,1,none⟩) (by simp;omega) (.slice a1 j c1)))
   clear hMN z6 hO
   go_wp2_with fail
   exact bodyPost_ret (v:=.tuple #[.agg #[.int .i64 m,.slice a1 j c1],.int .i64 0]) (by simp [results,Tryz.results131,go_sem,z0,z1]) rfl ⟨a1,c1,rfl,HF.out.1,HF.out.2⟩
end

section
section
variable {O : FOps} {El : Int→Prop} {m : Nat} {L : List (List Int)}
theorem rkQ_out (F : Fld O El) (hL : Rws El m L) {Q : List Int} {x : Int} (h : ¬ clV O El L.length (colS L) (gA Q) x.toNat) : rkQ O L (Q ++ [x])=rkQ O L Q+1:=by
 have h1:=rkQ_rk F hL (Q ++ [x])
 rw [gA_snoc] at h1
 exact h1.uniq (Rk.ind _ h (rkQ_rk F hL Q))
end
def PermN (m : Nat) (Q : List Int) : Prop:=Q.Perm ((List.range m).map Int.ofNat)
theorem PermN.mem {m : Nat} {Q : List Int} (h : PermN m Q) {x : Int} : x ∈ Q ↔ ∃ j : Nat,j<m∧x=j:=by
 rw [h.mem_iff,List.mem_map]
 constructor
 ·rintro ⟨j,hj,rfl⟩;exact ⟨j,List.mem_range.1 hj,rfl⟩
 ·rintro ⟨j,hj,rfl⟩;exact ⟨j,List.mem_range.2 hj,rfl⟩
theorem PermN.len {m : Nat} {Q : List Int} (h : PermN m Q) : Q.length=m:=by rw [h.length_eq];simp
theorem PermN.nodup {m : Nat} {Q : List Int} (h : PermN m Q) : Q.Nodup:=by
 refine h.nodup_iff.2 ?_
 rw [List.nodup_iff_pairwise_ne,List.pairwise_map]
 exact List.nodup_range.imp fun h e=>h (Int.ofNat.inj e)
theorem PermN.inN {m : Nat} {Q : List Int} (h : PermN m Q) : InN m Q:=fun j hj=>by
 obtain ⟨i,hi,e⟩:=h.mem.1 (nth_mem hj)
 omega
section
variable {P M : Int} {mod : List Int} {m : Nat} {L : List (List Int)}
end
end

section
open Go.RowKit
end

section
open Go.RowKit
end

section
open Go.RowKit
end

section
section
variable {O : FOps} {El : Int→Prop} {m : Nat} {L : List (List Int)}
end
end

section
open Go.RowKit
end

section
open Go.RowKit
end

section
open Go.RowKit
end

section
open Go.RowKit
end

section
open Go.RowKit
end

section
open Go.RowKit
end

section
open Go.RowKit Go.Shelf
theorem Moves.putAt (w : World) {I : Nat→Prop} {B : Nat} (hB : I B) (o : Obj) : Moves w (w.putObj B o) I I:=by
 have hg:=grownBy_putObj' w B o
 exact ⟨hg.os,hg.tape,hg.output,hg.size,fun b hb hI=>hg.block b hb (fun e=>by cases e;exact hI hB),fun b hb=>.inl hb⟩
theorem Ints.put {w : World} {a : Option Addr} {n : Nat} {l : List Int} (h : Ints w a n l) (B : Nat) (o : Obj) (hB : 0<n→ablk a ≠ B) : Ints (w.putObj B o) a n l :=
 h.of_block fun hn=>World.putObj_heap_other (fun e=>hB hn e)
end

section
open Go.RowKit Go.Shelf
def WrI (B Bo Br n NN : Nat) (pre : List WX) (V : World) : Prop :=
 (Box V Bo [.slice (some ⟨Br,0,none⟩) pre.length NN]∧V.ownsRow B 22 1 (.slice (some ⟨Br,0,none⟩) pre.length NN) pre.length (pre.map fun x=>.slice x.a n x.c)) ∧
  ∀ x ∈ pre,Ints V x.a n x.l∧ablk x.a ≠ Bo∧ablk x.a ≠ Br
theorem WrI.of_blocks {B Bo Br n NN : Nat} {pre : List WX} {V V' : World} (h : WrI B Bo Br n NN pre V) (ho : V'.heap[Bo]? = V.heap[Bo]?) (hr : V'.heap[Br]? = V.heap[Br]?) (hx : ∀ x ∈ pre,V'.heap[ablk x.a]? = V.heap[ablk x.a]?) (hs : V.heap.size≤V'.heap.size) : WrI B Bo Br n NN pre V' :=
 ⟨⟨⟨Nat.lt_of_lt_of_le h.1.1.1 hs,fun i v hv=>(World.cell?_of_block (w:=V) (a:=⟨Bo,i,none⟩) ho).trans (h.1.1.2.1 i v hv),fun i=>(World.frozen?_of_block (w:=V) (a:=⟨Bo,i,none⟩) ho).trans (h.1.1.2.2 i)⟩,
  own_block h.1.2 hr⟩,fun x hxp=>⟨(h.2 x hxp).1.of_block fun _=>hx x hxp,(h.2 x hxp).2⟩⟩
theorem WrI.rowlt {B Bo Br n NN : Nat} {pre : List WX} {V : World} (h : WrI B Bo Br n NN pre V) : B≤Br∧Br<V.heap.size:=own_ne h.1.2 (by simp)
theorem Box.set0 {w : World} {b : Nat} {v : Value} (h : Box w b [v]) (u : Value) : Box (w.setCell ⟨b,0,none⟩ u) b [u] :=
 ⟨by have:=((Below.refl 0 w).setCell (p:=⟨b,0,none⟩) (Nat.zero_le _) u).size;exact Nat.lt_of_lt_of_le h.1 this,fun i x hx=>by
  cases i with
  | zero=>simp at hx;subst hx;exact World.cell?_setCell_same' _ _ _ (by rw [h.2.1 0 v rfl];rfl)
  | succ i=>simp at hx,fun i=>by rw [World.frozen?_setCell];exact h.2.2 i⟩
theorem Box.of_block {w w' : World} {b : Nat} {cs : List Value} (h : Box w b cs) (hb : w'.heap[b]? = w.heap[b]?) (hs : w.heap.size≤w'.heap.size) : Box w' b cs :=
 ⟨Nat.lt_of_lt_of_le h.1 hs,fun i v hv=>(World.cell?_of_block (w:=w) (a:=⟨b,i,none⟩) hb).trans (h.2.1 i v hv),fun i=>(World.frozen?_of_block (w:=w) (a:=⟨b,i,none⟩) hb).trans (h.2.2 i)⟩
theorem Moves.grownB {w w' : World} {I : Nat→Prop} {B : Nat} (hg : w.grownBy w' (some B)) (hB : I B) : Moves w w' I I :=
 ⟨hg.os,hg.tape,hg.output,hg.size,fun b hb hI=>hg.block b hb (fun e=>by cases e;exact hI hB),fun b hb=>.inl hb⟩
theorem WrI.step {B Br n NN : Nat} {pre : List WX} {x : WX} {W W1 : World} {o : Obj} (h : WrI B (Br+1) Br n NN pre W) (hix : Ints W x.a n x.l) (hn : 1≤n) (hx1 : ablk x.a ≠ Br+1) (hx2 : ablk x.a ≠ Br)
  (hg : (W.alloc o).grownBy W1 (some Br)) (hown : W1.ownsRow B 22 1 (.slice (some ⟨Br,0,none⟩) (pre.length+1) NN) (pre.length+1) (pre.map (fun x=>.slice x.a n x.c) ++ [.slice x.a n x.c])) :
  WrI B (Br+1) Br n NN (pre ++ [x]) (W1.setCell ⟨Br+1,0,none⟩ (.slice (some ⟨Br,0,none⟩) (pre.length+1) NN)) ∧
   Moves W (W1.setCell ⟨Br+1,0,none⟩ (.slice (some ⟨Br,0,none⟩) (pre.length+1) NN)) (fun y=>y=Br+1∨y=Br) (fun y=>y=Br+1∨y=Br):=by
 have hblk : ∀ y,y<W.heap.size→y ≠ Br→W1.heap[y]? = W.heap[y]?:=fun y hy h2=>(hg.block y (by simp;omega) (fun e=>by cases e;exact h2 rfl)).trans (Below.heap_alloc _ _ _ hy)
 have hsz : W.heap.size≤W1.heap.size:=by have:=hg.size;simp at this;omega
 have hbx : Box W1 (Br+1) [.slice (some ⟨Br,0,none⟩) pre.length NN]:=h.1.1.of_block (hblk _ h.1.1.1 (by omega)) hsz
 refine ⟨⟨⟨by rw [List.length_append];exact hbx.set0 _,?_⟩,?_⟩,((Moves.of_below (below1 W o) _).trans (Moves.grownB hg (.inr rfl))).trans (Moves.setAt _ (.inl rfl) _)⟩
 ·have h2:=own_block hown (w':=W1.setCell ⟨Br+1,0,none⟩ (.slice (some ⟨Br,0,none⟩) (pre.length+1) NN)) (Below.heap_setCell _ _ _ _ (by show Br ≠ Br+1;omega))
  rw [List.length_append,List.map_append]
  exact h2
 ·intro y hy
  have hy' : Ints W y.a n y.l∧ablk y.a ≠ Br+1∧ablk y.a ≠ Br:=by
   rcases List.mem_append.1 hy with hy | hy
   ·exact h.2 y hy
   ·rw [List.mem_singleton.1 hy];exact ⟨hix,hx1,hx2⟩
  refine ⟨hy'.1.of_block fun h0=>?_,hy'.2⟩
  exact (Below.heap_setCell _ _ _ _ (by show ablk y.a ≠ Br+1;exact hy'.2.1)).trans (hblk _ (hy'.1.lt h0) hy'.2.2)
attribute [local go_sem] Oper.semAt_some
end

section
theorem sub_bit {r p : Nat} (h : r.testBit p=true) (j : Nat) : (r - 2 ^ p).testBit j=(r.testBit j && !decide (p=j)):=by
 have hx : (r ^^^ 2 ^ p).testBit p=false:=by rw [Nat.testBit_xor,h,Nat.testBit_two_pow];simp
 have e1 : (r ^^^ 2 ^ p) ||| 2 ^ p=r:=by
  apply Nat.eq_of_testBit_eq
  intro i
  rw [Nat.testBit_or,Nat.testBit_xor,Nat.testBit_two_pow]
  by_cases e : p=i
  ·subst e;simp [h]
  ·simp [e]
 have e2:=or_add p _ hx
 rw [e1] at e2
 have e3 : r - 2 ^ p=r ^^^ 2 ^ p:=by omega
 rw [e3,Nat.testBit_xor,Nat.testBit_two_pow]
 by_cases e : p=j
 ·subst e;simp [h]
 ·simp [e]
theorem leastTo_skip {N : Nat} {T : List Int} {s i : Nat} : ∀ {k},i≤k→(∀ j,i≤j→j<k→s.testBit j=false)→leastTo N T s k=leastTo N T s i
 | 0, h, _ => by obtain rfl : i = 0 := by omega
                 rfl
 | k+1,h,hz=>by
  by_cases e : i=k+1
  ·rw [e]
  ·rw [leastTo,if_neg (by rw [hz k (by omega) (by omega)];simp)]
   exact leastTo_skip (by omega) fun j h1 h2=>hz j h1 (by omega)
def RestAt (s i r : Nat) : Prop:=∀ j,r.testBit j=(decide (i≤j) && s.testBit j)
theorem RestAt.start (s : Nat) : RestAt s 0 s:=fun j=>by simp
theorem RestAt.step {s i r p : Nat} (h : RestAt s i r) (hp : r.testBit p=true) (hlow : ∀ j,j<p→r.testBit j=false) {N : Nat} (T : List Int) :
  RestAt s (p+1) (r - 2 ^ p)∧s.testBit p=true∧leastTo N T s (p+1)=min (leastTo N T s i) (nth T (s - 2 ^ p)):=by
 have h1:=h p
 rw [hp] at h1
 have h2 : i≤p∧s.testBit p=true:=by
  have:=h1.symm
  simp only [Bool.and_eq_true,decide_eq_true_eq] at this
  exact this
 refine ⟨fun j=>?_,h2.2,?_⟩
 ·rw [sub_bit hp,h j]
  by_cases e1 : p=j
  ·subst e1
   have : decide (p+1≤p)=false:=by simp
   rw [this];simp
  ·by_cases e2 : j<p
   ·have h3:=hlow j e2
    rw [h j] at h3
    have : decide (p+1≤j)=false:=by simp;omega
    rw [this,h3];simp
   ·have h3 : decide (i≤j)=true:=by simp;omega
    have h4 : decide (p+1≤j)=true:=by simp;omega
    have h5 : decide (p=j)=false:=by simpa using e1
    rw [h3,h4,h5];simp
 ·rw [leastTo,if_pos h2.2,leastTo_skip h2.1 fun j h3 h4=>by
   have h5:=hlow j h4
   rw [h j] at h5
   simpa [h3] using h5]
theorem RestAt.done {s i : Nat} (h : RestAt s i 0) {N : Nat} (T : List Int) (hi : i≤N) : leastTo N T s N=leastTo N T s i :=
 leastTo_skip hi fun j h1 h2=>by
  have:=h j
  rw [Nat.zero_testBit] at this
  simpa [h1] using this.symm
end

section
open Go.RowKit
end

end Go.Proofs.YtcflcogbpnmjeaaGreat
