/-  -/
import Derived.Test.YtcflcogbpnmjeaaGreatK15
import Derived.Test.YtcflcogbpnmjeaaGreatK12
import Derived.Test.YtcflcogbpnmjeaaGreatK9
import Derived.Test.YtcflcogbpnmjeaaGreatK11
import Derived.Test.YtcflcogbpnmjeaaGreatK3
namespace Go.Proofs.YtcflcogbpnmjeaaGreat
set_option linter.unusedVariables false
set_option linter.unusedSimpArgs false
set_option linter.unusedSectionVars false

section
open Go.RowKit
def OwnPost (P M : Int) (mod : List Int) (w : World) (e : Ending) (w' : World) : Prop :=
 ∃ a c,e = .returned (.agg #[.int .i64 P,.int .i64 M,.slice a mod.length c])∧IntsN w.heap.size w' a mod.length mod∧Below w.heap.size w w'
set_option maxRecDepth 100000 in
set_option maxHeartbeats 1600000 in
theorem own_any (P M : Int) (am : Option Addr) (mn cm : Nat) (mod : List Int) (w : World) (hmod : Ints w am mn mod) (hmn : mn≤1000000) :
  Calls Tryz.prog 147 #[.agg #[.int .i64 P,.int .i64 M,.slice am mn cm]] w (OwnPost P M mod w):=by
 go_enter Tryz.func147,Tryz.ntmps147
 go_wp2_with fail
 obtain ⟨W,hW⟩ : ∃ W : World,W=(w.alloc (.cells #[.int .i64 P,.int .i64 M,.slice am mn cm] 24)).alloc (.cells #[.int .i64 0,.int .i64 0,.slice none 0 0] 24):=⟨_,rfl⟩
 rw [← hW]
 have hbW : Below w.heap.size w W:=by rw [hW];exact below2 _ _ _
 have hsW : W.heap.size=w.heap.size+2:=by rw [hW];simp
 have x0 : Box W w.heap.size [.int .i64 P,.int .i64 M,.slice am mn cm]:=by rw [hW];exact (Box.new _ _ _ rfl).alloc _
 have y0 : Box W (w.heap.size+1) [.int .i64 0,.int .i64 0,.slice none 0 0]:=by rw [hW];exact Box.new _ _ _ (by simp)
 clear hW
 refine (clone1_any am mn cm mod (hmod.keep hbW) hmn).mono ?_
 rintro e w1 ⟨a1,c1,rfl,hown1,hb1⟩
 have x1:=x0.keep hb1
 have y1:=y0.keep hb1
 have d0:=x1.cell 0 rfl
 have d1:=x1.cell 1 rfl
 have d2:=x1.cell 2 rfl
 have e0:=y1.cell 0 rfl
 have e1:=y1.cell 1 rfl
 have e2:=y1.cell 2 rfl
 have fx:=x1.frozen 2
 have f0:=y1.frozen 0
 have f1:=y1.frozen 1
 have f2:=y1.frozen 2
 have hbw1:=Below.next hbW hb1
 have hl:=Lib.hid (IntsN.own hown1)
 have hN : IntsN w.heap.size ((((w1.setCell ⟨w.heap.size,2,none⟩ (.slice a1 mod.length c1)).setCell ⟨w.heap.size+1,0,none⟩ (.int .i64 P)).setCell ⟨w.heap.size+1,1,none⟩ (.int .i64 M)).setCell ⟨w.heap.size+1,2,none⟩ (.slice a1 mod.length c1)) a1 mod.length mod :=
  ((((hl.out.setCell (p:=⟨w.heap.size,2,none⟩) (by simp;omega) _).setCell (p:=⟨w.heap.size+1,0,none⟩) (by simp;omega) _).setCell (p:=⟨w.heap.size+1,1,none⟩) (by simp;omega) _).setCell (p:=⟨w.heap.size+1,2,none⟩) (by simp;omega) _).mono (by omega)
 have hB : Below w.heap.size w ((((w1.setCell ⟨w.heap.size,2,none⟩ (.slice a1 mod.length c1)).setCell ⟨w.heap.size+1,0,none⟩ (.int .i64 P)).setCell ⟨w.heap.size+1,1,none⟩ (.int .i64 M)).setCell ⟨w.heap.size+1,2,none⟩ (.slice a1 mod.length c1)) :=
  (((hbw1.setCell (p:=⟨w.heap.size,2,none⟩) (by simp) _).setCell (p:=⟨w.heap.size+1,0,none⟩) (by simp) _).setCell (p:=⟨w.heap.size+1,1,none⟩) (by simp) _).setCell (p:=⟨w.heap.size+1,2,none⟩) (by simp) _
 have HF:=Lib.hid (And.intro hN hB)
 clear hN hB hown1 hl x0 y0 hbw1
 go_wp2_with fail
 exact bodyPost_ret (v:=.agg #[.int .i64 P,.int .i64 M,.slice a1 mod.length c1]) (by simp [results,Tryz.results147,go_sem,e0,e1,e2]) rfl ⟨a1,c1,rfl,HF.out.1,HF.out.2⟩
def OfPost (P M : Int) (mod : List Int) (m : Int) (a : Option Addr) (k c : Nat) (w : World) (e : Ending) (w' : World) : Prop :=
 ∃ a1 c1,e = .returned (.tuple #[.agg #[.int .i64 P,.int .i64 M,.slice a1 mod.length c1,.int .i64 m,.slice a k c],.int .i64 0])∧IntsN w.heap.size w' a1 mod.length mod∧Below w.heap.size w w'
set_option maxRecDepth 100000 in
set_option maxHeartbeats 4000000 in
theorem of_any (P M : Int) (am : Option Addr) (mn cm : Nat) (mod : List Int) (m : Int) (a : Option Addr) (k c : Nat) (w : World) (hmod : Ints w am mn mod) (hmn : mn≤1000000) :
  Calls Tryz.prog 96 #[.agg #[.int .i64 P,.int .i64 M,.slice am mn cm],.agg #[.int .i64 m,.slice a k c],.int .i64 0] w (OfPost P M mod m a k c w):=by
 go_enter Tryz.func96,Tryz.ntmps96
 go_wp2_with fail
 obtain ⟨W,hW⟩ : ∃ W : World,W=((w.alloc (.cells #[.int .i64 P,.int .i64 M,.slice am mn cm] 24)).alloc (.cells #[.int .i64 m,.slice a k c] 73)).alloc (.cells #[.int .i64 0,.int .i64 0,.slice none 0 0,.int .i64 0,.slice none 0 0] 27):=⟨_,rfl⟩
 rw [← hW]
 have hbW : Below w.heap.size w W:=by rw [hW];exact below3 _ _ _ _
 have hsW : W.heap.size=w.heap.size+3:=by rw [hW];simp
 have x0 : Box W w.heap.size [.int .i64 P,.int .i64 M,.slice am mn cm]:=by rw [hW];exact ((Box.new _ _ _ rfl).alloc _).alloc _
 have y0 : Box W (w.heap.size+1) [.int .i64 m,.slice a k c]:=by rw [hW];exact (Box.new _ _ _ (by simp)).alloc _
 have z0 : Box W (w.heap.size+1+1) [.int .i64 0,.int .i64 0,.slice none 0 0,.int .i64 0,.slice none 0 0]:=by rw [hW];exact Box.new _ _ _ (by simp)
 have Hown : Hid (∀ V,Below W.heap.size W V→Calls Tryz.prog 147 #[.agg #[.int .i64 P,.int .i64 M,.slice am mn cm]] V (OwnPost P M mod V)):=fun V hV=>own_any P M am mn cm mod V (hmod.keep (Below.next hbW hV)) hmn
 have hS : ∀ V,Below W.heap.size W V→V.cell? ⟨w.heap.size,0,none⟩=some (.int .i64 P)∧V.cell? ⟨w.heap.size,1,none⟩=some (.int .i64 M)∧V.cell? ⟨w.heap.size,2,none⟩=some (.slice am mn cm)∧V.cell? ⟨w.heap.size+1,0,none⟩=some (.int .i64 m)∧V.cell? ⟨w.heap.size+1,1,none⟩=some (.slice a k c) ∧
   Box V (w.heap.size+1+1) [.int .i64 0,.int .i64 0,.slice none 0 0,.int .i64 0,.slice none 0 0]:=fun V hV=>by
  have x1:=x0.keep hV
  have y1:=y0.keep hV
  exact ⟨x1.cell 0 rfl,x1.cell 1 rfl,x1.cell 2 rfl,y1.cell 0 rfl,y1.cell 1 rfl,z0.keep hV⟩
 have HS:=Lib.hid hS
 have HbW:=Lib.hid hbW
 have HsW:=Lib.hid hsW
 obtain ⟨c0,c1,c2,c3,c4,_⟩:=HS.out W (Below.refl _ _)
 have HP : Hid (∀ (w4 : World) (a4 : Option Addr) (c4' : Nat),IntsN W.drew.heap.size w4 a4 mod.length mod→Below W.drew.heap.size W.drew w4 →
   OfPost P M mod m a k c w (.returned (.tuple #[.agg #[.int .i64 P,.int .i64 M,.slice a4 mod.length c4',.int .i64 m,.slice a k c],.int .i64 0]))
    (((((w4.setCell ⟨w.heap.size+1+1,0,none⟩ (.int .i64 P)).setCell ⟨w.heap.size+1+1,1,none⟩ (.int .i64 M)).setCell ⟨w.heap.size+1+1,2,none⟩ (.slice a4 mod.length c4')).setCell ⟨w.heap.size+1+1,3,none⟩ (.int .i64 m)).setCell ⟨w.heap.size+1+1,4,none⟩ (.slice a k c))):=fun w4 a4 c4' h1 h2=>by
  have h1' : IntsN W.heap.size w4 a4 mod.length mod:=h1
  have hb:=Below.next hbW (Below.next (Below.refl _ _).drew h2)
  have hs:=HsW.out
  refine ⟨a4,c4',rfl,?_,?_⟩
  ·exact (((((h1'.setCell (p:=⟨w.heap.size+1+1,0,none⟩) (by simp;omega) _).setCell (p:=⟨w.heap.size+1+1,1,none⟩) (by simp;omega) _).setCell (p:=⟨w.heap.size+1+1,2,none⟩) (by simp;omega) _).setCell (p:=⟨w.heap.size+1+1,3,none⟩) (by simp;omega) _).setCell (p:=⟨w.heap.size+1+1,4,none⟩) (by simp;omega) _).mono (by omega)
  ·exact ((((hb.setCell (p:=⟨w.heap.size+1+1,0,none⟩) (by simp;omega) _).setCell (p:=⟨w.heap.size+1+1,1,none⟩) (by simp;omega) _).setCell (p:=⟨w.heap.size+1+1,2,none⟩) (by simp;omega) _).setCell (p:=⟨w.heap.size+1+1,3,none⟩) (by simp;omega) _).setCell (p:=⟨w.heap.size+1+1,4,none⟩) (by simp;omega) _
 clear hW x0 y0 z0 hS hmod hbW hsW
 go_wp2_with fail
 go_region_law (
  (go_simp;go_at_call 147;((with_reducible refine (Hown.out _ (Below.refl _ _).drew).mono ?_);rintro e w4 ⟨a4,c4',rfl,hN4,hb4⟩;obtain ⟨c0,c1,c2,c3,c4,zz⟩:=HS.out w4 (Below.next (Below.refl _ _).drew hb4);have z0:=zz.cell 0 rfl;have z1:=zz.cell 1 rfl;have z2:=zz.cell 2 rfl;have z3:=zz.cell 3 rfl;have z4:=zz.cell 4 rfl;have f0:=zz.frozen 0;have f1:=zz.frozen 1;have f2:=zz.frozen 2;have f3:=zz.frozen 3;have f4:=zz.frozen 4)))
 all_goals (
  have HP4:=Lib.hid (HP.out w4 a4 c4' hN4 hb4)
  clear hN4 hb4 Hown HS HP
  go_wp2_with fail
  exact bodyPost_ret (v:=.tuple #[.agg #[.int .i64 P,.int .i64 M,.slice a4 mod.length c4',.int .i64 m,.slice a k c],.int .i64 0]) (by simp [results,Tryz.results96,go_sem,z0,z1,z2,z3,z4]) rfl HP4.out)
end

section
open Go.RowKit
theorem exColumn_any (pb : Nat) (a : Option Addr) (n c : Nat) (L : List (List Int)) (i : Nat) (w : World) (p5 : w.cell? ⟨pb,5,none⟩=some (.slice a n c)) (hi : Mat w a n L) (hL : ∀ r ∈ L,i<r.length) (hn : n≤1000000) :
  Calls Tryz.prog 200 #[.pointer (some ⟨pb,0,none⟩),.int .i64 i] w (NewInts w (colS L i)):=by
 have Hlen:=Lib.hid hi.len
 have hpl:=hi.pl
 have HL:=Lib.hid hL
 clear hL
 go_enter Tryz.func200,Tryz.ntmps200
 go_wp2_with (at_make;refine wpList_mk rfl _ _ 22 3 rfl (.int .i64 0) 8 Tryz.underlying22 infoInt rfl n rfl rfl (by omega) (by unfold maxLen;omega) ?_;intro a1 w1 hown hbel hge hlt;have c5 : w1.cell? ⟨pb,5,none⟩=some (.slice a n c):=cell_keep hbel p5)
 have hbw : Below w.heap.size w w1:=hbel
 have hown1 : w1.ownsRow w.heap.size 3 1 (.slice a1 n n) n (List.replicate n (.int .i64 0)):=hown
 clear hown hbel
 go_loopw [21] (fun iv wr=>∃ k : Nat,k≤n∧iv = .int .i64 k ∧
   wr.ownsRow w.heap.size 3 1 (.slice a1 n n) n ((fillTo ((colS L i).take k) k n).map (Value.int .i64))∧Below w.heap.size w wr)
  (fun i _=>n - (intOf i).toNat)
 case atStart=>exact ⟨0,Nat.zero_le _,rfl,by simpa [fillTo] using hown1,hbw⟩
 case round =>
  obtain ⟨k,hk,rfl,hown,hbel⟩:=hrel
  obtain ⟨hints,hmine⟩:=Ints.own hown
  have hpl1:=hints.pl
  by_cases hlt : k<n
  ·obtain ⟨ra,rn,rc,hcell,hrow⟩:=(hi.keep hbel).cell k hlt
   have hkL : k<L.length:=by rw [Hlen.out];exact hlt
   have hri : i<rn:=by rw [← hrow.len,nthR_getElem hkL];exact HL.out _ (List.getElem_mem hkL)
   have ci:=hrow.cell i hri
   have hpr:=hrow.pl
   have hf:=(hmine (by omega)).2 k hlt
   have hc2:=hints.cell k hlt
   have hB:=(hmine (by omega)).1
   have Hv:=Lib.hid (nth_colS L i k hkL)
   go_wp2_with fail
   go_roundw
   case rel =>
    refine ⟨k+1,by omega,by go_num,?_,hbel.setCell hB _⟩
    have h:=own_set hown k hlt (.int .i64 (nth (nthR L k) i))
    rw [← List.map_set,fillTo_set _ _ _ _ (by rw [List.length_take,colS_length];omega) hlt] at h
    rw [List.take_succ_eq_append_getElem (by rw [colS_length];omega),← nth_getElem,Hv.out]
    exact h
   case measure=>simp [intOf] <;> omega
  ·obtain rfl : k=n:=by omega
   have hl : (colS L i).length=k:=by rw [colS_length];exact Hlen.out
   rw [fillTo_all,List.take_of_length_le (by omega)] at hown
   have Hl:=Lib.hid hl
   clear hl
   go_wp2_with fail
   go_ret
   exact ⟨a1,k,by rw [Hl.out];rfl,by rw [Hl.out];exact hown,hbel⟩
set_option maxRecDepth 100000 in
set_option maxHeartbeats 4000000 in
theorem exGreedy_any {w : World} {b : Nat} {G : Tbl} (pb : Nat) (a : Option Addr) (n c : Nat) (L : List (List Int)) (m : Nat) (ao : Option Addr) (no co : Nat) (Q : List Int) (most : Nat)
  (p0 : w.cell? ⟨pb,0,none⟩=some (.pointer (some ⟨b,0,none⟩))) (p5 : w.cell? ⟨pb,5,none⟩=some (.slice a n c))
  (h : GFw w b G) (hi : Mat w a n L) (hR : Rws G.El m L) (hq : Ints w ao no Q) (hQ : ∀ k,k<no→0≤nth Q k∧nth Q k<m) (hn : n≤1000000) (hno : no≤1000000) :
  Calls Tryz.prog 162 #[.pointer (some ⟨pb,0,none⟩),.slice ao no co,.int .i64 most] w (NewInts w (grM G.ops L Q most)):=by
 have Hlen:=Lib.hid hi.len
 have HR:=Lib.hid hR
 have HQ:=Lib.hid hQ
 have Hql:=Lib.hid hq.len
 have hplq:=hq.pl
 have hcl:=Lib.hid (Tbl.cl h)
 have HP:=Lib.hid (fun (V : World) (hV : Below w.heap.size w V)=>cell_keep hV p5)
 clear hR hQ
 go_enter Tryz.func162,Tryz.ntmps162
 go_wp2_with fail
 obtain ⟨V,hV⟩ : ∃ V : World,V=w.alloc (.cells #[.pointer (some ⟨b,0,none⟩),.slice none 0 0,.slice none 0 0] 213):=⟨_,rfl⟩
 rw [← hV]
 have hbV : Below w.heap.size w V:=by rw [hV];exact below1 _ _
 have hB0 : Bas V w.heap.size w.heap.size b none 0 [] none 0 ⟨[],[]⟩:=Bas.start (Nat.le_refl _) (by rw [hV];exact Box.new _ _ _ rfl)
 clear hV p0 p5
 go_loopw [8,19] (fun qv iv wr=>∃ (k : Nat) (aq : Option Addr) (cq : Nat) (out : List Int) (s : BS) (ar : Option Addr) (cr : Nat) (R : List (Option Addr × Nat)) (ap : Option Addr) (cp : Nat),k≤no∧iv = .int .i64 k∧qv = .slice aq out.length cq ∧
   Hid (grTo G.ops L Q k=(s,out))∧Bas wr w.heap.size w.heap.size b ar cr R ap cp s∧wr.ownsRow w.heap.size 3 1 (.slice aq out.length cq) out.length (out.map (Value.int .i64))∧Hid (aq ≠ none→¬ BIn w.heap.size ar R ap (ablk aq)) ∧
   Below w.heap.size w wr∧Hid (s.Ok G.El n)∧s.rows.length≤k∧out.length≤k∧Hid (out.length≤most))
  (fun _ iv _=>no - (intOf iv).toNat)
 case atStart=>exact ⟨0,none,0,[],⟨[],[]⟩,none,0,[],none,0,Nat.zero_le _,rfl,rfl,rfl,hB0,own_none,fun h0=>absurd rfl h0,hbV,⟨fun r hr=>by simp at hr,rfl,fun i hi=>by simp at hi⟩,Nat.zero_le _,Nat.zero_le _,Nat.zero_le _⟩
 case round =>
  obtain ⟨k,aq,cq,out,s,ar,cr,R,ap,cp,hk,rfl,rfl,hst,hBr,hop,hdq,hbr,hok,hsk,hok2,hom⟩:=hrel
  generalize wr=U at *
  by_cases hlt : k<no
  ·have cq1:=(hq.keep hbr).cell k hlt
   have hQk:=HQ.out k hlt
   obtain ⟨i,hik⟩ : ∃ i : Nat,nth Q k=i:=⟨(nth Q k).toNat,by omega⟩
   rw [hik] at cq1 hQk
   by_cases hmo : out.length=most
   ·have Ho : Hid (grM G.ops L Q most=out):=by
     show _=_
     have h1:=grM_stop (O:=G.ops) (L:=L) (Q:=Q) (k:=k) (most:=most) (by rw [Hql.out];exact hk) (by rw [hst.out];exact hmo)
     rw [h1,hst.out]
    have hd : ((out.length : Int) == (most : Int))=true:=by simp;omega
    clear hmo
    go_wp2_with fail
    go_ret
    exact ⟨aq,cq,by rw [Ho.out];rfl,by rw [Ho.out];exact hop,hbr⟩
   have hd : ((out.length : Int) == (most : Int))=false:=by simp;omega
   have Hom : Hid (out.length+1≤most):=by have:=hom.out;show _≤_;omega
   have him : i<m:=by omega
   have p5:=HP.out U hbr
   have hcol:=colS_el HR.out him
   rw [Hlen.out] at hcol
   have hstep : grTo G.ops L Q (k+1)=(s.next G.ops (colS L i),if s.takes G.ops (colS L i)=true then out ++ [(i : Int)] else out):=by rw [grTo,hst.out,hik,Int.toNat_natCast]
   have Hstep:=Lib.hid hstep
   have Hcol:=Lib.hid hcol
   clear hstep hcol hik hmo
   go_wp2_with fail
   refine (exColumn_any pb a n c L i U p5 (hi.keep hbr) (fun r hr=>by rw [(HR.out r hr).1];exact him) hn).mono ?_
   rintro e w3 ⟨a3,c3,rfl,hown3,hb3⟩
   rw [Hcol.out.1] at hown3
   rw [Hcol.out.1]
   have hB3:=hBr.keep hb3
   have hbw3:=Below.next hbr hb3
   have hn3 : a3 ≠ none→¬ BIn w.heap.size ar R ap (ablk a3):=fun h0 hI=>by
    have h1:=(own_ne hown3 h0).1
    have h2:=(hBr.lt _ hI).2
    omega
   clear p5
   go_wp2_with fail
   refine (baddE_any w.heap.size ar cr R ap cp s a3 c3 n (colS L i) h hbw3 hB3 hok.out (own_mono hown3 hbr.size) hn3 Hcol.out.2 hn (by omega)).mono ?_
   rintro e w4 ⟨ar',cr',R',ap',cp',rfl,hB4,hM4⟩
   have hbw4 : Below w.heap.size w w4:=hbw3.trans (hM4.below (fun x hx=>by
    rcases hx with h1 | ⟨h1,h2⟩
    ·exact (hB3.lt x h1).1
    ·rw [h2];exact Nat.le_trans hbr.size (own_ne hown3 h1).1) hbw3.size)
   have hop3:=own_keep hop hb3
   have hnI : aq ≠ none→¬ (BIn w.heap.size ar R ap (ablk aq)∨(a3 ≠ none∧ablk aq=ablk a3)):=fun h0 hI=>by
    rcases hI with h1 | ⟨h1,h2⟩
    ·exact hdq.out h0 h1
    ·have e1:=(own_ne hop h0).2
     have e2:=(own_ne hown3 h1).1
     omega
   have hop4:=hM4.own hop3 hnI
   have hdq4 : aq ≠ none→¬ BIn w.heap.size ar' R' ap' (ablk aq):=fun h0=>hM4.not (own_ne hop3 h0).2 (hnI h0)
   have hok4 : (s.next G.ops (colS L i)).Ok G.El n:=BS.Ok.next hcl.out hok.out Hcol.out
   have hlen4:=BS.next_len G.ops s (colS L i)
   have Hok4:=Lib.hid hok4
   have Hdq4:=Lib.hid hdq4
   clear hnI hdq4 hok4
   by_cases ht : s.takes G.ops (colS L i)=true
   ·rw [ht]
    have Hst : Hid (grTo G.ops L Q (k+1)=(s.next G.ops (colS L i),out ++ [(i : Int)])):=by show _=_;rw [Hstep.out,if_pos ht]
    clear ht
    generalize s.next G.ops (colS L i)=s' at *
    have hcn:=cell_new w4 (.int .i64 i) 3
    have hbn:=below1 w4 (.cells #[.int .i64 i] 3)
    have hsz4:=hbw4.size
    go_wp2_with (at_builtin;refine wpList_push rfl _ _ 22 3 rfl (.int .i64 0) 8 Tryz.underlying22 infoInt rfl w.heap.size aq out.length cq _ rfl (hop4.alloc _) ⟨w4.heap.size,0,none⟩ 1 (.int .i64 i) rfl hcn rfl (by omega) (by unfold maxLen;omega) (by simp;omega) ?_;intro a5 c5 w5 hown5 hgr5 hap5)
    go_roundw
    case rel =>
     have hBn:=hB4.keep hbn
     have haq : ∀ x,BIn w.heap.size ar' R' ap' x→Apt aq x:=fun x hx=>by
      by_cases h0 : aq=none
      ·exact .inl h0
      ·exact .inr fun e=>Hdq4.out h0 (e ▸ hx)
     have hB5 : Bas w5 w.heap.size w.heap.size b ar' cr' R' ap' cp' s':=hBn.of_blocks fun x hx=>hgr5.block x (hBn.lt x hx).2 fun e=>(haq x hx).own _ _ e.symm
     have hb5 : Below w.heap.size w w5:=Below.app (Below.trans hbw4 (hbn.mono hsz4)) (hop4.alloc _) hgr5 (Nat.le_refl _) (Nat.le_trans hsz4 hbn.size)
     refine ⟨k+1,a5,c5,out ++ [(i : Int)],s',ar',cr',R',ap',cp',by omega,by go_num,by simp,Hst.out,hB5,?_,?_,hb5,Hok4.out,by omega,by simp;omega,?_⟩
     ·simpa using hown5
     ·show a5 ≠ none→_
      intro h0 hI
      rcases hap5 _ (hBn.lt _ hI).2 (haq _ hI) with h1 | h1
      ·exact h0 h1
      ·exact h1 rfl
     ·show _≤_
      rw [List.length_append];exact Hom.out
    case measure=>simp [intOf] <;> omega
   ·have ht' : s.takes G.ops (colS L i)=false:=by simpa using ht
    rw [ht']
    have Hst : Hid (grTo G.ops L Q (k+1)=(s.next G.ops (colS L i),out)):=by show _=_;rw [Hstep.out,if_neg ht]
    clear ht ht'
    generalize s.next G.ops (colS L i)=s' at *
    go_wp2_with fail
    go_roundw
    case rel=>exact ⟨k+1,aq,cq,out,s',ar',cr',R',ap',cp',by omega,by go_num,rfl,Hst.out,hB4,hop4,Hdq4.out,hbw4,Hok4.out,by omega,by omega,hom.out⟩
    case measure=>simp [intOf] <;> omega
  ·obtain rfl : k=no:=by omega
   have Ho : Hid (grM G.ops L Q most=out):=by
    show _=_
    have h1:=grM_all (O:=G.ops) (L:=L) (Q:=Q) (most:=most) (by rw [Hql.out,hst.out];exact hom.out)
    rw [h1,Hql.out,hst.out]
   go_wp2_with fail
   go_ret
   exact ⟨aq,cq,by rw [Ho.out];rfl,by rw [Ho.out];exact hop,hbr⟩
end

section
open Go.RowKit
theorem InNs.set {m : Nat} {A : List Int} (hA : ∀ k,k<A.length→0≤nth A k∧nth A k<m) {t : Nat} (ht : t<A.length) {j : Int} (hj : 0≤j∧j<m) : ∀ k,k<A.length→0≤nth (A.set t j) k∧nth (A.set t j) k<m:=fun k hk=>by
 rw [nth_set _ _ _ _ ht]
 split
 ·exact hj
 ·exact hA k hk
end

section
theorem frTo_pair (b : Bool) (U : List Int) : ∀ k,(frTo b U k).Pairwise (fun x y=>x<y)
 | 0=>List.Pairwise.nil
 | k+1=>by
  have ih:=frTo_pair b U k
  rw [frTo]
  split
  ·rw [List.pairwise_append]
   refine ⟨ih,by simp,fun x hx y hy=>?_⟩
   rw [List.mem_singleton] at hy
   obtain ⟨j,hj,rfl,_⟩:=(mem_frTo k).1 hx
   omega
  ·exact ih
theorem used_sort {m : Nat} {U : List Int} (hn : U.Nodup) (hU : ∀ x ∈ U,0≤x∧x<(m : Int)) : sortL U=frTo true U m:=by
 have h:=frTo_pair true U m
 refine (sortL_unique (h.imp fun h=>by omega) ((List.perm_ext_iff_of_nodup (h.imp fun h=>by omega) hn).2 fun x=>?_)).symm
 rw [mem_frTo]
 constructor
 ·rintro ⟨j,_,rfl,h1⟩;simpa using h1
 ·intro hx
  have h1:=hU x hx
  exact ⟨x.toNat,by omega,by omega,by rw [show ((x.toNat : Nat) : Int)=x by omega];simpa using hx⟩
theorem used_len {m : Nat} {U : List Int} (hn : U.Nodup) (hU : ∀ x ∈ U,0≤x∧x<(m : Int)) : U.length≤m:=by
 rw [← sortL_len,used_sort hn hU];exact frTo_len _ _ _
theorem okSet_nodup {N : Int} {A : List Int} (h : okSet N A=true) : A.Nodup:=by
 refine nth_inj_nodup fun i j hij hj=>?_
 have key : ∀ d i,i+d<A.length→0<d→nth A i<nth A (i+d):=fun d=>by
  induction d with
  | zero=>intro i _ h0;omega
  | succ d ih =>
   intro i hi _
   have h1:=(okSet_at h hi).2.2 (by omega)
   rw [show i+(d+1) - 1=i+d by omega] at h1
   by_cases h0 : d=0
   ·subst h0;exact h1
   ·have:=ih i (by omega) (by omega);omega
 have:=key (j - i) i (by omega) (by omega)
 rw [show i+(j - i)=j by omega] at this
 omega
section
variable {O : FOps} {El : Int→Prop} {m : Nat} {L : List (List Int)}
end
end

section
variable {O : FOps} {L : List (List Int)} {m : Nat} {C : Clm}
end

section
def bn : Nat→Nat→Nat
 | _,0=>1
 | 0,_+1=>1
 | r+1,d+1=>bn r (d+1)+bn (r+1) d
variable {O : FOps} {El : Int→Prop} {m : Nat} {L : List (List Int)}
theorem rkQ_le (O : FOps) (L : List (List Int)) (Q : List Int) : rkQ O L Q≤Q.length:=grS_le O L Q
variable {C : Clm}
structure NodeOk (O : FOps) (L : List (List Int)) (m : Nat) (C : Clm) (s z : List Int) : Prop where
 sn : s.Nodup
 sb : ∀ x ∈ s,0≤x∧x<(m : Int)
 zn : z.Nodup
 zb : ∀ x ∈ z,0≤x∧x<(m : Int)
 sz : ∀ x ∈ z,¬ x ∈ s
 zi : rkQ O L z=z.length
 zk : ¬ C.cos=true→z.length≤C.M
theorem NodeOk.root : NodeOk O L m C [] []:=⟨by simp,fun x hx=>by simp at hx,by simp,fun x hx=>by simp at hx,fun x hx=>by simp at hx,rfl,fun _=>Nat.zero_le _⟩
theorem out_nodup {s z : List Int} (hz : z.Nodup) : (outS m s z).Nodup:=by
 unfold outS
 rw [List.nodup_append]
 refine ⟨(sortL_perm z).nodup_iff.2 hz,(frTo_pair false (s ++ z) m).imp fun h=>by omega,fun a ha b hb e=>?_⟩
 obtain ⟨j,hj,rfl,hd⟩:=(mem_frTo m).1 hb
 have hn : ¬ (j : Int) ∈ s ++ z:=by simpa using hd
 exact hn (List.mem_append.2 (.inr ((sortL_perm z).mem_iff.1 (e ▸ ha))))
theorem cset_mem {s z : List Int} {x : Int} : x ∈ csetS O L m C s z ↔ x ∈ grM O L (outS m s z) (if C.cos=true then m else C.M):=(sortL_perm _).mem_iff
theorem cset_nodup {s z : List Int} (hz : z.Nodup) : (csetS O L m C s z).Nodup:=by
 unfold csetS
 refine (sortL_perm _).nodup_iff.2 ?_
 unfold grM
 refine List.Nodup.sublist (List.take_sublist _ _) ?_
 exact gr_nodup (out_nodup hz)
where gr_nodup {Q : List Int} (hQ : Q.Nodup) : (grS O L Q).Nodup := List.Nodup.sublist (gr_sub Q Q.length (Nat.le_refl _)) (by rw [List.take_length]; exact hQ)
      gr_sub (Q : List Int) : ∀ k,k≤Q.length→((grTo O L Q k).2).Sublist (Q.take k)
 | 0,_=>by simp [grTo]
 | k+1,h=>by
  have ih:=gr_sub Q k (by omega)
  rw [grTo,List.take_succ_eq_append_getElem (by omega)]
  split
  ·rw [nth_getElem (show k<Q.length by omega)];exact ih.append (List.Sublist.refl _)
  ·exact ih.trans (List.sublist_append_left _ _)
end

section
section
variable {f : Nat→Int} {N : Nat} (hf : ∀ y,f y≤N)
include hf
end
end

section
def leastTo (N : Nat) (T : List Int) (s : Nat) : Nat→Int
 | 0=>N
 | i+1=>if s.testBit i=true then min (leastTo N T s i) (nth T (s - 2 ^ i)) else leastTo N T s i
theorem or_add : ∀ (b x : Nat),x.testBit b=false→x ||| 2 ^ b=x+2 ^ b
 | 0,x,h=>by
  rw [Nat.testBit_zero,decide_eq_false_iff_not] at h
  have h1 : (x ||| 1) / 2=x / 2:=by rw [Nat.or_div_two];simp
  have h2 : (x ||| 1) % 2=1:=Nat.or_mod_two_eq_one.2 (.inr rfl)
  show x ||| 1=x+1
  omega
 | b+1,x,h=>by
  rw [Nat.testBit_succ] at h
  have ih:=or_add b (x / 2) h
  have e : 2 ^ (b+1) / 2=2 ^ b:=by rw [Nat.pow_succ];omega
  have h1 : (x ||| 2 ^ (b+1)) / 2=x / 2+2 ^ b:=by rw [Nat.or_div_two,e,ih]
  have h2 : (x ||| 2 ^ (b+1)) % 2=1 ↔ x % 2=1:=by
   rw [Nat.or_mod_two_eq_one]
   have : 2 ^ (b+1) % 2=0:=by rw [Nat.pow_succ];omega
   omega
  have h3 : 2 ^ (b+1)=2 * 2 ^ b:=by rw [Nat.pow_succ];omega
  omega
end

section
section
variable {O : FOps} {El : Int→Prop} {m : Nat}
end
section
variable {P M : Int} {mod : List Int} {m : Nat} {L : List (List Int)} {Q : List Int}
end
end

end Go.Proofs.YtcflcogbpnmjeaaGreat
