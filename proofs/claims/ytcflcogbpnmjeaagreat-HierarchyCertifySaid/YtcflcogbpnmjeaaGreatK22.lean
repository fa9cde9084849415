/-  -/
import Derived.Test.YtcflcogbpnmjeaaGreatK20
import Derived.Test.YtcflcogbpnmjeaaGreatK18
namespace Go.Proofs.YtcflcogbpnmjeaaGreat
set_option linter.unusedVariables false
set_option linter.unusedSimpArgs false
set_option linter.unusedSectionVars false

section
open Go.RowKit
def trL (m : Nat) (L : List (List Int)) : List (List Int):=(List.range m).map (colS L)
theorem trL_len (m : Nat) (L : List (List Int)) : (trL m L).length=m:=by simp [trL]
theorem nthR_trL {m k : Nat} (L : List (List Int)) (h : k<m) : nthR (trL m L) k=colS L k:=by
 rw [nthR_getElem (by rw [trL_len];exact h)];simp [trL]
theorem OMat.matN {B : Nat} {w : World} {a : Option Addr} {n c : Nat} {R : List (Option Addr × Nat)} {L : List (List Int)} (h : OMat w B a n c R L) : MatN B w a n L :=
 ⟨h.ll,h.pl,h.max,fun hn=>(own_ne h.own (h.ne hn)).1,fun i hi=>⟨_,_,_,h.cell hi,h.ints hi,fun hm=>by
  refine (own_ne (h.row i hi) fun e=>?_).1
  have:=(h.ints hi).pl hm
  rw [e] at this;cases this⟩⟩
def cfTo (l : List Int) (i : Nat) : List Int:=(List.range l.length).map fun j=>if j<i then nth l j else 0
theorem cfTo_len (l : List Int) (i : Nat) : (cfTo l i).length=l.length:=by simp [cfTo]
theorem cfTo_set {l : List Int} {i : Nat} (h : i<l.length) : (cfTo l i).set i (nth l i)=cfTo l (i+1):=by
 refine List.ext_getElem (by simp [cfTo]) fun j h1 h2=>?_
 simp only [cfTo,List.getElem_set,List.getElem_map,List.getElem_range]
 by_cases e : i=j
 ·subst e;rw [if_pos rfl,if_pos (by omega)]
 ·rw [if_neg e]
  by_cases h : j<i
  ·rw [if_pos h,if_pos (by omega)]
  ·rw [if_neg h,if_neg (by omega)]
theorem cfTo_zero (l : List Int) : cfTo l 0=List.replicate l.length 0:=by
 refine List.ext_getElem (by simp [cfTo]) fun j h1 h2=>?_
 simp [cfTo]
theorem cfTo_all (l : List Int) : cfTo l l.length=l:=by
 refine List.ext_getElem (by simp [cfTo]) fun j h1 h2=>?_
 simp only [cfTo,List.getElem_map,List.getElem_range]
 rw [if_pos h2,nth_getElem h2]
def TrQ (w1 : World) (n m g gs : Nat) (wx : World) : Prop :=
 Box wx g [.int .i64 n,.slice (some ⟨gs,0,none⟩) m m]∧wx.ownsRow w1.heap.size 22 1 (.slice (some ⟨gs,0,none⟩) m m) m (List.replicate m (.slice none 0 0))∧g ≠ gs∧w1.heap.size≤g∧Below w1.heap.size w1 wx
theorem tr_A (w1 : World) (n m : Nat) (hm : m≤1000) : TrQ w1 n m (w1.heap.size+1) w1.heap.size (((w1.alloc (.cells (Array.replicate m (Value.slice none 0 0)) 22)).alloc (.cells #[.int .i64 n,.slice (some ⟨w1.heap.size,0,none⟩) m m] 73)).drew):=by
 have ho:=own_mk w1 22 (.slice none 0 0) m (Nat.le_refl w1.heap.size) (by unfold maxLen;omega)
 rw [show (List.replicate m (Value.slice none 0 0)).toArray=Array.replicate m (Value.slice none 0 0) by simp] at ho
 have hb:=below1 (w1.alloc (.cells (Array.replicate m (Value.slice none 0 0)) 22)) (.cells #[.int .i64 n,.slice (some ⟨w1.heap.size,0,none⟩) m m] 73)
 refine ⟨Box.keep (Box.new _ _ _ (by simp)) (Below.refl _ _).drew,own_keep ho hb.drew,by omega,by omega,(Below.next (below1 _ _) hb).drew⟩
theorem tr_B (w1 : World) (n m : Nat) (hm : m≤1000) : TrQ w1 n m w1.heap.size (w1.heap.size+1) (((w1.alloc (.cells #[.int .i64 n,.slice (some ⟨w1.heap.size+1,0,none⟩) m m] 73)).alloc (.cells (Array.replicate m (Value.slice none 0 0)) 22)).drew):=by
 have ho:=own_mk (w1.alloc (.cells #[.int .i64 n,.slice (some ⟨w1.heap.size+1,0,none⟩) m m] 73)) 22 (.slice none 0 0) m (B:=w1.heap.size) (by simp) (by unfold maxLen;omega)
 rw [show (List.replicate m (Value.slice none 0 0)).toArray=Array.replicate m (Value.slice none 0 0) by simp,World.size_alloc] at ho
 have hb:=below1 (w1.alloc (.cells #[.int .i64 n,.slice (some ⟨w1.heap.size+1,0,none⟩) m m] 73)) (.cells (Array.replicate m (Value.slice none 0 0)) 22)
 refine ⟨((Box.new _ _ _ rfl).alloc _).keep (Below.refl _ _).drew,own_keep ho (Below.refl _ _).drew,by omega,by omega,(Below.next (below1 _ _) hb).drew⟩
def TrR (w1 : World) (gs g n m k bn : Nat) (L : List (List Int)) (R2 : List (Option Addr × Nat)) (wx : World) : Prop :=
 OMat wx w1.heap.size (some ⟨gs,0,none⟩) m m R2 L∧¬ OIn (some ⟨gs,0,none⟩) R2 g∧nthA R2 k=(some ⟨bn,0,none⟩,n)∧Below w1.heap.size w1 wx∧Box wx g [.int .i64 n,.slice (some ⟨gs,0,none⟩) m m]
theorem TrR.drew {w1 : World} {gs g n m k bn : Nat} {L : List (List Int)} {R2 : List (Option Addr × Nat)} {wx : World} (h : TrR w1 gs g n m k bn L R2 wx) : TrR w1 gs g n m k bn L R2 wx.drew :=
 ⟨h.1.keep (Below.refl _ _).drew,h.2.1,h.2.2.1,h.2.2.2.1.drew,h.2.2.2.2.keep (Below.refl _ _).drew⟩
theorem tr_row {w1 V : World} {gs g n m k : Nat} {L C : List (List Int)} {R : List (Option Addr × Nat)} {l : List Int} (hl : l.length=n) (hk : k<m) (hn : n≤1000) (hO : OMat V w1.heap.size (some ⟨gs,0,none⟩) m m R L) (hgR : ¬ OIn (some ⟨gs,0,none⟩) R g)
  (hBx : Box V g [.int .i64 n,.slice (some ⟨gs,0,none⟩) m m]) (hgg : g ≠ gs) (hbr : Below w1.heap.size w1 V) :
  ∃ R2,TrR w1 gs g n m k V.heap.size (L.set k (cfTo l 0)) R2 ((V.alloc (.cells (Array.replicate n (Value.int .i64 0)) 3)).setCell ⟨gs,k,none⟩ (.slice (some ⟨V.heap.size,0,none⟩) n n)):=by
 have e0' : (⟨ablk (some ⟨gs,0,none⟩),aoff (some ⟨gs,0,none⟩)+k,none⟩ : Addr)=⟨gs,k,none⟩:=by simp [ablk,aoff]
 have hgsV:=(OMat.lt hO gs (.inl ⟨by simp,rfl⟩))
 have hown3:=own_mk V 3 (.int .i64 0) n (B:=w1.heap.size) hbr.size (by unfold maxLen;omega)
 rw [show (List.replicate n (Value.int .i64 0)).toArray=Array.replicate n (Value.int .i64 0) by simp] at hown3
 have hO3:=hO.keep (below1 V (.cells (Array.replicate n (Value.int .i64 0)) 3))
 have hmk0 : (cfTo l 0).map (Value.int .i64)=List.replicate n (Value.int .i64 0):=by rw [cfTo_zero,List.map_replicate,hl]
 have hnew:=OMat.setRow hO3 hk (r:=some ⟨V.heap.size,0,none⟩) (rc:=n) (l:=cfTo l 0) (by rw [cfTo_len,hl,hmk0];exact hown3) (.inr (by
   show V.heap.size ≠ gs
   omega)) (fun j hj hne=>by
  by_cases hn : (nthA R j).1=none
  ·exact .inl hn
  ·refine .inr (.inr fun e=>?_)
   have h9:=(OMat.lt hO _ (OMat.inRow (by rw [hO.rl];exact hj) hn)).2
   have h8 : V.heap.size=ablk (nthA R j).1:=e
   omega)
 rw [cfTo_len,hl,e0'] at hnew
 have hgV : g<V.heap.size:=hBx.1
 refine ⟨_,hnew,fun h=>?_,by rw [nthA_set _ _ _ _ (by rw [hO.rl];exact hk),if_pos rfl],(Below.next hbr (below1 _ _)).setCell hgsV.1 _,?_⟩
 ·rcases h with h | ⟨i,hi',h1,h2⟩
  ·exact hgR (.inl h)
  ·rw [List.length_set] at hi'
   rw [nthA_set _ _ _ _ (by rw [hO.rl];exact hk)] at h1 h2
   split at h1
   ·rename_i e
    rw [if_pos e] at h2
    have h3 : g=V.heap.size:=h2
    omega
   ·rename_i e
    rw [if_neg e] at h2
    exact hgR (.inr ⟨i,hi',h1,h2⟩)
 ·have hb2 : ((V.alloc (.cells (Array.replicate n (Value.int .i64 0)) 3)).setCell ⟨gs,k,none⟩ (.slice (some ⟨V.heap.size,0,none⟩) n n)).heap[g]? = (V.alloc (.cells (Array.replicate n (Value.int .i64 0)) 3)).heap[g]?:=Below.heap_setCell _ _ _ _ (by show g ≠ gs;exact hgg)
  have hx:=hBx.alloc (.cells (Array.replicate n (Value.int .i64 0)) 3)
  exact ⟨by have:=hx.1;simpa using this,fun i v hv=>(World.cell?_of_block (w:=V.alloc (.cells (Array.replicate n (Value.int .i64 0)) 3)) (a:=⟨g,i,none⟩) hb2).trans (hx.2.1 i v hv),fun i=>(World.frozen?_of_block (w:=V.alloc (.cells (Array.replicate n (Value.int .i64 0)) 3)) (a:=⟨g,i,none⟩) hb2).trans (hx.2.2 i)⟩
set_option maxRecDepth 100000 in
set_option maxHeartbeats 4000000 in
theorem transpose_any (P M : Int) (am : Option Addr) (mn cm : Nat) (mod : List Int) (m : Nat) (a : Option Addr) (n c : Nat) (L : List (List Int)) (w : World) (hmod : Ints w am mn mod) (hi : Mat w a n L) (h5 : fmatE P M mod m L=0) :
  Calls Tryz.prog 130 #[.agg #[.int .i64 P,.int .i64 M,.slice am mn cm],.agg #[.int .i64 m,.slice a n c]] w
   fun e w'=>∃ a1 c1,e = .returned (.tuple #[.agg #[.int .i64 n,.slice a1 m c1],.int .i64 0])∧MatN w.heap.size w' a1 m (trL m L)∧Below w.heap.size w w':=by
 have Hlen:=Lib.hid hi.len
 have hpla:=hi.pl
 obtain ⟨hfB,h8⟩:=fmatE_zero h5
 obtain ⟨m0,em0,hm256,hL256,hR0⟩:=matE_zero h8
 obtain rfl : m=m0:=by omega
 have hn : n≤256:=by rw [← hi.len];exact hL256
 have HLl : Hid (∀ k,k<n→(nthR L k).length=m):=fun k hk=>(hR0.row (i:=k) (by rw [hi.len];exact hk)).1
 obtain ⟨T,hT⟩ : ∃ T,trL m L=T:=⟨_,rfl⟩
 have HTl : Hid (T.length=m):=by show _=_;rw [← hT];exact trL_len _ _
 have HTk : Hid (∀ k,k<m→nthR T k=colS L k):=fun k hk=>by rw [← hT];exact nthR_trL L hk
 rw [hT]
 clear h5 em0 hL256 hR0 hT
 go_enter Tryz.func130,Tryz.ntmps130
 go_wp2_with fail
 obtain ⟨W,hW⟩ : ∃ W : World,W=((((w.alloc (.cells #[.int .i64 P,.int .i64 M,.slice am mn cm] 24)).alloc (.cells #[.int .i64 m,.slice a n c] 73)).alloc (.cells #[.int .i64 0,.slice none 0 0] 73)).alloc (.cells #[.int .i64 m,.slice a n c] 73)):=⟨_,rfl⟩
 rw [← hW]
 have hbW : Below w.heap.size w W:=by rw [hW];exact ((((Below.refl _ _).alloc (Nat.le_refl _) _).alloc (by simp) _).alloc (by simp;omega) _).alloc (by simp;omega) _
 have hsW : W.heap.size=w.heap.size+4:=by rw [hW];simp
 have x1 : Box W (w.heap.size+1) [.int .i64 m,.slice a n c]:=by rw [hW];exact ((Box.new _ _ _ (by simp)).alloc _).alloc _
 have x2 : Box W (w.heap.size+1+1) [.int .i64 0,.slice none 0 0]:=by rw [hW];exact (Box.new _ _ _ (by simp)).alloc _
 have q3 : W.cell? ⟨w.heap.size+1+1+1,0,none⟩=some (.int .i64 m)∧W.cell? ⟨w.heap.size+1+1+1,1,none⟩=some (.slice a n c):=by rw [hW];exact ⟨cell_alloc_at _ _ _ (by simp) 0,cell_alloc_at _ _ _ (by simp) 1⟩
 have hMs : Mats W (some ⟨w.heap.size+1+1+1,0,none⟩) 1 [((m : Int),L)]:=⟨rfl,fun _=>rfl,by unfold maxLen;omega,fun i hi'=>by
  have : i=0:=by simp at hi';omega
  subst this
  exact ⟨a,n,c,by simpa using q3.1,by simpa using q3.2,hi.keep hbW⟩⟩
 have HX:=Lib.hid (And.intro x1 x2)
 have HsW:=Lib.hid hsW
 have HbW:=Lib.hid hbW
 clear hW hsW x1 x2 q3
 refine (open_any P M am mn cm mod _ 1 1 _ W (hmod.keep hbW) hMs).mono ?_
 rintro e w1 ⟨hb1,hcase⟩
 rw [matsE_one] at hcase
 rcases hcase with ⟨hB,_⟩ | ⟨_,er,h0,h1,_⟩ | ⟨_,_,b,rfl,hG,hbl⟩
 ·rw [hfB] at hB;exact absurd hB (by decide)
 ·rw [h8] at h1;exact absurd h1.symm h0
 have hbw1:=Below.next hbW hb1
 have r1:=HX.out.1.keep hb1
 have m0:=r1.cell 0 rfl
 have m1:=r1.cell 1 rfl
 clear hMs hfB h8 hbW r1 hG hbl
 have hmk:=run_mk (P:=Tryz.prog) 25 22 (.slice none 0 0) 24 Tryz.underlying25 infoInts rfl m (by omega) (by omega)
 go_upto_region 4 with fail
 go_cut [8] (fun v wx=>∃ g gs,v = .pointer (some ⟨g,0,none⟩)∧TrQ w1 n m g gs wx)
 case first =>
  have u1:=cell_box m0 (.cells #[.int .i64 0,.slice none 0 0] 73)
  have u2:=cell_box m1 (.cells #[.int .i64 0,.slice none 0 0] 73)
  have u3:=cell_box m0 (.cells (Array.replicate m (Value.slice none 0 0)) 22)
  have u4:=cell_box m1 (.cells (Array.replicate m (Value.slice none 0 0)) 22)
  have u5:=cell_box u1 (.cells (Array.replicate m (Value.slice none 0 0)) 22)
  have u6:=cell_box u2 (.cells (Array.replicate m (Value.slice none 0 0)) 22)
  have u7:=cell_box u3 (.cells #[.int .i64 0,.slice none 0 0] 73)
  have u8:=cell_box u4 (.cells #[.int .i64 0,.slice none 0 0] 73)
  go_region_law (fail)
  all_goals (go_wp2_with fail;go_meet)
  all_goals (first | exact ⟨_,_,rfl,tr_A w1 n m (by omega)⟩ | exact ⟨_,_,rfl,tr_B w1 n m (by omega)⟩)
 obtain ⟨g,gs,rfl,hBx,hsp,hgg,hgl,hbc⟩:=hcut
 generalize wc=V0 at *
 have hO:=omat_made hsp
 have hO1 : ∃ R,OMat V0 w1.heap.size (some ⟨gs,0,none⟩) m m R (rowsTo m 0 T)∧¬ OIn (some ⟨gs,0,none⟩) R g:=⟨_,by simpa [rowsTo] using hO,fun h=>by
  rcases h with ⟨_,e⟩ | ⟨i,hi,h1,_⟩
  ·exact hgg e
  ·rw [nthA_replicate] at h1;exact h1 rfl⟩
 have d1:=hBx.cell 1 rfl
 have HX1 : Hid (∀ V,Below w1.heap.size w1 V→V.cell? ⟨w.heap.size+1,0,none⟩=some (.int .i64 m)∧V.cell? ⟨w.heap.size+1,1,none⟩=some (.slice a n c)):=fun V hV=>by
  have r1:=(HX.out.1.keep hb1).keep hV
  exact ⟨r1.cell 0 rfl,r1.cell 1 rfl⟩
 clear hO hsp m0 m1
 go_wp2_with fail
 go_loopw [33] (fun jv wr=>∃ k : Nat,k≤m∧jv = .int .i64 k∧(∃ R,OMat wr w1.heap.size (some ⟨gs,0,none⟩) m m R (rowsTo m k T)∧¬ OIn (some ⟨gs,0,none⟩) R g)∧Box wr g [.int .i64 n,.slice (some ⟨gs,0,none⟩) m m]∧Below w1.heap.size w1 wr) (fun jv _=>m - (intOf jv).toNat)
 case atStart=>exact ⟨0,Nat.zero_le _,rfl,hO1,hBx,hbc⟩
 case round =>
  clear hO1 hBx hbc d1
  obtain ⟨k,hk,rfl,⟨R,hO,hgR⟩,hBx,hbr⟩:=hrel
  by_cases hlt : k<m
  ·generalize wr=V at *
   have d1:=hBx.cell 1 rfl
   obtain ⟨e0,e1⟩:=HX1.out V hbr
   have hgc : V.cell? ⟨gs,k,none⟩=some (.slice (nthA R k).1 (nthR (rowsTo m k T) k).length (nthA R k).2):=by simpa [ablk,aoff] using hO.cell hlt
   have hgf : V.frozen? ⟨gs,k,none⟩=false:=by simpa [ablk,aoff] using hO.frozen hlt
   have u1:=cell_box d1 (.cells (Array.replicate n (Value.int .i64 0)) 3)
   have u2:=cell_box e1 (.cells (Array.replicate n (Value.int .i64 0)) 3)
   have u3:=cell_box hgc (.cells (Array.replicate n (Value.int .i64 0)) 3)
   have u4:=frozen_box (World.block_lt_of_cell? _ _ hgc) hgf (.cells (Array.replicate n (Value.int .i64 0)) 3)
   have hmk2:=run_mk (P:=Tryz.prog) 22 3 (.int .i64 0) 8 Tryz.underlying22 infoInt rfl n (by omega) (by omega)
   obtain ⟨C,hC⟩ : ∃ C,colS L k=C:=⟨_,rfl⟩
   have hCl : C.length=n:=by rw [← hC,colS_length];exact Hlen.out
   have HCn : Hid (∀ i,i<n→nth C i=nth (nthR L i) k):=fun i hi'=>by rw [← hC];exact nth_colS _ _ _ (by rw [Hlen.out];exact hi')
   have HCl:=Lib.hid hCl
   have Hst : Hid ((rowsTo m k T).set k C=rowsTo m (k+1) T):=by
    show _=_
    rw [← hC,← HTk.out k hlt];exact rowsTo_set hlt HTl.out
   obtain ⟨R2,hR2⟩:=tr_row (L:=rowsTo m k T) (C:=L) hCl hlt (by omega) hO hgR hBx hgg hbr
   obtain ⟨bn,hbn⟩ : ∃ bn,V.heap.size=bn:=⟨_,rfl⟩
   have HR2 : Hid (TrR w1 gs g n m k bn ((rowsTo m k T).set k (cfTo C 0)) R2 ((V.alloc (.cells (Array.replicate n (Value.int .i64 0)) 3)).setCell ⟨gs,k,none⟩ (.slice (some ⟨V.heap.size,0,none⟩) n n))):=by
    have h:=hR2
    rw [hbn] at h
    first | exact h | (show TrR _ _ _ _ _ _ _ _ _ _;rw [hbn];exact h)
   have HbnV : Hid (V.heap.size=bn):=hbn
   clear hR2 hCl hC hbn
   go_upto_region 8 with fail
   go_cut [9] (fun v wx=>v = .int .i64 k∧TrR w1 gs g n m k bn ((rowsTo m k T).set k (cfTo C 0)) R2 wx)
   case first =>
    go_region_law (fail)
    all_goals (go_wp2_with fail;go_meet;first | exact ⟨rfl,HR2.out⟩ | exact ⟨rfl,HR2.out.drew⟩)
   clear u1 u2 u3 u4 hmk2 d1 e0 e1 hgc hgf hBx HR2
   obtain ⟨rfl,hR2⟩:=hcut
   obtain ⟨hO2,hg2,hk2,hb2,hBx2⟩:=hR2
   generalize wc=Y at *
   have d1:=hBx2.cell 1 rfl
   obtain ⟨e0,e1⟩:=HX1.out Y hb2
   have HK2:=Lib.hid hk2
   have HbV:=Lib.hid hbr
   clear hk2 hO hbr hgR
   go_wp2_with fail
   go_loopw [47] (fun iv wx=>∃ i : Nat,i≤n∧iv = .int .i64 i∧OMat wx w1.heap.size (some ⟨gs,0,none⟩) m m R2 ((rowsTo m k T).set k (cfTo C i))∧Box wx g [.int .i64 n,.slice (some ⟨gs,0,none⟩) m m]∧Below w1.heap.size w1 wx) (fun iv _=>n - (intOf iv).toNat)
   case atStart=>exact ⟨0,Nat.zero_le _,rfl,hO2,hBx2,hb2⟩
   case round =>
    clear hO2 hBx2 hb2 d1 e0 e1
    obtain ⟨i,hi',rfl,hO2,hBx2,hb2⟩:=hrel
    by_cases hli : i<n
    ·have d1:=hBx2.cell 1 rfl
     obtain ⟨e0,e1⟩:=HX1.out wr hb2
     have hLk : nthR ((rowsTo m k T).set k (cfTo C i)) k=cfTo C i:=by rw [nthR_set _ _ _ _ (by have h:=hO2.ll;rw [List.length_set] at h;omega),if_pos rfl]
     have hgc : wr.cell? ⟨gs,k,none⟩=some (.slice (some ⟨bn,0,none⟩) n n):=by
      have h:=hO2.cell hlt
      rw [HK2.out,hLk,cfTo_len,HCl.out] at h
      simpa [ablk,aoff] using h
     have hrow:=hO2.row k hlt
     rw [HK2.out,hLk,cfTo_len,HCl.out] at hrow
     obtain ⟨hi6,hm6⟩:=Ints.own hrow
     have cx : wr.cell? ⟨bn,i,none⟩=some (.int .i64 (nth (cfTo C i) i)):=by
      have h:=hi6.cell i hli
      simpa [ablk,aoff] using h
     have fx : wr.frozen? ⟨bn,i,none⟩=false:=by
      have h:=(hm6 (by omega)).2 i hli
      simpa [ablk,aoff] using h
     have HB6 : Hid (w1.heap.size≤bn):=(hm6 (by omega)).1
     have hbw:=Below.next hbw1 hb2
     obtain ⟨ra,rn,rc,hcell,hrw⟩:=(hi.keep hbw).cell i hli
     have hrn : rn=m:=by rw [← hrw.len];exact HLl.out i hli
     subst hrn
     have cr:=hrw.cell k hlt
     have hpr:=hrw.pl
     have hCi:=HCn.out i hli
     obtain ⟨x,hx⟩ : ∃ x,nth (nthR L i) k=x:=⟨_,rfl⟩
     rw [hx] at cr hCi
     have hown2:=own_set hrow i hli (.int .i64 x)
     rw [← List.map_set,← hCi,cfTo_set (by rw [HCl.out];exact hli),hCi] at hown2
     have e7 : (⟨ablk (some ⟨bn,0,none⟩),aoff (some ⟨bn,0,none⟩)+i,none⟩ : Addr)=⟨bn,i,none⟩:=by simp [ablk,aoff]
     rw [e7] at hown2
     have hfin : OMat (wr.setCell ⟨bn,i,none⟩ (.int .i64 x)) w1.heap.size (some ⟨gs,0,none⟩) rn rn R2 ((rowsTo rn k T).set k (cfTo C (i+1))):=by
      have h:=OMat.rowTo hO2 hlt (l:=cfTo C (i+1)) (by rw [hLk,cfTo_len,cfTo_len]) (by rw [HK2.out,hLk,cfTo_len,HCl.out];exact hown2) (fun b hb hne=>Below.heap_setCell _ _ _ _ fun e=>by
       rw [HK2.out] at hne
       rcases hne with h1 | h1
       ·cases h1
       ·exact h1 e)
      rw [List.set_set] at h;exact h
     have hgbn : g ≠ bn:=fun e=>by
      refine hg2 (.inr ⟨k,by have:=hO2.rl;omega,?_,?_⟩)
      ·rw [HK2.out];simp
      ·rw [HK2.out];exact e
     have hBx3 : Box (wr.setCell ⟨bn,i,none⟩ (.int .i64 x)) g [.int .i64 n,.slice (some ⟨gs,0,none⟩) rn rn]:=by
      have hb9 : (wr.setCell ⟨bn,i,none⟩ (.int .i64 x)).heap[g]? = wr.heap[g]?:=Below.heap_setCell _ _ _ _ (by show g ≠ bn;exact hgbn)
      exact ⟨by have:=hBx2.1;simpa using this,fun j v hv=>(World.cell?_of_block (w:=wr) (a:=⟨g,j,none⟩) hb9).trans (hBx2.2.1 j v hv),fun j=>(World.frozen?_of_block (w:=wr) (a:=⟨g,j,none⟩) hb9).trans (hBx2.2.2 j)⟩
     have HF:=Lib.hid (And.intro hfin (And.intro hBx3 (hb2.setCell (p:=⟨bn,i,none⟩) HB6.out (.int .i64 x))))
     have HD : Hid (∀ W : World,OMat W w1.heap.size (some ⟨gs,0,none⟩) rn rn R2 ((rowsTo rn k T).set k (cfTo C (i+1)))∧Box W g [.int .i64 n,.slice (some ⟨gs,0,none⟩) rn rn]∧Below w1.heap.size w1 W→OMat W.drew w1.heap.size (some ⟨gs,0,none⟩) rn rn R2 ((rowsTo rn k T).set k (cfTo C (i+1)))∧Box W.drew g [.int .i64 n,.slice (some ⟨gs,0,none⟩) rn rn]∧Below w1.heap.size w1 W.drew):=fun W h =>
      ⟨h.1.keep (Below.refl _ _).drew,h.2.1.keep (Below.refl _ _).drew,h.2.2.drew⟩
     clear hfin hBx3 hown2 hrow hi6 hm6 hO2 hBx2 hb2 hbw hrw hCi hx hLk
     go_wp2_with fail
     go_region_law (fail)
     all_goals (
      go_wp2_with fail
      go_roundw
      case rel=>exact ⟨i+1,by omega,by go_num,by first | exact HF.out | exact HD.out _ HF.out⟩
      case measure=>simp [intOf] <;> omega)
    ·obtain rfl : i=n:=by omega
     rw [show cfTo C i=C by have h:=cfTo_all C;rw [HCl.out] at h;exact h,Hst.out] at hO2
     have HO2:=Lib.hid hO2
     clear hO2
     go_wp2_with fail
     go_roundw
     case rel=>exact ⟨k+1,by omega,by go_num,⟨R2,HO2.out,hg2⟩,hBx2,hb2⟩
     case measure=>simp [intOf] <;> omega
  ·obtain rfl : k=m:=by omega
   rw [rowsTo_all HTl.out] at hO
   have d0:=hBx.cell 0 rfl
   have d1:=hBx.cell 1 rfl
   have x2:=(HX.out.2.keep hb1).keep hbr
   have z3:=x2.cell 0 rfl
   have z4:=x2.cell 1 rfl
   have f3:=x2.frozen 0
   have f4:=x2.frozen 1
   have hs:=HsW.out
   have hs1:=hb1.size
   have hbw:=Below.next hbw1 hbr
   have hM:=hO.matN
   have HF : Hid (MatN w.heap.size ((wr.setCell ⟨w.heap.size+1+1,0,none⟩ (.int .i64 n)).setCell ⟨w.heap.size+1+1,1,none⟩ (.slice (some ⟨gs,0,none⟩) k k)) (some ⟨gs,0,none⟩) k T∧Below w.heap.size w ((wr.setCell ⟨w.heap.size+1+1,0,none⟩ (.int .i64 n)).setCell ⟨w.heap.size+1+1,1,none⟩ (.slice (some ⟨gs,0,none⟩) k k))) :=
    ⟨((hM.setCell (p:=⟨w.heap.size+1+1,0,none⟩) (by simp;omega) _).setCell (p:=⟨w.heap.size+1+1,1,none⟩) (by simp;omega) _).mono (by omega),(hbw.setCell (by simp;omega) _).setCell (by simp;omega) _⟩
   clear hO hM hBx x2
   go_wp2_with fail
   exact bodyPost_ret (v:=.tuple #[.agg #[.int .i64 n,.slice (some ⟨gs,0,none⟩) k k],.int .i64 0]) (by simp [results,Tryz.results130,go_sem,z3,z4]) rfl ⟨_,_,rfl,HF.out.1,HF.out.2⟩
end

end Go.Proofs.YtcflcogbpnmjeaaGreat
