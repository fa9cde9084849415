import Derived.Test.YtcfmiocdlcapoaaGreatK28
import Derived.Test.YtcfmiocdlcapoaaGreatMRO6
import Derived.Test.YtcfmiocdlcapoaaGreatK25
import Derived.Test.YtcfmiocdlcapoaaGreatMRO5
import Derived.Test.YtcfmiocdlcapoaaGreatK21
import Derived.Test.YtcfmiocdlcapoaaGreatMRO7
import Derived.Test.YtcfmiocdlcapoaaGreatK17
import Derived.Test.YtcfmiocdlcapoaaGreatMRO2
import Derived.Test.YtcfmiocdlcapoaaGreatK19
import Derived.Test.YtcfmiocdlcapoaaGreatK22
import Derived.Test.YtcfmiocdlcapoaaGreatK18
namespace Go.Proofs.YtcfmiocdlcapoaaGreat
set_option linter.unusedVariables false
set_option linter.unusedSimpArgs false
set_option linter.unusedSectionVars false
set_option maxRecDepth 100000
set_option maxHeartbeats 8000000
open Go.RowKit
theorem Be (P M : Int) (am : OA) (mn cm : Nat) (mod : Lz) (k : Nat) (a : OA) (n c : Nat) (A : Ll) (m : Nat) (ab : OA) (cb : Nat) (B : Ll) (w : World) (hmod : Ints w am mn mod) (hi : bZ w a n A) (hb : bZ w ab k B)
  (hfB : bA P M mod=true) (hA : bH (aa P M.toNat mod).El k A) (hBr : bH (aa P M.toNat mod).El m B) (hk : k<=64) (hm1 : 1<=m) (hm : m<=64) (hn : n<=64) :
  Calls Tryz.prog 114 #[.agg #[.int .i64 P,.int .i64 M,.slice am mn cm],.agg #[.int .i64 k,.slice a n c],.agg #[.int .i64 m,.slice ab k cb]] w
   λe w'=>∃a1 c1,e = .returned (.tuple #[.agg #[.int .i64 m,.slice a1 n c1],.int .i64 0])/\bN w.heap.size w' a1 n (nS (aa P M.toNat mod).ops m A B)/\Below w.heap.size w w':=by
 have hAl:=hi.len
 have hBl:=hb.len
 have F:=eX hfB
 have hmE1 : ew (aa P M.toNat mod).q k A=0:=(eg (ld hfB (show k<=256 by omega) (show A.length<=256 by omega) hA)).2
 have hmE2 : ew (aa P M.toNat mod).q m B=0:=(eg (ld hfB (show m<=256 by omega) (show B.length<=256 by omega) hBr)).2
 have hpla:=hi.pl
 have HTw:=Z5 (λV (hV : Below w.heap.size w V)=>Ew P M am mn cm mod k a n c A m ab k cb B V (hmod.ah hV) (hi.ah hV) (hb.ah hV) hfB hA hBr (by omega) (by omega) (by omega) (by omega))
 have HCo : Hid (∀V ra rc (l : Lz),Below w.heap.size w V->Ints V ra k l->l.length=k->(∀x ∈ l,(aa P M.toNat mod).El x)->Calls Tryz.prog 178 #[.agg #[.int .i64 P,.int .i64 M,.slice am mn cm],.slice ra k rc,.slice ab k cb,.int .i64 m] V λe w' =>
   ∃a1 c1,e = .returned (.slice a1 m c1)/\w'.ownsRow V.heap.size 3 1 (.slice a1 m c1) m ((bj (aa P M.toNat mod).ops m l B k).map (Value.int .i64))/\Below V.heap.size V w'):=λV ra rc l hV hl hll hle=>by
  obtain ⟨M',rfl,hel,_,hF,hAg,_⟩:=fU hfB
  obtain ⟨M2,e2,hrf,hmods⟩:=eW (by rw [cP];exact hfB)
  obtain rfl : M'=M2:=by omega
  rw [Int.toNat_natCast] at hBr hle ⊢
  rw [<- hel] at hBr hle
  have hxe : ∀t,t<B.length->ee P M' (nth l t):=λt ht=>hle _ (aN (by rw [hll];omega))
  have hag:=vm hF hAg hBr hxe
  rw [hag k (by omega)]
  exact yg P M' am mn cm mod ra rc l ab k cb B m V ⟨hrf,hmods V am mn (hmod.ah hV)⟩ hl (hb.ah hV) (λt ht=>hxe t (by omega)) hBr (λt ht=>by rw [<- hag t (by omega)];exact (dO hF hBr hxe t (by omega)).1) (by omega) (by omega)
 obtain ⟨G,hGG⟩ : ∃G,aa P M.toNat mod=G:=⟨_,rfl⟩
 rw [hGG] at hA hBr F hmE1 hmE2 HCo ⊢
 obtain ⟨L2,hL2⟩ : ∃L2,nS G.ops m A B=L2:=⟨_,rfl⟩
 have HL2l : Hid (L2.length=n):=by show _=_;rw [<- hL2,nS,List.length_map];exact hAl
 have HLk : Hid (∀j,j<n->L2.take (j+1)=L2.take j ++ [bj G.ops m (aj A j) B k]):=λj hj=>by
  have hj' : j<L2.length:=by rw [HL2l.out];exact hj
  rw [List.take_succ_eq_append_getElem hj',<- aE hj',<- hL2,nS,ql _ A (by omega),hBl]
 rw [hL2]
 have HAr : Hid (∀j,j<n->(aj A j).length=k/\∀x ∈ aj A j,G.El x):=λj hj=>hA.row (by omega)
 have HBr:=Z5 hBr
 have HFl:=Z5 F
 have HBl:=Z5 hBl
 have HB:=Z5 hfB
 have HmE:=Z5 (And.intro hmE1 hmE2)
 have HGG:=Z5 hGG
 clear hA hBr F hAl hBl hfB hmE1 hmE2 hGG hL2
 go_enter Tryz.func114,Tryz.ntmps114
 go_wp2_with fail
 obtain ⟨W,hW⟩ : ∃W : World,W=((((w.alloc (.cells #[.int .i64 P,.int .i64 M,.slice am mn cm] 24)).alloc (.cells #[.int .i64 k,.slice a n c] 82)).alloc (.cells #[.int .i64 m,.slice ab k cb] 82)).alloc (.cells #[.int .i64 0,.slice none 0 0] 82)):=⟨_,rfl⟩
 rw [<- hW]
 have hbW : Below w.heap.size w W:=by rw [hW];exact ((((Below.refl _ _).alloc (Nat.le_refl _) _).alloc (by simp) _).alloc (by simp;omega) _).alloc (by simp;omega) _
 have hsW : W.heap.size=w.heap.size+4:=by rw [hW];simp
 have x0 : aV W w.heap.size [.int .i64 P,.int .i64 M,.slice am mn cm]:=by rw [hW];exact (((aV.new _ _ _ rfl).alloc _).alloc _).alloc _
 have x1 : aV W (w.heap.size+1) [.int .i64 k,.slice a n c]:=by rw [hW];exact ((aV.new _ _ _ (by simp)).alloc _).alloc _
 have x2 : aV W (w.heap.size+1+1) [.int .i64 m,.slice ab k cb]:=by rw [hW];exact (aV.new _ _ _ (by simp)).alloc _
 have x3 : aV W (w.heap.size+1+1+1) [.int .i64 0,.slice none 0 0]:=by rw [hW];exact aV.new _ _ _ (by simp)
 have HX:=Z5 (And.intro x1 (And.intro x2 x3))
 have HX0:=Z5 x0
 have HsW:=Z5 hsW
 have HbW:=Z5 hbW
 clear hW hsW x0 x1 x2 x3 hmod
 refine (HTw.out W hbW).mono ?_
 rintro e w1 ⟨rfl,hb1⟩
 have hbw1:=Below.next hbW hb1
 have r1:=HX.out.1.ah hb1
 have r2:=HX.out.2.1.ah hb1
 have m0:=r1.cell 0 rfl
 have m1:=r1.cell 1 rfl
 have p0:=r2.cell 0 rfl
 have p1:=r2.cell 1 rfl
 have hkk : ((k : Int) != k)=false:=by simp
 clear hbW r1 r2 HTw
 go_upto_region 6 with fail
 obtain ⟨g,hg⟩ : ∃g,w1.heap.size=g:=⟨_,rfl⟩
 have HGs:=Z5 hg
 clear hg
 go_cut [9] (λv wx=>v = .pointer (some ⟨w1.heap.size,0,none⟩)/\kI wx w1.heap.size (.int .i64 m) none 0 0 [] []/\Below w1.heap.size w1 wx)
 case first =>
  go_wp2_with fail
  go_meet
  exact ⟨rfl,kI.start (aV.new w1 [.int .i64 m,.slice none 0 0] _ rfl),an _ _⟩
 obtain ⟨rfl,hO0,hbc⟩:=hcut
 generalize wc=U at *
 have hs3:=HGs.out
 rw [hs3] at hO0 ⊢
 have HbU:=Z5 (Below.next hb1 hbc)
 have HbU1:=Z5 hbc
 have HS : Hid (∀V,Below W.heap.size W V->V.cell? ⟨w.heap.size+1,0,none⟩=some (.int .i64 k)/\V.cell? ⟨w.heap.size+1,1,none⟩=some (.slice a n c)/\V.cell? ⟨w.heap.size+1+1,0,none⟩=some (.int .i64 m)/\V.cell? ⟨w.heap.size+1+1,1,none⟩=some (.slice ab k cb)/\V.cell? ⟨w.heap.size,0,none⟩=some (.int .i64 P)/\V.cell? ⟨w.heap.size,1,none⟩=some (.int .i64 M)/\V.cell? ⟨w.heap.size,2,none⟩=some (.slice am mn cm)):=λV hV=>by
  have r1:=HX.out.1.ah hV
  have r2:=HX.out.2.1.ah hV
  have r0:=HX0.out.ah hV
  exact ⟨r1.cell 0 rfl,r1.cell 1 rfl,r2.cell 0 rfl,r2.cell 1 rfl,r0.cell 0 rfl,r0.cell 1 rfl,r0.cell 2 rfl⟩
 clear m0 m1 p0 p1
 obtain ⟨m0,m1,p0,p1,_,_,_⟩:=HS.out U HbU.out
 have hgU:=hO0.lt
 have hgW : W.heap.size<=g:=by have:=hb1.size;omega
 have hw1g : w1.heap.size<=g:=by omega
 clear hbc hs3
 go_wp2_with fail
 clear m0 m1 p0 p1
 go_loopw [10] (λiv wr=>∃(j : Nat) (a1 : OA) (c1 : Nat) (Rr : La),j<=n/\iv = .int .i64 j/\kI wr g (.int .i64 m) a1 j c1 Rr (L2.take j)/\Below g U wr) (λiv _=>n - (intOf iv).toNat)
 case atStart=>exact ⟨0,none,0,[],Nat.zero_le _,rfl,by simpa using hO0,Below.refl _ _⟩
 case round =>
  clear hO0
  obtain ⟨j,a1,c1,Rr,hj,rfl,hO,hbr⟩:=hrel
  have hbWr:=Below.trans HbU.out (hbr.mono hgW)
  have hbwr:=Below.next HbW.out hbWr
  have hgr:=hO.lt
  by_cases hltj : j<n
  ·obtain ⟨ra,rn,rc,hcell0,hrow0⟩:=hi.cell j hltj
   have hcell:=aw hbwr hcell0
   have hrow:=hrow0.ah hbwr
   have hA:=HAr.out j hltj
   have hrn : rn=k:=by rw [<- hrow.len];exact hA.1
   rw [hrn] at hcell hrow hcell0
   have Htk:=Z5 (HLk.out j hltj)
   obtain ⟨l,hl⟩ : ∃l,aj A j=l:=⟨_,rfl⟩
   rw [hl] at Htk hrow hA
   have Hvec : Hid (∀V,Below wr.heap.size wr V->Calls Tryz.prog 178 #[.agg #[.int .i64 P,.int .i64 M,.slice am mn cm],.slice ra k rc,.slice ab k cb,.int .i64 m] V λe w' =>
     ∃a1 c1,e = .returned (.slice a1 m c1)/\w'.ownsRow V.heap.size 3 1 (.slice a1 m c1) m ((bj G.ops m l B k).map (Value.int .i64))/\Below V.heap.size V w'):=λV hV =>
    HCo.out V ra rc l (Below.next hbwr hV) (hrow.ah hV) hA.1 hA.2
   have hvl : (bj G.ops m l B k).length=m:=(dO HFl.out HBr.out (x:=l) (λt ht=>hA.2 _ (aN (by rw [hA.1,<- HBl.out];exact ht))) k (by rw [HBl.out];exact Nat.le_refl _)).1.1
   obtain ⟨pk,hpk⟩ : ∃pk,bj G.ops m l B k=pk:=⟨_,rfl⟩
   rw [hpk] at Hvec hvl Htk
   have Hvl:=Z5 hvl
   have Hbr:=Z5 hbr
   have HbWr:=Z5 hbWr
   have HO:=Z5 hO
   have g1:=hO.c1
   have HSj : Hid (∀V,Below W.heap.size W V->V.cell? ⟨w.heap.size+1,0,none⟩=some (.int .i64 k)/\V.cell? ⟨w.heap.size+1,1,none⟩=some (.slice a n c)/\V.cell? ⟨w.heap.size+1+1,0,none⟩=some (.int .i64 m)/\V.cell? ⟨w.heap.size+1+1,1,none⟩=some (.slice ab k cb)/\V.cell? ⟨w.heap.size,0,none⟩=some (.int .i64 P)/\V.cell? ⟨w.heap.size,1,none⟩=some (.int .i64 M)/\V.cell? ⟨w.heap.size,2,none⟩=some (.slice am mn cm)/\V.cell? ⟨ablk a,aJ a+j,none⟩=some (.slice ra k rc)):=λV hV=>by
    obtain ⟨q1,q2,q3,q4,q5,q6,q7⟩:=HS.out V hV
    exact ⟨q1,q2,q3,q4,q5,q6,q7,aw (Below.next HbW.out hV) hcell0⟩
   obtain ⟨q0,q1,p0,p1,f0,f1,f2⟩:=HS.out wr hbWr
   clear hl hrn hpk hvl hA hrow hrow0 hcell0 hbr hbWr hbwr hO
   go_wp2_with fail
   refine wp_region_held_drew (S:=(λV=>V.cell? ⟨w.heap.size+1,0,none⟩=some (.int .i64 k)/\V.cell? ⟨w.heap.size+1,1,none⟩=some (.slice a n c)/\V.cell? ⟨w.heap.size+1+1,0,none⟩=some (.int .i64 m)/\V.cell? ⟨w.heap.size+1+1,1,none⟩=some (.slice ab k cb)/\V.cell? ⟨w.heap.size,0,none⟩=some (.int .i64 P)/\V.cell? ⟨w.heap.size,1,none⟩=some (.int .i64 M)/\V.cell? ⟨w.heap.size,2,none⟩=some (.slice am mn cm)/\V.cell? ⟨ablk a,aJ a+j,none⟩=some (.slice ra k rc))) (by kernel_rfl) ?_ (λhHeld=>?_)
   ·exact HSj.out _ HbWr.out.drew
   refine wpAnyH_take (i:=0) (v:=?_) (by simp only [List.getElem?_toArray,List.getElem?_cons_succ,List.getElem?_cons_zero];rfl) (by kernel_rfl) (by kernel_rfl) (by kernel_rfl) (by exact λ_ _ _ h=>h) (Or.inl ⟨by rfl,?_⟩) (by assumption) ?_
   rotate_left
   ·(intro w hSw;(try dsimp only at hSw);go_split_ands;go_simp;first | done | with_reducible rfl)
   try simp only [Act.put,List.setIfInBounds_toArray,List.set_cons_zero,List.set_cons_succ]
   refine wpAnyH_take (i:=2) (v:=?_) (by simp only [List.getElem?_toArray,List.getElem?_cons_succ,List.getElem?_cons_zero];rfl) (by kernel_rfl) (by kernel_rfl) (by kernel_rfl) (by exact λ_ _ _ h=>h) (Or.inl ⟨by rfl,?_⟩) (by assumption) ?_
   rotate_left
   ·(intro w hSw;(try dsimp only at hSw);go_split_ands;go_simp;first | done | with_reducible rfl)
   try simp only [Act.put,List.setIfInBounds_toArray,List.set_cons_zero,List.set_cons_succ]
   refine wpAnyH_take (i:=3) (v:=?_) (by simp only [List.getElem?_toArray,List.getElem?_cons_succ,List.getElem?_cons_zero];rfl) (by kernel_rfl) (by kernel_rfl) (by kernel_rfl) (by exact λ_ _ _ h=>h) (Or.inl ⟨by rfl,?_⟩) (by assumption) ?_
   rotate_left
   ·(intro w hSw;(try dsimp only at hSw);go_split_ands;go_simp;first | done | with_reducible rfl)
   try simp only [Act.put,List.setIfInBounds_toArray,List.set_cons_zero,List.set_cons_succ]
   refine wpAnyH_take (i:=4) (v:=?_) (by simp only [List.getElem?_toArray,List.getElem?_cons_succ,List.getElem?_cons_zero];rfl) (by kernel_rfl) (by kernel_rfl) (by kernel_rfl) (by exact λ_ _ _ h=>h) (Or.inl ⟨by rfl,?_⟩) (by assumption) ?_
   rotate_left
   ·(intro w hSw;(try dsimp only at hSw);go_split_ands;go_simp;first | done | with_reducible rfl)
   try simp only [Act.put,List.setIfInBounds_toArray,List.set_cons_zero,List.set_cons_succ]
   refine wpAnyH_take (i:=5) (v:=?_) (by simp only [List.getElem?_toArray,List.getElem?_cons_succ,List.getElem?_cons_zero];rfl) (by kernel_rfl) (by kernel_rfl) (by kernel_rfl) (by exact λ_ _ _ h=>h) (Or.inl ⟨by rfl,?_⟩) (by assumption) ?_
   rotate_left
   ·(intro w hSw;(try dsimp only at hSw);go_split_ands;go_simp;first | done | with_reducible rfl)
   try simp only [Act.put,List.setIfInBounds_toArray,List.set_cons_zero,List.set_cons_succ]
   refine wpAnyH_take (i:=6) (v:=?_) (by simp only [List.getElem?_toArray,List.getElem?_cons_succ,List.getElem?_cons_zero];rfl) (by kernel_rfl) (by kernel_rfl) (by kernel_rfl) (by exact λ_ _ _ h=>h) (Or.inl ⟨by rfl,?_⟩) (by assumption) ?_
   rotate_left
   ·(intro w hSw;(try dsimp only at hSw);go_split_ands;go_simp;first | done | with_reducible rfl)
   try simp only [Act.put,List.setIfInBounds_toArray,List.set_cons_zero,List.set_cons_succ]
   refine wpAnyH_take (i:=7) (v:=?_) (by simp only [List.getElem?_toArray,List.getElem?_cons_succ,List.getElem?_cons_zero];rfl) (by kernel_rfl) (by kernel_rfl) (by kernel_rfl) (by exact λ_ _ _ h=>h) (Or.inl ⟨by rfl,?_⟩) (by assumption) ?_
   rotate_left
   ·(intro w hSw;(try dsimp only at hSw);go_split_ands;go_simp;first | done | with_reducible rfl)
   try simp only [Act.put,List.setIfInBounds_toArray,List.set_cons_zero,List.set_cons_succ]
   refine wpAnyH_take (i:=8) (v:=?_) (by simp only [List.getElem?_toArray,List.getElem?_cons_succ,List.getElem?_cons_zero];rfl) (by kernel_rfl) (by kernel_rfl) (by kernel_rfl) (by exact λ_ _ _ h=>h) (Or.inl ⟨by rfl,?_⟩) (by assumption) ?_
   rotate_left
   ·(intro w hSw;(try dsimp only at hSw);go_split_ands;go_simp;first | done | with_reducible rfl)
   try simp only [Act.put,List.setIfInBounds_toArray,List.set_cons_zero,List.set_cons_succ]
   refine wpAnyH_take (i:=9) (v:=?_) (by simp only [List.getElem?_toArray,List.getElem?_cons_succ,List.getElem?_cons_zero];rfl) (by kernel_rfl) (by kernel_rfl) (by kernel_rfl) (by exact λ_ _ _ h=>h) (Or.inl ⟨by rfl,?_⟩) (by assumption) ?_
   rotate_left
   ·(intro w hSw;(try dsimp only at hSw);go_split_ands;go_simp;first | done | with_reducible rfl)
   try simp only [Act.put,List.setIfInBounds_toArray,List.set_cons_zero,List.set_cons_succ]
   refine wpAnyH_take (i:=10) (v:=?_) (by simp only [List.getElem?_toArray,List.getElem?_cons_succ,List.getElem?_cons_zero];rfl) (by kernel_rfl) (by kernel_rfl) (by kernel_rfl) (by exact λ_ _ _ h=>h) (Or.inl ⟨by rfl,?_⟩) (by assumption) ?_
   rotate_left
   ·(intro w hSw;(try dsimp only at hSw);go_split_ands;go_simp;first | done | with_reducible rfl)
   try simp only [Act.put,List.setIfInBounds_toArray,List.set_cons_zero,List.set_cons_succ]
   refine wpAnyH_take (i:=11) (v:=?_) (by simp only [List.getElem?_toArray,List.getElem?_cons_succ,List.getElem?_cons_zero];rfl) (by kernel_rfl) (by kernel_rfl) (by kernel_rfl) (by exact λ_ _ _ h=>h) (Or.inl ⟨by rfl,?_⟩) (by assumption) ?_
   rotate_left
   ·(intro w hSw;(try dsimp only at hSw);go_split_ands;go_simp;first | done | with_reducible rfl)
   try simp only [Act.put,List.setIfInBounds_toArray,List.set_cons_zero,List.set_cons_succ]
   refine wpAnyH_ready (rs:=[1,12]) (by kernel_rfl) (by simp) ?_
   refine AllReadyH.cons rfl (λK hK=>?_) (AllReadyH.cons rfl (λK hK=>?_) (AllReadyH.nil))
   ·go_simp
    try go_wp2_with fail
    refine hK.out _ _ ?_ (λhHeld=>?_)
    ·exact HSj.out _ (by first | exact HbWr.out | exact HbWr.out.drew | exact hbA | exact hbB)
    clear hK K
    try simp only [Act.put,List.setIfInBounds_toArray,List.set_cons_zero,List.set_cons_succ]
    refine wpAnyH_ready (rs:=[12]) (by kernel_rfl) (by simp) ?_
    refine AllReadyH.cons rfl (λK hK=>?_) (AllReadyH.nil)
    ·go_simp
     refine (Hvec.out _ (Below.refl _ _).drew).mono ?_;rintro e w4 ⟨a4,c4,rfl,hown4,hb4⟩
     go_wp2_with fail
     have hb4':=Below.next (Below.refl wr.heap.size wr).drew hb4
     have hs4:=HO.out.ah hb4'
     have g2:=hs4.c1
     have g3:=aS hs4.c1 (.cells #[.slice a4 m c4] 22)
     have hbA:=Below.trans HbWr.out (hb4'.mono HbWr.out.size)
     have hbB:=Below.bQ hbA (.cells #[.slice a4 m c4] 22)
     refine hK.out _ _ ?_ (λhHeld=>?_)
     ·exact HSj.out _ hbA
     clear hK K
     try simp only [Act.put,List.setIfInBounds_toArray,List.set_cons_zero,List.set_cons_succ]
     refine wpAnyH_ready (rs:=[13]) (by kernel_rfl) (by simp) ?_
     refine AllReadyH.cons rfl (λK hK=>?_) (AllReadyH.nil)
     ·go_simp
      try go_wp2_with fail
      refine hK.out _ _ ?_ (λhHeld=>?_)
      ·exact HSj.out _ hbB
      clear hK K
      try simp only [Act.put,List.setIfInBounds_toArray,List.set_cons_zero,List.set_cons_succ]
      refine wpAnyH_ready (rs:=[14]) (by kernel_rfl) (by simp) ?_
      refine AllReadyH.cons rfl (λK hK=>?_) (AllReadyH.nil)
      ·skip
       refine bg (by rfl) (.tmp 37) (.tmp 49) 25 22 (by rfl) (.slice none 0 0) 24 Tryz.underlying25 ch (by rfl) (g+1) a1 j c1 (List.zipWith e9 Rr (L2.take j)) (by rfl) ((hs4.om.ah (an _ _)).own) (some ⟨w4.heap.size,0,none⟩) 1 1 [.slice a4 m c4] (by rfl) (λ_=>rfl) rfl (by intro y hy;obtain rfl : y=0:=(by omega);exact bs _ _ _ rfl) (by intro y hy;simp at hy;subst hy;rfl) (by omega) (by unfold maxLen;omega) (by have e2:=hs4.lt;simp;omega) ?_;intro a5 c5 w5 hown5 hgr5 hap5
       have k5:=(hs4.dW hgr5).2.1
       have f5:=(hs4.dW hgr5).2.2
       have hb5 : Below W.heap.size W w5:=Below.app hbB ((hs4.om.ah (an _ _)).own) hgr5 (by omega) (by have e2:=hs4.lt;simp;omega)
       refine hK.out _ _ ?_ (λhHeld=>?_)
       ·exact HSj.out _ hb5
       clear hK K
       try simp only [Act.put,List.setIfInBounds_toArray,List.set_cons_zero,List.set_cons_succ]
       refine wpAnyH_take (i:=15) (v:=?_) (by simp only [List.getElem?_toArray,List.getElem?_cons_succ,List.getElem?_cons_zero];rfl) (by kernel_rfl) (by kernel_rfl) (by kernel_rfl) (by exact λ_ _ _ h=>h) (Or.inl ⟨by rfl,?_⟩) (by assumption) ?_
       rotate_left
       ·(intro w hSw;(try dsimp only at hSw);go_split_ands;go_simp;first | done | with_reducible rfl)
       try simp only [Act.put,List.setIfInBounds_toArray,List.set_cons_zero,List.set_cons_succ]
       refine wpAnyH_ready (rs:=[16]) (by kernel_rfl) (by simp) ?_
       refine AllReadyH.cons rfl (λK hK=>?_) (AllReadyH.nil)
       ·go_simp
        try go_wp2_with fail
        refine hK.out _ _ ?_ (λhHeld=>?_)
        ·exact HSj.out _ (hb5.setCell (by simp;omega) _)
        clear hK K
        try simp only [Act.put,List.setIfInBounds_toArray,List.set_cons_zero,List.set_cons_succ]
        refine wpAnyH_done (by kernel_rfl) ?_ _
        go_wp2_with fail
        go_roundw
        case rel =>
         have hra : a4 ≠ none->¬ bL a1 Rr (ablk a4):=λh0 hI=>by
          have h1:=(aR hown4 h0).1
          have h2:=(HO.out.om.lt _ hI).2
          have h3 : wr.drew.heap.size=wr.heap.size:=rfl
          omega
         obtain ⟨hP,hbP⟩:=hs4.push Hvl.out (aP hown4 (show g+1<=wr.drew.heap.size from hgr)) hra hown5 hgr5 hap5
         exact ⟨j+1,a5,c5,_,by omega,by go_num,by rw [Htk.out];exact hP,Below.trans Hbr.out ((hb4'.mono (by omega)).trans hbP)⟩
        case measure=>simp [intOf] <;> omega
   ·go_simp
    refine (Hvec.out _ (Below.refl _ _).drew).mono ?_;rintro e w4 ⟨a4,c4,rfl,hown4,hb4⟩
    go_wp2_with fail
    have hb4':=Below.next (Below.refl wr.heap.size wr).drew hb4
    have hs4:=HO.out.ah hb4'
    have g2:=hs4.c1
    have g3:=aS hs4.c1 (.cells #[.slice a4 m c4] 22)
    have hbA:=Below.trans HbWr.out (hb4'.mono HbWr.out.size)
    have hbB:=Below.bQ hbA (.cells #[.slice a4 m c4] 22)
    refine hK.out _ _ ?_ (λhHeld=>?_)
    ·exact HSj.out _ hbA
    clear hK K
    try simp only [Act.put,List.setIfInBounds_toArray,List.set_cons_zero,List.set_cons_succ]
    refine wpAnyH_ready (rs:=[1,13]) (by kernel_rfl) (by simp) ?_
    refine AllReadyH.cons rfl (λK hK=>?_) (AllReadyH.cons rfl (λK hK=>?_) (AllReadyH.nil))
    ·go_simp
     try go_wp2_with fail
     refine hK.out _ _ ?_ (λhHeld=>?_)
     ·exact HSj.out _ (by first | exact HbWr.out | exact HbWr.out.drew | exact hbA | exact hbB)
     clear hK K
     try simp only [Act.put,List.setIfInBounds_toArray,List.set_cons_zero,List.set_cons_succ]
     refine wpAnyH_ready (rs:=[13]) (by kernel_rfl) (by simp) ?_
     refine AllReadyH.cons rfl (λK hK=>?_) (AllReadyH.nil)
     ·go_simp
      try go_wp2_with fail
      refine hK.out _ _ ?_ (λhHeld=>?_)
      ·exact HSj.out _ hbB
      clear hK K
      try simp only [Act.put,List.setIfInBounds_toArray,List.set_cons_zero,List.set_cons_succ]
      refine wpAnyH_ready (rs:=[14]) (by kernel_rfl) (by simp) ?_
      refine AllReadyH.cons rfl (λK hK=>?_) (AllReadyH.nil)
      ·skip
       refine bg (by rfl) (.tmp 37) (.tmp 49) 25 22 (by rfl) (.slice none 0 0) 24 Tryz.underlying25 ch (by rfl) (g+1) a1 j c1 (List.zipWith e9 Rr (L2.take j)) (by rfl) ((hs4.om.ah (an _ _)).own) (some ⟨w4.heap.size,0,none⟩) 1 1 [.slice a4 m c4] (by rfl) (λ_=>rfl) rfl (by intro y hy;obtain rfl : y=0:=(by omega);exact bs _ _ _ rfl) (by intro y hy;simp at hy;subst hy;rfl) (by omega) (by unfold maxLen;omega) (by have e2:=hs4.lt;simp;omega) ?_;intro a5 c5 w5 hown5 hgr5 hap5
       have k5:=(hs4.dW hgr5).2.1
       have f5:=(hs4.dW hgr5).2.2
       have hb5 : Below W.heap.size W w5:=Below.app hbB ((hs4.om.ah (an _ _)).own) hgr5 (by omega) (by have e2:=hs4.lt;simp;omega)
       refine hK.out _ _ ?_ (λhHeld=>?_)
       ·exact HSj.out _ hb5
       clear hK K
       try simp only [Act.put,List.setIfInBounds_toArray,List.set_cons_zero,List.set_cons_succ]
       refine wpAnyH_take (i:=15) (v:=?_) (by simp only [List.getElem?_toArray,List.getElem?_cons_succ,List.getElem?_cons_zero];rfl) (by kernel_rfl) (by kernel_rfl) (by kernel_rfl) (by exact λ_ _ _ h=>h) (Or.inl ⟨by rfl,?_⟩) (by assumption) ?_
       rotate_left
       ·(intro w hSw;(try dsimp only at hSw);go_split_ands;go_simp;first | done | with_reducible rfl)
       try simp only [Act.put,List.setIfInBounds_toArray,List.set_cons_zero,List.set_cons_succ]
       refine wpAnyH_ready (rs:=[16]) (by kernel_rfl) (by simp) ?_
       refine AllReadyH.cons rfl (λK hK=>?_) (AllReadyH.nil)
       ·go_simp
        try go_wp2_with fail
        refine hK.out _ _ ?_ (λhHeld=>?_)
        ·exact HSj.out _ (hb5.setCell (by simp;omega) _)
        clear hK K
        try simp only [Act.put,List.setIfInBounds_toArray,List.set_cons_zero,List.set_cons_succ]
        refine wpAnyH_done (by kernel_rfl) ?_ _
        go_wp2_with fail
        go_roundw
        case rel =>
         have hra : a4 ≠ none->¬ bL a1 Rr (ablk a4):=λh0 hI=>by
          have h1:=(aR hown4 h0).1
          have h2:=(HO.out.om.lt _ hI).2
          have h3 : wr.drew.heap.size=wr.heap.size:=rfl
          omega
         obtain ⟨hP,hbP⟩:=hs4.push Hvl.out (aP hown4 (show g+1<=wr.drew.heap.size from hgr)) hra hown5 hgr5 hap5
         exact ⟨j+1,a5,c5,_,by omega,by go_num,by rw [Htk.out];exact hP,Below.trans Hbr.out ((hb4'.mono (by omega)).trans hbP)⟩
        case measure=>simp [intOf] <;> omega
    ·go_simp
     try go_wp2_with fail
     refine hK.out _ _ ?_ (λhHeld=>?_)
     ·exact HSj.out _ hbB
     clear hK K
     try simp only [Act.put,List.setIfInBounds_toArray,List.set_cons_zero,List.set_cons_succ]
     refine wpAnyH_ready (rs:=[1]) (by kernel_rfl) (by simp) ?_
     refine AllReadyH.cons rfl (λK hK=>?_) (AllReadyH.nil)
     ·go_simp
      try go_wp2_with fail
      refine hK.out _ _ ?_ (λhHeld=>?_)
      ·exact HSj.out _ (by first | exact HbWr.out | exact HbWr.out.drew | exact hbA | exact hbB)
      clear hK K
      try simp only [Act.put,List.setIfInBounds_toArray,List.set_cons_zero,List.set_cons_succ]
      refine wpAnyH_ready (rs:=[14]) (by kernel_rfl) (by simp) ?_
      refine AllReadyH.cons rfl (λK hK=>?_) (AllReadyH.nil)
      ·skip
       refine bg (by rfl) (.tmp 37) (.tmp 49) 25 22 (by rfl) (.slice none 0 0) 24 Tryz.underlying25 ch (by rfl) (g+1) a1 j c1 (List.zipWith e9 Rr (L2.take j)) (by rfl) ((hs4.om.ah (an _ _)).own) (some ⟨w4.heap.size,0,none⟩) 1 1 [.slice a4 m c4] (by rfl) (λ_=>rfl) rfl (by intro y hy;obtain rfl : y=0:=(by omega);exact bs _ _ _ rfl) (by intro y hy;simp at hy;subst hy;rfl) (by omega) (by unfold maxLen;omega) (by have e2:=hs4.lt;simp;omega) ?_;intro a5 c5 w5 hown5 hgr5 hap5
       have k5:=(hs4.dW hgr5).2.1
       have f5:=(hs4.dW hgr5).2.2
       have hb5 : Below W.heap.size W w5:=Below.app hbB ((hs4.om.ah (an _ _)).own) hgr5 (by omega) (by have e2:=hs4.lt;simp;omega)
       refine hK.out _ _ ?_ (λhHeld=>?_)
       ·exact HSj.out _ hb5
       clear hK K
       try simp only [Act.put,List.setIfInBounds_toArray,List.set_cons_zero,List.set_cons_succ]
       refine wpAnyH_take (i:=15) (v:=?_) (by simp only [List.getElem?_toArray,List.getElem?_cons_succ,List.getElem?_cons_zero];rfl) (by kernel_rfl) (by kernel_rfl) (by kernel_rfl) (by exact λ_ _ _ h=>h) (Or.inl ⟨by rfl,?_⟩) (by assumption) ?_
       rotate_left
       ·(intro w hSw;(try dsimp only at hSw);go_split_ands;go_simp;first | done | with_reducible rfl)
       try simp only [Act.put,List.setIfInBounds_toArray,List.set_cons_zero,List.set_cons_succ]
       refine wpAnyH_ready (rs:=[16]) (by kernel_rfl) (by simp) ?_
       refine AllReadyH.cons rfl (λK hK=>?_) (AllReadyH.nil)
       ·go_simp
        try go_wp2_with fail
        refine hK.out _ _ ?_ (λhHeld=>?_)
        ·exact HSj.out _ (hb5.setCell (by simp;omega) _)
        clear hK K
        try simp only [Act.put,List.setIfInBounds_toArray,List.set_cons_zero,List.set_cons_succ]
        refine wpAnyH_done (by kernel_rfl) ?_ _
        go_wp2_with fail
        go_roundw
        case rel =>
         have hra : a4 ≠ none->¬ bL a1 Rr (ablk a4):=λh0 hI=>by
          have h1:=(aR hown4 h0).1
          have h2:=(HO.out.om.lt _ hI).2
          have h3 : wr.drew.heap.size=wr.heap.size:=rfl
          omega
         obtain ⟨hP,hbP⟩:=hs4.push Hvl.out (aP hown4 (show g+1<=wr.drew.heap.size from hgr)) hra hown5 hgr5 hap5
         exact ⟨j+1,a5,c5,_,by omega,by go_num,by rw [Htk.out];exact hP,Below.trans Hbr.out ((hb4'.mono (by omega)).trans hbP)⟩
        case measure=>simp [intOf] <;> omega
  ·obtain rfl : j=n:=by omega
   rw [List.take_of_length_le (by rw [HL2l.out];exact Nat.le_refl _)] at hO
   obtain ⟨q0,q1,p0,p1,_,_,_⟩:=HS.out wr hbWr
   have g0:=hO.c0
   have g1:=hO.c1
   have z6:=HX.out.2.2.ah hbWr
   have z0:=z6.cell 0 rfl
   have z1:=z6.cell 1 rfl
   have f0:=z6.frozen 0
   have f1:=z6.frozen 1
   have hs:=HsW.out
   have hMN : bN (g+1) wr a1 j L2:=bN.own hO.om
   have HF:=Z5 (And.intro (((hMN.setCell (p:=⟨w.heap.size+1+1+1,0,none⟩) (by simp;omega) (.int .i64 m)).setCell (p:=⟨w.heap.size+1+1+1,1,none⟩) (by simp;omega) (.slice a1 j c1)).mono (show w.heap.size<=g+1 by omega))
    ((hbwr.setCell (p:=⟨w.heap.size+1+1+1,0,none⟩) (by simp;omega) (.int .i64 m)).setCell (p:=⟨w.heap.size+1+1+1,1,none⟩) (by simp;omega) (.slice a1 j c1)))
   clear hMN z6 hO
   go_wp2_with fail
   exact bodyPost_ret (v:=.tuple #[.agg #[.int .i64 m,.slice a1 j c1],.int .i64 0]) (by simp [results,Tryz.results114,go_sem,z0,z1]) rfl ⟨a1,c1,rfl,HF.out.1,HF.out.2⟩
theorem JA {P M : Int} {mod : Lz} {m : Nat} {L : Ll} {Q : Lz} (hE : aL P M mod m L=0) (hQ : Q.length<=m) : jq (sK (aa P M.toNat mod).ops L) Q m Q.length=i7 (aa P M.toNat mod).ops L Q:=by
 obtain ⟨N',em,hm1,hm64,F,hR⟩:=ba hE
 exact IJ F hR Q (λk hk=>by have:=tR (aa P M.toNat mod).ops L Q k;omega) _ (Nat.le_refl _)
theorem wN (K : Int) (a : OA) (n c : Nat) (Q : Lz) (X : Int) (w : World) (hi : Ints w a n Q) :
  Calls Tryz.prog 54 #[.int .i64 K,.slice a n c,.int .i64 X] w λe w'=>e = .returned (.tuple #[.int .i64 (uE K Q X).1,.int .i64 (uE K Q X).2])/\w'=w:=by
 have Hl:=Z5 hi.len
 have hpl:=hi.pl
 have hmax:=hi.max
 unfold maxLen at hmax
 go_enter Tryz.func54,Tryz.ntmps54
 go_upto_region 1 with fail
 have bad : Gr K Q X=false->uE K Q X=(0,6):=λh=>by rw [uE,if_neg (by rw [h];simp)]
 have Hbad:=Z5 bad
 clear bad
 have hfl : Gr K Q X=(decide (0<=K) && decide (K<=64) && decide (0<=X) && decide (X<=K) && decide (n<=64)):=by rw [Gr,Hl.out]
 by_cases h1 : K<0
 ·have d1 : decide (K<0)=true:=by simpa using h1
  have HV:=Z5 (Hbad.out (by rw [hfl];simp;omega))
  clear h1 hfl
  go_wp2_with fail
  go_ret2
  exact ⟨by rw [HV.out];rfl,rfl⟩
 have d1 : decide (K<0)=false:=by simpa using h1
 by_cases h2 : 64<K
 ·have d2 : decide (64<K)=true:=by simpa using h2
  have HV:=Z5 (Hbad.out (by rw [hfl];simp;omega))
  clear h1 h2 hfl
  go_wp2_with fail
  go_ret2
  exact ⟨by rw [HV.out];rfl,rfl⟩
 have d2 : decide (64<K)=false:=by simpa using h2
 by_cases h3 : X<0
 ·have d3 : decide (X<0)=true:=by simpa using h3
  have HV:=Z5 (Hbad.out (by rw [hfl];simp;omega))
  clear h1 h2 h3 hfl
  go_wp2_with fail
  go_ret2
  exact ⟨by rw [HV.out];rfl,rfl⟩
 have d3 : decide (X<0)=false:=by simpa using h3
 by_cases h4 : K<X
 ·have d4 : decide (K<X)=true:=by simpa using h4
  have HV:=Z5 (Hbad.out (by rw [hfl];simp;omega))
  clear h1 h2 h3 h4 hfl
  go_wp2_with fail
  go_ret2
  exact ⟨by rw [HV.out];rfl,rfl⟩
 have d4 : decide (K<X)=false:=by simpa using h4
 by_cases h5 : 64<n
 ·have d5 : decide ((64 : Int)<n)=true:=by simp;omega
  have HV:=Z5 (Hbad.out (by rw [hfl];simp;omega))
  clear h1 h2 h3 h4 h5 hfl
  go_wp2_with fail
  go_ret2
  exact ⟨by rw [HV.out];rfl,rfl⟩
 have d5 : decide ((64 : Int)<n)=false:=by simp;omega
 have HB : Hid (Gr K Q X=true):=by show _=_;rw [hfl];simp;omega
 have HV2 : Hid (uE K Q X=if Q.all (uA K)=true then (flTo K X Q n,0) else (0,6)):=by
  show _=_
  rw [uE,HB.out,Hl.out]
  simp
 clear hfl
 go_wp2_with fail
 go_loop [8] (λiv=>∃k : Nat,k<=n/\iv = .int .i64 k/\Hid (∀j,j<k->uA K (nth Q j)=true)) (λiv=>n - (intOf iv).toNat)
 case atStart=>exact ⟨0,Nat.zero_le _,rfl,λj hj=>by omega⟩
 case round =>
  obtain ⟨k,hk,rfl,hall⟩:=hrel
  by_cases hlt : k<n
  ·have ck:=hi.cell k hlt
   have Hx : Hid (∀y,nth Q k=y->uA K y=true->∀j,j<k+1->uA K (nth Q j)=true):=λy hy h j hj=>by
    by_cases e : j=k
    ·subst e;rw [hy];exact h
    ·exact hall.out j (by omega)
   have Hno : Hid (uA K (nth Q k)=false->uE K Q X=(0,6)):=λh=>by
    rw [HV2.out,if_neg]
    intro h2
    have:=List.all_eq_true.1 h2 _ (aN (i:=k) (by rw [Hl.out];exact hlt))
    rw [h] at this
    exact absurd this (by decide)
   obtain ⟨y,hy⟩ : ∃y,nth Q k=y:=⟨_,rfl⟩
   have Hx2:=λh=>Hx.out y hy h
   rw [hy] at ck Hno
   clear hy Hx
   by_cases q1 : y<0
   ·have e1 : decide (y<0)=true:=by simpa using q1
    have HV:=Z5 (Hno.out (by unfold uA;simp;omega))
    clear q1 Hx2
    go_wp2_with fail
    go_ret2
    exact ⟨by rw [HV.out];rfl,rfl⟩
   have e1 : decide (y<0)=false:=by simpa using q1
   by_cases q2 : K<y
   ·have e2 : decide (K<y)=true:=by simpa using q2
    have HV:=Z5 (Hno.out (by unfold uA;simp;omega))
    clear q1 q2 Hx2
    go_wp2_with fail
    go_ret2
    exact ⟨by rw [HV.out];rfl,rfl⟩
   have e2 : decide (K<y)=false:=by simpa using q2
   have Hx3:=Z5 (Hx2 (by unfold uA;simp;omega))
   clear Hx2
   go_wp2_with fail
   go_round
   case rel=>exact ⟨k+1,by omega,by go_num,Hx3.out⟩
   case measure=>simp [intOf] <;> omega
  ·have hkn : k=n:=by omega
   subst hkn
   have Hall:=Z5 hall.out
   have HV : Hid (uE K Q X=(flTo K X Q k,0)):=by
    show _=_
    rw [HV2.out,if_pos]
    rw [List.all_eq_true]
    intro x hx
    obtain ⟨j,hj,rfl⟩:=List.mem_iff_getElem.1 hx
    have:=hall.out j (by have:=Hl.out;omega)
    rwa [ai hj] at this
   go_wp2_with fail
   go_loop [9,10] (λsv iv=>∃q : Nat,q<=k/\iv = .int .i64 q/\sv = .int .i64 (flTo K X Q q)) (λ_ iv=>k - (intOf iv).toNat)
   case atStart=>exact ⟨0,Nat.zero_le _,rfl,rfl⟩
   case round =>
    obtain ⟨q,hq,rfl,rfl⟩:=hrel
    have hbd : 0<=flTo K X Q q/\flTo K X Q q<=200 * q:=wV (K:=K) (W:=X) (Q:=Q) (by omega) (by omega) (by
     rw [List.all_eq_true]
     intro x hx
     obtain ⟨j,hj,rfl⟩:=List.mem_iff_getElem.1 hx
     have:=Hall.out j (by have:=Hl.out;omega)
     rwa [ai hj] at this) q (by rw [Hl.out];exact hq)
    by_cases hlt2 : q<k
    ·have ck:=hi.cell q hlt2
     have hfq:=Hall.out q hlt2
     have Hst : Hid (flTo K X Q (q+1)=flTo K X Q q+max 0 (X+1 - (K - nth Q q))):=rfl
     obtain ⟨y,hy⟩ : ∃y,nth Q q=y:=⟨_,rfl⟩
     rw [hy] at ck Hst hfq
     have hyb : 0<=y/\y<=K:=by simpa [uA] using hfq
     clear hy hfq
     have k1 : IntKind.i64.wrap (X+1)=X+1:=IntWalk.i64_in _ (by omega)
     have k2 : IntKind.i64.wrap (K - y)=K - y:=IntWalk.i64_in _ (by omega)
     have k3 : IntKind.i64.wrap (X+1 - (K - y))=X+1 - (K - y):=IntWalk.i64_in _ (by omega)
     have k4 : IntKind.i64.wrap (flTo K X Q q+max 0 (X+1 - (K - y)))=flTo K X Q q+max 0 (X+1 - (K - y)):=IntWalk.i64_in _ (by omega)
     clear hbd hyb
     generalize flTo K X Q q=t at *
     go_wp2_with fail
     go_round
     case rel=>exact ⟨q+1,by omega,by go_num,by rw [Hst.out];first | done | exact congrArg (Value.int .i64) ((IntWalk.i64_left _).symm.trans k4)⟩
     case measure=>simp [intOf] <;> omega
    ·have hqk : q=k:=by omega
     subst hqk
     clear hbd
     go_wp2_with fail
     go_ret2
     exact ⟨by rw [HV.out];rfl,rfl⟩
end Go.Proofs.YtcfmiocdlcapoaaGreat
