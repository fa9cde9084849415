import Derived.Test.YtcfmiocdlcapoaaGreatMMO2
import Derived.Test.YtcfmiocdlcapoaaGreatMMO9
import Derived.Test.YtcfmiocdlcapoaaGreatK18
import Derived.Test.YtcfmiocdlcapoaaGreatMMO8
namespace Go.Proofs.YtcfmiocdlcapoaaGreat
set_option linter.unusedVariables false
set_option linter.unusedSimpArgs false
set_option linter.unusedSectionVars false
set_option maxRecDepth 100000
set_option maxHeartbeats 16000000
open Go.RowKit
def vE (El : Int->Prop) (L E : Ll) (j : Nat) : Prop:=E.length=j/\∀t,t<j->∃x,El x/\aj E t=aj L t ++ [x]
theorem vE.step {El : Int->Prop} {L E : Ll} {j : Nat} (h : vE El L E j) {y : Int} (hy : El y) : vE El L (E ++ [aj L j ++ [y]]) (j+1):=by
 refine ⟨by simp [h.1],λt ht=>?_⟩
 by_cases e : t=j
 ·subst e
  refine ⟨y,hy,?_⟩
  rw [aE (by simp [h.1])]
  simp [h.1]
 ·obtain ⟨x,hx,e2⟩:=h.2 t (by omega)
  refine ⟨x,hx,?_⟩
  have hl:=h.1
  rw [aE (by simp;omega),List.getElem_append_left (by omega),<- aE (by omega),e2]
theorem pL {w : World} {B n c : Nat} {e : TypeId} {a : OA} {r : Lz} {y : Int} (h : w.ownsRow B e 1 (.slice a n c) n (r.map (Value.int .i64) ++ [.int .i64 y])) : w.ownsRow B e 1 (.slice a n c) n ((r ++ [y]).map (Value.int .i64)):=by simpa using h
theorem Bj (P M : Int) (am : OA) (mn cm : Nat) (mod : Lz) (m : Nat) (a : OA) (n c : Nat) (L : Ll) (w : World) (hmod : Ints w am mn mod) (hi : bZ w a n L)
  (hE : aL P M mod m L=0) (hm63 : m<64) (hmn : mn<=1000000) :
  Calls Tryz.prog 41 #[.agg #[.int .i64 P,.int .i64 M,.slice am mn cm,.int .i64 m,.slice a n c]] w λe w'=>∃E,Aq (aa P M.toNat mod).El L E/\fN P M mod (m+1) E w e w':=by
 obtain ⟨N',em,hm1,hm64,F,hR⟩:=ba hE
 obtain rfl : m=N':=by omega
 have hL : L.length=n:=hi.len
 have hpl:=hi.pl
 have hn64 : n<=64:=by have:=kt hE;omega
 have HCk : Hid (∀V,Below w.heap.size w V->Calls Tryz.prog 61 #[.agg #[.int .i64 P,.int .i64 M,.slice am mn cm,.int .i64 m,.slice a n c]] V λe w'=>e = .returned (.int .i64 0)/\Below V.heap.size V w'):=λV hV=>by
  have h:=fb P M am mn cm mod m a n c L V (hmod.ah hV) (hi.ah hV)
  rw [hE] at h;exact h
 have hfB:=(bh hE).1
 have HNw : Hid (∀V,Below w.heap.size w V->Calls Tryz.prog 86 #[.agg #[.int .i64 P,.int .i64 M,.slice am mn cm]] V λe w'=>∃b,e = .returned (.tuple #[.pointer (some ⟨b,0,none⟩),.int .i64 0])/\eD w' b (aa P M.toNat mod)/\Below V.heap.size V w'):=λV hV=>by
  refine (fH P M am mn cm mod V (hmod.ah hV)).mono ?_
  rintro e w' (⟨h1,_⟩ | ⟨_,b,h2,h3,_,h4⟩)
  ·rw [hfB] at h1;cases h1
  ·exact ⟨b,h2,h3.gf,h4⟩
 have HRow : Hid (∀j,j<n->Vc (aa P M.toNat mod).El m (aj L j)):=λj hj=>hR.row (by omega)
 have HNewC : Hid (∀V E a1 c1,Below w.heap.size w V->vE (aa P M.toNat mod).El L E n->bZ V a1 n E->Calls Tryz.prog 90 #[.agg #[.int .i64 P,.int .i64 M,.slice am mn cm],.agg #[.int .i64 ((m : Int)+1),.slice a1 n c1]] V (fN P M mod (m+1) E V)):=λV E a1 c1 hV hX hM=>by
  have hX2 : Aq (aa P M.toNat mod).El L E:=⟨by rw [hX.1,hL],λt ht=>hX.2 t (by omega)⟩
  have h:=rz P M am mn cm mod (m+1) a1 n c1 E V (hmod.ah hV) hM (nE hfB (pQ hR hX2) (by omega) (by rw [hX.1];omega)) (by omega) (by omega) hmn
  exact h
 have Hmi:=Z5 (And.intro hmod hi)
 have HL:=Z5 hL
 have Hz:=Z5 F.zero
 obtain ⟨G,hG⟩ : ∃G,aa P M.toNat mod=G:=⟨_,rfl⟩
 have HGe:=Z5 hG
 rw [hG] at HNw HRow Hz
 rw [hG] at HNewC
 rw [hG]
 clear hmod hi hE hfB F hR hL em hG
 go_enter Tryz.func41,Tryz.ntmps41
 go_upto_region 1 with fail
 obtain ⟨W,hW⟩ : ∃W : World,W=(w.alloc (.cells #[.int .i64 P,.int .i64 M,.slice am mn cm,.int .i64 m,.slice a n c] 27)).alloc (.cells #[.int .i64 0,.int .i64 0,.slice none 0 0,.int .i64 0,.slice none 0 0] 27):=⟨_,rfl⟩
 rw [<- hW]
 have hbW : Below w.heap.size w W:=by rw [hW];exact dH _ _ _
 have hsW : W.heap.size=w.heap.size+2:=by rw [hW];simp
 have x0 : aV W w.heap.size [.int .i64 P,.int .i64 M,.slice am mn cm,.int .i64 m,.slice a n c]:=by rw [hW];exact (aV.new _ _ _ rfl).alloc _
 have z0 : aV W (w.heap.size+1) [.int .i64 0,.int .i64 0,.slice none 0 0,.int .i64 0,.slice none 0 0]:=by rw [hW];exact aV.new _ _ _ (by simp)
 clear hW
 have HS : Hid (∀V,Below W.heap.size W V->V.cell? ⟨w.heap.size,0,none⟩=some (.int .i64 P)/\V.cell? ⟨w.heap.size,1,none⟩=some (.int .i64 M)/\V.cell? ⟨w.heap.size,2,none⟩=some (.slice am mn cm)/\V.cell? ⟨w.heap.size,3,none⟩=some (.int .i64 m)/\V.cell? ⟨w.heap.size,4,none⟩=some (.slice a n c)):=λV hV=>by
  have x1:=x0.ah hV
  exact ⟨x1.cell 0 rfl,x1.cell 1 rfl,x1.cell 2 rfl,x1.cell 3 rfl,x1.cell 4 rfl⟩
 have HZ : Hid (∀V,Below W.heap.size W V->V.cell? ⟨w.heap.size+1,0,none⟩=some (.int .i64 0)/\V.cell? ⟨w.heap.size+1,1,none⟩=some (.int .i64 0)/\V.cell? ⟨w.heap.size+1,2,none⟩=some (.slice none 0 0)/\V.cell? ⟨w.heap.size+1,3,none⟩=some (.int .i64 0)/\V.cell? ⟨w.heap.size+1,4,none⟩=some (.slice none 0 0) /\
   V.frozen? ⟨w.heap.size+1,0,none⟩=false/\V.frozen? ⟨w.heap.size+1,1,none⟩=false/\V.frozen? ⟨w.heap.size+1,2,none⟩=false/\V.frozen? ⟨w.heap.size+1,3,none⟩=false/\V.frozen? ⟨w.heap.size+1,4,none⟩=false):=λV hV=>by
  have x1:=z0.ah hV
  exact ⟨x1.cell 0 rfl,x1.cell 1 rfl,x1.cell 2 rfl,x1.cell 3 rfl,x1.cell 4 rfl,x1.frozen 0,x1.frozen 1,x1.frozen 2,x1.frozen 3,x1.frozen 4⟩
 have HbW:=Z5 hbW
 have HsW:=Z5 hsW
 clear x0 z0 hbW hsW
 obtain ⟨c0,c1,c2,c3,c4⟩:=HS.out W (Below.refl _ _)
 go_wp2_with fail
 refine (HCk.out W HbW.out).mono ?_
 rintro e w1 ⟨rfl,hb1⟩
 clear c0 c1 c2 c3 c4 HCk
 obtain ⟨c0,c1,c2,c3,c4⟩:=HS.out w1 hb1
 have e64 : ((m : Int) == 64)=false:=by simp;omega
 go_wp2_with fail
 refine (HNw.out w1 (Below.next HbW.out hb1)).mono ?_
 rintro e w2 ⟨b,rfl,hGF,hb2⟩
 have hB2:=Below.next hb1 hb2
 have HGF:=Z5 hGF
 clear c0 c1 c2 c3 c4 HNw hGF
 obtain ⟨c0,c1,c2,c3,c4⟩:=HS.out w2 hB2
 go_upto_region 9 with fail
 obtain ⟨g,hg⟩ : ∃g,w2.heap.size=g:=⟨_,rfl⟩
 have Hg:=Z5 hg
 clear hg
 go_cut [7] (λv wx=>v = .pointer (some ⟨w2.heap.size,0,none⟩)/\kI wx w2.heap.size (.int .i64 ((m : Int)+1)) none 0 0 [] []/\Below w2.heap.size w2 wx)
 case first =>
  go_wp2_with fail
  go_meet
  exact ⟨rfl,kI.start (aV.new w2 [.int .i64 ((m : Int)+1),.slice none 0 0] _ rfl),an _ _⟩
 obtain ⟨rfl,hO0,hbU⟩:=hcut
 generalize wc=U at *
 rw [Hg.out] at hO0 ⊢
 have HbU:=Z5 hbU
 have hBU:=Below.next hB2 hbU
 have HBU:=Z5 hBU
 clear c0 c1 c2 c3 c4 hbU
 obtain ⟨c0,c1,c2,c3,c4⟩:=HS.out U hBU
 have hgW : W.heap.size<=g:=by have:=hB2.size;have:=Hg.out;omega
 go_wp2_with fail
 go_loopw [37] (λiv wr=>∃(j : Nat) (a1 : OA) (c1 : Nat) (Rr : La) (E : Ll),j<=n/\iv = .int .i64 j/\kI wr g (.int .i64 ((m : Int)+1)) a1 j c1 Rr E/\vE G.El L E j/\Below g U wr) (λiv _=>n - (intOf iv).toNat)
 case atStart=>exact ⟨0,none,0,[],[],Nat.zero_le _,rfl,hO0,⟨rfl,λt ht=>by omega⟩,Below.refl _ _⟩
 case round =>
  clear hO0
  obtain ⟨j,a1,c1,Rr,E,hj,rfl,hO,hEx,hbr⟩:=hrel
  generalize wr=X at *
  have hbWX:=Below.trans HBU.out (hbr.mono hgW)
  have hgX:=hO.lt
  by_cases hltj : j<n
  ·obtain ⟨ra,rn,rc,hcell,hrow⟩:=(Hmi.out.2.ah (Below.next HbW.out hbWX)).cell j hltj
   have hrv:=HRow.out j hltj
   have hrn : rn=m:=by rw [<- hrow.len];exact hrv.1
   rw [hrn] at hcell hrow
   have HEx : Hid (∀y,G.El y->vE G.El L (E ++ [aj L j ++ [y]]) (j+1)):=λy hy=>hEx.step hy
   obtain ⟨r,hr⟩ : ∃r,aj L j=r:=⟨_,rfl⟩
   rw [hr] at hrow hrv HEx
   have hb2X : Below w2.heap.size w2 X:=by rw [Hg.out];exact Below.trans (by rw [<- Hg.out];exact HbU.out) hbr
   have hGX:=HGF.out.ah hb2X
   have HCl : Hid (∀V,Below X.heap.size X V->Calls Tryz.prog 87 #[.slice ra m rc] V λe w'=>∃a2 c2,e = .returned (.slice a2 m c2)/\w'.ownsRow X.heap.size 3 1 (.slice a2 m c2) m (r.map (Value.int .i64))/\Below V.heap.size V w'):=λV hV=>by
    refine (ef ra m rc r (hrow.ah hV) (by omega)).mono ?_
    rintro e w' ⟨a2,c2,rfl,h1,h2⟩
    rw [hrv.1] at h1 ⊢
    exact ⟨a2,c2,rfl,aP h1 hV.size,h2⟩
   have HSu : Hid (∀V,Below X.heap.size X V->Calls Tryz.prog 89 #[.pointer (some ⟨b,0,none⟩),.slice ra m rc] V λe w'=>∃x,G.El x/\e = .returned (.int .i64 x)/\Below V.heap.size V w'):=λV hV=>F7 ra m rc r V (hGX.ah hV) (hrow.ah hV) hrv.2 Hz.out
   have HNe : Hid (∀V x,Below X.heap.size X V->G.El x->Calls Tryz.prog 88 #[.pointer (some ⟨b,0,none⟩),.int .i64 x] V λe w'=>∃y,G.El y/\e = .returned (.int .i64 y)/\Below V.heap.size V w'):=λV x hV hx=>by
    refine (Fv x (hGX.ah hV) hx).mono ?_
    rintro e w' ⟨k,rfl,rfl⟩
    exact ⟨_,de.sV (hGX.ah hV) x,rfl,bd.below ⟨_,rfl⟩⟩
   have HrL:=Z5 hrv.1
   have hmx : m+1<=64:=by omega
   have q1:=hO.c1
   have hHX:=hO.ah (Below.refl X.heap.size X).drew
   have q0:=hHX.c1
   clear hrow hrv hrn hr hGX hb2X hEx
   go_upto_region 13 with fail
   refine wp_region_held_drew (S:=(λ_=>True)) (by kernel_rfl) ?_ (λhHeld=>?_)
   ·trivial
   refine wpAnyH_take (i:=0) (v:=?_) (by simp only [List.getElem?_toArray,List.getElem?_cons_succ,List.getElem?_cons_zero];rfl) (by kernel_rfl) (by kernel_rfl) (by kernel_rfl) (by exact λ_ _ _ h=>h) (Or.inl ⟨by rfl,?_⟩) (by assumption) ?_
   rotate_left
   ·(intro w hSw;(try dsimp only at hSw);go_simp;first | done | with_reducible rfl)
   try simp only [Act.put,List.setIfInBounds_toArray,List.set_cons_zero,List.set_cons_succ]
   refine wpAnyH_take (i:=2) (v:=?_) (by simp only [List.getElem?_toArray,List.getElem?_cons_succ,List.getElem?_cons_zero];rfl) (by kernel_rfl) (by kernel_rfl) (by kernel_rfl) (by exact λ_ _ _ h=>h) (Or.inl ⟨by rfl,?_⟩) (by assumption) ?_
   rotate_left
   ·(intro w hSw;(try dsimp only at hSw);go_simp;first | done | with_reducible rfl)
   try simp only [Act.put,List.setIfInBounds_toArray,List.set_cons_zero,List.set_cons_succ]
   refine wpAnyH_take (i:=4) (v:=?_) (by simp only [List.getElem?_toArray,List.getElem?_cons_succ,List.getElem?_cons_zero];rfl) (by kernel_rfl) (by kernel_rfl) (by kernel_rfl) (by exact λ_ _ _ h=>h) (Or.inl ⟨by rfl,?_⟩) (by assumption) ?_
   rotate_left
   ·(intro w hSw;(try dsimp only at hSw);go_simp;first | done | with_reducible rfl)
   try simp only [Act.put,List.setIfInBounds_toArray,List.set_cons_zero,List.set_cons_succ]
   refine wpAnyH_take (i:=5) (v:=?_) (by simp only [List.getElem?_toArray,List.getElem?_cons_succ,List.getElem?_cons_zero];rfl) (by kernel_rfl) (by kernel_rfl) (by kernel_rfl) (by exact λ_ _ _ h=>h) (Or.inl ⟨by rfl,?_⟩) (by assumption) ?_
   rotate_left
   ·(intro w hSw;(try dsimp only at hSw);go_simp;first | done | with_reducible rfl)
   try simp only [Act.put,List.setIfInBounds_toArray,List.set_cons_zero,List.set_cons_succ]
   refine wpAnyH_take (i:=6) (v:=?_) (by simp only [List.getElem?_toArray,List.getElem?_cons_succ,List.getElem?_cons_zero];rfl) (by kernel_rfl) (by kernel_rfl) (by kernel_rfl) (by exact λ_ _ _ h=>h) (Or.inl ⟨by rfl,?_⟩) (by assumption) ?_
   rotate_left
   ·(intro w hSw;(try dsimp only at hSw);go_simp;first | done | with_reducible rfl)
   try simp only [Act.put,List.setIfInBounds_toArray,List.set_cons_zero,List.set_cons_succ]
   refine wpAnyH_ready (rs:=[1,3]) (by kernel_rfl) (by simp) ?_
   refine AllReadyH.cons rfl (λK hK=>?_) (AllReadyH.cons rfl (λK hK=>?_) (AllReadyH.nil))
   ·go_simp
    try go_wp2_with fail
    refine hK.out _ _ ?_ (λhHeld=>?_)
    ·trivial
    clear hK K
    try simp only [Act.put,List.setIfInBounds_toArray,List.set_cons_zero,List.set_cons_succ]
    refine wpAnyH_ready (rs:=[3]) (by kernel_rfl) (by simp) ?_
    refine AllReadyH.cons rfl (λK hK=>?_) (AllReadyH.nil)
    ·go_simp
     refine (HCl.out _ (Below.refl _ _).drew).mono ?_;rintro e w2 ⟨a2,k2,rfl,hr2,hb2⟩
     go_wp2_with fail
     have hB2 : Below X.heap.size X w2:=Below.next (Below.refl _ _).drew hb2
     have hs2:=hO.ah hB2
     have q2:=hs2.c1
     refine hK.out _ _ ?_ (λhHeld=>?_)
     ·trivial
     clear hK K
     try simp only [Act.put,List.setIfInBounds_toArray,List.set_cons_zero,List.set_cons_succ]
     refine wpAnyH_ready (rs:=[7]) (by kernel_rfl) (by simp) ?_
     refine AllReadyH.cons rfl (λK hK=>?_) (AllReadyH.nil)
     ·go_simp
      refine (HSu.out _ hB2).mono ?_;rintro e w3 ⟨x3,hx3,rfl,hb3⟩
      go_wp2_with fail
      have hB3 : Below X.heap.size X w3:=Below.next hB2 hb3
      have hs3:=hO.ah hB3
      have q3:=hs3.c1
      refine hK.out _ _ ?_ (λhHeld=>?_)
      ·trivial
      clear hK K
      try simp only [Act.put,List.setIfInBounds_toArray,List.set_cons_zero,List.set_cons_succ]
      refine wpAnyH_ready (rs:=[8]) (by kernel_rfl) (by simp) ?_
      refine AllReadyH.cons rfl (λK hK=>?_) (AllReadyH.nil)
      ·go_simp
       refine (HNe.out _ x3 hB3 hx3).mono ?_;rintro e w4 ⟨y4,hy4,rfl,hb4⟩
       go_wp2_with fail
       have hB4 : Below X.heap.size X w4:=Below.next hB3 hb4
       have hs4:=hO.ah hB4
       have q4:=hs4.c1
       refine hK.out _ _ ?_ (λhHeld=>?_)
       ·trivial
       clear hK K
       try simp only [Act.put,List.setIfInBounds_toArray,List.set_cons_zero,List.set_cons_succ]
       refine wpAnyH_ready (rs:=[9]) (by kernel_rfl) (by simp) ?_
       refine AllReadyH.cons rfl (λK hK=>?_) (AllReadyH.nil)
       ·go_simp
        try go_wp2_with fail
        have hB9 : Below X.heap.size X (w4.alloc (.cells #[.int .i64 y4] 3)):=Below.next hB4 (an _ _)
        have hs9:=hO.ah hB9
        have q9:=hs9.c1
        have hr9:=aW hr2 (Below.next hb3 (Below.next hb4 (an w4 (.cells #[.int .i64 y4] 3))))
        refine hK.out _ _ ?_ (λhHeld=>?_)
        ·trivial
        clear hK K
        try simp only [Act.put,List.setIfInBounds_toArray,List.set_cons_zero,List.set_cons_succ]
        refine wpAnyH_ready (rs:=[10]) (by kernel_rfl) (by simp) ?_
        refine AllReadyH.cons rfl (λK hK=>?_) (AllReadyH.nil)
        ·skip
         refine bg (by rfl) (.tmp 44) (.tmp 50) 22 3 (by rfl) (.int .i64 0) 8 Tryz.underlying22 aX (by rfl) X.heap.size a2 m k2 (r.map (Value.int .i64)) (by rfl) hr9 (some ⟨w4.heap.size,0,none⟩) 1 1 [.int .i64 y4] (by rfl) (λ_=>rfl) rfl (by intro y hy;obtain rfl : y=0:=(by omega);exact bs _ _ _ rfl) (by intro u hu;simp at hu;subst hu;rfl) (by omega) (by unfold maxLen;omega) hB9.size ?_;intro a6 k6 w6 hown6 hgr6 hap6
         have hB6 : Below X.heap.size X w6:=Below.app hB9 hr9 hgr6 (Nat.le_refl _) hB9.size
         have hs6:=hO.ah hB6
         have q6:=hs6.c1
         refine hK.out _ _ ?_ (λhHeld=>?_)
         ·trivial
         clear hK K
         try simp only [Act.put,List.setIfInBounds_toArray,List.set_cons_zero,List.set_cons_succ]
         refine wpAnyH_ready (rs:=[11]) (by kernel_rfl) (by simp) ?_
         refine AllReadyH.cons rfl (λK hK=>?_) (AllReadyH.nil)
         ·go_simp
          try go_wp2_with fail
          have hB11 : Below X.heap.size X (w6.alloc (.cells #[.slice a6 (m+1) k6] 22)):=Below.next hB6 (an _ _)
          have hs11:=hO.ah hB11
          have q11:=hs11.c1
          refine hK.out _ _ ?_ (λhHeld=>?_)
          ·trivial
          clear hK K
          try simp only [Act.put,List.setIfInBounds_toArray,List.set_cons_zero,List.set_cons_succ]
          refine wpAnyH_ready (rs:=[12]) (by kernel_rfl) (by simp) ?_
          refine AllReadyH.cons rfl (λK hK=>?_) (AllReadyH.nil)
          ·skip
           refine bg (by rfl) (.tmp 42) (.tmp 52) 25 22 (by rfl) (.slice none 0 0) 24 Tryz.underlying25 ch (by rfl) (g+1) a1 j c1 (List.zipWith e9 Rr E) (by rfl) ((hs6.om.ah (an _ _)).own) (some ⟨w6.heap.size,0,none⟩) 1 1 [.slice a6 (m+1) k6] (by rfl) (λ_=>rfl) rfl (by intro y hy;obtain rfl : y=0:=(by omega);exact bs _ _ _ rfl) (by intro u hu;simp at hu;subst hu;rfl) (by omega) (by unfold maxLen;omega) (by have e2:=hs6.lt;simp;omega) ?_;intro a5 c5 w5 hown5 hgr5 hap5
           have k5:=(hs6.dW hgr5).2.1
           have f5:=(hs6.dW hgr5).2.2
           refine hK.out _ _ ?_ (λhHeld=>?_)
           ·trivial
           clear hK K
           try simp only [Act.put,List.setIfInBounds_toArray,List.set_cons_zero,List.set_cons_succ]
           refine wpAnyH_take (i:=13) (v:=?_) (by simp only [List.getElem?_toArray,List.getElem?_cons_succ,List.getElem?_cons_zero];rfl) (by kernel_rfl) (by kernel_rfl) (by kernel_rfl) (by exact λ_ _ _ h=>h) (Or.inl ⟨by rfl,?_⟩) (by assumption) ?_
           rotate_left
           ·(intro w hSw;(try dsimp only at hSw);go_simp;first | done | with_reducible rfl)
           try simp only [Act.put,List.setIfInBounds_toArray,List.set_cons_zero,List.set_cons_succ]
           refine wpAnyH_ready (rs:=[14]) (by kernel_rfl) (by simp) ?_
           refine AllReadyH.cons rfl (λK hK=>?_) (AllReadyH.nil)
           ·go_simp
            try go_wp2_with fail
            refine hK.out _ _ ?_ (λhHeld=>?_)
            ·trivial
            clear hK K
            try simp only [Act.put,List.setIfInBounds_toArray,List.set_cons_zero,List.set_cons_succ]
            refine wpAnyH_done (by kernel_rfl) ?_ _
            go_wp2_with fail
            go_roundw
            case rel =>
             have hra : a6 ≠ none->¬ bL a1 Rr (ablk a6):=λh0 hI=>by
              have h1:=(aR (pL hown6) h0).1
              have h2:=(hO.om.lt _ hI).2
              omega
             obtain ⟨hP,hbP⟩:=hs6.push (N:=r ++ [y4]) (by simp [HrL.out]) (aP (pL hown6) (show g+1<=X.heap.size from hgX)) hra hown5 hgr5 hap5
             exact ⟨j+1,a5,c5,_,E ++ [r ++ [y4]],by omega,by go_num,hP,HEx.out y4 hy4,Below.trans hbr (((hB6.mono (by omega)).trans hbP))⟩
            case measure=>simp [intOf] <;> omega
   ·go_simp
    refine (HCl.out _ (Below.refl _ _).drew).mono ?_;rintro e w2 ⟨a2,k2,rfl,hr2,hb2⟩
    go_wp2_with fail
    have hB2 : Below X.heap.size X w2:=Below.next (Below.refl _ _).drew hb2
    have hs2:=hO.ah hB2
    have q2:=hs2.c1
    refine hK.out _ _ ?_ (λhHeld=>?_)
    ·trivial
    clear hK K
    try simp only [Act.put,List.setIfInBounds_toArray,List.set_cons_zero,List.set_cons_succ]
    refine wpAnyH_ready (rs:=[1,7]) (by kernel_rfl) (by simp) ?_
    refine AllReadyH.cons rfl (λK hK=>?_) (AllReadyH.cons rfl (λK hK=>?_) (AllReadyH.nil))
    ·go_simp
     try go_wp2_with fail
     refine hK.out _ _ ?_ (λhHeld=>?_)
     ·trivial
     clear hK K
     try simp only [Act.put,List.setIfInBounds_toArray,List.set_cons_zero,List.set_cons_succ]
     refine wpAnyH_ready (rs:=[7]) (by kernel_rfl) (by simp) ?_
     refine AllReadyH.cons rfl (λK hK=>?_) (AllReadyH.nil)
     ·go_simp
      refine (HSu.out _ hB2).mono ?_;rintro e w3 ⟨x3,hx3,rfl,hb3⟩
      go_wp2_with fail
      have hB3 : Below X.heap.size X w3:=Below.next hB2 hb3
      have hs3:=hO.ah hB3
      have q3:=hs3.c1
      refine hK.out _ _ ?_ (λhHeld=>?_)
      ·trivial
      clear hK K
      try simp only [Act.put,List.setIfInBounds_toArray,List.set_cons_zero,List.set_cons_succ]
      refine wpAnyH_ready (rs:=[8]) (by kernel_rfl) (by simp) ?_
      refine AllReadyH.cons rfl (λK hK=>?_) (AllReadyH.nil)
      ·go_simp
       refine (HNe.out _ x3 hB3 hx3).mono ?_;rintro e w4 ⟨y4,hy4,rfl,hb4⟩
       go_wp2_with fail
       have hB4 : Below X.heap.size X w4:=Below.next hB3 hb4
       have hs4:=hO.ah hB4
       have q4:=hs4.c1
       refine hK.out _ _ ?_ (λhHeld=>?_)
       ·trivial
       clear hK K
       try simp only [Act.put,List.setIfInBounds_toArray,List.set_cons_zero,List.set_cons_succ]
       refine wpAnyH_ready (rs:=[9]) (by kernel_rfl) (by simp) ?_
       refine AllReadyH.cons rfl (λK hK=>?_) (AllReadyH.nil)
       ·go_simp
        try go_wp2_with fail
        have hB9 : Below X.heap.size X (w4.alloc (.cells #[.int .i64 y4] 3)):=Below.next hB4 (an _ _)
        have hs9:=hO.ah hB9
        have q9:=hs9.c1
        have hr9:=aW hr2 (Below.next hb3 (Below.next hb4 (an w4 (.cells #[.int .i64 y4] 3))))
        refine hK.out _ _ ?_ (λhHeld=>?_)
        ·trivial
        clear hK K
        try simp only [Act.put,List.setIfInBounds_toArray,List.set_cons_zero,List.set_cons_succ]
        refine wpAnyH_ready (rs:=[10]) (by kernel_rfl) (by simp) ?_
        refine AllReadyH.cons rfl (λK hK=>?_) (AllReadyH.nil)
        ·skip
         refine bg (by rfl) (.tmp 44) (.tmp 50) 22 3 (by rfl) (.int .i64 0) 8 Tryz.underlying22 aX (by rfl) X.heap.size a2 m k2 (r.map (Value.int .i64)) (by rfl) hr9 (some ⟨w4.heap.size,0,none⟩) 1 1 [.int .i64 y4] (by rfl) (λ_=>rfl) rfl (by intro y hy;obtain rfl : y=0:=(by omega);exact bs _ _ _ rfl) (by intro u hu;simp at hu;subst hu;rfl) (by omega) (by unfold maxLen;omega) hB9.size ?_;intro a6 k6 w6 hown6 hgr6 hap6
         have hB6 : Below X.heap.size X w6:=Below.app hB9 hr9 hgr6 (Nat.le_refl _) hB9.size
         have hs6:=hO.ah hB6
         have q6:=hs6.c1
         refine hK.out _ _ ?_ (λhHeld=>?_)
         ·trivial
         clear hK K
         try simp only [Act.put,List.setIfInBounds_toArray,List.set_cons_zero,List.set_cons_succ]
         refine wpAnyH_ready (rs:=[11]) (by kernel_rfl) (by simp) ?_
         refine AllReadyH.cons rfl (λK hK=>?_) (AllReadyH.nil)
         ·go_simp
          try go_wp2_with fail
          have hB11 : Below X.heap.size X (w6.alloc (.cells #[.slice a6 (m+1) k6] 22)):=Below.next hB6 (an _ _)
          have hs11:=hO.ah hB11
          have q11:=hs11.c1
          refine hK.out _ _ ?_ (λhHeld=>?_)
          ·trivial
          clear hK K
          try simp only [Act.put,List.setIfInBounds_toArray,List.set_cons_zero,List.set_cons_succ]
          refine wpAnyH_ready (rs:=[12]) (by kernel_rfl) (by simp) ?_
          refine AllReadyH.cons rfl (λK hK=>?_) (AllReadyH.nil)
          ·skip
           refine bg (by rfl) (.tmp 42) (.tmp 52) 25 22 (by rfl) (.slice none 0 0) 24 Tryz.underlying25 ch (by rfl) (g+1) a1 j c1 (List.zipWith e9 Rr E) (by rfl) ((hs6.om.ah (an _ _)).own) (some ⟨w6.heap.size,0,none⟩) 1 1 [.slice a6 (m+1) k6] (by rfl) (λ_=>rfl) rfl (by intro y hy;obtain rfl : y=0:=(by omega);exact bs _ _ _ rfl) (by intro u hu;simp at hu;subst hu;rfl) (by omega) (by unfold maxLen;omega) (by have e2:=hs6.lt;simp;omega) ?_;intro a5 c5 w5 hown5 hgr5 hap5
           have k5:=(hs6.dW hgr5).2.1
           have f5:=(hs6.dW hgr5).2.2
           refine hK.out _ _ ?_ (λhHeld=>?_)
           ·trivial
           clear hK K
           try simp only [Act.put,List.setIfInBounds_toArray,List.set_cons_zero,List.set_cons_succ]
           refine wpAnyH_take (i:=13) (v:=?_) (by simp only [List.getElem?_toArray,List.getElem?_cons_succ,List.getElem?_cons_zero];rfl) (by kernel_rfl) (by kernel_rfl) (by kernel_rfl) (by exact λ_ _ _ h=>h) (Or.inl ⟨by rfl,?_⟩) (by assumption) ?_
           rotate_left
           ·(intro w hSw;(try dsimp only at hSw);go_simp;first | done | with_reducible rfl)
           try simp only [Act.put,List.setIfInBounds_toArray,List.set_cons_zero,List.set_cons_succ]
           refine wpAnyH_ready (rs:=[14]) (by kernel_rfl) (by simp) ?_
           refine AllReadyH.cons rfl (λK hK=>?_) (AllReadyH.nil)
           ·go_simp
            try go_wp2_with fail
            refine hK.out _ _ ?_ (λhHeld=>?_)
            ·trivial
            clear hK K
            try simp only [Act.put,List.setIfInBounds_toArray,List.set_cons_zero,List.set_cons_succ]
            refine wpAnyH_done (by kernel_rfl) ?_ _
            go_wp2_with fail
            go_roundw
            case rel =>
             have hra : a6 ≠ none->¬ bL a1 Rr (ablk a6):=λh0 hI=>by
              have h1:=(aR (pL hown6) h0).1
              have h2:=(hO.om.lt _ hI).2
              omega
             obtain ⟨hP,hbP⟩:=hs6.push (N:=r ++ [y4]) (by simp [HrL.out]) (aP (pL hown6) (show g+1<=X.heap.size from hgX)) hra hown5 hgr5 hap5
             exact ⟨j+1,a5,c5,_,E ++ [r ++ [y4]],by omega,by go_num,hP,HEx.out y4 hy4,Below.trans hbr (((hB6.mono (by omega)).trans hbP))⟩
            case measure=>simp [intOf] <;> omega
    ·go_simp
     refine (HSu.out _ hB2).mono ?_;rintro e w3 ⟨x3,hx3,rfl,hb3⟩
     go_wp2_with fail
     have hB3 : Below X.heap.size X w3:=Below.next hB2 hb3
     have hs3:=hO.ah hB3
     have q3:=hs3.c1
     refine hK.out _ _ ?_ (λhHeld=>?_)
     ·trivial
     clear hK K
     try simp only [Act.put,List.setIfInBounds_toArray,List.set_cons_zero,List.set_cons_succ]
     refine wpAnyH_ready (rs:=[1,8]) (by kernel_rfl) (by simp) ?_
     refine AllReadyH.cons rfl (λK hK=>?_) (AllReadyH.cons rfl (λK hK=>?_) (AllReadyH.nil))
     ·go_simp
      try go_wp2_with fail
      refine hK.out _ _ ?_ (λhHeld=>?_)
      ·trivial
      clear hK K
      try simp only [Act.put,List.setIfInBounds_toArray,List.set_cons_zero,List.set_cons_succ]
      refine wpAnyH_ready (rs:=[8]) (by kernel_rfl) (by simp) ?_
      refine AllReadyH.cons rfl (λK hK=>?_) (AllReadyH.nil)
      ·go_simp
       refine (HNe.out _ x3 hB3 hx3).mono ?_;rintro e w4 ⟨y4,hy4,rfl,hb4⟩
       go_wp2_with fail
       have hB4 : Below X.heap.size X w4:=Below.next hB3 hb4
       have hs4:=hO.ah hB4
       have q4:=hs4.c1
       refine hK.out _ _ ?_ (λhHeld=>?_)
       ·trivial
       clear hK K
       try simp only [Act.put,List.setIfInBounds_toArray,List.set_cons_zero,List.set_cons_succ]
       refine wpAnyH_ready (rs:=[9]) (by kernel_rfl) (by simp) ?_
       refine AllReadyH.cons rfl (λK hK=>?_) (AllReadyH.nil)
       ·go_simp
        try go_wp2_with fail
        have hB9 : Below X.heap.size X (w4.alloc (.cells #[.int .i64 y4] 3)):=Below.next hB4 (an _ _)
        have hs9:=hO.ah hB9
        have q9:=hs9.c1
        have hr9:=aW hr2 (Below.next hb3 (Below.next hb4 (an w4 (.cells #[.int .i64 y4] 3))))
        refine hK.out _ _ ?_ (λhHeld=>?_)
        ·trivial
        clear hK K
        try simp only [Act.put,List.setIfInBounds_toArray,List.set_cons_zero,List.set_cons_succ]
        refine wpAnyH_ready (rs:=[10]) (by kernel_rfl) (by simp) ?_
        refine AllReadyH.cons rfl (λK hK=>?_) (AllReadyH.nil)
        ·skip
         refine bg (by rfl) (.tmp 44) (.tmp 50) 22 3 (by rfl) (.int .i64 0) 8 Tryz.underlying22 aX (by rfl) X.heap.size a2 m k2 (r.map (Value.int .i64)) (by rfl) hr9 (some ⟨w4.heap.size,0,none⟩) 1 1 [.int .i64 y4] (by rfl) (λ_=>rfl) rfl (by intro y hy;obtain rfl : y=0:=(by omega);exact bs _ _ _ rfl) (by intro u hu;simp at hu;subst hu;rfl) (by omega) (by unfold maxLen;omega) hB9.size ?_;intro a6 k6 w6 hown6 hgr6 hap6
         have hB6 : Below X.heap.size X w6:=Below.app hB9 hr9 hgr6 (Nat.le_refl _) hB9.size
         have hs6:=hO.ah hB6
         have q6:=hs6.c1
         refine hK.out _ _ ?_ (λhHeld=>?_)
         ·trivial
         clear hK K
         try simp only [Act.put,List.setIfInBounds_toArray,List.set_cons_zero,List.set_cons_succ]
         refine wpAnyH_ready (rs:=[11]) (by kernel_rfl) (by simp) ?_
         refine AllReadyH.cons rfl (λK hK=>?_) (AllReadyH.nil)
         ·go_simp
          try go_wp2_with fail
          have hB11 : Below X.heap.size X (w6.alloc (.cells #[.slice a6 (m+1) k6] 22)):=Below.next hB6 (an _ _)
          have hs11:=hO.ah hB11
          have q11:=hs11.c1
          refine hK.out _ _ ?_ (λhHeld=>?_)
          ·trivial
          clear hK K
          try simp only [Act.put,List.setIfInBounds_toArray,List.set_cons_zero,List.set_cons_succ]
          refine wpAnyH_ready (rs:=[12]) (by kernel_rfl) (by simp) ?_
          refine AllReadyH.cons rfl (λK hK=>?_) (AllReadyH.nil)
          ·skip
           refine bg (by rfl) (.tmp 42) (.tmp 52) 25 22 (by rfl) (.slice none 0 0) 24 Tryz.underlying25 ch (by rfl) (g+1) a1 j c1 (List.zipWith e9 Rr E) (by rfl) ((hs6.om.ah (an _ _)).own) (some ⟨w6.heap.size,0,none⟩) 1 1 [.slice a6 (m+1) k6] (by rfl) (λ_=>rfl) rfl (by intro y hy;obtain rfl : y=0:=(by omega);exact bs _ _ _ rfl) (by intro u hu;simp at hu;subst hu;rfl) (by omega) (by unfold maxLen;omega) (by have e2:=hs6.lt;simp;omega) ?_;intro a5 c5 w5 hown5 hgr5 hap5
           have k5:=(hs6.dW hgr5).2.1
           have f5:=(hs6.dW hgr5).2.2
           refine hK.out _ _ ?_ (λhHeld=>?_)
           ·trivial
           clear hK K
           try simp only [Act.put,List.setIfInBounds_toArray,List.set_cons_zero,List.set_cons_succ]
           refine wpAnyH_take (i:=13) (v:=?_) (by simp only [List.getElem?_toArray,List.getElem?_cons_succ,List.getElem?_cons_zero];rfl) (by kernel_rfl) (by kernel_rfl) (by kernel_rfl) (by exact λ_ _ _ h=>h) (Or.inl ⟨by rfl,?_⟩) (by assumption) ?_
           rotate_left
           ·(intro w hSw;(try dsimp only at hSw);go_simp;first | done | with_reducible rfl)
           try simp only [Act.put,List.setIfInBounds_toArray,List.set_cons_zero,List.set_cons_succ]
           refine wpAnyH_ready (rs:=[14]) (by kernel_rfl) (by simp) ?_
           refine AllReadyH.cons rfl (λK hK=>?_) (AllReadyH.nil)
           ·go_simp
            try go_wp2_with fail
            refine hK.out _ _ ?_ (λhHeld=>?_)
            ·trivial
            clear hK K
            try simp only [Act.put,List.setIfInBounds_toArray,List.set_cons_zero,List.set_cons_succ]
            refine wpAnyH_done (by kernel_rfl) ?_ _
            go_wp2_with fail
            go_roundw
            case rel =>
             have hra : a6 ≠ none->¬ bL a1 Rr (ablk a6):=λh0 hI=>by
              have h1:=(aR (pL hown6) h0).1
              have h2:=(hO.om.lt _ hI).2
              omega
             obtain ⟨hP,hbP⟩:=hs6.push (N:=r ++ [y4]) (by simp [HrL.out]) (aP (pL hown6) (show g+1<=X.heap.size from hgX)) hra hown5 hgr5 hap5
             exact ⟨j+1,a5,c5,_,E ++ [r ++ [y4]],by omega,by go_num,hP,HEx.out y4 hy4,Below.trans hbr (((hB6.mono (by omega)).trans hbP))⟩
            case measure=>simp [intOf] <;> omega
     ·go_simp
      refine (HNe.out _ x3 hB3 hx3).mono ?_;rintro e w4 ⟨y4,hy4,rfl,hb4⟩
      go_wp2_with fail
      have hB4 : Below X.heap.size X w4:=Below.next hB3 hb4
      have hs4:=hO.ah hB4
      have q4:=hs4.c1
      refine hK.out _ _ ?_ (λhHeld=>?_)
      ·trivial
      clear hK K
      try simp only [Act.put,List.setIfInBounds_toArray,List.set_cons_zero,List.set_cons_succ]
      refine wpAnyH_ready (rs:=[1,9]) (by kernel_rfl) (by simp) ?_
      refine AllReadyH.cons rfl (λK hK=>?_) (AllReadyH.cons rfl (λK hK=>?_) (AllReadyH.nil))
      ·go_simp
       try go_wp2_with fail
       refine hK.out _ _ ?_ (λhHeld=>?_)
       ·trivial
       clear hK K
       try simp only [Act.put,List.setIfInBounds_toArray,List.set_cons_zero,List.set_cons_succ]
       refine wpAnyH_ready (rs:=[9]) (by kernel_rfl) (by simp) ?_
       refine AllReadyH.cons rfl (λK hK=>?_) (AllReadyH.nil)
       ·go_simp
        try go_wp2_with fail
        have hB9 : Below X.heap.size X (w4.alloc (.cells #[.int .i64 y4] 3)):=Below.next hB4 (an _ _)
        have hs9:=hO.ah hB9
        have q9:=hs9.c1
        have hr9:=aW hr2 (Below.next hb3 (Below.next hb4 (an w4 (.cells #[.int .i64 y4] 3))))
        refine hK.out _ _ ?_ (λhHeld=>?_)
        ·trivial
        clear hK K
        try simp only [Act.put,List.setIfInBounds_toArray,List.set_cons_zero,List.set_cons_succ]
        refine wpAnyH_ready (rs:=[10]) (by kernel_rfl) (by simp) ?_
        refine AllReadyH.cons rfl (λK hK=>?_) (AllReadyH.nil)
        ·skip
         refine bg (by rfl) (.tmp 44) (.tmp 50) 22 3 (by rfl) (.int .i64 0) 8 Tryz.underlying22 aX (by rfl) X.heap.size a2 m k2 (r.map (Value.int .i64)) (by rfl) hr9 (some ⟨w4.heap.size,0,none⟩) 1 1 [.int .i64 y4] (by rfl) (λ_=>rfl) rfl (by intro y hy;obtain rfl : y=0:=(by omega);exact bs _ _ _ rfl) (by intro u hu;simp at hu;subst hu;rfl) (by omega) (by unfold maxLen;omega) hB9.size ?_;intro a6 k6 w6 hown6 hgr6 hap6
         have hB6 : Below X.heap.size X w6:=Below.app hB9 hr9 hgr6 (Nat.le_refl _) hB9.size
         have hs6:=hO.ah hB6
         have q6:=hs6.c1
         refine hK.out _ _ ?_ (λhHeld=>?_)
         ·trivial
         clear hK K
         try simp only [Act.put,List.setIfInBounds_toArray,List.set_cons_zero,List.set_cons_succ]
         refine wpAnyH_ready (rs:=[11]) (by kernel_rfl) (by simp) ?_
         refine AllReadyH.cons rfl (λK hK=>?_) (AllReadyH.nil)
         ·go_simp
          try go_wp2_with fail
          have hB11 : Below X.heap.size X (w6.alloc (.cells #[.slice a6 (m+1) k6] 22)):=Below.next hB6 (an _ _)
          have hs11:=hO.ah hB11
          have q11:=hs11.c1
          refine hK.out _ _ ?_ (λhHeld=>?_)
          ·trivial
          clear hK K
          try simp only [Act.put,List.setIfInBounds_toArray,List.set_cons_zero,List.set_cons_succ]
          refine wpAnyH_ready (rs:=[12]) (by kernel_rfl) (by simp) ?_
          refine AllReadyH.cons rfl (λK hK=>?_) (AllReadyH.nil)
          ·skip
           refine bg (by rfl) (.tmp 42) (.tmp 52) 25 22 (by rfl) (.slice none 0 0) 24 Tryz.underlying25 ch (by rfl) (g+1) a1 j c1 (List.zipWith e9 Rr E) (by rfl) ((hs6.om.ah (an _ _)).own) (some ⟨w6.heap.size,0,none⟩) 1 1 [.slice a6 (m+1) k6] (by rfl) (λ_=>rfl) rfl (by intro y hy;obtain rfl : y=0:=(by omega);exact bs _ _ _ rfl) (by intro u hu;simp at hu;subst hu;rfl) (by omega) (by unfold maxLen;omega) (by have e2:=hs6.lt;simp;omega) ?_;intro a5 c5 w5 hown5 hgr5 hap5
           have k5:=(hs6.dW hgr5).2.1
           have f5:=(hs6.dW hgr5).2.2
           refine hK.out _ _ ?_ (λhHeld=>?_)
           ·trivial
           clear hK K
           try simp only [Act.put,List.setIfInBounds_toArray,List.set_cons_zero,List.set_cons_succ]
           refine wpAnyH_take (i:=13) (v:=?_) (by simp only [List.getElem?_toArray,List.getElem?_cons_succ,List.getElem?_cons_zero];rfl) (by kernel_rfl) (by kernel_rfl) (by kernel_rfl) (by exact λ_ _ _ h=>h) (Or.inl ⟨by rfl,?_⟩) (by assumption) ?_
           rotate_left
           ·(intro w hSw;(try dsimp only at hSw);go_simp;first | done | with_reducible rfl)
           try simp only [Act.put,List.setIfInBounds_toArray,List.set_cons_zero,List.set_cons_succ]
           refine wpAnyH_ready (rs:=[14]) (by kernel_rfl) (by simp) ?_
           refine AllReadyH.cons rfl (λK hK=>?_) (AllReadyH.nil)
           ·go_simp
            try go_wp2_with fail
            refine hK.out _ _ ?_ (λhHeld=>?_)
            ·trivial
            clear hK K
            try simp only [Act.put,List.setIfInBounds_toArray,List.set_cons_zero,List.set_cons_succ]
            refine wpAnyH_done (by kernel_rfl) ?_ _
            go_wp2_with fail
            go_roundw
            case rel =>
             have hra : a6 ≠ none->¬ bL a1 Rr (ablk a6):=λh0 hI=>by
              have h1:=(aR (pL hown6) h0).1
              have h2:=(hO.om.lt _ hI).2
              omega
             obtain ⟨hP,hbP⟩:=hs6.push (N:=r ++ [y4]) (by simp [HrL.out]) (aP (pL hown6) (show g+1<=X.heap.size from hgX)) hra hown5 hgr5 hap5
             exact ⟨j+1,a5,c5,_,E ++ [r ++ [y4]],by omega,by go_num,hP,HEx.out y4 hy4,Below.trans hbr (((hB6.mono (by omega)).trans hbP))⟩
            case measure=>simp [intOf] <;> omega
      ·go_simp
       try go_wp2_with fail
       have hB9 : Below X.heap.size X (w4.alloc (.cells #[.int .i64 y4] 3)):=Below.next hB4 (an _ _)
       have hs9:=hO.ah hB9
       have q9:=hs9.c1
       have hr9:=aW hr2 (Below.next hb3 (Below.next hb4 (an w4 (.cells #[.int .i64 y4] 3))))
       refine hK.out _ _ ?_ (λhHeld=>?_)
       ·trivial
       clear hK K
       try simp only [Act.put,List.setIfInBounds_toArray,List.set_cons_zero,List.set_cons_succ]
       refine wpAnyH_ready (rs:=[1,10]) (by kernel_rfl) (by simp) ?_
       refine AllReadyH.cons rfl (λK hK=>?_) (AllReadyH.cons rfl (λK hK=>?_) (AllReadyH.nil))
       ·go_simp
        try go_wp2_with fail
        refine hK.out _ _ ?_ (λhHeld=>?_)
        ·trivial
        clear hK K
        try simp only [Act.put,List.setIfInBounds_toArray,List.set_cons_zero,List.set_cons_succ]
        refine wpAnyH_ready (rs:=[10]) (by kernel_rfl) (by simp) ?_
        refine AllReadyH.cons rfl (λK hK=>?_) (AllReadyH.nil)
        ·skip
         refine bg (by rfl) (.tmp 44) (.tmp 50) 22 3 (by rfl) (.int .i64 0) 8 Tryz.underlying22 aX (by rfl) X.heap.size a2 m k2 (r.map (Value.int .i64)) (by rfl) hr9 (some ⟨w4.heap.size,0,none⟩) 1 1 [.int .i64 y4] (by rfl) (λ_=>rfl) rfl (by intro y hy;obtain rfl : y=0:=(by omega);exact bs _ _ _ rfl) (by intro u hu;simp at hu;subst hu;rfl) (by omega) (by unfold maxLen;omega) hB9.size ?_;intro a6 k6 w6 hown6 hgr6 hap6
         have hB6 : Below X.heap.size X w6:=Below.app hB9 hr9 hgr6 (Nat.le_refl _) hB9.size
         have hs6:=hO.ah hB6
         have q6:=hs6.c1
         refine hK.out _ _ ?_ (λhHeld=>?_)
         ·trivial
         clear hK K
         try simp only [Act.put,List.setIfInBounds_toArray,List.set_cons_zero,List.set_cons_succ]
         refine wpAnyH_ready (rs:=[11]) (by kernel_rfl) (by simp) ?_
         refine AllReadyH.cons rfl (λK hK=>?_) (AllReadyH.nil)
         ·go_simp
          try go_wp2_with fail
          have hB11 : Below X.heap.size X (w6.alloc (.cells #[.slice a6 (m+1) k6] 22)):=Below.next hB6 (an _ _)
          have hs11:=hO.ah hB11
          have q11:=hs11.c1
          refine hK.out _ _ ?_ (λhHeld=>?_)
          ·trivial
          clear hK K
          try simp only [Act.put,List.setIfInBounds_toArray,List.set_cons_zero,List.set_cons_succ]
          refine wpAnyH_ready (rs:=[12]) (by kernel_rfl) (by simp) ?_
          refine AllReadyH.cons rfl (λK hK=>?_) (AllReadyH.nil)
          ·skip
           refine bg (by rfl) (.tmp 42) (.tmp 52) 25 22 (by rfl) (.slice none 0 0) 24 Tryz.underlying25 ch (by rfl) (g+1) a1 j c1 (List.zipWith e9 Rr E) (by rfl) ((hs6.om.ah (an _ _)).own) (some ⟨w6.heap.size,0,none⟩) 1 1 [.slice a6 (m+1) k6] (by rfl) (λ_=>rfl) rfl (by intro y hy;obtain rfl : y=0:=(by omega);exact bs _ _ _ rfl) (by intro u hu;simp at hu;subst hu;rfl) (by omega) (by unfold maxLen;omega) (by have e2:=hs6.lt;simp;omega) ?_;intro a5 c5 w5 hown5 hgr5 hap5
           have k5:=(hs6.dW hgr5).2.1
           have f5:=(hs6.dW hgr5).2.2
           refine hK.out _ _ ?_ (λhHeld=>?_)
           ·trivial
           clear hK K
           try simp only [Act.put,List.setIfInBounds_toArray,List.set_cons_zero,List.set_cons_succ]
           refine wpAnyH_take (i:=13) (v:=?_) (by simp only [List.getElem?_toArray,List.getElem?_cons_succ,List.getElem?_cons_zero];rfl) (by kernel_rfl) (by kernel_rfl) (by kernel_rfl) (by exact λ_ _ _ h=>h) (Or.inl ⟨by rfl,?_⟩) (by assumption) ?_
           rotate_left
           ·(intro w hSw;(try dsimp only at hSw);go_simp;first | done | with_reducible rfl)
           try simp only [Act.put,List.setIfInBounds_toArray,List.set_cons_zero,List.set_cons_succ]
           refine wpAnyH_ready (rs:=[14]) (by kernel_rfl) (by simp) ?_
           refine AllReadyH.cons rfl (λK hK=>?_) (AllReadyH.nil)
           ·go_simp
            try go_wp2_with fail
            refine hK.out _ _ ?_ (λhHeld=>?_)
            ·trivial
            clear hK K
            try simp only [Act.put,List.setIfInBounds_toArray,List.set_cons_zero,List.set_cons_succ]
            refine wpAnyH_done (by kernel_rfl) ?_ _
            go_wp2_with fail
            go_roundw
            case rel =>
             have hra : a6 ≠ none->¬ bL a1 Rr (ablk a6):=λh0 hI=>by
              have h1:=(aR (pL hown6) h0).1
              have h2:=(hO.om.lt _ hI).2
              omega
             obtain ⟨hP,hbP⟩:=hs6.push (N:=r ++ [y4]) (by simp [HrL.out]) (aP (pL hown6) (show g+1<=X.heap.size from hgX)) hra hown5 hgr5 hap5
             exact ⟨j+1,a5,c5,_,E ++ [r ++ [y4]],by omega,by go_num,hP,HEx.out y4 hy4,Below.trans hbr (((hB6.mono (by omega)).trans hbP))⟩
            case measure=>simp [intOf] <;> omega
       ·skip
        refine bg (by rfl) (.tmp 44) (.tmp 50) 22 3 (by rfl) (.int .i64 0) 8 Tryz.underlying22 aX (by rfl) X.heap.size a2 m k2 (r.map (Value.int .i64)) (by rfl) hr9 (some ⟨w4.heap.size,0,none⟩) 1 1 [.int .i64 y4] (by rfl) (λ_=>rfl) rfl (by intro y hy;obtain rfl : y=0:=(by omega);exact bs _ _ _ rfl) (by intro u hu;simp at hu;subst hu;rfl) (by omega) (by unfold maxLen;omega) hB9.size ?_;intro a6 k6 w6 hown6 hgr6 hap6
        have hB6 : Below X.heap.size X w6:=Below.app hB9 hr9 hgr6 (Nat.le_refl _) hB9.size
        have hs6:=hO.ah hB6
        have q6:=hs6.c1
        refine hK.out _ _ ?_ (λhHeld=>?_)
        ·trivial
        clear hK K
        try simp only [Act.put,List.setIfInBounds_toArray,List.set_cons_zero,List.set_cons_succ]
        refine wpAnyH_ready (rs:=[1,11]) (by kernel_rfl) (by simp) ?_
        refine AllReadyH.cons rfl (λK hK=>?_) (AllReadyH.cons rfl (λK hK=>?_) (AllReadyH.nil))
        ·go_simp
         try go_wp2_with fail
         refine hK.out _ _ ?_ (λhHeld=>?_)
         ·trivial
         clear hK K
         try simp only [Act.put,List.setIfInBounds_toArray,List.set_cons_zero,List.set_cons_succ]
         refine wpAnyH_ready (rs:=[11]) (by kernel_rfl) (by simp) ?_
         refine AllReadyH.cons rfl (λK hK=>?_) (AllReadyH.nil)
         ·go_simp
          try go_wp2_with fail
          have hB11 : Below X.heap.size X (w6.alloc (.cells #[.slice a6 (m+1) k6] 22)):=Below.next hB6 (an _ _)
          have hs11:=hO.ah hB11
          have q11:=hs11.c1
          refine hK.out _ _ ?_ (λhHeld=>?_)
          ·trivial
          clear hK K
          try simp only [Act.put,List.setIfInBounds_toArray,List.set_cons_zero,List.set_cons_succ]
          refine wpAnyH_ready (rs:=[12]) (by kernel_rfl) (by simp) ?_
          refine AllReadyH.cons rfl (λK hK=>?_) (AllReadyH.nil)
          ·skip
           refine bg (by rfl) (.tmp 42) (.tmp 52) 25 22 (by rfl) (.slice none 0 0) 24 Tryz.underlying25 ch (by rfl) (g+1) a1 j c1 (List.zipWith e9 Rr E) (by rfl) ((hs6.om.ah (an _ _)).own) (some ⟨w6.heap.size,0,none⟩) 1 1 [.slice a6 (m+1) k6] (by rfl) (λ_=>rfl) rfl (by intro y hy;obtain rfl : y=0:=(by omega);exact bs _ _ _ rfl) (by intro u hu;simp at hu;subst hu;rfl) (by omega) (by unfold maxLen;omega) (by have e2:=hs6.lt;simp;omega) ?_;intro a5 c5 w5 hown5 hgr5 hap5
           have k5:=(hs6.dW hgr5).2.1
           have f5:=(hs6.dW hgr5).2.2
           refine hK.out _ _ ?_ (λhHeld=>?_)
           ·trivial
           clear hK K
           try simp only [Act.put,List.setIfInBounds_toArray,List.set_cons_zero,List.set_cons_succ]
           refine wpAnyH_take (i:=13) (v:=?_) (by simp only [List.getElem?_toArray,List.getElem?_cons_succ,List.getElem?_cons_zero];rfl) (by kernel_rfl) (by kernel_rfl) (by kernel_rfl) (by exact λ_ _ _ h=>h) (Or.inl ⟨by rfl,?_⟩) (by assumption) ?_
           rotate_left
           ·(intro w hSw;(try dsimp only at hSw);go_simp;first | done | with_reducible rfl)
           try simp only [Act.put,List.setIfInBounds_toArray,List.set_cons_zero,List.set_cons_succ]
           refine wpAnyH_ready (rs:=[14]) (by kernel_rfl) (by simp) ?_
           refine AllReadyH.cons rfl (λK hK=>?_) (AllReadyH.nil)
           ·go_simp
            try go_wp2_with fail
            refine hK.out _ _ ?_ (λhHeld=>?_)
            ·trivial
            clear hK K
            try simp only [Act.put,List.setIfInBounds_toArray,List.set_cons_zero,List.set_cons_succ]
            refine wpAnyH_done (by kernel_rfl) ?_ _
            go_wp2_with fail
            go_roundw
            case rel =>
             have hra : a6 ≠ none->¬ bL a1 Rr (ablk a6):=λh0 hI=>by
              have h1:=(aR (pL hown6) h0).1
              have h2:=(hO.om.lt _ hI).2
              omega
             obtain ⟨hP,hbP⟩:=hs6.push (N:=r ++ [y4]) (by simp [HrL.out]) (aP (pL hown6) (show g+1<=X.heap.size from hgX)) hra hown5 hgr5 hap5
             exact ⟨j+1,a5,c5,_,E ++ [r ++ [y4]],by omega,by go_num,hP,HEx.out y4 hy4,Below.trans hbr (((hB6.mono (by omega)).trans hbP))⟩
            case measure=>simp [intOf] <;> omega
        ·go_simp
         try go_wp2_with fail
         have hB11 : Below X.heap.size X (w6.alloc (.cells #[.slice a6 (m+1) k6] 22)):=Below.next hB6 (an _ _)
         have hs11:=hO.ah hB11
         have q11:=hs11.c1
         refine hK.out _ _ ?_ (λhHeld=>?_)
         ·trivial
         clear hK K
         try simp only [Act.put,List.setIfInBounds_toArray,List.set_cons_zero,List.set_cons_succ]
         refine wpAnyH_ready (rs:=[1]) (by kernel_rfl) (by simp) ?_
         refine AllReadyH.cons rfl (λK hK=>?_) (AllReadyH.nil)
         ·go_simp
          try go_wp2_with fail
          refine hK.out _ _ ?_ (λhHeld=>?_)
          ·trivial
          clear hK K
          try simp only [Act.put,List.setIfInBounds_toArray,List.set_cons_zero,List.set_cons_succ]
          refine wpAnyH_ready (rs:=[12]) (by kernel_rfl) (by simp) ?_
          refine AllReadyH.cons rfl (λK hK=>?_) (AllReadyH.nil)
          ·skip
           refine bg (by rfl) (.tmp 42) (.tmp 52) 25 22 (by rfl) (.slice none 0 0) 24 Tryz.underlying25 ch (by rfl) (g+1) a1 j c1 (List.zipWith e9 Rr E) (by rfl) ((hs6.om.ah (an _ _)).own) (some ⟨w6.heap.size,0,none⟩) 1 1 [.slice a6 (m+1) k6] (by rfl) (λ_=>rfl) rfl (by intro y hy;obtain rfl : y=0:=(by omega);exact bs _ _ _ rfl) (by intro u hu;simp at hu;subst hu;rfl) (by omega) (by unfold maxLen;omega) (by have e2:=hs6.lt;simp;omega) ?_;intro a5 c5 w5 hown5 hgr5 hap5
           have k5:=(hs6.dW hgr5).2.1
           have f5:=(hs6.dW hgr5).2.2
           refine hK.out _ _ ?_ (λhHeld=>?_)
           ·trivial
           clear hK K
           try simp only [Act.put,List.setIfInBounds_toArray,List.set_cons_zero,List.set_cons_succ]
           refine wpAnyH_take (i:=13) (v:=?_) (by simp only [List.getElem?_toArray,List.getElem?_cons_succ,List.getElem?_cons_zero];rfl) (by kernel_rfl) (by kernel_rfl) (by kernel_rfl) (by exact λ_ _ _ h=>h) (Or.inl ⟨by rfl,?_⟩) (by assumption) ?_
           rotate_left
           ·(intro w hSw;(try dsimp only at hSw);go_simp;first | done | with_reducible rfl)
           try simp only [Act.put,List.setIfInBounds_toArray,List.set_cons_zero,List.set_cons_succ]
           refine wpAnyH_ready (rs:=[14]) (by kernel_rfl) (by simp) ?_
           refine AllReadyH.cons rfl (λK hK=>?_) (AllReadyH.nil)
           ·go_simp
            try go_wp2_with fail
            refine hK.out _ _ ?_ (λhHeld=>?_)
            ·trivial
            clear hK K
            try simp only [Act.put,List.setIfInBounds_toArray,List.set_cons_zero,List.set_cons_succ]
            refine wpAnyH_done (by kernel_rfl) ?_ _
            go_wp2_with fail
            go_roundw
            case rel =>
             have hra : a6 ≠ none->¬ bL a1 Rr (ablk a6):=λh0 hI=>by
              have h1:=(aR (pL hown6) h0).1
              have h2:=(hO.om.lt _ hI).2
              omega
             obtain ⟨hP,hbP⟩:=hs6.push (N:=r ++ [y4]) (by simp [HrL.out]) (aP (pL hown6) (show g+1<=X.heap.size from hgX)) hra hown5 hgr5 hap5
             exact ⟨j+1,a5,c5,_,E ++ [r ++ [y4]],by omega,by go_num,hP,HEx.out y4 hy4,Below.trans hbr (((hB6.mono (by omega)).trans hbP))⟩
            case measure=>simp [intOf] <;> omega
  ·obtain rfl : j=n:=by omega
   obtain ⟨c0,c1',c2,c3,c4⟩:=HS.out X hbWX
   have m0:=hO.c0
   have m1:=hO.c1
   have Hnc:=Z5 (HNewC.out X E a1 c1 (Below.next HbW.out hbWX) hEx (bN.own hO.om).kK)
   have HExR : Hid (Aq G.El L E):=⟨by rw [hEx.1,HL.out],λt ht=>hEx.2 t (by have:=HL.out;omega)⟩
   have hgs:=HsW.out
   clear hO hEx
   go_wp2_with fail
   refine Hnc.out.mono ?_
   rintro e w6 ⟨a6,k6,a7,k7,rfl,h6,h7,hb6⟩
   have hb6W:=Below.next hbWX hb6
   obtain ⟨z0,z1,z2,z3,z4,f0,f1,f2,f3,f4⟩:=HZ.out w6 hb6W
   obtain ⟨KM,hKM⟩ : ∃KM,dr (aa P M.toNat mod) E (m+1)=KM:=⟨_,rfl⟩
   obtain ⟨q,hq⟩ : ∃q,KM.length=q:=⟨_,rfl⟩
   obtain ⟨nm,hnm⟩ : ∃nm,mod.length=nm:=⟨_,rfl⟩
   rw [hKM] at h7 ⊢
   rw [hq] at h7 ⊢
   rw [hnm] at h6 ⊢
   have hFin:=te (P:=P) (M:=M) (LQ:=E) (w:=w) (g:=w.heap.size+1) (k6:=k6) (k7:=k7) (by omega) (by omega) (Below.next HbW.out hb6W) h6 h7 hKM hq hnm
   rw [show ((m+1 : Nat) : Int)=(m : Int)+1 by omega] at hFin ⊢
   have HFin:=Z5 hFin
   clear hFin h6 h7 c0 c1' c2 c3 c4 m0 m1 hKM hq hnm
   go_wp2_with fail
   exact bodyPost_ret (v:=.tuple #[.agg #[.int .i64 P,.int .i64 M,.slice a6 nm k6,.int .i64 ((m : Int)+1),.slice a7 q k7],.int .i64 0]) (by simp [results,Tryz.results41,go_sem,z0,z1,z2,z3,z4]) rfl ⟨E,HExR.out,HFin.out⟩
section
variable {P M : Int} {mod : Lz} {m : Nat} {L : Ll}
theorem sZ (G : de) (m : Nat) (D : Ll) : (dr G D m).length<=D.length:=by
 unfold dr
 rw [List.length_take,bM]
 omega
theorem nh {q a b n : Nat} (hq : 1<=q) (h : a<=b) (hb : q ^ b<=500) (hn : n<=15) : n * q ^ a<=65536:=by
 have h1 : q ^ a<=q ^ b:=Nat.pow_le_pow_right hq h
 have h2 : n * q ^ a<=15 * 500:=Nat.mul_le_mul hn (by omega)
 omega
theorem tO (hE : aL P M mod m L=0) (S : Lz) : aL P M mod m (fW (aa P M.toNat mod) m L S)=0/\(fW (aa P M.toNat mod) m L S).length<=L.length:=by
 obtain ⟨N',e,hm1,hm64,F,hR⟩:=ba hE
 obtain rfl : m=N':=by omega
 obtain ⟨h1,h2,h3,_⟩:=nA hE S
 have h4:=Ix hE S
 have h5:=oT (bh hE).1 h1 hm1 hm64 (by omega)
 have h6 : dD (aa P M.toNat mod).ops m (fW (aa P M.toNat mod) m L S)=fW (aa P M.toNat mod) m L S:=h3
 rw [h6] at h5
 refine ⟨h5,?_⟩
 unfold Jt at h4
 omega
theorem wa (hE : aL P M mod m L=0) (i : Nat) : dM P M mod (frTo false [(i : Int)] m).length (L.map (aG (frTo false [(i : Int)] m)))=0:=by
 obtain ⟨N',e,hm1,hm64,F,hR⟩:=ba hE
 obtain rfl : m=N':=by omega
 have h1:=eQ false [(i : Int)] m
 have h2:=kt hE
 exact nE (bh hE).1 (fo hR (lQ i m)) (by omega) (by rw [List.length_map];omega)
theorem G5 {d : Nat} (h : na P M mod m L d) : d<=m:=by
 obtain ⟨_,x,hx,rfl⟩:=h
 rw [<- hx.1.1]
 exact List.countP_le_length
theorem Ih (hE : aL P M mod m L=0) (hk : 1<=L.length) (hm2 : 2<=m) (hm14 : m<=14) (hq : (aa P M.toNat mod).q ^ L.length<=500) {i : Nat} (hi : i<m) :
  ∃o b,dq P M mod m L=(o,b,0)/\bw b<=m /\
   (1<=(dr (aa P M.toNat mod) (L.map (aG (frTo false [(i : Int)] m))) (m - 1)).length->∃o' b',dq P M mod (m - 1 : Nat) (dr (aa P M.toNat mod) (L.map (aG (frTo false [(i : Int)] m))) (m - 1))=(o',b',0)/\bw b<=bw b'+1) /\
   (1<=(dr (aa P M.toNat mod) ((fW (aa P M.toNat mod) m L (frTo false [(i : Int)] m)).map (aG (frTo false [(i : Int)] m))) (m - 1)).length->∃o' b',dq P M mod (m - 1 : Nat) (dr (aa P M.toNat mod) ((fW (aa P M.toNat mod) m L (frTo false [(i : Int)] m)).map (aG (frTo false [(i : Int)] m))) (m - 1))=(o',b',0)/\bw b<=bw b') /\
   (∀E,Aq (aa P M.toNat mod).El L E->∃o' b',dq P M mod (m+1 : Nat) (dr (aa P M.toNat mod) E (m+1))=(o',b',0)/\bw b<=bw b'/\bw b'<=bw b+1):=by
 obtain ⟨N',e,hm1,hm64,F,hR⟩:=ba hE
 obtain rfl : m=N':=by omega
 have hq1 : (1 : Int)<(aa P M.toNat mod).q:=F.one.2
 have hfB:=(bh hE).1
 have hkm:=kt hE
 obtain ⟨o,b,hr,hd⟩:=oZ hE hk (nh (by omega) (Nat.le_refl _) hq (by omega))
 have hQl:=qh hi
 refine ⟨o,b,hr,G5 hd,λh1=>?_,λh1=>?_,λE hX=>?_⟩
 ·have hP:=fo hR (lQ i m)
  rw [hQl] at hP
  have hc:=oT hfB hP (by omega) (by omega) (by rw [List.length_map];omega)
  have hle : (dr (aa P M.toNat mod) (L.map (aG (frTo false [(i : Int)] m))) (m - 1)).length<=L.length:=by
   have:=sZ (aa P M.toNat mod) (m - 1) (L.map (aG (frTo false [(i : Int)] m)))
   rwa [List.length_map] at this
  obtain ⟨o',b',hr',hd'⟩:=oZ (L:=dr (aa P M.toNat mod) (L.map (aG (frTo false [(i : Int)] m))) (m - 1)) hc h1 (nh (by omega) hle hq (by omega))
  exact ⟨o',b',hr',AO hE hi hd hd'⟩
 ·obtain ⟨hE2,hl2⟩:=tO hE (frTo false [(i : Int)] m)
  have hD:=(nA hE (frTo false [(i : Int)] m)).1
  have hP:=fo hD (lQ i m)
  rw [hQl] at hP
  have hc:=oT hfB hP (by omega) (by omega) (by rw [List.length_map];omega)
  have hle : (dr (aa P M.toNat mod) ((fW (aa P M.toNat mod) m L (frTo false [(i : Int)] m)).map (aG (frTo false [(i : Int)] m))) (m - 1)).length<=L.length:=by
   have:=sZ (aa P M.toNat mod) (m - 1) ((fW (aa P M.toNat mod) m L (frTo false [(i : Int)] m)).map (aG (frTo false [(i : Int)] m)))
   rw [List.length_map] at this
   omega
  obtain ⟨o',b',hr',hd'⟩:=oZ (L:=dr (aa P M.toNat mod) ((fW (aa P M.toNat mod) m L (frTo false [(i : Int)] m)).map (aG (frTo false [(i : Int)] m))) (m - 1)) hc h1 (nh (by omega) hle hq (by omega))
  exact ⟨o',b',hr',AI hE hi hd hd'⟩
 ·have hc:=oT hfB (pQ hR hX) (by omega) (by omega) (by rw [hX.1];omega)
  obtain ⟨n1,n2⟩:=Jc hE hX hk
  obtain ⟨o',b',hr',hd'⟩:=oZ (L:=dr (aa P M.toNat mod) E (m+1)) hc n1 (nh (by omega) n2 hq (by omega))
  exact ⟨o',b',hr',EC hE hX hd hd'⟩
end
end Go.Proofs.YtcfmiocdlcapoaaGreat
