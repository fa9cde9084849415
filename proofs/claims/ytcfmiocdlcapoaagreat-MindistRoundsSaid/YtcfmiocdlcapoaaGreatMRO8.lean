import Derived.Test.YtcfmiocdlcapoaaGreatK19
import Derived.Test.YtcfmiocdlcapoaaGreatMRO6
import Derived.Test.YtcfmiocdlcapoaaGreatMRO5
import Derived.Test.YtcfmiocdlcapoaaGreatK28
import Derived.Test.YtcfmiocdlcapoaaGreatK25
import Derived.Test.YtcfmiocdlcapoaaGreatK22
import Derived.Test.YtcfmiocdlcapoaaGreatMRO2
import Derived.Test.YtcfmiocdlcapoaaGreatK21
import Derived.Test.YtcfmiocdlcapoaaGreatK31
import Derived.Test.YtcfmiocdlcapoaaGreatMRO1
import Derived.Test.YtcfmiocdlcapoaaGreatK4
namespace Go.Proofs.YtcfmiocdlcapoaaGreat
set_option linter.unusedVariables false
set_option linter.unusedSimpArgs false
set_option linter.unusedSectionVars false
set_option maxRecDepth 100000
set_option maxHeartbeats 8000000
open Go.RowKit
theorem pH {b : Bool} {U V : Lz} (h : ∀x,x ∈ U ↔ x ∈ V) : ∀k,frTo b U k=frTo b V k
 | 0=>rfl
 | k+1=>by
  rw [frTo,frTo,pH h k]
  by_cases h1 : (k : Int) ∈ U
  ·simp [h1,(h k).1 h1]
  ·have h2 : ¬ (k : Int) ∈ V:=λh2=>h1 ((h k).2 h2)
   simp [h1,h2]
theorem EX {m : Nat} {U V : Lz} (h : ∀x,x ∈ U ↔ x ∈ V) : fA m U=fA m V:=by rw [fA,fA,pH h,pH h]
theorem yM {U V : Lz} (h : ∀x,x ∈ U ↔ x ∈ V) (S : Lz) : ∀k,dI U S k=dI V S k
 | 0=>rfl
 | k+1=>by
  rw [dI,dI,yM h S k]
  by_cases h1 : nth S k ∈ U
  ·rw [if_pos h1,if_pos ((h _).1 h1)]
  ·rw [if_neg h1,if_neg λh2=>h1 ((h _).2 h2)]
theorem Fe {O : aQ} {L : Ll} {m : Nat} {U V : Lz} (h : ∀x,x ∈ U ↔ x ∈ V) : cX O L m U=cX O L m V:=by rw [cX,cX,EX h]
theorem wg {O : aQ} {L : Ll} {m : Nat} : ∀(f : Nat) {U V : Lz} (_ : ∀x,x ∈ U ↔ x ∈ V) (T : List (Lz × Int)),famGo O L m f U T=famGo O L m f V T
 | 0,_,_,_,_=>rfl
 | f+1,U,V,h,T=>by
  rw [famGo,famGo,Fe h,yM h]
  split
  ·rfl
  ·exact wg f (λx=>by rw [List.mem_append,List.mem_append,h x]) _
theorem C4 (U S : Lz) : dI U (bP S) S.length=dI U S S.length:=by
 have h:=vV (U:=U) (dw S)
 rwa [eG] at h
def fO (U S : Lz) : Nat->Lz
 | 0=>U
 | k+1=>if nth S k ∈ fO U S k then fO U S k else fO U S k ++ [nth S k]
theorem nC {U S : Lz} {x : Int} : ∀k,k<=S.length->(x ∈ fO U S k ↔ x ∈ U\/x ∈ S.take k)
 | 0,_=>by simp [fO]
 | k+1,h=>by
  have ih:=nC (U:=U) (S:=S) (x:=x) k (by omega)
  have e : S.take (k+1)=S.take k ++ [nth S k]:=by rw [List.take_succ_eq_append_getElem (by omega),ai (by omega)]
  rw [fO,e]
  split
  ·rename_i h1
   rw [ih,List.mem_append,List.mem_singleton]
   constructor
   ·rintro (h2 | h2)
    ·exact .inl h2
    ·exact .inr (.inl h2)
   ·rintro (h2 | h2 | h2)
    ·exact .inl h2
    ·exact .inr h2
    ·rw [h2]
     exact (nC k (by omega)).1 h1
  ·rw [List.mem_append,ih,List.mem_append]
   constructor
   ·rintro ((h2 | h2) | h2)
    ·exact .inl h2
    ·exact .inr (.inl h2)
    ·exact .inr (.inr h2)
   ·rintro (h2 | h2 | h2)
    ·exact .inl (.inl h2)
    ·exact .inl (.inr h2)
    ·exact .inr h2
theorem rN {U S : Lz} (hU : U.Nodup) : ∀k,(fO U S k).Nodup
 | 0=>hU
 | k+1=>by
  have ih:=rN (S:=S) hU k
  rw [fO]
  split
  ·exact ih
  ·rename_i h
   rw [List.nodup_append]
   exact ⟨ih,by simp,λx hx y hy=>by rw [List.mem_singleton] at hy;subst hy;exact λe=>h (e ▸ hx)⟩
theorem De {U S : Lz} {x : Int} : x ∈ fO U S S.length ↔ x ∈ U\/x ∈ S:=by
 rw [nC _ (Nat.le_refl _),List.take_of_length_le (Nat.le_refl _)]
section
variable {O : aQ} {El : Int->Prop} {m : Nat} {L : Ll}
end
theorem pX (P M : Int) (am : OA) (mn cm : Nat) (mod : Lz) (N : Int) (a : OA) (n c : Nat) (L : Ll) (ao : OA) (no co : Nat) (Q : Lz) (w : World)
  (hMu : ∀(k m : Nat) (a1 c1 : _) (A : Ll) (V : World),Ints V am mn mod->bZ V a1 k A->bZ V a k L->bA P M mod=true->bH (aa P M.toNat mod).El k A->bH (aa P M.toNat mod).El m L->k<=64->1<=m->m<=64 ->
   Calls Tryz.prog 114 #[.agg #[.int .i64 P,.int .i64 M,.slice am mn cm],.agg #[.int .i64 k,.slice a1 k c1],.agg #[.int .i64 m,.slice a k c]] V λe w'=>∃a3 c3,e = .returned (.tuple #[.agg #[.int .i64 m,.slice a3 k c3],.int .i64 0])/\bN V.heap.size w' a3 k (nS (aa P M.toNat mod).ops m A L)/\Below V.heap.size V w')
  (hmod : Ints w am mn mod) (hi : bZ w a n L) (hq : Ints w ao no Q) :
  Calls Tryz.prog 50 #[.agg #[.int .i64 P,.int .i64 M,.slice am mn cm,.int .i64 N,.slice a n c],.slice ao no co] w (mj P M mod N L Q w):=by
 have HS1 : Hid (∀V b,Below w.heap.size w V->V.heap.size=b->Calls Tryz.prog 110 #[.agg #[.int .i64 P,.int .i64 M,.slice am mn cm,.int .i64 N,.slice a n c],.slice (some ⟨b,0,none⟩) 1 1] (V.alloc (.cells #[.slice ao no co] 22)) λe w'=>e = .returned (.int .i64 (dR P M mod N L Q))/\Below V.heap.size V w'):=λV b hV hbb=>by
  subst hbb
  have hb:=Below.next hV (an V (.cells #[.slice ao no co] 22))
  refine (Eh P M am mn cm mod N a n c L _ 1 1 [Q] _ (hmod.ah hb) (hi.ah hb) (G7 (c:=co) V (hq.ah hV))).mono ?_
  rintro e w' ⟨rfl,h1⟩
  exact ⟨by rw [C8],Below.next (an _ _) h1⟩
 have Hql:=Z5 hq.len
 have Hil:=Z5 hi.len
 go_enter Tryz.func50,Tryz.ntmps50
 go_wp2_with fail
 obtain ⟨W,hW⟩ : ∃W : World,W=(w.alloc (.cells #[.int .i64 P,.int .i64 M,.slice am mn cm,.int .i64 N,.slice a n c] 27)).alloc (.cells #[.int .i64 0,.slice none 0 0] 82):=⟨_,rfl⟩
 rw [<- hW]
 have hbW : Below w.heap.size w W:=by rw [hW];exact dH _ _ _
 have hsW : W.heap.size=w.heap.size+1+1:=by rw [hW];simp
 have x0 : aV W w.heap.size [.int .i64 P,.int .i64 M,.slice am mn cm,.int .i64 N,.slice a n c]:=by rw [hW];exact (aV.new _ _ _ rfl).alloc _
 have z0 : aV W (w.heap.size+1) [.int .i64 0,.slice none 0 0]:=by rw [hW];exact aV.new _ _ _ (by simp)
 have hS : ∀V,Below W.heap.size W V->V.cell? ⟨w.heap.size,0,none⟩=some (.int .i64 P)/\V.cell? ⟨w.heap.size,1,none⟩=some (.int .i64 M)/\V.cell? ⟨w.heap.size,2,none⟩=some (.slice am mn cm)/\V.cell? ⟨w.heap.size,3,none⟩=some (.int .i64 N)/\V.cell? ⟨w.heap.size,4,none⟩=some (.slice a n c) /\
   aV V (w.heap.size+1) [.int .i64 0,.slice none 0 0]:=λV hV=>by
  have x1:=x0.ah hV
  exact ⟨x1.cell 0 rfl,x1.cell 1 rfl,x1.cell 2 rfl,x1.cell 3 rfl,x1.cell 4 rfl,z0.ah hV⟩
 have HS:=Z5 hS
 have HbW:=Z5 hbW
 have HsW:=Z5 hsW
 obtain ⟨c0,c1,c2,c3,c4,_⟩:=HS.out W (Below.refl _ _)
 have H1:=Z5 (HS1.out W _ hbW hsW)
 clear hW x0 z0 hS HS1 hsW
 refine H1.out.mono ?_
 rintro e w1 ⟨rfl,hb1⟩
 have hbw1:=Below.next hbW hb1
 have hend : ∀er : Int,kW P M mod N L Q ≠ 0->kW P M mod N L Q=er->mj P M mod N L Q w (.returned (.tuple #[.agg #[.int .i64 0,.slice none 0 0],.int .i64 er])) ((w1.setCell ⟨w.heap.size+1,0,none⟩ (.int .i64 0)).setCell ⟨w.heap.size+1,1,none⟩ (.slice none 0 0)):=λer h0 h1 =>
  ⟨(hbw1.setCell (p:=⟨w.heap.size+1,0,none⟩) (by simp) _).setCell (p:=⟨w.heap.size+1,1,none⟩) (by simp) _,.inl ⟨h0,by rw [h1]⟩⟩
 have Hend:=Z5 hend
 have zz:=(HS.out w1 hb1).2.2.2.2.2
 have z0:=zz.cell 0 rfl
 have z1:=zz.cell 1 rfl
 have f0:=zz.frozen 0
 have f1:=zz.frozen 1
 clear hend zz hbW c0 c1 c2 c3 c4 H1
 by_cases hr : dR P M mod N L Q=0
 rotate_left
 ·have hs : kW P M mod N L Q=dR P M mod N L Q:=by rw [kW,if_pos hr]
  have HF:=Z5 (Hend.out (dR P M mod N L Q) (by rw [hs];exact hr) hs)
  have hr' : (dR P M mod N L Q != 0)=true:=by simpa using hr
  clear hr hs Hend
  generalize dR P M mod N L Q=er at *
  go_wp2_with fail
  exact bodyPost_ret (v:=.tuple #[.agg #[.int .i64 0,.slice none 0 0],.int .i64 er]) (by simp [results,Tryz.results50,go_sem,z0,z1]) rfl HF.out
 obtain ⟨hE,hok⟩:=Iy hr
 obtain ⟨m,rfl,hm1,hm64,F,hR⟩:=ba hE
 have hQ : qp m Q:=Jv hok
 have hqm : (Q.length : Int)<=m:=lj hok (by omega)
 have hno64 : no<=64:=by rw [<- Hql.out];omega
 have hin:=Ee P M am mn cm mod m a n c L ao no co Q w1 (hmod.ah hbw1) (hi.ah hbw1) (hq.ah hbw1) hE hQ (by omega)
 have hsv : Av P M mod m L Q=rh (aa P M.toNat mod).ops L Q:=F4 hr
 by_cases hv : rh (aa P M.toNat mod).ops L Q=true
 rotate_left
 ·have hv' : rh (aa P M.toNat mod).ops L Q=false:=by simpa using hv
  have hs : kW P M mod m L Q=9:=by rw [kW,if_neg (by simpa using hr),if_neg (by rw [hsv];exact hv)]
  rw [hv'] at hin
  have Hin:=Z5 hin
  have HsE:=Z5 hs
  obtain ⟨c0,c1,c2,c3,c4,_⟩:=HS.out w1 hb1
  rw [hr]
  clear hr hs Hend hv hv' hin hsv hE hok F hR hQ hqm z0 z1 f0 f1
  go_wp2_with fail
  refine Hin.out.mono ?_
  rintro e w2 ⟨rfl,hb2⟩
  have hb12:=Below.next hb1 hb2
  have hbw2:=Below.next hbw1 hb2
  have zz:=(HS.out w2 hb12).2.2.2.2.2
  have z0:=zz.cell 0 rfl
  have z1:=zz.cell 1 rfl
  have f0:=zz.frozen 0
  have f1:=zz.frozen 1
  have HF : Hid (mj P M mod m L Q w (.returned (.tuple #[.agg #[.int .i64 0,.slice none 0 0],.int .i64 9])) ((w2.setCell ⟨w.heap.size+1,0,none⟩ (.int .i64 0)).setCell ⟨w.heap.size+1,1,none⟩ (.slice none 0 0))) :=
   ⟨(hbw2.setCell (p:=⟨w.heap.size+1,0,none⟩) (by simp) _).setCell (p:=⟨w.heap.size+1,1,none⟩) (by simp) _,.inl ⟨by rw [HsE.out];decide,by rw [HsE.out]⟩⟩
  clear zz c0 c1 c2 c3 c4 Hin
  go_wp2_with fail
  exact bodyPost_ret (v:=.tuple #[.agg #[.int .i64 0,.slice none 0 0],.int .i64 9]) (by simp [results,Tryz.results50,go_sem,z0,z1]) rfl HF.out
 have hs0 : kW P M mod m L Q=0:=by rw [kW,if_neg (by simpa using hr),if_pos (by rw [hsv];exact hv)]
 obtain ⟨hl,hg⟩:=kH.1 hv
 have hno : no=n:=by rw [<- Hql.out,hl,Hil.out]
 have hn64 : n<=64:=by omega
 have hDr : bH (aa P M.toNat mod).El n (L.map (aG Q)):=by have h:=fo hR hQ;rw [Hql.out,hno] at h;exact h
 have hqn : Q.length=n:=by rw [Hql.out];exact hno
 have hpv:=(xh F hR hQ).trans (show (i7 (aa P M.toNat mod).ops L Q).length=n from hg.trans hqn)
 rw [hqn] at hpv
 have hfB:=(bh hE).1
 have hsyl : cQ (aa P M.toNat mod).ops m L Q=nS (aa P M.toNat mod).ops m (kS (aa P M.toNat mod).ops (L.map (aG Q)) n) L:=by rw [cQ,hqn]
 have HKp : Hid (∀V,Below w.heap.size w V->Calls Tryz.prog 113 #[.slice a n c,.slice ao no co] V λe w'=>Below V.heap.size V w'/\∃a1 c1,e = .returned (.slice a1 n c1)/\bZ w' a1 n (L.map (aG Q))):=λV hV=>by
  refine (vr m a n c L ao no co Q V (hi.ah hV) (hq.ah hV) (λr hr=>(hR r hr).1) hQ (by omega) (by omega)).mono ?_
  rintro e w' ⟨a1,c1,R,rfl,hO,hb⟩
  exact ⟨hb,a1,c1,rfl,hO.kK⟩
 have HIv : Hid (∀V a1 c1,Below w.heap.size w V->bZ V a1 n (L.map (aG Q))->∀V2,Below V.heap.size V V2->Calls Tryz.prog 112 #[.agg #[.int .i64 P,.int .i64 M,.slice am mn cm],.agg #[.int .i64 n,.slice a1 n c1]] V2 λe w' =>
   Below V2.heap.size V2 w'/\∃a2 c2,e = .returned (.tuple #[.agg #[.int .i64 n,.slice a2 n c2],.int .i64 0])/\bN V2.heap.size w' a2 n (kS (aa P M.toNat mod).ops (L.map (aG Q)) n)):=λV a1 c1 hV hM V2 hV2=>by
  refine (xi P M am mn cm mod n a1 c1 _ V2 (hmod.ah (Below.next hV hV2)) (hM.ah hV2) hfB hDr hn64 hpv).mono ?_
  rintro e w' ⟨a2,c2,rfl,hN,hb⟩
  exact ⟨hb,a2,c2,rfl,hN⟩
 have HMl : Hid (∀V a2 c2,Below w.heap.size w V->bZ V a2 n (kS (aa P M.toNat mod).ops (L.map (aG Q)) n)->Calls Tryz.prog 114 #[.agg #[.int .i64 P,.int .i64 M,.slice am mn cm],.agg #[.int .i64 n,.slice a2 n c2],.agg #[.int .i64 m,.slice a n c]] V λe w' =>
   ∃a3 c3,e = .returned (.tuple #[.agg #[.int .i64 m,.slice a3 n c3],.int .i64 0])/\bN V.heap.size w' a3 n (cQ (aa P M.toNat mod).ops m L Q)/\Below V.heap.size V w'):=λV a2 c2 hV hM=>by
  rw [hsyl]
  exact hMu n m a2 c2 _ V (hmod.ah hV) hM (hi.ah hV) hfB (sC F hDr) hR hn64 hm1 hm64
 have Hs0:=Z5 hs0
 have HPost : Hid (∀a3 c3 w',Below w.heap.size w w'->bN w.heap.size w' a3 n (cQ (aa P M.toNat mod).ops m L Q)->mj P M mod m L Q w (.returned (.tuple #[.agg #[.int .i64 m,.slice a3 n c3],.int .i64 0])) w'):=λa3 c3 w' h1 h2=>by
  rw [<- Hil.out] at h2 ⊢
  exact ⟨h1,.inr ⟨Hs0.out,m,rfl,a3,c3,rfl,h2⟩⟩
 obtain ⟨D,hD⟩ : ∃D,L.map (aG Q)=D:=⟨_,rfl⟩
 obtain ⟨Iv,hIv⟩ : ∃Iv,kS (aa P M.toNat mod).ops D n=Iv:=⟨_,rfl⟩
 obtain ⟨Sy,hSy⟩ : ∃Sy,cQ (aa P M.toNat mod).ops m L Q=Sy:=⟨_,rfl⟩
 rw [hD] at HKp HIv HMl
 rw [hIv] at HIv HMl
 rw [hSy] at HMl HPost
 rw [hv] at hin
 have Hin:=Z5 hin
 obtain ⟨c0,c1,c2,c3,c4,_⟩:=HS.out w1 hb1
 rw [hr]
 obtain rfl : n=no:=hno.symm
 clear hr hs0 Hend hv hin hsv hE hok F hR hQ hqm z0 z1 f0 f1 hl hg hDr hqn hpv hfB hsyl hD hIv hSy hmod hi hq
 go_wp2_with fail
 refine Hin.out.mono ?_
 rintro e w2 ⟨rfl,hb2⟩
 have hb12:=Below.next hb1 hb2
 have HS2 : Hid (∀V,Below w2.heap.size w2 V->V.cell? ⟨w.heap.size,0,none⟩=some (.int .i64 P)/\V.cell? ⟨w.heap.size,1,none⟩=some (.int .i64 M)/\V.cell? ⟨w.heap.size,2,none⟩=some (.slice am mn cm)/\V.cell? ⟨w.heap.size,3,none⟩=some (.int .i64 m)/\V.cell? ⟨w.heap.size,4,none⟩=some (.slice a n c)/\Below w2.heap.size w2 V):=λV hV=>by
  obtain ⟨q0,q1,q2,q3,q4,_⟩:=HS.out V (Below.next hb12 hV)
  exact ⟨q0,q1,q2,q3,q4,hV⟩
 have Hbw2:=Z5 (Below.next HbW.out hb12)
 clear c0 c1 c2 c3 c4 Hin
 go_wp2_with fail
 go_cut [7,8] (λv u wx=>∃g a2 c2,v = .pointer (some ⟨g,0,none⟩)/\u = .int .i64 0/\wx.cell? ⟨g,0,none⟩=some (.int .i64 n)/\wx.cell? ⟨g,1,none⟩=some (.slice a2 n c2)/\bZ wx a2 n Iv/\Below w2.heap.size w2 wx)
 case first =>
  refine wp_region_held_drew (S:=(λV=>V.cell? ⟨w.heap.size,0,none⟩=some (.int .i64 P)/\V.cell? ⟨w.heap.size,1,none⟩=some (.int .i64 M)/\V.cell? ⟨w.heap.size,2,none⟩=some (.slice am mn cm)/\V.cell? ⟨w.heap.size,3,none⟩=some (.int .i64 m)/\V.cell? ⟨w.heap.size,4,none⟩=some (.slice a n c)/\Below w2.heap.size w2 V)) (by kernel_rfl) ?_ (λhHeld=>?_)
  ·exact HS2.out _ (Below.refl _ _).drew
  refine wpAnyH_take (i:=0) (v:=?_) (by simp only [List.getElem?_toArray,List.getElem?_cons_succ,List.getElem?_cons_zero];rfl) (by kernel_rfl) (by kernel_rfl) (by kernel_rfl) (by exact λ_ _ _ h=>h) (Or.inl ⟨by rfl,?_⟩) (by assumption) ?_
  rotate_left
  ·(intro w hSw;(try dsimp only at hSw);go_split_ands;go_simp;first | done | with_reducible rfl)
  try simp only [Act.put,List.setIfInBounds_toArray,List.set_cons_zero,List.set_cons_succ]
  refine wpAnyH_take (i:=1) (v:=?_) (by simp only [List.getElem?_toArray,List.getElem?_cons_succ,List.getElem?_cons_zero];rfl) (by kernel_rfl) (by kernel_rfl) (by kernel_rfl) (by exact λ_ _ _ h=>h) (Or.inl ⟨by rfl,?_⟩) (by assumption) ?_
  rotate_left
  ·(intro w hSw;(try dsimp only at hSw);go_split_ands;go_simp;first | done | with_reducible rfl)
  try simp only [Act.put,List.setIfInBounds_toArray,List.set_cons_zero,List.set_cons_succ]
  refine wpAnyH_take (i:=2) (v:=?_) (by simp only [List.getElem?_toArray,List.getElem?_cons_succ,List.getElem?_cons_zero];rfl) (by kernel_rfl) (by kernel_rfl) (by kernel_rfl) (by exact λ_ _ _ h=>h) (Or.inl ⟨by rfl,?_⟩) (by assumption) ?_
  rotate_left
  ·(intro w hSw;(try dsimp only at hSw);go_split_ands;go_simp;first | done | with_reducible rfl)
  try simp only [Act.put,List.setIfInBounds_toArray,List.set_cons_zero,List.set_cons_succ]
  refine wpAnyH_take (i:=3) (v:=?_) (by simp only [List.getElem?_toArray,List.getElem?_cons_succ,List.getElem?_cons_zero];rfl) (by kernel_rfl) (by kernel_rfl) (by kernel_rfl) (by exact λ_ _ _ h=>h) (Or.inl ⟨by rfl,?_⟩) (by assumption) ?_
  rotate_left
  ·(intro w hSw;(try dsimp only at hSw);go_split_ands;go_simp;first | done | with_reducible rfl)
  try simp only [Act.put,List.setIfInBounds_toArray,List.set_cons_zero,List.set_cons_succ]
  refine wpAnyH_take (i:=4) (v:=?_) (by simp only [List.getElem?_toArray,List.getElem?_cons_succ,List.getElem?_cons_zero];rfl) (by kernel_rfl) (by kernel_rfl) (by kernel_rfl) (by exact λ_ _ _ h=>h) (Or.inl ⟨by rfl,?_⟩) (by assumption) ?_
  rotate_left
  ·(intro w hSw;(try dsimp only at hSw);go_split_ands;go_simp;first | done | with_reducible rfl)
  try simp only [Act.put,List.setIfInBounds_toArray,List.set_cons_zero,List.set_cons_succ]
  refine wpAnyH_take (i:=5) (v:=?_) (by simp only [List.getElem?_toArray,List.getElem?_cons_succ,List.getElem?_cons_zero];rfl) (by kernel_rfl) (by kernel_rfl) (by kernel_rfl) (by exact λ_ _ _ h=>h) (Or.inl ⟨by rfl,?_⟩) (by assumption) ?_
  rotate_left
  ·(intro w hSw;(try dsimp only at hSw);go_split_ands;go_simp;first | done | with_reducible rfl)
  try simp only [Act.put,List.setIfInBounds_toArray,List.set_cons_zero,List.set_cons_succ]
  refine wpAnyH_take (i:=6) (v:=?_) (by simp only [List.getElem?_toArray,List.getElem?_cons_succ,List.getElem?_cons_zero];rfl) (by kernel_rfl) (by kernel_rfl) (by kernel_rfl) (by exact λ_ _ _ h=>h) (Or.inl ⟨by rfl,?_⟩) (by assumption) ?_
  rotate_left
  ·(intro w hSw;(try dsimp only at hSw);go_split_ands;go_simp;first | done | with_reducible rfl)
  try simp only [Act.put,List.setIfInBounds_toArray,List.set_cons_zero,List.set_cons_succ]
  refine wpAnyH_ready (rs:=[7,13]) (by kernel_rfl) (by simp) ?_
  refine AllReadyH.cons rfl (λK hK=>?_) (AllReadyH.cons rfl (λK hK=>?_) (AllReadyH.nil))
  ·go_simp
   refine (HKp.out _ (Below.next Hbw2.out (by first | exact hbZ | exact (Below.refl _ _).drew))).mono ?_;rintro e w7 ⟨hb7',a7,k7,rfl,hM7⟩
   go_wp2_with fail
   have hb7 : Below w2.heap.size w2 w7:=(by first | exact Below.next hbZ hb7' | exact Below.next (Below.refl _ _).drew hb7')
   have Hr2:=Z5 (HIv.out w7 a7 k7 (Below.next Hbw2.out hb7) hM7)
   clear hM7
   first | have hZb:=hZa.ah hb7' | skip
   refine hK.out _ _ ?_ (λhHeld=>?_)
   ·exact HS2.out _ hb7
   clear hK K
   try simp only [Act.put,List.setIfInBounds_toArray,List.set_cons_zero,List.set_cons_succ]
   refine wpAnyH_take (i:=8) (v:=?_) (by simp only [List.getElem?_toArray,List.getElem?_cons_succ,List.getElem?_cons_zero];rfl) (by kernel_rfl) (by kernel_rfl) (by kernel_rfl) (by exact λ_ _ _ h=>h) (Or.inl ⟨by rfl,?_⟩) (by assumption) ?_
   rotate_left
   ·(intro w hSw;(try dsimp only at hSw);go_split_ands;go_simp;first | done | with_reducible rfl)
   try simp only [Act.put,List.setIfInBounds_toArray,List.set_cons_zero,List.set_cons_succ]
   refine wpAnyH_ready (rs:=[9,13]) (by kernel_rfl) (by simp) ?_
   refine AllReadyH.cons rfl (λK hK=>?_) (AllReadyH.cons rfl (λK hK=>?_) (AllReadyH.nil))
   ·go_simp
    refine (Hr2.out _ (by first | exact Below.refl _ _ | exact an _ _)).mono ?_;rintro e w8 ⟨hb8',a8,k8,rfl,hM8⟩
    go_wp2_with fail
    have hb8 : Below w2.heap.size w2 w8:=(by first | exact Below.next hb7 hb8' | exact Below.next (Below.bQ hb7 _) hb8')
    first | (have hZc:=hZb.ah hb8';have z0:=hZc.cell 0 rfl;have z1:=hZc.cell 1 rfl;have f0:=hZc.frozen 0;have f1:=hZc.frozen 1) | (have hZc:=hZa.ah hb8';have z0:=hZc.cell 0 rfl;have z1:=hZc.cell 1 rfl;have f0:=hZc.frozen 0;have f1:=hZc.frozen 1) | skip
    refine hK.out _ _ ?_ (λhHeld=>?_)
    ·exact HS2.out _ hb8
    clear hK K
    try simp only [Act.put,List.setIfInBounds_toArray,List.set_cons_zero,List.set_cons_succ]
    refine wpAnyH_take (i:=10) (v:=?_) (by simp only [List.getElem?_toArray,List.getElem?_cons_succ,List.getElem?_cons_zero];rfl) (by kernel_rfl) (by kernel_rfl) (by kernel_rfl) (by exact λ_ _ _ h=>h) (Or.inl ⟨by rfl,?_⟩) (by assumption) ?_
    rotate_left
    ·(intro w hSw;(try dsimp only at hSw);go_split_ands;go_simp;first | done | with_reducible rfl)
    try simp only [Act.put,List.setIfInBounds_toArray,List.set_cons_zero,List.set_cons_succ]
    refine wpAnyH_take (i:=11) (v:=?_) (by simp only [List.getElem?_toArray,List.getElem?_cons_succ,List.getElem?_cons_zero];rfl) (by kernel_rfl) (by kernel_rfl) (by kernel_rfl) (by exact λ_ _ _ h=>h) (Or.inl ⟨by rfl,?_⟩) (by assumption) ?_
    rotate_left
    ·(intro w hSw;(try dsimp only at hSw);go_split_ands;go_simp;first | done | with_reducible rfl)
    try simp only [Act.put,List.setIfInBounds_toArray,List.set_cons_zero,List.set_cons_succ]
    refine wpAnyH_take (i:=12) (v:=?_) (by simp only [List.getElem?_toArray,List.getElem?_cons_succ,List.getElem?_cons_zero];rfl) (by kernel_rfl) (by kernel_rfl) (by kernel_rfl) (by exact λ_ _ _ h=>h) (Or.inl ⟨by rfl,?_⟩) (by assumption) ?_
    rotate_left
    ·(intro w hSw;(try dsimp only at hSw);go_split_ands;go_simp;first | done | with_reducible rfl)
    try simp only [Act.put,List.setIfInBounds_toArray,List.set_cons_zero,List.set_cons_succ]
    refine wpAnyH_ready (rs:=[13]) (by kernel_rfl) (by simp) ?_
    refine AllReadyH.cons rfl (λK hK=>?_) (AllReadyH.nil)
    ·go_simp
     try go_wp2_with fail
     first | (have hZa:=aV.new (g:=w8.heap.size) w8 [.int .i64 0,.slice none 0 0] 82 rfl;have hbZ:=Below.bQ hb8 (.cells #[.int .i64 0,.slice none 0 0] 82)) | (have hZa:=aV.new (g:=w7.heap.size) w7 [.int .i64 0,.slice none 0 0] 82 rfl;have hbZ:=Below.bQ hb7 (.cells #[.int .i64 0,.slice none 0 0] 82)) | (have hZa:=aV.new (g:=w2.heap.size) w2.drew [.int .i64 0,.slice none 0 0] 82 rfl;have hbZ:=Below.bQ (Below.refl w2.heap.size w2).drew (.cells #[.int .i64 0,.slice none 0 0] 82))
     have y0:=hZa.cell 0 rfl
     have y1:=hZa.cell 1 rfl
     have g0:=hZa.frozen 0
     have g1:=hZa.frozen 1
     refine hK.out _ _ ?_ (λhHeld=>?_)
     ·exact HS2.out _ hbZ
     clear hK K
     try simp only [Act.put,List.setIfInBounds_toArray,List.set_cons_zero,List.set_cons_succ]
     refine wpAnyH_ready (rs:=[14]) (by kernel_rfl) (by simp) ?_
     refine AllReadyH.cons rfl (λK hK=>?_) (AllReadyH.nil)
     ·go_simp
      try go_wp2_with fail
      refine hK.out _ _ ?_ (λhHeld=>?_)
      ·first | exact HS2.out _ hbZ | exact HS2.out _ ((hb8.setCell (Nat.le_refl _) _).setCell (Nat.le_refl _) _) | exact HS2.out _ ((hb8.setCell hb7.size _).setCell hb7.size _) | exact HS2.out _ ((hbZ.setCell hb8.size _).setCell hb8.size _) | exact HS2.out _ (Below.bQ hb8 _)
      clear hK K
      try simp only [Act.put,List.setIfInBounds_toArray,List.set_cons_zero,List.set_cons_succ]
      refine wpAnyH_take (i:=15) (v:=?_) (by simp only [List.getElem?_toArray,List.getElem?_cons_succ,List.getElem?_cons_zero];rfl) (by kernel_rfl) (by kernel_rfl) (by kernel_rfl) (by exact λ_ _ _ h=>h) (Or.inl ⟨by rfl,?_⟩) (by assumption) ?_
      rotate_left
      ·(intro w hSw;(try dsimp only at hSw);go_split_ands;go_simp;first | done | with_reducible rfl)
      try simp only [Act.put,List.setIfInBounds_toArray,List.set_cons_zero,List.set_cons_succ]
      refine wpAnyH_done (by kernel_rfl) ?_ _
      go_wp2_with fail
      go_meet
      first
      | exact ⟨w8.heap.size,a8,k8,rfl,rfl,(aV.new (g:=w8.heap.size) w8 [.int .i64 n,.slice a8 n k8] 82 rfl).cell 0 rfl,(aV.new (g:=w8.heap.size) w8 [.int .i64 n,.slice a8 n k8] 82 rfl).cell 1 rfl,hM8.kK.ah (an _ _),Below.bQ hb8 _⟩
      | exact ⟨w2.heap.size,a8,k8,rfl,rfl,((hZc.gk 0 (.int .i64 n)).gk 1 (.slice a8 n k8)).cell 0 rfl,((hZc.gk 0 (.int .i64 n)).gk 1 (.slice a8 n k8)).cell 1 rfl,((hM8.setCell (p:=⟨w2.heap.size,0,none⟩) (by have h1:=hZb.1;simp only [];omega) _).setCell (p:=⟨w2.heap.size,1,none⟩) (by have h1:=hZb.1;simp only [];omega) _).kK,(hb8.setCell (p:=⟨w2.heap.size,0,none⟩) (Nat.le_refl _) _).setCell (p:=⟨w2.heap.size,1,none⟩) (Nat.le_refl _) _⟩
      | exact ⟨w7.heap.size,a8,k8,rfl,rfl,((hZc.gk 0 (.int .i64 n)).gk 1 (.slice a8 n k8)).cell 0 rfl,((hZc.gk 0 (.int .i64 n)).gk 1 (.slice a8 n k8)).cell 1 rfl,((hM8.setCell (p:=⟨w7.heap.size,0,none⟩) (by simp) _).setCell (p:=⟨w7.heap.size,1,none⟩) (by simp) _).kK,(hb8.setCell (p:=⟨w7.heap.size,0,none⟩) hb7.size _).setCell (p:=⟨w7.heap.size,1,none⟩) hb7.size _⟩
   ·go_simp
    try go_wp2_with fail
    first | (have hZa:=aV.new (g:=w8.heap.size) w8 [.int .i64 0,.slice none 0 0] 82 rfl;have hbZ:=Below.bQ hb8 (.cells #[.int .i64 0,.slice none 0 0] 82)) | (have hZa:=aV.new (g:=w7.heap.size) w7 [.int .i64 0,.slice none 0 0] 82 rfl;have hbZ:=Below.bQ hb7 (.cells #[.int .i64 0,.slice none 0 0] 82)) | (have hZa:=aV.new (g:=w2.heap.size) w2.drew [.int .i64 0,.slice none 0 0] 82 rfl;have hbZ:=Below.bQ (Below.refl w2.heap.size w2).drew (.cells #[.int .i64 0,.slice none 0 0] 82))
    have y0:=hZa.cell 0 rfl
    have y1:=hZa.cell 1 rfl
    have g0:=hZa.frozen 0
    have g1:=hZa.frozen 1
    refine hK.out _ _ ?_ (λhHeld=>?_)
    ·exact HS2.out _ hbZ
    clear hK K
    try simp only [Act.put,List.setIfInBounds_toArray,List.set_cons_zero,List.set_cons_succ]
    refine wpAnyH_ready (rs:=[9]) (by kernel_rfl) (by simp) ?_
    refine AllReadyH.cons rfl (λK hK=>?_) (AllReadyH.nil)
    ·go_simp
     refine (Hr2.out _ (by first | exact Below.refl _ _ | exact an _ _)).mono ?_;rintro e w8 ⟨hb8',a8,k8,rfl,hM8⟩
     go_wp2_with fail
     have hb8 : Below w2.heap.size w2 w8:=(by first | exact Below.next hb7 hb8' | exact Below.next (Below.bQ hb7 _) hb8')
     first | (have hZc:=hZb.ah hb8';have z0:=hZc.cell 0 rfl;have z1:=hZc.cell 1 rfl;have f0:=hZc.frozen 0;have f1:=hZc.frozen 1) | (have hZc:=hZa.ah hb8';have z0:=hZc.cell 0 rfl;have z1:=hZc.cell 1 rfl;have f0:=hZc.frozen 0;have f1:=hZc.frozen 1) | skip
     refine hK.out _ _ ?_ (λhHeld=>?_)
     ·exact HS2.out _ hb8
     clear hK K
     try simp only [Act.put,List.setIfInBounds_toArray,List.set_cons_zero,List.set_cons_succ]
     refine wpAnyH_take (i:=10) (v:=?_) (by simp only [List.getElem?_toArray,List.getElem?_cons_succ,List.getElem?_cons_zero];rfl) (by kernel_rfl) (by kernel_rfl) (by kernel_rfl) (by exact λ_ _ _ h=>h) (Or.inl ⟨by rfl,?_⟩) (by assumption) ?_
     rotate_left
     ·(intro w hSw;(try dsimp only at hSw);go_split_ands;go_simp;first | done | with_reducible rfl)
     try simp only [Act.put,List.setIfInBounds_toArray,List.set_cons_zero,List.set_cons_succ]
     refine wpAnyH_take (i:=11) (v:=?_) (by simp only [List.getElem?_toArray,List.getElem?_cons_succ,List.getElem?_cons_zero];rfl) (by kernel_rfl) (by kernel_rfl) (by kernel_rfl) (by exact λ_ _ _ h=>h) (Or.inl ⟨by rfl,?_⟩) (by assumption) ?_
     rotate_left
     ·(intro w hSw;(try dsimp only at hSw);go_split_ands;go_simp;first | done | with_reducible rfl)
     try simp only [Act.put,List.setIfInBounds_toArray,List.set_cons_zero,List.set_cons_succ]
     refine wpAnyH_take (i:=12) (v:=?_) (by simp only [List.getElem?_toArray,List.getElem?_cons_succ,List.getElem?_cons_zero];rfl) (by kernel_rfl) (by kernel_rfl) (by kernel_rfl) (by exact λ_ _ _ h=>h) (Or.inl ⟨by rfl,?_⟩) (by assumption) ?_
     rotate_left
     ·(intro w hSw;(try dsimp only at hSw);go_split_ands;go_simp;first | done | with_reducible rfl)
     try simp only [Act.put,List.setIfInBounds_toArray,List.set_cons_zero,List.set_cons_succ]
     refine wpAnyH_ready (rs:=[14]) (by kernel_rfl) (by simp) ?_
     refine AllReadyH.cons rfl (λK hK=>?_) (AllReadyH.nil)
     ·go_simp
      try go_wp2_with fail
      refine hK.out _ _ ?_ (λhHeld=>?_)
      ·first | exact HS2.out _ hbZ | exact HS2.out _ ((hb8.setCell (Nat.le_refl _) _).setCell (Nat.le_refl _) _) | exact HS2.out _ ((hb8.setCell hb7.size _).setCell hb7.size _) | exact HS2.out _ ((hbZ.setCell hb8.size _).setCell hb8.size _) | exact HS2.out _ (Below.bQ hb8 _)
      clear hK K
      try simp only [Act.put,List.setIfInBounds_toArray,List.set_cons_zero,List.set_cons_succ]
      refine wpAnyH_take (i:=15) (v:=?_) (by simp only [List.getElem?_toArray,List.getElem?_cons_succ,List.getElem?_cons_zero];rfl) (by kernel_rfl) (by kernel_rfl) (by kernel_rfl) (by exact λ_ _ _ h=>h) (Or.inl ⟨by rfl,?_⟩) (by assumption) ?_
      rotate_left
      ·(intro w hSw;(try dsimp only at hSw);go_split_ands;go_simp;first | done | with_reducible rfl)
      try simp only [Act.put,List.setIfInBounds_toArray,List.set_cons_zero,List.set_cons_succ]
      refine wpAnyH_done (by kernel_rfl) ?_ _
      go_wp2_with fail
      go_meet
      first
      | exact ⟨w8.heap.size,a8,k8,rfl,rfl,(aV.new (g:=w8.heap.size) w8 [.int .i64 n,.slice a8 n k8] 82 rfl).cell 0 rfl,(aV.new (g:=w8.heap.size) w8 [.int .i64 n,.slice a8 n k8] 82 rfl).cell 1 rfl,hM8.kK.ah (an _ _),Below.bQ hb8 _⟩
      | exact ⟨w2.heap.size,a8,k8,rfl,rfl,((hZc.gk 0 (.int .i64 n)).gk 1 (.slice a8 n k8)).cell 0 rfl,((hZc.gk 0 (.int .i64 n)).gk 1 (.slice a8 n k8)).cell 1 rfl,((hM8.setCell (p:=⟨w2.heap.size,0,none⟩) (by have h1:=hZb.1;simp only [];omega) _).setCell (p:=⟨w2.heap.size,1,none⟩) (by have h1:=hZb.1;simp only [];omega) _).kK,(hb8.setCell (p:=⟨w2.heap.size,0,none⟩) (Nat.le_refl _) _).setCell (p:=⟨w2.heap.size,1,none⟩) (Nat.le_refl _) _⟩
      | exact ⟨w7.heap.size,a8,k8,rfl,rfl,((hZc.gk 0 (.int .i64 n)).gk 1 (.slice a8 n k8)).cell 0 rfl,((hZc.gk 0 (.int .i64 n)).gk 1 (.slice a8 n k8)).cell 1 rfl,((hM8.setCell (p:=⟨w7.heap.size,0,none⟩) (by simp) _).setCell (p:=⟨w7.heap.size,1,none⟩) (by simp) _).kK,(hb8.setCell (p:=⟨w7.heap.size,0,none⟩) hb7.size _).setCell (p:=⟨w7.heap.size,1,none⟩) hb7.size _⟩
  ·go_simp
   try go_wp2_with fail
   first | (have hZa:=aV.new (g:=w8.heap.size) w8 [.int .i64 0,.slice none 0 0] 82 rfl;have hbZ:=Below.bQ hb8 (.cells #[.int .i64 0,.slice none 0 0] 82)) | (have hZa:=aV.new (g:=w7.heap.size) w7 [.int .i64 0,.slice none 0 0] 82 rfl;have hbZ:=Below.bQ hb7 (.cells #[.int .i64 0,.slice none 0 0] 82)) | (have hZa:=aV.new (g:=w2.heap.size) w2.drew [.int .i64 0,.slice none 0 0] 82 rfl;have hbZ:=Below.bQ (Below.refl w2.heap.size w2).drew (.cells #[.int .i64 0,.slice none 0 0] 82))
   have y0:=hZa.cell 0 rfl
   have y1:=hZa.cell 1 rfl
   have g0:=hZa.frozen 0
   have g1:=hZa.frozen 1
   refine hK.out _ _ ?_ (λhHeld=>?_)
   ·exact HS2.out _ hbZ
   clear hK K
   try simp only [Act.put,List.setIfInBounds_toArray,List.set_cons_zero,List.set_cons_succ]
   refine wpAnyH_ready (rs:=[7]) (by kernel_rfl) (by simp) ?_
   refine AllReadyH.cons rfl (λK hK=>?_) (AllReadyH.nil)
   ·go_simp
    refine (HKp.out _ (Below.next Hbw2.out (by first | exact hbZ | exact (Below.refl _ _).drew))).mono ?_;rintro e w7 ⟨hb7',a7,k7,rfl,hM7⟩
    go_wp2_with fail
    have hb7 : Below w2.heap.size w2 w7:=(by first | exact Below.next hbZ hb7' | exact Below.next (Below.refl _ _).drew hb7')
    have Hr2:=Z5 (HIv.out w7 a7 k7 (Below.next Hbw2.out hb7) hM7)
    clear hM7
    first | have hZb:=hZa.ah hb7' | skip
    refine hK.out _ _ ?_ (λhHeld=>?_)
    ·exact HS2.out _ hb7
    clear hK K
    try simp only [Act.put,List.setIfInBounds_toArray,List.set_cons_zero,List.set_cons_succ]
    refine wpAnyH_take (i:=8) (v:=?_) (by simp only [List.getElem?_toArray,List.getElem?_cons_succ,List.getElem?_cons_zero];rfl) (by kernel_rfl) (by kernel_rfl) (by kernel_rfl) (by exact λ_ _ _ h=>h) (Or.inl ⟨by rfl,?_⟩) (by assumption) ?_
    rotate_left
    ·(intro w hSw;(try dsimp only at hSw);go_split_ands;go_simp;first | done | with_reducible rfl)
    try simp only [Act.put,List.setIfInBounds_toArray,List.set_cons_zero,List.set_cons_succ]
    refine wpAnyH_ready (rs:=[9]) (by kernel_rfl) (by simp) ?_
    refine AllReadyH.cons rfl (λK hK=>?_) (AllReadyH.nil)
    ·go_simp
     refine (Hr2.out _ (by first | exact Below.refl _ _ | exact an _ _)).mono ?_;rintro e w8 ⟨hb8',a8,k8,rfl,hM8⟩
     go_wp2_with fail
     have hb8 : Below w2.heap.size w2 w8:=(by first | exact Below.next hb7 hb8' | exact Below.next (Below.bQ hb7 _) hb8')
     first | (have hZc:=hZb.ah hb8';have z0:=hZc.cell 0 rfl;have z1:=hZc.cell 1 rfl;have f0:=hZc.frozen 0;have f1:=hZc.frozen 1) | (have hZc:=hZa.ah hb8';have z0:=hZc.cell 0 rfl;have z1:=hZc.cell 1 rfl;have f0:=hZc.frozen 0;have f1:=hZc.frozen 1) | skip
     refine hK.out _ _ ?_ (λhHeld=>?_)
     ·exact HS2.out _ hb8
     clear hK K
     try simp only [Act.put,List.setIfInBounds_toArray,List.set_cons_zero,List.set_cons_succ]
     refine wpAnyH_take (i:=10) (v:=?_) (by simp only [List.getElem?_toArray,List.getElem?_cons_succ,List.getElem?_cons_zero];rfl) (by kernel_rfl) (by kernel_rfl) (by kernel_rfl) (by exact λ_ _ _ h=>h) (Or.inl ⟨by rfl,?_⟩) (by assumption) ?_
     rotate_left
     ·(intro w hSw;(try dsimp only at hSw);go_split_ands;go_simp;first | done | with_reducible rfl)
     try simp only [Act.put,List.setIfInBounds_toArray,List.set_cons_zero,List.set_cons_succ]
     refine wpAnyH_take (i:=11) (v:=?_) (by simp only [List.getElem?_toArray,List.getElem?_cons_succ,List.getElem?_cons_zero];rfl) (by kernel_rfl) (by kernel_rfl) (by kernel_rfl) (by exact λ_ _ _ h=>h) (Or.inl ⟨by rfl,?_⟩) (by assumption) ?_
     rotate_left
     ·(intro w hSw;(try dsimp only at hSw);go_split_ands;go_simp;first | done | with_reducible rfl)
     try simp only [Act.put,List.setIfInBounds_toArray,List.set_cons_zero,List.set_cons_succ]
     refine wpAnyH_take (i:=12) (v:=?_) (by simp only [List.getElem?_toArray,List.getElem?_cons_succ,List.getElem?_cons_zero];rfl) (by kernel_rfl) (by kernel_rfl) (by kernel_rfl) (by exact λ_ _ _ h=>h) (Or.inl ⟨by rfl,?_⟩) (by assumption) ?_
     rotate_left
     ·(intro w hSw;(try dsimp only at hSw);go_split_ands;go_simp;first | done | with_reducible rfl)
     try simp only [Act.put,List.setIfInBounds_toArray,List.set_cons_zero,List.set_cons_succ]
     refine wpAnyH_ready (rs:=[14]) (by kernel_rfl) (by simp) ?_
     refine AllReadyH.cons rfl (λK hK=>?_) (AllReadyH.nil)
     ·go_simp
      try go_wp2_with fail
      refine hK.out _ _ ?_ (λhHeld=>?_)
      ·first | exact HS2.out _ hbZ | exact HS2.out _ ((hb8.setCell (Nat.le_refl _) _).setCell (Nat.le_refl _) _) | exact HS2.out _ ((hb8.setCell hb7.size _).setCell hb7.size _) | exact HS2.out _ ((hbZ.setCell hb8.size _).setCell hb8.size _) | exact HS2.out _ (Below.bQ hb8 _)
      clear hK K
      try simp only [Act.put,List.setIfInBounds_toArray,List.set_cons_zero,List.set_cons_succ]
      refine wpAnyH_take (i:=15) (v:=?_) (by simp only [List.getElem?_toArray,List.getElem?_cons_succ,List.getElem?_cons_zero];rfl) (by kernel_rfl) (by kernel_rfl) (by kernel_rfl) (by exact λ_ _ _ h=>h) (Or.inl ⟨by rfl,?_⟩) (by assumption) ?_
      rotate_left
      ·(intro w hSw;(try dsimp only at hSw);go_split_ands;go_simp;first | done | with_reducible rfl)
      try simp only [Act.put,List.setIfInBounds_toArray,List.set_cons_zero,List.set_cons_succ]
      refine wpAnyH_done (by kernel_rfl) ?_ _
      go_wp2_with fail
      go_meet
      first
      | exact ⟨w8.heap.size,a8,k8,rfl,rfl,(aV.new (g:=w8.heap.size) w8 [.int .i64 n,.slice a8 n k8] 82 rfl).cell 0 rfl,(aV.new (g:=w8.heap.size) w8 [.int .i64 n,.slice a8 n k8] 82 rfl).cell 1 rfl,hM8.kK.ah (an _ _),Below.bQ hb8 _⟩
      | exact ⟨w2.heap.size,a8,k8,rfl,rfl,((hZc.gk 0 (.int .i64 n)).gk 1 (.slice a8 n k8)).cell 0 rfl,((hZc.gk 0 (.int .i64 n)).gk 1 (.slice a8 n k8)).cell 1 rfl,((hM8.setCell (p:=⟨w2.heap.size,0,none⟩) (by have h1:=hZb.1;simp only [];omega) _).setCell (p:=⟨w2.heap.size,1,none⟩) (by have h1:=hZb.1;simp only [];omega) _).kK,(hb8.setCell (p:=⟨w2.heap.size,0,none⟩) (Nat.le_refl _) _).setCell (p:=⟨w2.heap.size,1,none⟩) (Nat.le_refl _) _⟩
      | exact ⟨w7.heap.size,a8,k8,rfl,rfl,((hZc.gk 0 (.int .i64 n)).gk 1 (.slice a8 n k8)).cell 0 rfl,((hZc.gk 0 (.int .i64 n)).gk 1 (.slice a8 n k8)).cell 1 rfl,((hM8.setCell (p:=⟨w7.heap.size,0,none⟩) (by simp) _).setCell (p:=⟨w7.heap.size,1,none⟩) (by simp) _).kK,(hb8.setCell (p:=⟨w7.heap.size,0,none⟩) hb7.size _).setCell (p:=⟨w7.heap.size,1,none⟩) hb7.size _⟩
 obtain ⟨g,a2,c2,rfl,rfl,hg0,hg1,hM2,hb3⟩:=hcut
 generalize wc=V6 at *
 have hb13:=Below.next hb12 hb3
 have hbw6:=Below.next Hbw2.out hb3
 obtain ⟨c0,c1,c2',c3,c4,_⟩:=HS2.out V6 hb3
 have hZ:=(HS.out V6 hb13).2.2.2.2.2
 have z0:=hZ.cell 0 rfl
 have z1:=hZ.cell 1 rfl
 have f0:=hZ.frozen 0
 have f1:=hZ.frozen 1
 have HMl2:=Z5 (HMl.out V6 a2 c2 hbw6 hM2)
 have hs6:=hZ.1
 clear hZ
 go_wp2_with fail
 refine HMl2.out.mono ?_
 rintro e w9 ⟨a3,c3',rfl,hN9,hb9⟩
 have hZ9:=(HS.out w9 (Below.next hb13 hb9)).2.2.2.2.2
 have y0:=hZ9.cell 0 rfl
 have y1:=hZ9.cell 1 rfl
 have g0:=hZ9.frozen 0
 have g1:=hZ9.frozen 1
 have HF:=Z5 (HPost.out a3 c3' ((w9.setCell ⟨w.heap.size+1,0,none⟩ (.int .i64 m)).setCell ⟨w.heap.size+1,1,none⟩ (.slice a3 n c3')) (((Below.next hbw6 hb9).setCell (p:=⟨w.heap.size+1,0,none⟩) (by simp) _).setCell (p:=⟨w.heap.size+1,1,none⟩) (by simp) _)
  (((hN9.setCell (p:=⟨w.heap.size+1,0,none⟩) (by simp only [];omega) _).setCell (p:=⟨w.heap.size+1,1,none⟩) (by simp only [];omega) _).mono (by have:=hbw6.size;omega)))
 clear hZ9 c0 c1 c2' c3 c4 z0 z1 f0 f1
 go_wp2_with fail
 exact bodyPost_ret (v:=.tuple #[.agg #[.int .i64 m,.slice a3 n c3'],.int .i64 0]) (by simp [results,Tryz.results50,go_sem,y0,y1]) rfl HF.out
def qj (l : Lz) (v : Int) (k : Nat) : Bool:=decide (v ∈ l.take k)
theorem vD {l : Lz} {k : Nat} (v : Int) (h : k<l.length) : qj l v (k+1)=(qj l v k || decide (nth l k=v)):=by
 unfold qj
 rw [List.take_succ_eq_append_getElem h,ai h]
 simp only [List.mem_append,List.mem_singleton,Bool.decide_or]
 congr 1
 simp [eq_comm]
theorem yG {l : Lz} {n : Nat} (v : Int) (h : l.length=n) : qj l v n=decide (v ∈ l):=by
 unfold qj
 rw [List.take_of_length_le (by omega)]
theorem vU (a : OA) (n c : Nat) (l : Lz) (v : Int) (w : World) (h : Ints w a n l) :
  Calls Tryz.prog 106 #[.slice a n c,.int .i64 v] w λe w'=>e = .returned (.bool (decide (v ∈ l)))/\w'=w:=by
 have Hl:=Z5 h.len
 have hpl:=h.pl
 have hmax:=h.max
 unfold maxLen at hmax
 go_enter Tryz.func106,Tryz.ntmps106
 go_wp2_with fail
 go_loopw [5] (λiv wr=>∃k : Nat,k<=n/\iv = .int .i64 k/\Hid (qj l v k=false)/\wr=w) (λi _=>n - (intOf i).toNat)
 case atStart=>exact ⟨0,Nat.zero_le _,rfl,by show _=_;simp [qj],rfl⟩
 case round =>
  obtain ⟨k,hk,rfl,hno,rfl⟩:=hrel
  by_cases hlt : k<n
  ·have c1:=h.cell k hlt
   have Hs:=Z5 (vD (l:=l) v (show k<l.length by rw [Hl.out];exact hlt))
   by_cases he : nth l k=v
   ·have he' : (nth l k == v)=true:=by rw [he];simp
    have Hm : Hid (decide (v ∈ l)=true):=by show _=_;rw [<- he];simpa using aN (show k<l.length by rw [Hl.out];exact hlt)
    clear he
    go_wp2_with fail
    go_ret
    exact ⟨aY Hm.out.symm,rfl⟩
   ·have he' : (nth l k == v)=false:=by simpa using he
    have Hn2 : Hid (qj l v (k+1)=false):=by show _=_;rw [Hs.out,hno.out,decide_eq_false he];rfl
    clear he
    go_wp2_with fail
    go_roundw
    case rel=>exact ⟨k+1,by omega,by go_num,Hn2.out,by simp⟩
    case measure=>simp [intOf] <;> omega
  ·obtain rfl : k=n:=by omega
   have Hm : Hid (decide (v ∈ l)=false):=by show _=_;rw [<- yG v Hl.out];exact hno.out
   go_wp2_with fail
   go_ret
   exact ⟨aY Hm.out.symm,rfl⟩
theorem uK (a : OA) (n c : Nat) (l : Lz) (m : Nat) (w : World) (h : Ints w a n l) (hm : m<=1000) :
  Calls Tryz.prog 103 #[.slice a n c,.int .i64 m] w λe w'=>∃a1 c1,e = .returned (.slice a1 (frTo false l m).length c1) /\
   w'.ownsRow w.heap.size 3 1 (.slice a1 (frTo false l m).length c1) (frTo false l m).length ((frTo false l m).map (Value.int .i64))/\Below w.heap.size w w':=by
 have Hl:=Z5 h.len
 have hpl:=h.pl
 have hmax:=h.max
 unfold maxLen at hmax
 obtain ⟨G,hG⟩ : ∃G,frTo false l=G:=⟨_,rfl⟩
 have HG1 : Hid (∀k : Nat,decide ((k : Int) ∈ l)=false->G (k+1)=G k ++ [(k : Int)]):=λk h=>by rw [<- hG,frTo,if_pos h]
 have HG2 : Hid (∀k : Nat,decide ((k : Int) ∈ l)=true->G (k+1)=G k):=λk h=>by rw [<- hG,frTo,if_neg (by rw [h];decide)]
 have HGl : Hid (∀k,(G k).length<=k):=λk=>by rw [<- hG];exact eQ _ _ _
 have HG0 : Hid (G 0=[]):=by rw [<- hG];rfl
 rw [hG]
 clear hG
 go_enter Tryz.func103,Tryz.ntmps103
 go_wp2_with fail
 go_loopw [5,6] (λov iv wr=>∃(i g : Nat) (a1 : OA) (c1 : Nat),i<=m/\iv = .int .i64 i/\Hid ((G i).length=g)/\ov = .slice a1 g c1/\wr.ownsRow w.heap.size 3 1 (.slice a1 g c1) g ((G i).map (Value.int .i64))/\Below w.heap.size w wr) (λ_ iv _=>m - (intOf iv).toNat)
 case atStart=>exact ⟨0,0,none,0,Nat.zero_le _,rfl,by show _=_;rw [HG0.out];rfl,rfl,by rw [HG0.out];exact bY,Below.refl _ _⟩
 case round =>
  obtain ⟨i,g,a1,c1,hi,rfl,Hg,rfl,hown,hbr⟩:=hrel
  by_cases hlt : i<m
  ·have hiW:=h.ah hbr
   have hgi : g<=1000:=by have h1:=HGl.out i;rw [Hg.out] at h1;omega
   generalize wr=X1 at *
   go_wp2_with fail
   go_loopw [7,8] (λbv kv ws=>∃k : Nat,k<=n/\kv = .int .i64 k/\bv = .bool (qj l i k)/\ws=X1) (λ_ kv _=>n - (intOf kv).toNat)
   case atStart=>exact ⟨0,Nat.zero_le _,rfl,by simp [qj],rfl⟩
   case round =>
    obtain ⟨k,hk,rfl,rfl,rfl⟩:=hrel
    by_cases hltk : k<n
    ·have ck:=hiW.cell k hltk
     have Hs:=Z5 (vD (l:=l) (i : Int) (show k<l.length by rw [Hl.out];exact hltk))
     obtain ⟨b,hb⟩ : ∃b,qj l i k=b:=⟨_,rfl⟩
     rw [hb] at Hs ⊢
     clear hb
     cases b
     ·by_cases he : nth l k=i
      ·have he' : (nth l k == (i : Int))=true:=by rw [he];simp
       have Hn : Hid (qj l i (k+1)=true):=by show _=_;rw [Hs.out,decide_eq_true he];rfl
       clear he
       go_wp2_with fail
       go_roundw
       case rel=>exact ⟨k+1,by omega,by go_num,by rw [Hn.out],by simp⟩
       case measure=>simp [intOf] <;> omega
      ·have he' : (nth l k == (i : Int))=false:=by simpa using he
       have Hn : Hid (qj l i (k+1)=false):=by show _=_;rw [Hs.out,decide_eq_false he];rfl
       clear he
       go_wp2_with fail
       go_roundw
       case rel=>exact ⟨k+1,by omega,by go_num,by rw [Hn.out],by simp⟩
       case measure=>simp [intOf] <;> omega
     ·have Hn : Hid (qj l i (k+1)=true):=by show _=_;rw [Hs.out];rfl
      go_wp2_with fail
      go_roundw
      case rel=>exact ⟨k+1,by omega,by go_num,by rw [Hn.out],by simp⟩
      case measure=>simp [intOf] <;> omega
    ·obtain rfl : k=n:=by omega
     rw [yG (i : Int) Hl.out]
     have hH1:=HG1.out i
     have hH2:=HG2.out i
     obtain ⟨b,hb⟩ : ∃b,decide ((i : Int) ∈ l)=b:=⟨_,rfl⟩
     rw [hb] at hH1 hH2 ⊢
     clear hb
     cases b
     ·have Hn:=Z5 (hH1 rfl)
      clear hH1 hH2
      have hsz:=hbr.size
      have hcn:=br wr (.int .i64 i) 3
      have hbn:=an wr (.cells #[.int .i64 i] 3)
      go_wp2_with (at_builtin;refine bk rfl _ _ 22 3 rfl (.int .i64 0) 8 Tryz.underlying22 aX rfl w.heap.size a1 g c1 _ rfl (hown.alloc _) ⟨wr.heap.size,0,none⟩ 1 (.int .i64 i) rfl hcn rfl (by omega) (by unfold maxLen;omega) (by simp;omega) ?_;intro a5 c5 w5 hown5 hgr5 hap5)
      go_roundw
      case rel =>
       refine ⟨i+1,g+1,a5,c5,by omega,by go_num,by show _=_;rw [Hn.out,List.length_append,Hg.out];rfl,rfl,by rw [Hn.out];simpa using hown5,Below.app (Below.bQ hbr _) (hown.alloc _) hgr5 (Nat.le_refl _) (Below.bQ hbr _).size⟩
      case measure=>simp [intOf] <;> omega
     ·have Hn:=Z5 (hH2 rfl)
      clear hH1 hH2
      go_wp2_with fail
      go_roundw
      case rel=>exact ⟨i+1,g,a1,c1,by omega,by go_num,by show _=_;rw [Hn.out];exact Hg.out,rfl,by rw [Hn.out];exact hown,hbr⟩
      case measure=>simp [intOf] <;> omega
  ·obtain rfl : i=m:=by omega
   have HF:=Z5 (And.intro hown hbr)
   clear hown hbr
   go_wp2_with fail
   go_ret
   rw [Hg.out]
   exact ⟨a1,c1,rfl,HF.out.1,HF.out.2⟩
section
def addAll (O : aQ) : Lz->Lz->Ll->Lz
 | u,a :: s,r :: R=>addAll O (gC O u a r) s R
 | u,_,_=>u
variable {O : aQ} {m : Nat}
theorem gH {v : Lz} {L : Ll} (h : v.length=L.length) : ∀(d j : Nat),j+d=L.length->addAll O (bj O m v L j) (v.drop j) (L.drop j)=bj O m v L L.length
 | 0,j,hj=>by
  obtain rfl : j=L.length:=by omega
  rw [List.drop_of_length_le (Nat.le_refl _),List.drop_of_length_le (by omega)]
  rfl
 | d+1,j,hj=>by
  rw [List.drop_eq_getElem_cons (show j<v.length by omega),List.drop_eq_getElem_cons (show j<L.length by omega),addAll]
  rw [<- gH h d (j+1) (by omega)]
  congr 1
  rw [bj,ai (show j<v.length by omega),aE (show j<L.length by omega)]
  rfl
end
section
variable {O : aQ} {El : Int->Prop} {m : Nat} {A B L : Ll}
theorem RS.IZ (F : cK O El) (hL : bH El m L) {f : Nat->Int} (h : RS O El m L f) : ∃v,Vc El L.length v/\∀x,x<m->f x=nth (bj O m v L L.length) x:=by
 obtain ⟨e,he,h2⟩:=h
 obtain ⟨c,hc⟩ : ∃c,((List.range L.length).map λt=>e (ez L.length t))=c:=⟨_,rfl⟩
 have hcl : c.length=L.length:=by rw [<- hc];simp
 have hcn : ∀t,t<L.length->nth c t=e (ez L.length t):=λt ht=>by rw [<- hc,eR _ _ _ ht]
 have hcv : Vc El L.length c:=⟨hcl,λy hy=>by
  obtain ⟨t,ht,rfl⟩:=List.mem_iff_getElem.1 hy
  rw [<- ai ht,hcn t (by omega)]
  exact he.el _ (jR F _ _)⟩
 refine ⟨c,hcv,λx hx=>?_⟩
 rw [h2 x hx,nc F he (dN hL F.zero x),eS F hL (λk hk=>hcv.at hk) hx _ (Nat.le_refl _)]
 exact di _ λp hp=>⟨(hcn p hp).symm,cZ _ _ _ hp⟩
end
theorem jN {q : Nat} {x : Int} : x ∈ dn q ↔ 1<=x/\x<q:=by
 unfold dn
 rw [List.mem_map]
 constructor
 ·rintro ⟨i,hi,rfl⟩
  rw [List.mem_range] at hi
  omega
 ·intro h
  exact ⟨(x - 1).toNat,by rw [List.mem_range];omega,by omega⟩
theorem jC : ∀a : Lz,cmpL a a=0
 | []=>rfl
 | x :: a=>by rw [cmpL,if_neg (by omega),if_neg (by omega),jC a]
theorem lI : ∀a b : Lz,cmpL b a = - cmpL a b
 | [],[]=>rfl
 | [],_ :: _=>rfl
 | _ :: _,[]=>rfl
 | x :: a,y :: b=>by
  rw [cmpL,cmpL]
  by_cases h1 : x<y
  ·rw [if_neg (by omega),if_pos h1,if_pos h1];rfl
  ·by_cases h2 : y<x
   ·rw [if_pos h2,if_neg h1,if_pos h2]
   ·rw [if_neg h2,if_neg h1,if_neg h1,if_neg h2,lI a b]
def n8 (b x : Lz) : Prop:=bw b<bw x\/(bw b=bw x/\cmpL b x<=0)
theorem n8.refl (b : Lz) : n8 b b:=.inr ⟨rfl,by rw [jC];omega⟩
theorem dk {x : Lz} : bw x=0 ↔ ∀y ∈ x,y=0:=by
 unfold bw
 rw [List.countP_eq_zero]
 constructor
 ·intro h y hy;have:=h y hy;simpa using this
 ·intro h y hy;rw [h y hy];simp
theorem su : bw []=0:=rfl
theorem mL {v : Lz} (h : bw v ≠ 0) : fnz v<v.length:=by
 refine Decidable.byContradiction λhn=>h (dk.2 λy hy=>?_)
 obtain ⟨i,hi,rfl⟩:=List.mem_iff_getElem.1 hy
 have:=iO v i (by omega)
 rwa [ai hi] at this
theorem fq (x : Int) (l : Lz) : bw (x :: l)=bw l+if x=0 then 0 else 1:=by
 unfold bw
 rw [List.countP_cons]
 by_cases h : x=0 <;> simp [h]
section
variable {O : aQ} {El : Int->Prop} {m : Nat}
theorem jd (F : cK O El) {a : Int} (ha : El a) (h0 : a ≠ 0) : El (O.inv a)/\O.inv a ≠ 0:=by
 have hi:=F.cl.inv a ha h0
 refine ⟨hi,λe=>?_⟩
 have h1:=F.mul_inv a ha h0
 rw [e,F.dA ha] at h1
 have h2:=F.one_mul a ha
 rw [<- h1,F.mO ha] at h2
 exact h0 h2.symm
theorem qe (F : cK O El) {s x : Int} (hs : El s) (h0 : s ≠ 0) (hx : El x) : O.mul s x=0 ↔ x=0 :=
 ⟨λh=>F.tQ hs hx h0 h,λh=>by rw [h,F.dA hs]⟩
theorem l6 (F : cK O El) {s : Int} (hs : El s) (h0 : s ≠ 0) : ∀ {x : Lz},(∀y ∈ x,El y)->bw (x.map (O.mul s))=bw x
 | [],_=>rfl
 | y :: x,h=>by
  rw [List.map_cons,fq,fq,l6 F hs h0 λz hz=>h z (by simp [hz])]
  simp [qe F hs h0 (h y (by simp))]
theorem iT {v : Lz} (hv : Vc El m v) (h : bw v ≠ 0) : El (nth v (fnz v))/\nth v (fnz v) ≠ 0 :=
 ⟨hv.at (by rw [<- hv.1];exact mL h),jf v (mL h)⟩
theorem kG (O : aQ) (v : Lz) : dT O v=v.map (O.mul (O.inv (nth v (fnz v)))):=rfl
theorem ki (F : cK O El) {v : Lz} (hv : Vc El m v) (h : bw v ≠ 0) : bw (dT O v)=bw v:=by
 obtain ⟨h1,h2⟩:=iT hv h
 obtain ⟨h3,h4⟩:=jd F h1 h2
 rw [kG,l6 F h3 h4 hv.2]
theorem qY (F : cK O El) {b w : Lz} (hw : Vc El m w) (h0 : bw w ≠ 0) :
  ((cN O b w=b/\bw b ≠ 0)\/cN O b w=dT O w)/\bw (cN O b w) ≠ 0/\n8 (cN O b w) (dT O w)/\(bw b ≠ 0->n8 (cN O b w) b):=by
 have hm:=ki F hw h0
 unfold cN
 by_cases h1 : bw w=0\/(bw b ≠ 0/\bw b<bw w)
 ·rw [if_pos h1]
  obtain ⟨g1,g2⟩:=h1.resolve_left h0
  exact ⟨.inl ⟨rfl,g1⟩,g1,.inl (by omega),λ_=>n8.refl b⟩
 ·rw [if_neg h1]
  by_cases h2 : bw b=0\/bw w<bw b\/cmpL (dT O w) b<0
  ·rw [if_pos h2]
   refine ⟨.inr rfl,by omega,n8.refl _,λhb=>?_⟩
   rcases h2 with h2 | h2 | h2
   ·exact absurd h2 hb
   ·exact .inl (by omega)
   ·by_cases e : bw w<bw b
    ·exact .inl (by omega)
    ·refine .inr ⟨?_,by omega⟩
     have : ¬ bw b<bw w:=λe2=>h1 (.inr ⟨hb,e2⟩)
     omega
  ·rw [if_neg h2]
   have hb : bw b ≠ 0:=λe=>h2 (.inl e)
   have e1 : ¬ bw b<bw w:=λe2=>h1 (.inr ⟨hb,e2⟩)
   have e2 : ¬ bw w<bw b:=λe=>h2 (.inr (.inl e))
   have e3 : ¬ cmpL (dT O w) b<0:=λe=>h2 (.inr (.inr e))
   refine ⟨.inl ⟨rfl,hb⟩,hb,.inr ⟨by omega,?_⟩,λ_=>n8.refl b⟩
   rw [lI];omega
def FC (cs c0 : Lz) : Lz->Prop
 | []=>True
 | a :: c=>if a=0 then FC cs c0 c else a ∈ c0/\∀b ∈ c,b ≠ 0->b ∈ cs
theorem l8 {cs : Lz} : ∀ {c : Lz},FC cs cs c ↔ ∀b ∈ c,b ≠ 0->b ∈ cs
 | []=>by simp [FC]
 | a :: c=>by
  rw [FC]
  by_cases h : a=0
  ·rw [if_pos h,l8]
   constructor
   ·intro h1 b hb hb0
    rcases List.mem_cons.1 hb with rfl | hb
    ·exact absurd h hb0
    ·exact h1 b hb hb0
   ·intro h1 b hb hb0;exact h1 b (by simp [hb]) hb0
  ·rw [if_neg h]
   constructor
   ·rintro ⟨h1,h2⟩ b hb hb0
    rcases List.mem_cons.1 hb with rfl | hb
    ·exact h1
    ·exact h2 b hb hb0
   ·intro h1;exact ⟨h1 a (by simp) h,λb hb hb0=>h1 b (by simp [hb]) hb0⟩
theorem j8 (O : aQ) {cs c0 : Lz} (h0 : ∀a ∈ c0,a ≠ 0) (l : Nat) (hf : ∀R v y,y ∈ sumS O cs l R v ↔ ∃c : Lz,c.length=R.length/\bw c=l/\(∀b ∈ c,b ≠ 0->b ∈ cs)/\y=addAll O v c R) :
  ∀(R : Ll) (v y : Lz),y ∈ sumL O (sumS O cs l) c0 R v ↔ ∃c : Lz,c.length=R.length/\bw c=l+1/\FC cs c0 c/\y=addAll O v c R
 | [],v,y=>by
  rw [sumL]
  constructor
  ·intro h;simp at h
  ·rintro ⟨c,hc,h1,_⟩
   rw [List.eq_nil_of_length_eq_zero hc,su] at h1
   omega
 | r :: R,v,y=>by
  rw [sumL,List.mem_append,List.mem_flatMap,j8 O h0 l hf R v y]
  constructor
  ·rintro (⟨a,ha,h⟩ | ⟨c,h1,h2,h3,h4⟩)
   ·obtain ⟨c,h1,h2,h3,h4⟩:=(hf _ _ _).1 h
    have ha0:=h0 a ha
    exact ⟨a :: c,by simp [h1],by rw [fq,if_neg ha0];omega,by rw [FC,if_neg ha0];exact ⟨ha,h3⟩,h4⟩
   ·exact ⟨0 :: c,by simp [h1],by rw [fq,if_pos rfl];omega,by rw [FC,if_pos rfl];exact h3,by rw [h4,addAll,gC,if_pos rfl]⟩
  ·rintro ⟨c,h1,h2,h3,h4⟩
   match c,h1,h2,h3,h4 with
   | a :: c,h1,h2,h3,h4 =>
    rw [fq] at h2
    rw [FC] at h3
    rw [addAll] at h4
    by_cases ha : a=0
    ·rw [if_pos ha] at h2 h3
     rw [gC,if_pos ha] at h4
     exact .inr ⟨c,by simpa using h1,by omega,h3,h4⟩
    ·rw [if_neg ha] at h2 h3
     exact .inl ⟨a,h3.1,(hf _ _ _).2 ⟨c,by simpa using h1,by omega,h3.2,h4⟩⟩
theorem fY (O : aQ) : ∀(c : Lz) (R : Ll) (v : Lz),(∀y ∈ c,y=0)->addAll O v c R=v
 | [],_,_,_=>by simp [addAll]
 | _ :: _,[],_,_=>by simp [addAll]
 | a :: c,r :: R,v,h=>by
  rw [addAll,gC,if_pos (h a (by simp)),fY O c R v λy hy=>h y (by simp [hy])]
theorem mU (O : aQ) {cs : Lz} (h0 : ∀a ∈ cs,a ≠ 0) : ∀(l : Nat) (R : Ll) (v y : Lz),y ∈ sumS O cs l R v ↔ ∃c : Lz,c.length=R.length/\bw c=l/\(∀b ∈ c,b ≠ 0->b ∈ cs)/\y=addAll O v c R
 | 0,R,v,y=>by
  rw [sumS,List.mem_singleton]
  constructor
  ·rintro rfl
   refine ⟨List.replicate R.length 0,by simp,dk.2 λy hy=>(List.mem_replicate.1 hy).2,λb hb hb0=>absurd (List.mem_replicate.1 hb).2 hb0,?_⟩
   rw [fY O _ _ _ λy hy=>(List.mem_replicate.1 hy).2]
  ·rintro ⟨c,h1,h2,_,h4⟩
   rw [h4,fY O _ _ _ (dk.1 h2)]
 | l+1,R,v,y=>by
  rw [sumS,j8 O h0 l (mU O h0 l) R v y]
  constructor
  ·rintro ⟨c,h1,h2,h3,h4⟩;exact ⟨c,h1,h2,l8.1 h3,h4⟩
  ·rintro ⟨c,h1,h2,h3,h4⟩;exact ⟨c,h1,h2,l8.2 h3,h4⟩
theorem jP {cs : Lz} : ∀ {c : Lz},bw c ≠ 0->(FC cs [1] c ↔ nth c (fnz c)=1/\∀j,fnz c<j->j<c.length->nth c j ≠ 0->nth c j ∈ cs)
 | [],h=>absurd rfl h
 | a :: c,h=>by
  rw [FC,fnz]
  by_cases ha : a=0
  ·rw [fq,if_pos ha] at h
   rw [if_pos ha,if_pos ha,jP (by omega)]
   constructor
   ·rintro ⟨h1,h2⟩
    refine ⟨by simpa [nth] using h1,λj h3 h4 h5=>?_⟩
    match j,h3,h4,h5 with
    | j+1,h3,h4,h5=>simpa [nth] using h2 j (by omega) (by simpa using h4) (by simpa [nth] using h5)
   ·rintro ⟨h1,h2⟩
    refine ⟨by simpa [nth] using h1,λj h3 h4 h5=>?_⟩
    simpa [nth] using h2 (j+1) (by omega) (by simpa using h4) (by simpa [nth] using h5)
  ·rw [if_neg ha,if_neg ha]
   constructor
   ·rintro ⟨h1,h2⟩
    refine ⟨by simpa [nth] using h1,λj h3 h4 h5=>?_⟩
    match j,h3,h4,h5 with
    | j+1,h3,h4,h5 =>
     have h6 : j<c.length:=by simpa using h4
     have e : nth (a :: c) (j+1)=nth c j:=by simp [nth]
     rw [e] at h5 ⊢
     exact h2 _ (aN h6) h5
   ·rintro ⟨h1,h2⟩
    refine ⟨by simpa [nth] using h1,λb hb hb0=>?_⟩
    obtain ⟨j,hj,rfl⟩:=List.mem_iff_getElem.1 hb
    have e : nth (a :: c) (j+1)=nth c j:=by simp [nth]
    have:=h2 (j+1) (by omega) (by simpa using hj) (by rw [e,ai hj];exact hb0)
    rwa [e,ai hj] at this
def jj (O : aQ) (b y : Lz) : Lz:=if b=[]\/bw (dT O y)<bw b\/(bw (dT O y)=bw b/\cmpL (dT O y) b<0) then dT O y else b
theorem EL (F : cK O El) {b y : Lz} (hy : Vc El m y) (h0 : bw y ≠ 0) (hb : b=[]\/bw b ≠ 0) : jj O b y=cN O b y:=by
 have hm:=ki F hy h0
 unfold jj cN
 rw [hm]
 by_cases hb0 : bw b=0
 ·have hbn : b=[]:=hb.resolve_right λh=>h hb0
  rw [if_pos (.inl hbn),if_neg (by omega),if_pos (.inl hb0)]
 ·have hbn : b ≠ []:=λe=>hb0 (by rw [e];rfl)
  by_cases h1 : bw b<bw y
  ·rw [if_neg (by rintro (h | h | h);exact hbn h;omega;omega),if_pos (.inr ⟨hb0,h1⟩)]
  ·rw [if_neg (show ¬ (bw y=0\/(bw b ≠ 0/\bw b<bw y)) by rintro (h | h);exact h0 h;exact h1 h.2)]
   by_cases h2 : bw y<bw b
   ·rw [if_pos (.inr (.inl h2)),if_pos (.inr (.inl h2))]
   ·by_cases h3 : cmpL (dT O y) b<0
    ·rw [if_pos (.inr (.inr ⟨by omega,h3⟩)),if_pos (.inr (.inr h3))]
    ·rw [if_neg (by rintro (h | h | h);exact hbn h;exact h2 h;exact h3 h.2),if_neg (by rintro (h | h | h);exact hb0 h;exact h2 h;exact h3 h)]
theorem Fa (F : cK O El) {b y : Lz} (hy : Vc El m y) (h0 : bw y ≠ 0) : cN O b y=[]\/bw (cN O b y) ≠ 0:=.inr (qY F hy h0).2.1
theorem zf (F : cK O El) : ∀(l : Ll) (b : Lz),(b=[]\/bw b ≠ 0)->(∀y ∈ l,Vc El m y/\bw y ≠ 0)->l.foldl (jj O) b=l.foldl (cN O) b
 | [],_,_,_=>rfl
 | y :: l,b,hb,h=>by
  obtain ⟨h1,h2⟩:=h y (by simp)
  rw [List.foldl_cons,List.foldl_cons,EL F h1 h2 hb]
  exact zf F l _ (Fa F h1 h2) λz hz=>h z (by simp [hz])
end
end Go.Proofs.YtcfmiocdlcapoaaGreat
