/-  -/
import Derived.Test.YtcfmiocdlcapoaaGreatK21
import Derived.Test.YtcfmiocdlcapoaaGreatK20
import Derived.Test.YtcfmiocdlcapoaaGreatK12
namespace Go.Proofs.YtcfmiocdlcapoaaGreat
set_option linter.unusedVariables false
set_option linter.unusedSimpArgs false
set_option linter.unusedSectionVars false

section
set_option maxRecDepth 100000
set_option maxHeartbeats 8000000

open Go.RowKit
theorem exRight_any {w w0 : World} {b : Nat} {G : Tbl} {a : Option Addr} {n : Nat} {L : List (List Int)} {m : Nat} {ay : Option Addr} {ny : Nat} {C : Clm} (pb : Nat) (P M : Int) (am : Option Addr) (mn cm c cy : Nat) (sv : Value) (kk : Nat)
  (sa : Option Addr) (ns cs : Nat) (s : List Int) (at' : Option Addr) (nt ct : Nat) (t : List Int)
  (E : PEnv w0 b G a n L m ay ny C) (hb : Below w0.heap.size w0 w) (hB : Box w pb (prfL b P M am mn cm m a n c ay ny cy C sv kk)) (hs : Ints w sa ns s) (ht : Ints w at' nt t) (hns : ns<=1000) :
  Calls Tryz.prog 263 #[.pointer (some ⟨pb,0,none⟩),.slice sa ns cs,.slice at' nt ct] w λe w'=>e = .returned (.bool (rightS G.ops L m C s t))/\Below w.heap.size w w':=by
 have hplt:=ht.pl
 have hmaxt:=ht.max
 unfold maxLen at hmaxt
 have Htl:=Lib.hid ht.len
 have Hsl:=Lib.hid hs.len
 have p0:=hB.cell 0 rfl
 have p4:=hB.cell 4 rfl
 have p5:=hB.cell 5 rfl
 have HBx:=Lib.hid hB
 have HE:=Lib.hid E
 have hG:=E.g.keep hb
 have hi:=E.mat.keep hb
 have hm6:=E.m6
 obtain ⟨RS,hRS⟩ : ∃RS,rightS G.ops L m C s t=RS:=⟨_,rfl⟩
 rw [hRS]
 have HRS : Hid (RS=rightS G.ops L m C s t):=hRS.symm
 have Hbad : Hid (∀k,k<nt->(okAt m t k=false\/nth t k ∈ s)->RS=false):=λk hk h=>by
  rw [HRS.out,rightS,setOk]
  rcases h with h | h
  ·have h1 : okSet m t=false:=okTo_no (by rw [Htl.out];exact hk) h
   rw [h1];rfl
  ·have h1 : t.all (λx=>decide (¬ x ∈ s))=false:=by
    rw [List.all_eq_false]
    exact ⟨nth t k,nth_mem (by rw [Htl.out];exact hk),by simpa using h⟩
   rw [h1,Bool.and_false];rfl
 clear hB E hRS
 go_enter Tryz.func263,Tryz.ntmps263
 go_wp2_with fail
 go_loop [11] (λiv=>∃k : Nat,k<=nt/\iv = .int .i64 k/\Hid (okTo m t k=true)/\Hid (∀j,j<k->¬ nth t j ∈ s)) (λiv=>nt - (intOf iv).toNat)
 case atStart=>exact ⟨0,Nat.zero_le _,rfl,(show _=_ by simp [okTo]),λj hj=>by omega⟩
 case round =>
  obtain ⟨k,hk,rfl,hok,hnot⟩:=hrel
  by_cases hlt : k<nt
  ·have ck:=ht.cell k hlt
   have HcA:=Lib.hid (contains_any sa ns cs s (nth t k) w hs)
   have Hgo : Hid (¬ nth t k ∈ s->∀j,j<k+1->¬ nth t j ∈ s):=λh j hj=>by
    by_cases e : j=k
    ·rw [e];exact h
    ·exact hnot.out j (by omega)
   by_cases h0 : 0<=nth t k
   ·by_cases h1 : nth t k<m
    ·have d1 : decide (nth t k<0)=false:=by simp;omega
     have d2 : decide ((m : Int)<=nth t k)=false:=by simp;omega
     by_cases hk0 : k=0
     ·subst hk0
      have Hgood : Hid (okAt m t 0=true):=by show _=_;unfold okAt;simp [h0,h1]
      rw [Nat.add_zero] at ck
      by_cases hmem : nth t 0 ∈ s
      ·have hmd : decide (nth t 0 ∈ s)=true:=by simpa using hmem
       have Hb : Hid (RS=false):=Hbad.out 0 hlt (.inr hmem)
       rw [hmd] at HcA
       clear hmem hmd
       go_wp2_with fail
       refine HcA.out.mono ?_
       rintro e w6 ⟨rfl,rfl⟩
       go_wp2_with fail
       go_ret
       exact ⟨by rw [Hb.out];rfl,Below.refl _ _⟩
      ·have hmd : decide (nth t 0 ∈ s)=false:=by simpa using hmem
       have Hgo2 : Hid (∀j,j<0+1->¬ nth t j ∈ s):=Hgo.out hmem
       rw [hmd] at HcA
       clear hmem hmd
       go_wp2_with fail
       refine HcA.out.mono ?_
       rintro e w6 ⟨rfl,rfl⟩
       go_wp2_with fail
       go_round
       case rel=>exact ⟨1,by omega,by go_num,okTo_succ hok.out Hgood.out,Hgo2.out⟩
       case measure=>simp [intOf] <;> omega
     ·have cp:=ht.cell (k - 1) (by omega)
      have e1 : ((k : Int) - 1).toNat=k - 1:=by omega
      have d3 : decide (0<(k : Int))=true:=by simp;omega
      have d4 : (0 : Int)<=(k : Int) - 1:=by omega
      have d5 : (1 : Int)<=(k : Int):=by omega
      have d6 : (k : Int) - 1<nt:=by omega
      by_cases h2 : nth t (k - 1)<nth t k
      ·have Hgood : Hid (okAt m t k=true):=by show _=_;unfold okAt;simp [h0,h1,h2]
       have h2' : decide (nth t k<=nth t (k - 1))=false:=by simp;omega
       by_cases hmem : nth t k ∈ s
       ·have hmd : decide (nth t k ∈ s)=true:=by simpa using hmem
        have Hb : Hid (RS=false):=Hbad.out k hlt (.inr hmem)
        rw [hmd] at HcA
        clear hmem hmd hk0 e1
        go_wp2_with fail
        refine HcA.out.mono ?_
        rintro e w6 ⟨rfl,rfl⟩
        go_wp2_with fail
        go_ret
        exact ⟨by rw [Hb.out];rfl,Below.refl _ _⟩
       ·have hmd : decide (nth t k ∈ s)=false:=by simpa using hmem
        have Hgo2:=Lib.hid (Hgo.out hmem)
        rw [hmd] at HcA
        clear hmem hmd hk0 e1
        go_wp2_with fail
        refine HcA.out.mono ?_
        rintro e w6 ⟨rfl,rfl⟩
        go_wp2_with fail
        go_round
        case rel=>exact ⟨k+1,by omega,by go_num,okTo_succ hok.out Hgood.out,Hgo2.out⟩
        case measure=>simp [intOf] <;> omega
      ·have Hb : Hid (RS=false):=Hbad.out k hlt (.inl (by unfold okAt;simp [h2,hk0]))
       have h2' : decide (nth t k<=nth t (k - 1))=true:=by simp;omega
       clear hk0 e1
       go_wp2_with fail
       go_ret
       exact ⟨by rw [Hb.out];rfl,Below.refl _ _⟩
    ·have Hb : Hid (RS=false):=Hbad.out k hlt (.inl (by unfold okAt;simp [h1]))
     have d1 : decide (nth t k<0)=false:=by simp;omega
     have d2 : decide ((m : Int)<=nth t k)=true:=by simp;omega
     go_wp2_with fail
     go_ret
     exact ⟨by rw [Hb.out];rfl,Below.refl _ _⟩
   ·have Hb : Hid (RS=false):=Hbad.out k hlt (.inl (by unfold okAt;simp [h0]))
    have d1 : decide (nth t k<0)=true:=by simp;omega
    go_wp2_with fail
    go_ret
    exact ⟨by rw [Hb.out];rfl,Below.refl _ _⟩
  ·have hkn : k=nt:=by omega
   subst hkn
   have hoks : okSet m t=true:=by rw [okSet,Htl.out];exact hok.out
   have hset : setOk m s t=true:=by
    rw [setOk,hoks,Bool.true_and,List.all_eq_true]
    intro x hx
    obtain ⟨j,hj,rfl⟩:=List.mem_iff_getElem.1 hx
    have h1:=hnot.out j (by rw [<- Htl.out];exact hj)
    rw [nth_getElem hj] at h1
    simpa using h1
   have hrng : ∀j,j<k->0<=nth t j/\nth t j<m:=λj hj=>okSet_rng hoks j (by rw [Htl.out];exact hj)
   have hklen : k<=m:=by
    have h1:=okSet_len hoks (by omega)
    rw [Htl.out] at h1
    omega
   have HR2 : Hid (RS=(decide ((grS G.ops L t).length=k) && if C.cos=true then decide ((grS G.ops L (frTo false s m)).length=k) && decide (C.W<s.length+lightS G.ops L C.y s t) else decide (k=C.M))):=by
    show _=_
    rw [HRS.out,rightS,hset,Bool.true_and,Htl.out]
   have hgm : grM G.ops L t k=grS G.ops L t:=grM_full (by rw [Htl.out];exact Nat.le_refl _)
   have HGr0:=Lib.hid (exGreedy_any pb a n c L m at' k ct t k p0 p5 hG hi HE.out.rws ht hrng HE.out.n6 (by omega))
   rw [hgm] at HGr0
   have Hrng:=Lib.hid hrng
   have hr1 : (grS G.ops L t).length<=k:=by have:=grS_le G.ops L t;rw [Htl.out] at this;exact this
   obtain ⟨r1,hr1e⟩ : ∃r1,(grS G.ops L t).length=r1:=⟨_,rfl⟩
   unfold NewInts at HGr0
   rw [hr1e] at hr1 HGr0 HR2
   clear hoks hset hrng hgm hr1e Hbad
   go_wp2_with fail
   refine HGr0.out.mono ?_
   rintro e w2 ⟨a2,c2,rfl,hown2,hb2⟩
   have hB2:=HBx.out.keep hb2
   have p7:=hB2.cell 7 rfl
   have p8:=hB2.cell 8 rfl
   by_cases hrr : r1=k
   ·subst hrr
    have HR3 : Hid (RS=if C.cos=true then decide ((grS G.ops L (frTo false s m)).length=r1) && decide (C.W<s.length+lightS G.ops L C.y s t) else decide (r1=C.M)):=by
     show _=_
     rw [HR2.out,decide_eq_true rfl,Bool.true_and]
    have hne : ((r1 : Int) != r1)=false:=by simp
    by_cases hcos : C.cos=true
    ·rw [if_pos hcos] at HR3
     rw [hcos] at p7
     have hb02:=hb.trans (hb2.mono hb.size)
     have hyl:=HE.out.yl hcos
     have hy:=(HE.out.y hcos).keep hb02
     have hye:=HE.out.ye hcos
     have HS : Hid (∀V : World,Below w2.heap.size w2 V->V.cell? ⟨pb,4,none⟩=some (.int .i64 m)/\V.cell? ⟨pb,9,none⟩=some (.int .i64 C.W)/\Below w2.heap.size w2 V) :=
      λV hV=>⟨(hB2.keep hV).cell 4 rfl,(hB2.keep hV).cell 9 rfl,hV⟩
     have hs2:=hs.keep hb2
     have ht2:=ht.keep hb2
     have HO : Hid (∀V : World,Below w2.heap.size w2 V->Calls Tryz.prog 262 #[.pointer (some ⟨pb,0,none⟩),.slice sa ns cs,.slice none 0 0] V λe w'=>∃a3 c3,e = .returned (.slice a3 (frTo false s m).length c3) /\
       w'.ownsRow V.heap.size 3 1 (.slice a3 (frTo false s m).length c3) (frTo false s m).length ((frTo false s m).map (Value.int .i64))/\Below V.heap.size V w'):=λV hV=>by
      have h1:=exOutside_any pb m sa ns cs s none 0 0 [] V ((hB2.keep hV).cell 4 rfl) (hs2.keep hV) (Ints.nil _ _) (by omega) (by omega)
      rw [outS_nil] at h1
      exact h1
     obtain ⟨r2,hr2e⟩ : ∃r2,(grS G.ops L (frTo false s m)).length=r2:=⟨_,rfl⟩
     have hfl:=frTo_len false s m
     have HGr : Hid (∀(V : World) a3 c3,Below w2.heap.size w2 V->Ints V a3 (frTo false s m).length (frTo false s m)->Calls Tryz.prog 261 #[.pointer (some ⟨pb,0,none⟩),.slice a3 (frTo false s m).length c3,.int .i64 m] V
       λe w'=>∃a4 c4,e = .returned (.slice a4 r2 c4)/\Below V.heap.size V w'):=λV a3 c3 hV h3=>by
      have hbV:=hb02.trans (hV.mono hb02.size)
      refine (exGreedy_any pb a n c L m a3 _ c3 (frTo false s m) m ((hB2.keep hV).cell 0 rfl) ((hB2.keep hV).cell 5 rfl) (HE.out.g.keep hbV) (HE.out.mat.keep hbV) HE.out.rws h3 (λj hj=>?_) HE.out.n6 (by omega)).mono ?_
      ·obtain ⟨x,hx,e,_⟩:=(mem_frTo m).1 (nth_mem hj)
       omega
      ·rintro e w' ⟨a4,c4,rfl,_,hb4⟩
       rw [grM_full hfl]
       exact ⟨a4,c4,by rw [hr2e],hb4⟩
     have HLi : Hid (∀V : World,Below w2.heap.size w2 V->Calls Tryz.prog 272 #[.pointer (some ⟨pb,0,none⟩),.slice sa ns cs,.slice at' r1 ct] V λe w'=>e = .returned (.int .i64 (lightS G.ops L C.y s t))/\Below V.heap.size V w'):=λV hV=>by
      have hbV:=hb02.trans (hV.mono hb02.size)
      have hBV:=hB2.keep hV
      have p6:=hBV.cell 6 rfl
      rw [hyl] at p6
      exact exLight_any pb a n c L m ay cy C.y sa ns cs s at' r1 ct t (hBV.cell 0 rfl) (hBV.cell 5 rfl) p6 (HE.out.g.keep hbV) (HE.out.mat.keep hbV) HE.out.rws (hy.keep hV) hye (hs2.keep hV) (ht2.keep hV) Hrng.out HE.out.n6 (by omega) (by omega)
     have hll : lightS G.ops L C.y s t<=1000000:=Nat.le_trans (cntTo_le _ _ _) (by rw [(lgt_ok (Tbl.cl hG) HE.out.rws ⟨hy.len,hye⟩ (λj hj=>by have:=Hrng.out j (by rw [<- Htl.out];exact hj);omega) _ (Nat.le_refl _)).2.1.1];omega)
     rw [hr2e,Hsl.out] at HR3
     obtain ⟨li,hli⟩ : ∃li,lightS G.ops L C.y s t=li:=⟨_,rfl⟩
     rw [hli] at hll HLi HR3
     generalize (frTo false s m).length=fl at *
     have hw6:=HE.out.w6
     clear hr2e hli hyl hy hye p8 hcos
     by_cases hr2 : r2=r1
     ·subst hr2
      have HR4 : Hid (RS=decide (C.W<ns+li)):=by show _=_;rw [HR3.out,decide_eq_true rfl,Bool.true_and]
      have heq : ((r2 : Int) == r2)=true:=by simp
      go_upto_region 11 with fail
      have hwr : IntKind.i64.wrap ((ns : Int)+(li : Int))=(ns : Int)+(li : Int):=IntWalk.i64_in _ (by omega)
      have hWd : ∃z,decide ((C.W : Int)<(ns : Int)+(li : Int))=z/\Hid (RS=z):=⟨_,rfl,by show _=_;rw [HR4.out];exact decide_eq_decide.2 (by omega)⟩
      obtain ⟨z,hz,Hz⟩:=hWd
      go_cut [6] (λv wx=>v = .bool z/\Below w2.heap.size w2 wx)
      case first =>
       go_region_held3 (λW=>W.cell? ⟨pb,4,none⟩=some (.int .i64 m)/\W.cell? ⟨pb,9,none⟩=some (.int .i64 C.W)/\Below w2.heap.size w2 W)
        ((refine HS.out _ ?_;first | exact hb5w | exact hb4w | exact hb3w | exact (Below.refl _ _).drew | assumption | (go_split_ands;assumption)))
        (first
        | (go_at_call 262;((with_reducible refine (HO.out _ (by go_split_ands;assumption)).mono ?_);rintro e w3 ⟨a3,c3,rfl,hown3,hb3⟩;have hb3w : Below w2.heap.size w2 w3:=(by go_split_ands;exact Below.next (by assumption) hb3)))
        | (go_at_call 261;((with_reducible refine (HGr.out _ _ _ (by go_split_ands;assumption) ((Ints.own hown3).1.keep (by first | exact Below.refl _ _ | exact (Below.refl _ _).drew))).mono ?_);rintro e w4 ⟨a4,c4,rfl,hb4⟩;have hb4w : Below w2.heap.size w2 w4:=(by go_split_ands;exact Below.next (by assumption) hb4)))
        | (go_at_call 272;((with_reducible refine (HLi.out _ (by go_split_ands;assumption)).mono ?_);rintro e w5 ⟨rfl,hb5⟩;have hb5w : Below w2.heap.size w2 w5:=(by go_split_ands;exact Below.next (by assumption) hb5))))
       all_goals (go_wp2_with fail;go_meet;exact ⟨rfl,hb5w⟩)
      obtain ⟨rfl,hb5w⟩:=hcut
      generalize wc=w5 at *
      go_wp2_with fail
      go_ret
      exact ⟨by rw [Hz.out];rfl,Below.next hb2 hb5w⟩
     ·have HR4 : Hid (RS=false):=by show _=_;rw [HR3.out,decide_eq_false hr2];rfl
      have heq : ((r2 : Int) == r1)=false:=by simp;omega
      clear hr2
      go_upto_region 11 with fail
      refine wp_region_held_drew (S:=(λW : World=>W.cell? ⟨pb,4,none⟩=some (.int .i64 m)/\W.cell? ⟨pb,9,none⟩=some (.int .i64 C.W)/\Below w2.heap.size w2 W)) (by kernel_rfl) ?_ (λhHeld=>?_)
      ·exact HS.out _ (Below.refl _ _).drew
      refine wpAnyH_take (i:=0) (v:=?_) (by simp only [List.getElem?_toArray,List.getElem?_cons_succ,List.getElem?_cons_zero];rfl) (by kernel_rfl) (by kernel_rfl) (by kernel_rfl) (by exact λ_ _ _ h=>h) (Or.inl ⟨by rfl,?_⟩) (by assumption) ?_
      rotate_left
      ·(intro w hSw;(try dsimp only at hSw);obtain ⟨hSa,hSb,hSc⟩:=hSw;go_simp;first | done | with_reducible rfl)
      try simp only [Act.put,List.setIfInBounds_toArray,List.set_cons_zero,List.set_cons_succ]
      refine wpAnyH_take (i:=1) (v:=?_) (by simp only [List.getElem?_toArray,List.getElem?_cons_succ,List.getElem?_cons_zero];rfl) (by kernel_rfl) (by kernel_rfl) (by kernel_rfl) (by exact λ_ _ _ h=>h) (Or.inl ⟨by rfl,?_⟩) (by assumption) ?_
      rotate_left
      ·(intro w hSw;(try dsimp only at hSw);obtain ⟨hSa,hSb,hSc⟩:=hSw;go_simp;first | done | with_reducible rfl)
      try simp only [Act.put,List.setIfInBounds_toArray,List.set_cons_zero,List.set_cons_succ]
      refine wpAnyH_take (i:=2) (v:=?_) (by simp only [List.getElem?_toArray,List.getElem?_cons_succ,List.getElem?_cons_zero];rfl) (by kernel_rfl) (by kernel_rfl) (by kernel_rfl) (by exact λ_ _ _ h=>h) (Or.inl ⟨by rfl,?_⟩) (by assumption) ?_
      rotate_left
      ·(intro w hSw;(try dsimp only at hSw);obtain ⟨hSa,hSb,hSc⟩:=hSw;go_simp;first | done | with_reducible rfl)
      try simp only [Act.put,List.setIfInBounds_toArray,List.set_cons_zero,List.set_cons_succ]
      refine wpAnyH_take (i:=4) (v:=?_) (by simp only [List.getElem?_toArray,List.getElem?_cons_succ,List.getElem?_cons_zero];rfl) (by kernel_rfl) (by kernel_rfl) (by kernel_rfl) (by exact λ_ _ _ h=>h) (Or.inl ⟨by rfl,?_⟩) (by assumption) ?_
      rotate_left
      ·(intro w hSw;(try dsimp only at hSw);obtain ⟨hSa,hSb,hSc⟩:=hSw;go_simp;first | done | with_reducible rfl)
      try simp only [Act.put,List.setIfInBounds_toArray,List.set_cons_zero,List.set_cons_succ]
      refine wpAnyH_take (i:=5) (v:=?_) (by simp only [List.getElem?_toArray,List.getElem?_cons_succ,List.getElem?_cons_zero];rfl) (by kernel_rfl) (by kernel_rfl) (by kernel_rfl) (by exact λ_ _ _ h=>h) (Or.inl ⟨by rfl,?_⟩) (by assumption) ?_
      rotate_left
      ·(intro w hSw;(try dsimp only at hSw);obtain ⟨hSa,hSb,hSc⟩:=hSw;go_simp;first | done | with_reducible rfl)
      try simp only [Act.put,List.setIfInBounds_toArray,List.set_cons_zero,List.set_cons_succ]
      refine wpAnyH_take (i:=6) (v:=?_) (by simp only [List.getElem?_toArray,List.getElem?_cons_succ,List.getElem?_cons_zero];rfl) (by kernel_rfl) (by kernel_rfl) (by kernel_rfl) (by exact λ_ _ _ h=>h) (Or.inl ⟨by rfl,?_⟩) (by assumption) ?_
      rotate_left
      ·(intro w hSw;(try dsimp only at hSw);obtain ⟨hSa,hSb,hSc⟩:=hSw;go_simp;first | done | with_reducible rfl)
      try simp only [Act.put,List.setIfInBounds_toArray,List.set_cons_zero,List.set_cons_succ]
      refine wpAnyH_take (i:=7) (v:=?_) (by simp only [List.getElem?_toArray,List.getElem?_cons_succ,List.getElem?_cons_zero];rfl) (by kernel_rfl) (by kernel_rfl) (by kernel_rfl) (by exact λ_ _ _ h=>h) (Or.inl ⟨by rfl,?_⟩) (by assumption) ?_
      rotate_left
      ·(intro w hSw;(try dsimp only at hSw);obtain ⟨hSa,hSb,hSc⟩:=hSw;go_simp;first | done | with_reducible rfl)
      try simp only [Act.put,List.setIfInBounds_toArray,List.set_cons_zero,List.set_cons_succ]
      refine wpAnyH_take (i:=8) (v:=?_) (by simp only [List.getElem?_toArray,List.getElem?_cons_succ,List.getElem?_cons_zero];rfl) (by kernel_rfl) (by kernel_rfl) (by kernel_rfl) (by exact λ_ _ _ h=>h) (Or.inl ⟨by rfl,?_⟩) (by assumption) ?_
      rotate_left
      ·(intro w hSw;(try dsimp only at hSw);obtain ⟨hSa,hSb,hSc⟩:=hSw;go_simp;first | done | with_reducible rfl)
      try simp only [Act.put,List.setIfInBounds_toArray,List.set_cons_zero,List.set_cons_succ]
      refine wpAnyH_take (i:=11) (v:=?_) (by simp only [List.getElem?_toArray,List.getElem?_cons_succ,List.getElem?_cons_zero];rfl) (by kernel_rfl) (by kernel_rfl) (by kernel_rfl) (by exact λ_ _ _ h=>h) (Or.inl ⟨by rfl,?_⟩) (by assumption) ?_
      rotate_left
      ·(intro w hSw;(try dsimp only at hSw);obtain ⟨hSa,hSb,hSc⟩:=hSw;go_simp;first | done | with_reducible rfl)
      try simp only [Act.put,List.setIfInBounds_toArray,List.set_cons_zero,List.set_cons_succ]
      refine wpAnyH_take (i:=12) (v:=?_) (by simp only [List.getElem?_toArray,List.getElem?_cons_succ,List.getElem?_cons_zero];rfl) (by kernel_rfl) (by kernel_rfl) (by kernel_rfl) (by exact λ_ _ _ h=>h) (Or.inl ⟨by rfl,?_⟩) (by assumption) ?_
      rotate_left
      ·(intro w hSw;(try dsimp only at hSw);obtain ⟨hSa,hSb,hSc⟩:=hSw;go_simp;first | done | with_reducible rfl)
      try simp only [Act.put,List.setIfInBounds_toArray,List.set_cons_zero,List.set_cons_succ]
      refine wpAnyH_ready (rs:=[3]) (by kernel_rfl) (by simp) ?_
      refine AllReadyH.cons rfl (λK hK=>?_) AllReadyH.nil
      go_simp
      refine (HO.out _ (by exact (Below.refl _ _).drew)).mono ?_;rintro e w3 ⟨a3,c3,rfl,hown3,hb3⟩;have hb3w : Below w2.heap.size w2 w3:=Below.next (Below.refl _ _).drew hb3
      go_wp2_with fail
      refine hK.out _ _ ?_ (λhHeld=>?_)
      ·exact HS.out _ hb3w
      clear hK K
      try simp only [Act.put,List.setIfInBounds_toArray,List.set_cons_zero,List.set_cons_succ]
      refine wpAnyH_ready (rs:=[9]) (by kernel_rfl) (by simp) ?_
      refine AllReadyH.cons rfl (λK hK=>?_) AllReadyH.nil
      go_simp
      refine (HGr.out w3 a3 c3 hb3w (Ints.own hown3).1).mono ?_;rintro e w4 ⟨a4,c4,rfl,hb4⟩;have hb4w : Below w2.heap.size w2 w4:=Below.next hb3w hb4
      go_wp2_with fail
      refine hK.out _ _ ?_ (λhHeld=>?_)
      ·exact HS.out _ hb4w
      clear hK K
      try simp only [Act.put,List.setIfInBounds_toArray,List.set_cons_zero,List.set_cons_succ]
      refine wpAnyH_take (i:=10) (v:=?_) (by simp only [List.getElem?_toArray,List.getElem?_cons_succ,List.getElem?_cons_zero];rfl) (by kernel_rfl) (by kernel_rfl) (by kernel_rfl) (by exact λ_ _ _ h=>h) (Or.inl ⟨by rfl,?_⟩) (by assumption) ?_
      rotate_left
      ·(intro w hSw;(try dsimp only at hSw);obtain ⟨hSa,hSb,hSc⟩:=hSw;go_simp;first | done | with_reducible rfl)
      try simp only [Act.put,List.setIfInBounds_toArray,List.set_cons_zero,List.set_cons_succ]
      refine wpAnyH_take (i:=13) (v:=?_) (by simp only [List.getElem?_toArray,List.getElem?_cons_succ,List.getElem?_cons_zero];rfl) (by kernel_rfl) (by kernel_rfl) (by kernel_rfl) (by exact λ_ _ _ h=>h) (Or.inl ⟨by rfl,?_⟩) (by assumption) ?_
      rotate_left
      ·(intro w hSw;(try dsimp only at hSw);obtain ⟨hSa,hSb,hSc⟩:=hSw;go_simp;first | done | with_reducible rfl)
      try simp only [Act.put,List.setIfInBounds_toArray,List.set_cons_zero,List.set_cons_succ]
      refine wpAnyH_take (i:=14) (v:=?_) (by simp only [List.getElem?_toArray,List.getElem?_cons_succ,List.getElem?_cons_zero];rfl) (by kernel_rfl) (by kernel_rfl) (by kernel_rfl) (by exact λ_ _ _ h=>h) (Or.inl ⟨by rfl,?_⟩) (by assumption) ?_
      rotate_left
      ·(intro w hSw;(try dsimp only at hSw);obtain ⟨hSa,hSb,hSc⟩:=hSw;go_simp;first | done | with_reducible rfl)
      try simp only [Act.put,List.setIfInBounds_toArray,List.set_cons_zero,List.set_cons_succ]
      refine wpAnyH_take (i:=15) (v:=undef) (by simp only [List.getElem?_toArray,List.getElem?_cons_succ,List.getElem?_cons_zero];rfl) (by kernel_rfl) (by kernel_rfl) (by kernel_rfl) (by exact λ_ _ _ h=>h) (Or.inr ⟨by rfl,rfl⟩) (by assumption) ?_
      try simp only [Act.put,List.setIfInBounds_toArray,List.set_cons_zero,List.set_cons_succ]
      refine wpAnyH_take (i:=16) (v:=undef) (by simp only [List.getElem?_toArray,List.getElem?_cons_succ,List.getElem?_cons_zero];rfl) (by kernel_rfl) (by kernel_rfl) (by kernel_rfl) (by exact λ_ _ _ h=>h) (Or.inr ⟨by rfl,rfl⟩) (by assumption) ?_
      try simp only [Act.put,List.setIfInBounds_toArray,List.set_cons_zero,List.set_cons_succ]
      refine wpAnyH_take (i:=17) (v:=undef) (by simp only [List.getElem?_toArray,List.getElem?_cons_succ,List.getElem?_cons_zero];rfl) (by kernel_rfl) (by kernel_rfl) (by kernel_rfl) (by exact λ_ _ _ h=>h) (Or.inr ⟨by rfl,rfl⟩) (by assumption) ?_
      try simp only [Act.put,List.setIfInBounds_toArray,List.set_cons_zero,List.set_cons_succ]
      refine wpAnyH_take (i:=18) (v:=undef) (by simp only [List.getElem?_toArray,List.getElem?_cons_succ,List.getElem?_cons_zero];rfl) (by kernel_rfl) (by kernel_rfl) (by kernel_rfl) (by exact λ_ _ _ h=>h) (Or.inr ⟨by rfl,rfl⟩) (by assumption) ?_
      try simp only [Act.put,List.setIfInBounds_toArray,List.set_cons_zero,List.set_cons_succ]
      refine wpAnyH_take (i:=19) (v:=undef) (by simp only [List.getElem?_toArray,List.getElem?_cons_succ,List.getElem?_cons_zero];rfl) (by kernel_rfl) (by kernel_rfl) (by kernel_rfl) (by exact λ_ _ _ h=>h) (Or.inr ⟨by rfl,rfl⟩) (by assumption) ?_
      try simp only [Act.put,List.setIfInBounds_toArray,List.set_cons_zero,List.set_cons_succ]
      refine wpAnyH_take (i:=20) (v:=undef) (by simp only [List.getElem?_toArray,List.getElem?_cons_succ,List.getElem?_cons_zero];rfl) (by kernel_rfl) (by kernel_rfl) (by kernel_rfl) (by exact λ_ _ _ h=>h) (Or.inr ⟨by rfl,rfl⟩) (by assumption) ?_
      try simp only [Act.put,List.setIfInBounds_toArray,List.set_cons_zero,List.set_cons_succ]
      refine wpAnyH_take (i:=21) (v:=undef) (by simp only [List.getElem?_toArray,List.getElem?_cons_succ,List.getElem?_cons_zero];rfl) (by kernel_rfl) (by kernel_rfl) (by kernel_rfl) (by exact λ_ _ _ h=>h) (Or.inr ⟨by rfl,rfl⟩) (by assumption) ?_
      try simp only [Act.put,List.setIfInBounds_toArray,List.set_cons_zero,List.set_cons_succ]
      refine wpAnyH_take (i:=22) (v:=undef) (by simp only [List.getElem?_toArray,List.getElem?_cons_succ,List.getElem?_cons_zero];rfl) (by kernel_rfl) (by kernel_rfl) (by kernel_rfl) (by exact λ_ _ _ h=>h) (Or.inr ⟨by rfl,rfl⟩) (by assumption) ?_
      try simp only [Act.put,List.setIfInBounds_toArray,List.set_cons_zero,List.set_cons_succ]
      refine wpAnyH_take (i:=23) (v:=undef) (by simp only [List.getElem?_toArray,List.getElem?_cons_succ,List.getElem?_cons_zero];rfl) (by kernel_rfl) (by kernel_rfl) (by kernel_rfl) (by exact λ_ _ _ h=>h) (Or.inr ⟨by rfl,rfl⟩) (by assumption) ?_
      try simp only [Act.put,List.setIfInBounds_toArray,List.set_cons_zero,List.set_cons_succ]
      refine wpAnyH_take (i:=24) (v:=undef) (by simp only [List.getElem?_toArray,List.getElem?_cons_succ,List.getElem?_cons_zero];rfl) (by kernel_rfl) (by kernel_rfl) (by kernel_rfl) (by exact λ_ _ _ h=>h) (Or.inr ⟨by rfl,rfl⟩) (by assumption) ?_
      try simp only [Act.put,List.setIfInBounds_toArray,List.set_cons_zero,List.set_cons_succ]
      refine wpAnyH_take (i:=25) (v:=undef) (by simp only [List.getElem?_toArray,List.getElem?_cons_succ,List.getElem?_cons_zero];rfl) (by kernel_rfl) (by kernel_rfl) (by kernel_rfl) (by exact λ_ _ _ h=>h) (Or.inr ⟨by rfl,rfl⟩) (by assumption) ?_
      try simp only [Act.put,List.setIfInBounds_toArray,List.set_cons_zero,List.set_cons_succ]
      refine wpAnyH_take (i:=26) (v:=undef) (by simp only [List.getElem?_toArray,List.getElem?_cons_succ,List.getElem?_cons_zero];rfl) (by kernel_rfl) (by kernel_rfl) (by kernel_rfl) (by exact λ_ _ _ h=>h) (Or.inr ⟨by rfl,rfl⟩) (by assumption) ?_
      try simp only [Act.put,List.setIfInBounds_toArray,List.set_cons_zero,List.set_cons_succ]
      refine wpAnyH_take (i:=27) (v:=?_) (by simp only [List.getElem?_toArray,List.getElem?_cons_succ,List.getElem?_cons_zero];rfl) (by kernel_rfl) (by kernel_rfl) (by kernel_rfl) (by exact λ_ _ _ h=>h) (Or.inl ⟨by rfl,?_⟩) (by assumption) ?_
      rotate_left
      ·(intro w hSw;(try dsimp only at hSw);obtain ⟨hSa,hSb,hSc⟩:=hSw;go_simp;first | done | with_reducible rfl)
      try simp only [Act.put,List.setIfInBounds_toArray,List.set_cons_zero,List.set_cons_succ]
      refine wpAnyH_take (i:=28) (v:=?_) (by simp only [List.getElem?_toArray,List.getElem?_cons_succ,List.getElem?_cons_zero];rfl) (by kernel_rfl) (by kernel_rfl) (by kernel_rfl) (by exact λ_ _ _ h=>h) (Or.inl ⟨by rfl,?_⟩) (by assumption) ?_
      rotate_left
      ·(intro w hSw;(try dsimp only at hSw);obtain ⟨hSa,hSb,hSc⟩:=hSw;go_simp;first | done | with_reducible rfl)
      try simp only [Act.put,List.setIfInBounds_toArray,List.set_cons_zero,List.set_cons_succ]
      refine wpAnyH_done (by kernel_rfl) ?_ _
      go_wp2_with fail
      go_ret
      exact ⟨by rw [HR4.out];rfl,Below.next hb2 hb4w⟩
    ·have hcf : C.cos=false:=by simpa using hcos
     rw [if_neg hcos] at HR3
     rw [hcf] at p7
     clear hcos hcf
     by_cases hM : r1=C.M
     ·have HR4 : Hid (RS=true):=by show _=_;rw [HR3.out,decide_eq_true hM]
      have hd : ((r1 : Int) == C.M)=true:=by simp;omega
      clear hM
      go_wp2_with fail
      go_ret
      exact ⟨by rw [HR4.out];rfl,hb2⟩
     ·have HR4 : Hid (RS=false):=by show _=_;rw [HR3.out,decide_eq_false hM]
      have hd : ((r1 : Int) == C.M)=false:=by simp;omega
      clear hM
      go_wp2_with fail
      go_ret
      exact ⟨by rw [HR4.out];rfl,hb2⟩
   ·have hne : ((r1 : Int) != k)=true:=by simp;omega
    have HR3 : Hid (RS=false):=by show _=_;rw [HR2.out,decide_eq_false hrr];rfl
    clear hrr
    go_wp2_with fail
    go_ret
    exact ⟨by rw [HR3.out];rfl,hb2⟩
end

end Go.Proofs.YtcfmiocdlcapoaaGreat
