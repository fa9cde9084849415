import Derived.Test.YthglbncgemdcbaaGreatS18
import Derived.Test.YthglbncgemdcbaaGreatS17
namespace Go.Proofs.YthglbncgemdcbaaGreat
set_option linter.all false
set_option maxRecDepth 100000
set_option maxHeartbeats 8000000
open Go.RowKit Go.Proofs.Tryz
theorem uu {w w0 : World} {b : Nat} {G : dn} {a : OA} {n : Nat} {L : ZZ} {m : Nat} {ay : OA} {ny : Nat} {C : jG} (pb : Nat) (P M : Int) (am : OA) (mn cm c cy : Nat) (sv : Value) (kk : Nat)
  (sa : OA) (ns cs : Nat) (s : Lz) (at' : OA) (nt ct : Nat) (t : Lz)
  (E : Eg w0 b G a n L m ay ny C) (hb : SW w0 w) (hB : aN w pb (qG b P M am mn cm m a n c ay ny cy C sv kk)) (hs : Ints w sa ns s) (ht : Ints w at' nt t) (hns : ns<=1000) :
  Calls prog 233 #[.pointer (some ⟨pb,0,none⟩),.slice sa ns cs,.slice at' nt ct] w λe w'=>e = .returned (.bool (dI G.ops L m C s t))/\SW w w':=by
 have hplt:=ht.pl;have hmaxt:=ht.max;unfold maxLen at hmaxt;have Htl:=Z5 ht.len;have Hsl:=Z5 hs.len;have p0:=hB.cell 0 rfl;have p4:=hB.cell 4 rfl;have p5:=hB.cell 5 rfl;have HBx:=Z5 hB;have HE:=Z5 E;have hG:=E.g.ah hb;have hi:=E.jt.ah hb;have hm6:=E.m6;obtain ⟨RS,hRS⟩ : ∃RS,dI G.ops L m C s t=RS:=⟨_,rfl⟩
 rw [hRS];have HRS : Hid (RS=dI G.ops L m C s t):=hRS.symm;have Hbad : Hid (∀k,k<nt->(fb m t k=false\/nth t k ∈ s)->RS=false):=λk hk h=>by
  rw [HRS.out,dI,kR];rcases h with h | h
  ·have h1 : dk m t=false:=sY (by rw [Htl.out];exact hk) h;rw [h1];rfl
  ·have h1 : t.all (λx=>decide (¬ x ∈ s))=false:=by rw [OU];exact ⟨nth t k,aH (by rw [Htl.out];exact hk),by simpa using h⟩
   rw [h1,Qy];rfl
 clear hB E hRS;go_enter func233,ntmps233;go_wp2_with fail;go_loop [11] (λiv=>∃k : Nat,k<=nt/\iv = .int .i64 k/\Hid (nM m t k=true)/\Hid (∀j,j<k->¬ nth t j ∈ s)) (λiv=>nt - (intOf iv).toNat);case atStart=>exact ⟨0,Ni _,rfl,(show _=_ by simp [nM]),λj hj=>by omega⟩
 case round =>
  obtain ⟨k,hk,rfl,hok,hnot⟩:=hrel
  by_cases hlt : k<nt
  ·have ck:=ht.cell k hlt
   have HcA:=Z5 (dJ sa ns cs s (nth t k) w hs)
   have Hgo : Hid (¬ nth t k ∈ s->∀j,j<k+1->¬ nth t j ∈ s):=λh j hj=>by
    by_cases e : j=k
    ·rw [e];exact h
    ·exact hnot.out j (by omega)
   by_cases h0 : 0<=nth t k
   ·by_cases h1 : nth t k<m
    ·have d1 : decide (nth t k<0)=false:=by simp;omega
     have d2 : decide ((m : Int)<=nth t k)=false:=by simp;omega
     by_cases hk0 : k=0
     ·subst hk0
      have Hgood : Hid (fb m t 0=true):=by show _=_;unfold fb;simp [h0,h1]
      rw [Qv] at ck
      by_cases hmem : nth t 0 ∈ s
      ·have hmd : decide (nth t 0 ∈ s)=true:=by simpa using hmem
       have Hb : Hid (RS=false):=Hbad.out 0 hlt (.inr hmem)
       rw [hmd] at HcA
       clear hmem hmd
       go_wp2_with fail
       refine HcA.out.mono ?_
       rintro e w6 ⟨rfl,rfl⟩
       go_wp2_with fail
       go_ret
       exact ⟨by rw [Hb.out];rfl,Nc _ _⟩
      ·have hmd : decide (nth t 0 ∈ s)=false:=by simpa using hmem
       have Hgo2 : Hid (∀j,j<0+1->¬ nth t j ∈ s):=Hgo.out hmem
       rw [hmd] at HcA
       clear hmem hmd
       go_wp2_with fail
       refine HcA.out.mono ?_
       rintro e w6 ⟨rfl,rfl⟩
       go_wp2_with fail
       go_round
       case rel=>exact ⟨1,by omega,by go_num,fH hok.out Hgood.out,Hgo2.out⟩
       case measure=>simp [intOf] <;> omega
     ·have cp:=ht.cell (k - 1) (by omega)
      have e1 : ((k : Int) - 1).toNat=k - 1:=by omega
      have d3 : decide (0<(k : Int))=true:=by simp;omega
      have d4 : (0 : Int)<=(k : Int) - 1:=by omega
      have d5 : (1 : Int)<=(k : Int):=by omega
      have d6 : (k : Int) - 1<nt:=by omega
      by_cases h2 : nth t (k - 1)<nth t k
      ·have Hgood : Hid (fb m t k=true):=by show _=_;unfold fb;simp [h0,h1,h2]
       have h2' : decide (nth t k<=nth t (k - 1))=false:=by simp;omega
       by_cases hmem : nth t k ∈ s
       ·have hmd : decide (nth t k ∈ s)=true:=by simpa using hmem
        have Hb : Hid (RS=false):=Hbad.out k hlt (.inr hmem)
        rw [hmd] at HcA
        clear hmem hmd hk0 e1
        go_wp2_with fail
        refine HcA.out.mono ?_
        rintro e w6 ⟨rfl,rfl⟩
        go_wp2_with fail
        go_ret
        exact ⟨by rw [Hb.out];rfl,Nc _ _⟩
       ·have hmd : decide (nth t k ∈ s)=false:=by simpa using hmem
        have Hgo2:=Z5 (Hgo.out hmem)
        rw [hmd] at HcA
        clear hmem hmd hk0 e1
        go_wp2_with fail
        refine HcA.out.mono ?_
        rintro e w6 ⟨rfl,rfl⟩
        go_wp2_with fail
        go_round
        case rel=>exact ⟨k+1,by omega,by go_num,fH hok.out Hgood.out,Hgo2.out⟩
        case measure=>simp [intOf] <;> omega
      ·have Hb : Hid (RS=false):=Hbad.out k hlt (.inl (by unfold fb;simp [h2,hk0]))
       have h2' : decide (nth t k<=nth t (k - 1))=true:=by simp;omega
       clear hk0 e1
       go_wp2_with fail
       go_ret
       exact ⟨by rw [Hb.out];rfl,Nc _ _⟩
    ·have Hb : Hid (RS=false):=Hbad.out k hlt (.inl (by unfold fb;simp [h1]))
     have d1 : decide (nth t k<0)=false:=by simp;omega
     have d2 : decide ((m : Int)<=nth t k)=true:=by simp;omega
     go_wp2_with fail
     go_ret
     exact ⟨by rw [Hb.out];rfl,Nc _ _⟩
   ·have Hb : Hid (RS=false):=Hbad.out k hlt (.inl (by unfold fb;simp [h0]))
    have d1 : decide (nth t k<0)=true:=by simp;omega
    go_wp2_with fail
    go_ret
    exact ⟨by rw [Hb.out];rfl,Nc _ _⟩
  ·have hkn : k=nt:=by omega
   subst hkn
   have hoks : dk m t=true:=by rw [dk,Htl.out];exact hok.out
   have hset : kR m s t=true:=by rw [kR,hoks,OD,NW];intro x hx;obtain ⟨j,hj,rfl⟩:=List.mem_iff_getElem.1 hx;have h1:=hnot.out j (by rw [<- Htl.out];exact hj);rw [aj hj] at h1;simpa using h1
   have hrng : ∀j,j<k->0<=nth t j/\nth t j<m:=λj hj=>qi hoks j (by rw [Htl.out];exact hj)
   have hklen : k<=m:=by have h1:=jx hoks (by omega);rw [Htl.out] at h1;omega
   have HR2 : Hid (RS=(decide ((kC G.ops L t).length=k) && if C.cos=true then decide ((kC G.ops L (frTo false s m)).length=k) && decide (C.W<s.length+gh G.ops L C.y s t) else decide (k=C.M))):=by show _=_;rw [HRS.out,dI,hset,OD,Htl.out]
   have hgm : xT G.ops L t k=kC G.ops L t:=CH (by rw [Htl.out];exact Na _)
   have HGr0:=Z5 (oe pb a n c L m at' k ct t k p0 p5 hG hi HE.out.rws ht hrng HE.out.n6 (by omega))
   rw [hgm] at HGr0
   have Hrng:=Z5 hrng
   have hr1 : (kC G.ops L t).length<=k:=by have:=xc G.ops L t;rw [Htl.out] at this;exact this
   obtain ⟨r1,hr1e⟩ : ∃r1,(kC G.ops L t).length=r1:=⟨_,rfl⟩
   unfold b8 at HGr0
   rw [hr1e] at hr1 HGr0 HR2
   clear hoks hset hrng hgm hr1e Hbad
   go_wp2_with fail
   refine HGr0.out.mono ?_
   rintro e w2 ⟨a2,c2,rfl,hown2,hb2⟩
   have hB2:=HBx.out.ah hb2
   have p7:=hB2.cell 7 rfl
   have p8:=hB2.cell 8 rfl
   by_cases hrr : r1=k
   ·subst hrr
    have HR3 : Hid (RS=if C.cos=true then decide ((kC G.ops L (frTo false s m)).length=r1) && decide (C.W<s.length+gh G.ops L C.y s t) else decide (r1=C.M)):=by show _=_;rw [HR2.out,NB rfl,OD]
    have hne : ((r1 : Int) != r1)=false:=by simp
    by_cases hcos : C.cos=true
    ·rw [Nd hcos] at HR3
     rw [hcos] at p7
     have hb02:=hb.trans (hb2.mono hb.size)
     have hyl:=HE.out.yl hcos
     have hy:=(HE.out.y hcos).ah hb02
     have hye:=HE.out.ye hcos
     have HS : Hid (∀V : World,SW w2 V->V.cell? ⟨pb,4,none⟩=some (.int .i64 m)/\V.cell? ⟨pb,9,none⟩=some (.int .i64 C.W)/\SW w2 V) :=
      λV hV=>⟨(hB2.ah hV).cell 4 rfl,(hB2.ah hV).cell 9 rfl,hV⟩
     have hs2:=hs.ah hb2
     have ht2:=ht.ah hb2
     have HO : Hid (∀V : World,SW w2 V->Calls prog 232 #[.pointer (some ⟨pb,0,none⟩),.slice sa ns cs,.slice none 0 0] V λe w'=>∃a3 c3,e = .returned (.slice a3 (frTo false s m).length c3) /\
       w'.ownsRow V.heap.size 3 1 (.slice a3 (frTo false s m).length c3) (frTo false s m).length ((frTo false s m).map (Value.int .i64))/\SW V w'):=λV hV=>by have h1:=qT pb m sa ns cs s none 0 0 [] V ((hB2.ah hV).cell 4 rfl) (hs2.ah hV) (Sd _ _) (by omega) (by omega);rw [Jn] at h1;exact h1
     obtain ⟨r2,hr2e⟩ : ∃r2,(kC G.ops L (frTo false s m)).length=r2:=⟨_,rfl⟩
     have hfl:=jg false s m
     have HGr : Hid (∀(V : World) a3 c3,SW w2 V->Ints V a3 (frTo false s m).length (frTo false s m)->Calls prog 231 #[.pointer (some ⟨pb,0,none⟩),.slice a3 (frTo false s m).length c3,.int .i64 m] V
       λe w'=>∃a4 c4,e = .returned (.slice a4 r2 c4)/\SW V w'):=λV a3 c3 hV h3=>by
      have hbV:=hb02.trans (hV.mono hb02.size);refine (oe pb a n c L m a3 _ c3 (frTo false s m) m ((hB2.ah hV).cell 0 rfl) ((hB2.ah hV).cell 5 rfl) (HE.out.g.ah hbV) (HE.out.jt.ah hbV) HE.out.rws h3 (λj hj=>?_) HE.out.n6 (by omega)).mono ?_
      ·obtain ⟨x,hx,e,_⟩:=(dG m).1 (aH hj);omega
      ·rintro e w' ⟨a4,c4,rfl,_,hb4⟩;rw [CH hfl];exact ⟨a4,c4,by rw [hr2e],hb4⟩
     have HLi : Hid (∀V : World,SW w2 V->Calls prog 261 #[.pointer (some ⟨pb,0,none⟩),.slice sa ns cs,.slice at' r1 ct] V λe w'=>e = .returned (.int .i64 (gh G.ops L C.y s t))/\SW V w'):=λV hV=>by have hbV:=hb02.trans (hV.mono hb02.size);have hBV:=hB2.ah hV;have p6:=hBV.cell 6 rfl;rw [hyl] at p6;exact Bt pb a n c L m ay cy C.y sa ns cs s at' r1 ct t (hBV.cell 0 rfl) (hBV.cell 5 rfl) p6 (HE.out.g.ah hbV) (HE.out.jt.ah hbV) HE.out.rws (hy.ah hV) hye (hs2.ah hV) (ht2.ah hV) Hrng.out HE.out.n6 (by omega) (by omega)
     have hll : gh G.ops L C.y s t<=1000000:=Nr (vM _ _ _) (by rw [(Is (SA hG) HE.out.rws ⟨hy.len,hye⟩ (λj hj=>by have:=Hrng.out j (by rw [<- Htl.out];exact hj);omega) _ (Na _)).2.1.1];omega)
     rw [hr2e,Hsl.out] at HR3
     obtain ⟨li,hli⟩ : ∃li,gh G.ops L C.y s t=li:=⟨_,rfl⟩
     rw [hli] at hll HLi HR3
     generalize (frTo false s m).length=fl at *
     have hw6:=HE.out.w6
     clear hr2e hli hyl hy hye p8 hcos
     by_cases hr2 : r2=r1
     ·subst hr2
      have HR4 : Hid (RS=decide (C.W<ns+li)):=by show _=_;rw [HR3.out,NB rfl,OD]
      have heq : ((r2 : Int) == r2)=true:=by simp
      go_upto_region 11 with fail
      have hwr : IntKind.i64.wrap ((ns : Int)+(li : Int))=(ns : Int)+(li : Int):=Ns _ (by omega)
      have hWd : ∃z,decide ((C.W : Int)<(ns : Int)+(li : Int))=z/\Hid (RS=z):=⟨_,rfl,by show _=_;rw [HR4.out];exact decide_eq_decide.2 (by omega)⟩
      obtain ⟨z,hz,Hz⟩:=hWd
      go_cut [6] (λv wx=>v = .bool z/\SW w2 wx)
      case first =>
       go_region_held3 (λW=>W.cell? ⟨pb,4,none⟩=some (.int .i64 m)/\W.cell? ⟨pb,9,none⟩=some (.int .i64 C.W)/\SW w2 W)
        ((refine HS.out _ ?_;first | exact hb5w | exact hb4w | exact hb3w | exact (Nc _ _).drew | assumption | (go_split_ands;assumption)))
        (first
        | (go_at_call 232;((with_reducible refine (HO.out _ (by go_split_ands;assumption)).mono ?_);rintro e w3 ⟨a3,c3,rfl,hown3,hb3⟩;have hb3w : SW w2 w3:=(by go_split_ands;exact RZ (by assumption) hb3)))
        | (go_at_call 231;((with_reducible refine (HGr.out _ _ _ (by go_split_ands;assumption) ((R6 hown3).1.ah (by first | exact Nc _ _ | exact (Nc _ _).drew))).mono ?_);rintro e w4 ⟨a4,c4,rfl,hb4⟩;have hb4w : SW w2 w4:=(by go_split_ands;exact RZ (by assumption) hb4)))
        | (go_at_call 261;((with_reducible refine (HLi.out _ (by go_split_ands;assumption)).mono ?_);rintro e w5 ⟨rfl,hb5⟩;have hb5w : SW w2 w5:=(by go_split_ands;exact RZ (by assumption) hb5))))
       all_goals (go_wp2_with fail;go_meet;exact ⟨rfl,hb5w⟩)
      obtain ⟨rfl,hb5w⟩:=hcut
      generalize wc=w5 at *
      go_wp2_with fail
      go_ret
      exact ⟨by rw [Hz.out];rfl,RZ hb2 hb5w⟩
     ·have HR4 : Hid (RS=false):=by show _=_;rw [HR3.out,NA hr2];rfl
      have heq : ((r2 : Int) == r1)=false:=by simp;omega
      clear hr2
      go_upto_region 11 with fail
      refine wp_region_held_drew (S:=(λW : World=>W.cell? ⟨pb,4,none⟩=some (.int .i64 m)/\W.cell? ⟨pb,9,none⟩=some (.int .i64 C.W)/\SW w2 W)) (by kernel_rfl) ?_ (λhHeld=>?_)
      ·exact HS.out _ (Nc _ _).drew
      refine wpAnyH_take (i:=0) (v:=?_) (by simp only [Nx,Nu,Nv];rfl) (by kernel_rfl) (by kernel_rfl) (by kernel_rfl) (by exact λ_ _ _ h=>h) (Od ⟨by rfl,?_⟩) (by assumption) ?_
      rotate_left
      ·(intro w hSw;(try dsimp only at hSw);obtain ⟨hSa,hSb,hSc⟩:=hSw;go_simp;first | done | with_reducible rfl)
      try simp only [Act.put,Nh,Nk,Nn]
      refine wpAnyH_take (i:=1) (v:=?_) (by simp only [Nx,Nu,Nv];rfl) (by kernel_rfl) (by kernel_rfl) (by kernel_rfl) (by exact λ_ _ _ h=>h) (Od ⟨by rfl,?_⟩) (by assumption) ?_
      rotate_left
      ·(intro w hSw;(try dsimp only at hSw);obtain ⟨hSa,hSb,hSc⟩:=hSw;go_simp;first | done | with_reducible rfl)
      try simp only [Act.put,Nh,Nk,Nn]
      refine wpAnyH_take (i:=2) (v:=?_) (by simp only [Nx,Nu,Nv];rfl) (by kernel_rfl) (by kernel_rfl) (by kernel_rfl) (by exact λ_ _ _ h=>h) (Od ⟨by rfl,?_⟩) (by assumption) ?_
      rotate_left
      ·(intro w hSw;(try dsimp only at hSw);obtain ⟨hSa,hSb,hSc⟩:=hSw;go_simp;first | done | with_reducible rfl)
      try simp only [Act.put,Nh,Nk,Nn]
      refine wpAnyH_take (i:=4) (v:=?_) (by simp only [Nx,Nu,Nv];rfl) (by kernel_rfl) (by kernel_rfl) (by kernel_rfl) (by exact λ_ _ _ h=>h) (Od ⟨by rfl,?_⟩) (by assumption) ?_
      rotate_left
      ·(intro w hSw;(try dsimp only at hSw);obtain ⟨hSa,hSb,hSc⟩:=hSw;go_simp;first | done | with_reducible rfl)
      try simp only [Act.put,Nh,Nk,Nn]
      refine wpAnyH_take (i:=5) (v:=?_) (by simp only [Nx,Nu,Nv];rfl) (by kernel_rfl) (by kernel_rfl) (by kernel_rfl) (by exact λ_ _ _ h=>h) (Od ⟨by rfl,?_⟩) (by assumption) ?_
      rotate_left
      ·(intro w hSw;(try dsimp only at hSw);obtain ⟨hSa,hSb,hSc⟩:=hSw;go_simp;first | done | with_reducible rfl)
      try simp only [Act.put,Nh,Nk,Nn]
      refine wpAnyH_take (i:=6) (v:=?_) (by simp only [Nx,Nu,Nv];rfl) (by kernel_rfl) (by kernel_rfl) (by kernel_rfl) (by exact λ_ _ _ h=>h) (Od ⟨by rfl,?_⟩) (by assumption) ?_
      rotate_left
      ·(intro w hSw;(try dsimp only at hSw);obtain ⟨hSa,hSb,hSc⟩:=hSw;go_simp;first | done | with_reducible rfl)
      try simp only [Act.put,Nh,Nk,Nn]
      refine wpAnyH_take (i:=7) (v:=?_) (by simp only [Nx,Nu,Nv];rfl) (by kernel_rfl) (by kernel_rfl) (by kernel_rfl) (by exact λ_ _ _ h=>h) (Od ⟨by rfl,?_⟩) (by assumption) ?_
      rotate_left
      ·(intro w hSw;(try dsimp only at hSw);obtain ⟨hSa,hSb,hSc⟩:=hSw;go_simp;first | done | with_reducible rfl)
      try simp only [Act.put,Nh,Nk,Nn]
      refine wpAnyH_take (i:=8) (v:=?_) (by simp only [Nx,Nu,Nv];rfl) (by kernel_rfl) (by kernel_rfl) (by kernel_rfl) (by exact λ_ _ _ h=>h) (Od ⟨by rfl,?_⟩) (by assumption) ?_
      rotate_left
      ·(intro w hSw;(try dsimp only at hSw);obtain ⟨hSa,hSb,hSc⟩:=hSw;go_simp;first | done | with_reducible rfl)
      try simp only [Act.put,Nh,Nk,Nn]
      refine wpAnyH_take (i:=11) (v:=?_) (by simp only [Nx,Nu,Nv];rfl) (by kernel_rfl) (by kernel_rfl) (by kernel_rfl) (by exact λ_ _ _ h=>h) (Od ⟨by rfl,?_⟩) (by assumption) ?_
      rotate_left
      ·(intro w hSw;(try dsimp only at hSw);obtain ⟨hSa,hSb,hSc⟩:=hSw;go_simp;first | done | with_reducible rfl)
      try simp only [Act.put,Nh,Nk,Nn]
      refine wpAnyH_take (i:=12) (v:=?_) (by simp only [Nx,Nu,Nv];rfl) (by kernel_rfl) (by kernel_rfl) (by kernel_rfl) (by exact λ_ _ _ h=>h) (Od ⟨by rfl,?_⟩) (by assumption) ?_
      rotate_left
      ·(intro w hSw;(try dsimp only at hSw);obtain ⟨hSa,hSb,hSc⟩:=hSw;go_simp;first | done | with_reducible rfl)
      try simp only [Act.put,Nh,Nk,Nn]
      refine wpAnyH_ready (rs:=[3]) (by kernel_rfl) (by simp) ?_
      refine AllReadyH.cons rfl (λK hK=>?_) AllReadyH.nil
      go_simp
      refine (HO.out _ (by exact (Nc _ _).drew)).mono ?_;rintro e w3 ⟨a3,c3,rfl,hown3,hb3⟩;have hb3w : SW w2 w3:=RZ (Nc _ _).drew hb3
      go_wp2_with fail
      refine hK.out _ _ ?_ (λhHeld=>?_)
      ·exact HS.out _ hb3w
      clear hK K
      try simp only [Act.put,Nh,Nk,Nn]
      refine wpAnyH_ready (rs:=[9]) (by kernel_rfl) (by simp) ?_
      refine AllReadyH.cons rfl (λK hK=>?_) AllReadyH.nil
      go_simp
      refine (HGr.out w3 a3 c3 hb3w (R6 hown3).1).mono ?_;rintro e w4 ⟨a4,c4,rfl,hb4⟩;have hb4w : SW w2 w4:=RZ hb3w hb4
      go_wp2_with fail
      refine hK.out _ _ ?_ (λhHeld=>?_)
      ·exact HS.out _ hb4w
      clear hK K
      try simp only [Act.put,Nh,Nk,Nn]
      refine wpAnyH_take (i:=10) (v:=?_) (by simp only [Nx,Nu,Nv];rfl) (by kernel_rfl) (by kernel_rfl) (by kernel_rfl) (by exact λ_ _ _ h=>h) (Od ⟨by rfl,?_⟩) (by assumption) ?_
      rotate_left
      ·(intro w hSw;(try dsimp only at hSw);obtain ⟨hSa,hSb,hSc⟩:=hSw;go_simp;first | done | with_reducible rfl)
      try simp only [Act.put,Nh,Nk,Nn]
      refine wpAnyH_take (i:=13) (v:=?_) (by simp only [Nx,Nu,Nv];rfl) (by kernel_rfl) (by kernel_rfl) (by kernel_rfl) (by exact λ_ _ _ h=>h) (Od ⟨by rfl,?_⟩) (by assumption) ?_
      rotate_left
      ·(intro w hSw;(try dsimp only at hSw);obtain ⟨hSa,hSb,hSc⟩:=hSw;go_simp;first | done | with_reducible rfl)
      try simp only [Act.put,Nh,Nk,Nn]
      refine wpAnyH_take (i:=14) (v:=?_) (by simp only [Nx,Nu,Nv];rfl) (by kernel_rfl) (by kernel_rfl) (by kernel_rfl) (by exact λ_ _ _ h=>h) (Od ⟨by rfl,?_⟩) (by assumption) ?_
      rotate_left
      ·(intro w hSw;(try dsimp only at hSw);obtain ⟨hSa,hSb,hSc⟩:=hSw;go_simp;first | done | with_reducible rfl)
      try simp only [Act.put,Nh,Nk,Nn]
      refine wpAnyH_take (i:=15) (v:=undef) (by simp only [Nx,Nu,Nv];rfl) (by kernel_rfl) (by kernel_rfl) (by kernel_rfl) (by exact λ_ _ _ h=>h) (PE ⟨by rfl,rfl⟩) (by assumption) ?_
      try simp only [Act.put,Nh,Nk,Nn]
      refine wpAnyH_take (i:=16) (v:=undef) (by simp only [Nx,Nu,Nv];rfl) (by kernel_rfl) (by kernel_rfl) (by kernel_rfl) (by exact λ_ _ _ h=>h) (PE ⟨by rfl,rfl⟩) (by assumption) ?_
      try simp only [Act.put,Nh,Nk,Nn]
      refine wpAnyH_take (i:=17) (v:=undef) (by simp only [Nx,Nu,Nv];rfl) (by kernel_rfl) (by kernel_rfl) (by kernel_rfl) (by exact λ_ _ _ h=>h) (PE ⟨by rfl,rfl⟩) (by assumption) ?_
      try simp only [Act.put,Nh,Nk,Nn]
      refine wpAnyH_take (i:=18) (v:=undef) (by simp only [Nx,Nu,Nv];rfl) (by kernel_rfl) (by kernel_rfl) (by kernel_rfl) (by exact λ_ _ _ h=>h) (PE ⟨by rfl,rfl⟩) (by assumption) ?_
      try simp only [Act.put,Nh,Nk,Nn]
      refine wpAnyH_take (i:=19) (v:=undef) (by simp only [Nx,Nu,Nv];rfl) (by kernel_rfl) (by kernel_rfl) (by kernel_rfl) (by exact λ_ _ _ h=>h) (PE ⟨by rfl,rfl⟩) (by assumption) ?_
      try simp only [Act.put,Nh,Nk,Nn]
      refine wpAnyH_take (i:=20) (v:=undef) (by simp only [Nx,Nu,Nv];rfl) (by kernel_rfl) (by kernel_rfl) (by kernel_rfl) (by exact λ_ _ _ h=>h) (PE ⟨by rfl,rfl⟩) (by assumption) ?_
      try simp only [Act.put,Nh,Nk,Nn]
      refine wpAnyH_take (i:=21) (v:=undef) (by simp only [Nx,Nu,Nv];rfl) (by kernel_rfl) (by kernel_rfl) (by kernel_rfl) (by exact λ_ _ _ h=>h) (PE ⟨by rfl,rfl⟩) (by assumption) ?_
      try simp only [Act.put,Nh,Nk,Nn]
      refine wpAnyH_take (i:=22) (v:=undef) (by simp only [Nx,Nu,Nv];rfl) (by kernel_rfl) (by kernel_rfl) (by kernel_rfl) (by exact λ_ _ _ h=>h) (PE ⟨by rfl,rfl⟩) (by assumption) ?_
      try simp only [Act.put,Nh,Nk,Nn]
      refine wpAnyH_take (i:=23) (v:=undef) (by simp only [Nx,Nu,Nv];rfl) (by kernel_rfl) (by kernel_rfl) (by kernel_rfl) (by exact λ_ _ _ h=>h) (PE ⟨by rfl,rfl⟩) (by assumption) ?_
      try simp only [Act.put,Nh,Nk,Nn]
      refine wpAnyH_take (i:=24) (v:=undef) (by simp only [Nx,Nu,Nv];rfl) (by kernel_rfl) (by kernel_rfl) (by kernel_rfl) (by exact λ_ _ _ h=>h) (PE ⟨by rfl,rfl⟩) (by assumption) ?_
      try simp only [Act.put,Nh,Nk,Nn]
      refine wpAnyH_take (i:=25) (v:=undef) (by simp only [Nx,Nu,Nv];rfl) (by kernel_rfl) (by kernel_rfl) (by kernel_rfl) (by exact λ_ _ _ h=>h) (PE ⟨by rfl,rfl⟩) (by assumption) ?_
      try simp only [Act.put,Nh,Nk,Nn]
      refine wpAnyH_take (i:=26) (v:=undef) (by simp only [Nx,Nu,Nv];rfl) (by kernel_rfl) (by kernel_rfl) (by kernel_rfl) (by exact λ_ _ _ h=>h) (PE ⟨by rfl,rfl⟩) (by assumption) ?_
      try simp only [Act.put,Nh,Nk,Nn]
      refine wpAnyH_take (i:=27) (v:=?_) (by simp only [Nx,Nu,Nv];rfl) (by kernel_rfl) (by kernel_rfl) (by kernel_rfl) (by exact λ_ _ _ h=>h) (Od ⟨by rfl,?_⟩) (by assumption) ?_
      rotate_left
      ·(intro w hSw;(try dsimp only at hSw);obtain ⟨hSa,hSb,hSc⟩:=hSw;go_simp;first | done | with_reducible rfl)
      try simp only [Act.put,Nh,Nk,Nn]
      refine wpAnyH_take (i:=28) (v:=?_) (by simp only [Nx,Nu,Nv];rfl) (by kernel_rfl) (by kernel_rfl) (by kernel_rfl) (by exact λ_ _ _ h=>h) (Od ⟨by rfl,?_⟩) (by assumption) ?_
      rotate_left
      ·(intro w hSw;(try dsimp only at hSw);obtain ⟨hSa,hSb,hSc⟩:=hSw;go_simp;first | done | with_reducible rfl)
      try simp only [Act.put,Nh,Nk,Nn]
      refine wpAnyH_done (by kernel_rfl) ?_ _
      go_wp2_with fail
      go_ret
      exact ⟨by rw [HR4.out];rfl,RZ hb2 hb4w⟩
    ·have hcf : C.cos=false:=by simpa using hcos
     rw [Nf hcos] at HR3
     rw [hcf] at p7
     clear hcos hcf
     by_cases hM : r1=C.M
     ·have HR4 : Hid (RS=true):=by show _=_;rw [HR3.out,NB hM]
      have hd : ((r1 : Int) == C.M)=true:=by simp;omega
      clear hM
      go_wp2_with fail
      go_ret
      exact ⟨by rw [HR4.out];rfl,hb2⟩
     ·have HR4 : Hid (RS=false):=by show _=_;rw [HR3.out,NA hM]
      have hd : ((r1 : Int) == C.M)=false:=by simp;omega
      clear hM
      go_wp2_with fail
      go_ret
      exact ⟨by rw [HR4.out];rfl,hb2⟩
   ·have hne : ((r1 : Int) != k)=true:=by simp;omega
    have HR3 : Hid (RS=false):=by show _=_;rw [HR2.out,NA hrr];rfl
    clear hrr
    go_wp2_with fail
    go_ret
    exact ⟨by rw [HR3.out];rfl,hb2⟩
end Go.Proofs.YthglbncgemdcbaaGreat
