import Derived.Test.YthglbncgemdcbaaGreatCK14
namespace Go.Proofs.YthglbncgemdcbaaGreat
set_option linter.all false
set_option maxRecDepth 100000
set_option maxHeartbeats 8000000
open Go.RowKit Go.Proofs.Tryz
theorem pj {w w0 : World} {b : Nat} {G : cX} {a : OA} {n : Nat} {L : Ll} {m : Nat} {ay : OA} {ny : Nat} {C : iz} (pb : Nat) (P M : Int) (am : OA) (mn cm c cy : Nat) (sv : Value) (kk : Nat)
  (sa : OA) (ns cs : Nat) (s : LI) (at' : OA) (nt ct : Nat) (t : LI)
  (E : zU w0 b G a n L m ay ny C) (hb : OC w0 w) (hB : aO w pb (lL b P M am mn cm m a n c ay ny cy C sv kk)) (hs : Ints w sa ns s) (ht : Ints w at' nt t) (hns : ns<=1000) :
  Calls prog 233 #[.pointer (some ⟨pb,0,none⟩),.slice sa ns cs,.slice at' nt ct] w λe w'=>e = .returned (.bool (dm G.ops L m C s t))/\OC w w':=by
 have hplt:=ht.pl;have hmaxt:=ht.max;unfold maxLen at hmaxt;have Htl:=Z5 ht.len;have Hsl:=Z5 hs.len;have p0:=hB.cell 0 rfl;have p4:=hB.cell 4 rfl;have p5:=hB.cell 5 rfl;have HBx:=Z5 hB;have HE:=Z5 E;have hG:=E.g.af hb;have hi:=E.je.af hb;have hm6:=E.m6;obtain ⟨RS,hRS⟩ : ∃RS,dm G.ops L m C s t=RS:=⟨_,rfl⟩
 rw [hRS];have HRS : Hid (RS=dm G.ops L m C s t):=hRS.symm;have Hbad : Hid (∀k,k<nt->(jH m t k=false\/nth t k ∈ s)->RS=false):=λk hk h=>by
  rw [HRS.out,dm,kU];rcases h with h | h
  ·have h1 : fF m t=false:=A9 (by rw [Htl.out];exact hk) h;rw [h1];rfl
  ·have h1 : t.all (λx=>decide (¬ x ∈ s))=false:=by rw [Le];exact ⟨nth t k,aI (by rw [Htl.out];exact hk),by simpa using h⟩
   rw [h1,Nh];rfl
 clear hB E hRS;go_enter func233,ntmps233;go_wp2_with fail;go_loop [11] (λiv=>∃k : Nat,k<=nt/\iv = .int .i64 k/\Hid (rR m t k=true)/\Hid (∀j,j<k->¬ nth t j ∈ s)) (λiv=>nt - (intOf iv).toNat);case atStart=>exact ⟨0,JU _,rfl,(show _=_ by simp [rR]),λj hj=>by omega⟩
 case round =>
  obtain ⟨k,hk,rfl,hok,hnot⟩:=hrel
  by_cases hlt : k<nt
  ·have ck:=ht.cell k hlt
   have HcA:=Z5 (dp sa ns cs s (nth t k) w hs)
   have Hgo : Hid (¬ nth t k ∈ s->∀j,j<k+1->¬ nth t j ∈ s):=λh j hj=>by
    by_cases e : j=k
    ·rw [e];exact h
    ·exact hnot.out j (by omega)
   by_cases h0 : 0<=nth t k
   ·by_cases h1 : nth t k<m
    ·have d1 : decide (nth t k<0)=false:=by simp;omega
     have d2 : decide ((m : Int)<=nth t k)=false:=by simp;omega
     by_cases hk0 : k=0
     ·subst hk0
      have Hgood : Hid (jH m t 0=true):=by show _=_;unfold jH;simp [h0,h1]
      rw [MW] at ck
      by_cases hmem : nth t 0 ∈ s
      ·have hmd : decide (nth t 0 ∈ s)=true:=by simpa using hmem
       have Hb : Hid (RS=false):=Hbad.out 0 hlt (.inr hmem)
       rw [hmd] at HcA
       clear hmem hmd
       go_wp2_with fail
       refine HcA.out.mono ?_
       rintro e w6 ⟨rfl,rfl⟩
       go_wp2_with fail
       go_ret
       exact ⟨by rw [Hb.out];rfl,JP _ _⟩
      ·have hmd : decide (nth t 0 ∈ s)=false:=by simpa using hmem
       have Hgo2 : Hid (∀j,j<0+1->¬ nth t j ∈ s):=Hgo.out hmem
       rw [hmd] at HcA
       clear hmem hmd
       go_wp2_with fail
       refine HcA.out.mono ?_
       rintro e w6 ⟨rfl,rfl⟩
       go_wp2_with fail
       go_round
       case rel=>exact ⟨1,by omega,by go_num,lF hok.out Hgood.out,Hgo2.out⟩
       case measure=>simp [intOf] <;> omega
     ·have cp:=ht.cell (k - 1) (by omega)
      have e1 : ((k : Int) - 1).toNat=k - 1:=by omega
      have d3 : decide (0<(k : Int))=true:=by simp;omega
      have d4 : (0 : Int)<=(k : Int) - 1:=by omega
      have d5 : (1 : Int)<=(k : Int):=by omega
      have d6 : (k : Int) - 1<nt:=by omega
      by_cases h2 : nth t (k - 1)<nth t k
      ·have Hgood : Hid (jH m t k=true):=by show _=_;unfold jH;simp [h0,h1,h2]
       have h2' : decide (nth t k<=nth t (k - 1))=false:=by simp;omega
       by_cases hmem : nth t k ∈ s
       ·have hmd : decide (nth t k ∈ s)=true:=by simpa using hmem
        have Hb : Hid (RS=false):=Hbad.out k hlt (.inr hmem)
        rw [hmd] at HcA
        clear hmem hmd hk0 e1
        go_wp2_with fail
        refine HcA.out.mono ?_
        rintro e w6 ⟨rfl,rfl⟩
        go_wp2_with fail
        go_ret
        exact ⟨by rw [Hb.out];rfl,JP _ _⟩
       ·have hmd : decide (nth t k ∈ s)=false:=by simpa using hmem
        have Hgo2:=Z5 (Hgo.out hmem)
        rw [hmd] at HcA
        clear hmem hmd hk0 e1
        go_wp2_with fail
        refine HcA.out.mono ?_
        rintro e w6 ⟨rfl,rfl⟩
        go_wp2_with fail
        go_round
        case rel=>exact ⟨k+1,by omega,by go_num,lF hok.out Hgood.out,Hgo2.out⟩
        case measure=>simp [intOf] <;> omega
      ·have Hb : Hid (RS=false):=Hbad.out k hlt (.inl (by unfold jH;simp [h2,hk0]))
       have h2' : decide (nth t k<=nth t (k - 1))=true:=by simp;omega
       clear hk0 e1
       go_wp2_with fail
       go_ret
       exact ⟨by rw [Hb.out];rfl,JP _ _⟩
    ·have Hb : Hid (RS=false):=Hbad.out k hlt (.inl (by unfold jH;simp [h1]))
     have d1 : decide (nth t k<0)=false:=by simp;omega
     have d2 : decide ((m : Int)<=nth t k)=true:=by simp;omega
     go_wp2_with fail
     go_ret
     exact ⟨by rw [Hb.out];rfl,JP _ _⟩
   ·have Hb : Hid (RS=false):=Hbad.out k hlt (.inl (by unfold jH;simp [h0]))
    have d1 : decide (nth t k<0)=true:=by simp;omega
    go_wp2_with fail
    go_ret
    exact ⟨by rw [Hb.out];rfl,JP _ _⟩
  ·have hkn : k=nt:=by omega
   subst hkn
   have hoks : fF m t=true:=by rw [fF,Htl.out];exact hok.out
   have hset : kU m s t=true:=by rw [kU,hoks,Lm,Ky];intro x hx;obtain ⟨j,hj,rfl⟩:=List.mem_iff_getElem.1 hx;have h1:=hnot.out j (by rw [<- Htl.out];exact hj);rw [aj hj] at h1;simpa using h1
   have hrng : ∀j,j<k->0<=nth t j/\nth t j<m:=λj hj=>oq hoks j (by rw [Htl.out];exact hj)
   have hklen : k<=m:=by have h1:=jB hoks (by omega);rw [Htl.out] at h1;omega
   have HR2 : Hid (RS=(decide ((lT G.ops L t).length=k) && if C.cos=true then decide ((lT G.ops L (frTo false s m)).length=k) && decide (C.W<s.length+kg G.ops L C.y s t) else decide (k=C.M))):=by show _=_;rw [HRS.out,dm,hset,Lm,Htl.out]
   have hgm : xl G.ops L t k=lT G.ops L t:=EL (by rw [Htl.out];exact JO _)
   have HGr0:=Z5 (nU pb a n c L m at' k ct t k p0 p5 hG hi HE.out.rws ht hrng HE.out.n6 (by omega))
   rw [hgm] at HGr0
   have Hrng:=Z5 hrng
   have hr1 : (lT G.ops L t).length<=k:=by have:=Ae G.ops L t;rw [Htl.out] at this;exact this
   obtain ⟨r1,hr1e⟩ : ∃r1,(lT G.ops L t).length=r1:=⟨_,rfl⟩
   unfold db at HGr0
   rw [hr1e] at hr1 HGr0 HR2
   clear hoks hset hrng hgm hr1e Hbad
   go_wp2_with fail
   refine HGr0.out.mono ?_
   rintro e w2 ⟨a2,c2,rfl,hown2,hb2⟩
   have hB2:=HBx.out.af hb2
   have p7:=hB2.cell 7 rfl
   have p8:=hB2.cell 8 rfl
   by_cases hrr : r1=k
   ·subst hrr
    have HR3 : Hid (RS=if C.cos=true then decide ((lT G.ops L (frTo false s m)).length=r1) && decide (C.W<s.length+kg G.ops L C.y s t) else decide (r1=C.M)):=by show _=_;rw [HR2.out,Kc rfl,Lm]
    have hne : ((r1 : Int) != r1)=false:=by simp
    by_cases hcos : C.cos=true
    ·rw [JT hcos] at HR3
     rw [hcos] at p7
     have hb02:=hb.trans (hb2.mono hb.size)
     have hyl:=HE.out.yl hcos
     have hy:=(HE.out.y hcos).af hb02
     have hye:=HE.out.ye hcos
     have HS : Hid (∀V : World,OC w2 V->V.cell? ⟨pb,4,none⟩=some (.int .i64 m)/\V.cell? ⟨pb,9,none⟩=some (.int .i64 C.W)/\OC w2 V) :=
      λV hV=>⟨(hB2.af hV).cell 4 rfl,(hB2.af hV).cell 9 rfl,hV⟩
     have hs2:=hs.af hb2
     have ht2:=ht.af hb2
     have HO : Hid (∀V : World,OC w2 V->Calls prog 232 #[.pointer (some ⟨pb,0,none⟩),.slice sa ns cs,.slice none 0 0] V λe w'=>∃a3 c3,e = .returned (.slice a3 (frTo false s m).length c3) /\
       w'.ownsRow V.heap.size 3 1 (.slice a3 (frTo false s m).length c3) (frTo false s m).length ((frTo false s m).map (Value.int .i64))/\OC V w'):=λV hV=>by have h1:=sc pb m sa ns cs s none 0 0 [] V ((hB2.af hV).cell 4 rfl) (hs2.af hV) (N5 _ _) (by omega) (by omega);rw [OH] at h1;exact h1
     obtain ⟨r2,hr2e⟩ : ∃r2,(lT G.ops L (frTo false s m)).length=r2:=⟨_,rfl⟩
     have hfl:=jA false s m
     have HGr : Hid (∀(V : World) a3 c3,OC w2 V->Ints V a3 (frTo false s m).length (frTo false s m)->Calls prog 231 #[.pointer (some ⟨pb,0,none⟩),.slice a3 (frTo false s m).length c3,.int .i64 m] V
       λe w'=>∃a4 c4,e = .returned (.slice a4 r2 c4)/\OC V w'):=λV a3 c3 hV h3=>by
      have hbV:=hb02.trans (hV.mono hb02.size);refine (nU pb a n c L m a3 _ c3 (frTo false s m) m ((hB2.af hV).cell 0 rfl) ((hB2.af hV).cell 5 rfl) (HE.out.g.af hbV) (HE.out.je.af hbV) HE.out.rws h3 (λj hj=>?_) HE.out.n6 (by omega)).mono ?_
      ·obtain ⟨x,hx,e,_⟩:=(eo m).1 (aI hj);omega
      ·rintro e w' ⟨a4,c4,rfl,_,hb4⟩;rw [EL hfl];exact ⟨a4,c4,by rw [hr2e],hb4⟩
     have HLi : Hid (∀V : World,OC w2 V->Calls prog 261 #[.pointer (some ⟨pb,0,none⟩),.slice sa ns cs,.slice at' r1 ct] V λe w'=>e = .returned (.int .i64 (kg G.ops L C.y s t))/\OC V w'):=λV hV=>by have hbV:=hb02.trans (hV.mono hb02.size);have hBV:=hB2.af hV;have p6:=hBV.cell 6 rfl;rw [hyl] at p6;exact OE pb a n c L m ay cy C.y sa ns cs s at' r1 ct t (hBV.cell 0 rfl) (hBV.cell 5 rfl) p6 (HE.out.g.af hbV) (HE.out.je.af hbV) HE.out.rws (hy.af hV) hye (hs2.af hV) (ht2.af hV) Hrng.out HE.out.n6 (by omega) (by omega)
     have hll : kg G.ops L C.y s t<=1000000:=J4 (OD _ _ _) (by rw [(OI (Oq hG) HE.out.rws ⟨hy.len,hye⟩ (λj hj=>by have:=Hrng.out j (by rw [<- Htl.out];exact hj);omega) _ (JO _)).2.1.1];omega)
     rw [hr2e,Hsl.out] at HR3
     obtain ⟨li,hli⟩ : ∃li,kg G.ops L C.y s t=li:=⟨_,rfl⟩
     rw [hli] at hll HLi HR3
     generalize (frTo false s m).length=fl at *
     have hw6:=HE.out.w6
     clear hr2e hli hyl hy hye p8 hcos
     by_cases hr2 : r2=r1
     ·subst hr2
      have HR4 : Hid (RS=decide (C.W<ns+li)):=by show _=_;rw [HR3.out,Kc rfl,Lm]
      have heq : ((r2 : Int) == r2)=true:=by simp
      go_upto_region 11 with fail
      have hwr : IntKind.i64.wrap ((ns : Int)+(li : Int))=(ns : Int)+(li : Int):=J3 _ (by omega)
      have hWd : ∃z,decide ((C.W : Int)<(ns : Int)+(li : Int))=z/\Hid (RS=z):=⟨_,rfl,by show _=_;rw [HR4.out];exact decide_eq_decide.2 (by omega)⟩
      obtain ⟨z,hz,Hz⟩:=hWd
      go_cut [6] (λv wx=>v = .bool z/\OC w2 wx)
      case first =>
       go_region_held3 (λW=>W.cell? ⟨pb,4,none⟩=some (.int .i64 m)/\W.cell? ⟨pb,9,none⟩=some (.int .i64 C.W)/\OC w2 W)
        ((refine HS.out _ ?_;first | exact hb5w | exact hb4w | exact hb3w | exact (JP _ _).drew | assumption | (go_split_ands;assumption)))
        (first
        | (go_at_call 232;((with_reducible refine (HO.out _ (by go_split_ands;assumption)).mono ?_);rintro e w3 ⟨a3,c3,rfl,hown3,hb3⟩;have hb3w : OC w2 w3:=(by go_split_ands;exact NX (by assumption) hb3)))
        | (go_at_call 231;((with_reducible refine (HGr.out _ _ _ (by go_split_ands;assumption) ((NZ hown3).1.af (by first | exact JP _ _ | exact (JP _ _).drew))).mono ?_);rintro e w4 ⟨a4,c4,rfl,hb4⟩;have hb4w : OC w2 w4:=(by go_split_ands;exact NX (by assumption) hb4)))
        | (go_at_call 261;((with_reducible refine (HLi.out _ (by go_split_ands;assumption)).mono ?_);rintro e w5 ⟨rfl,hb5⟩;have hb5w : OC w2 w5:=(by go_split_ands;exact NX (by assumption) hb5))))
       all_goals (go_wp2_with fail;go_meet;exact ⟨rfl,hb5w⟩)
      obtain ⟨rfl,hb5w⟩:=hcut
      generalize wc=w5 at *
      go_wp2_with fail
      go_ret
      exact ⟨by rw [Hz.out];rfl,NX hb2 hb5w⟩
     ·have HR4 : Hid (RS=false):=by show _=_;rw [HR3.out,Kb hr2];rfl
      have heq : ((r2 : Int) == r1)=false:=by simp;omega
      clear hr2
      go_upto_region 11 with fail
      refine wp_region_held_drew (S:=(λW : World=>W.cell? ⟨pb,4,none⟩=some (.int .i64 m)/\W.cell? ⟨pb,9,none⟩=some (.int .i64 C.W)/\OC w2 W)) (by kernel_rfl) ?_ (λhHeld=>?_)
      ·exact HS.out _ (JP _ _).drew
      refine wpAnyH_take (i:=0) (v:=?_) (by simp only [KC,Kq,Kv];rfl) (by kernel_rfl) (by kernel_rfl) (by kernel_rfl) (by exact λ_ _ _ h=>h) (KR ⟨by rfl,?_⟩) (by assumption) ?_
      rotate_left
      ·(intro w hSw;(try dsimp only at hSw);obtain ⟨hSa,hSb,hSc⟩:=hSw;go_simp;first | done | with_reducible rfl)
      try simp only [Act.put,JV,JY,J1]
      refine wpAnyH_take (i:=1) (v:=?_) (by simp only [KC,Kq,Kv];rfl) (by kernel_rfl) (by kernel_rfl) (by kernel_rfl) (by exact λ_ _ _ h=>h) (KR ⟨by rfl,?_⟩) (by assumption) ?_
      rotate_left
      ·(intro w hSw;(try dsimp only at hSw);obtain ⟨hSa,hSb,hSc⟩:=hSw;go_simp;first | done | with_reducible rfl)
      try simp only [Act.put,JV,JY,J1]
      refine wpAnyH_take (i:=2) (v:=?_) (by simp only [KC,Kq,Kv];rfl) (by kernel_rfl) (by kernel_rfl) (by kernel_rfl) (by exact λ_ _ _ h=>h) (KR ⟨by rfl,?_⟩) (by assumption) ?_
      rotate_left
      ·(intro w hSw;(try dsimp only at hSw);obtain ⟨hSa,hSb,hSc⟩:=hSw;go_simp;first | done | with_reducible rfl)
      try simp only [Act.put,JV,JY,J1]
      refine wpAnyH_take (i:=4) (v:=?_) (by simp only [KC,Kq,Kv];rfl) (by kernel_rfl) (by kernel_rfl) (by kernel_rfl) (by exact λ_ _ _ h=>h) (KR ⟨by rfl,?_⟩) (by assumption) ?_
      rotate_left
      ·(intro w hSw;(try dsimp only at hSw);obtain ⟨hSa,hSb,hSc⟩:=hSw;go_simp;first | done | with_reducible rfl)
      try simp only [Act.put,JV,JY,J1]
      refine wpAnyH_take (i:=5) (v:=?_) (by simp only [KC,Kq,Kv];rfl) (by kernel_rfl) (by kernel_rfl) (by kernel_rfl) (by exact λ_ _ _ h=>h) (KR ⟨by rfl,?_⟩) (by assumption) ?_
      rotate_left
      ·(intro w hSw;(try dsimp only at hSw);obtain ⟨hSa,hSb,hSc⟩:=hSw;go_simp;first | done | with_reducible rfl)
      try simp only [Act.put,JV,JY,J1]
      refine wpAnyH_take (i:=6) (v:=?_) (by simp only [KC,Kq,Kv];rfl) (by kernel_rfl) (by kernel_rfl) (by kernel_rfl) (by exact λ_ _ _ h=>h) (KR ⟨by rfl,?_⟩) (by assumption) ?_
      rotate_left
      ·(intro w hSw;(try dsimp only at hSw);obtain ⟨hSa,hSb,hSc⟩:=hSw;go_simp;first | done | with_reducible rfl)
      try simp only [Act.put,JV,JY,J1]
      refine wpAnyH_take (i:=7) (v:=?_) (by simp only [KC,Kq,Kv];rfl) (by kernel_rfl) (by kernel_rfl) (by kernel_rfl) (by exact λ_ _ _ h=>h) (KR ⟨by rfl,?_⟩) (by assumption) ?_
      rotate_left
      ·(intro w hSw;(try dsimp only at hSw);obtain ⟨hSa,hSb,hSc⟩:=hSw;go_simp;first | done | with_reducible rfl)
      try simp only [Act.put,JV,JY,J1]
      refine wpAnyH_take (i:=8) (v:=?_) (by simp only [KC,Kq,Kv];rfl) (by kernel_rfl) (by kernel_rfl) (by kernel_rfl) (by exact λ_ _ _ h=>h) (KR ⟨by rfl,?_⟩) (by assumption) ?_
      rotate_left
      ·(intro w hSw;(try dsimp only at hSw);obtain ⟨hSa,hSb,hSc⟩:=hSw;go_simp;first | done | with_reducible rfl)
      try simp only [Act.put,JV,JY,J1]
      refine wpAnyH_take (i:=11) (v:=?_) (by simp only [KC,Kq,Kv];rfl) (by kernel_rfl) (by kernel_rfl) (by kernel_rfl) (by exact λ_ _ _ h=>h) (KR ⟨by rfl,?_⟩) (by assumption) ?_
      rotate_left
      ·(intro w hSw;(try dsimp only at hSw);obtain ⟨hSa,hSb,hSc⟩:=hSw;go_simp;first | done | with_reducible rfl)
      try simp only [Act.put,JV,JY,J1]
      refine wpAnyH_take (i:=12) (v:=?_) (by simp only [KC,Kq,Kv];rfl) (by kernel_rfl) (by kernel_rfl) (by kernel_rfl) (by exact λ_ _ _ h=>h) (KR ⟨by rfl,?_⟩) (by assumption) ?_
      rotate_left
      ·(intro w hSw;(try dsimp only at hSw);obtain ⟨hSa,hSb,hSc⟩:=hSw;go_simp;first | done | with_reducible rfl)
      try simp only [Act.put,JV,JY,J1]
      refine wpAnyH_ready (rs:=[3]) (by kernel_rfl) (by simp) ?_
      refine AllReadyH.cons rfl (λK hK=>?_) AllReadyH.nil
      go_simp
      refine (HO.out _ (by exact (JP _ _).drew)).mono ?_;rintro e w3 ⟨a3,c3,rfl,hown3,hb3⟩;have hb3w : OC w2 w3:=NX (JP _ _).drew hb3
      go_wp2_with fail
      refine hK.out _ _ ?_ (λhHeld=>?_)
      ·exact HS.out _ hb3w
      clear hK K
      try simp only [Act.put,JV,JY,J1]
      refine wpAnyH_ready (rs:=[9]) (by kernel_rfl) (by simp) ?_
      refine AllReadyH.cons rfl (λK hK=>?_) AllReadyH.nil
      go_simp
      refine (HGr.out w3 a3 c3 hb3w (NZ hown3).1).mono ?_;rintro e w4 ⟨a4,c4,rfl,hb4⟩;have hb4w : OC w2 w4:=NX hb3w hb4
      go_wp2_with fail
      refine hK.out _ _ ?_ (λhHeld=>?_)
      ·exact HS.out _ hb4w
      clear hK K
      try simp only [Act.put,JV,JY,J1]
      refine wpAnyH_take (i:=10) (v:=?_) (by simp only [KC,Kq,Kv];rfl) (by kernel_rfl) (by kernel_rfl) (by kernel_rfl) (by exact λ_ _ _ h=>h) (KR ⟨by rfl,?_⟩) (by assumption) ?_
      rotate_left
      ·(intro w hSw;(try dsimp only at hSw);obtain ⟨hSa,hSb,hSc⟩:=hSw;go_simp;first | done | with_reducible rfl)
      try simp only [Act.put,JV,JY,J1]
      refine wpAnyH_take (i:=13) (v:=?_) (by simp only [KC,Kq,Kv];rfl) (by kernel_rfl) (by kernel_rfl) (by kernel_rfl) (by exact λ_ _ _ h=>h) (KR ⟨by rfl,?_⟩) (by assumption) ?_
      rotate_left
      ·(intro w hSw;(try dsimp only at hSw);obtain ⟨hSa,hSb,hSc⟩:=hSw;go_simp;first | done | with_reducible rfl)
      try simp only [Act.put,JV,JY,J1]
      refine wpAnyH_take (i:=14) (v:=?_) (by simp only [KC,Kq,Kv];rfl) (by kernel_rfl) (by kernel_rfl) (by kernel_rfl) (by exact λ_ _ _ h=>h) (KR ⟨by rfl,?_⟩) (by assumption) ?_
      rotate_left
      ·(intro w hSw;(try dsimp only at hSw);obtain ⟨hSa,hSb,hSc⟩:=hSw;go_simp;first | done | with_reducible rfl)
      try simp only [Act.put,JV,JY,J1]
      refine wpAnyH_take (i:=15) (v:=undef) (by simp only [KC,Kq,Kv];rfl) (by kernel_rfl) (by kernel_rfl) (by kernel_rfl) (by exact λ_ _ _ h=>h) (Nt ⟨by rfl,rfl⟩) (by assumption) ?_
      try simp only [Act.put,JV,JY,J1]
      refine wpAnyH_take (i:=16) (v:=undef) (by simp only [KC,Kq,Kv];rfl) (by kernel_rfl) (by kernel_rfl) (by kernel_rfl) (by exact λ_ _ _ h=>h) (Nt ⟨by rfl,rfl⟩) (by assumption) ?_
      try simp only [Act.put,JV,JY,J1]
      refine wpAnyH_take (i:=17) (v:=undef) (by simp only [KC,Kq,Kv];rfl) (by kernel_rfl) (by kernel_rfl) (by kernel_rfl) (by exact λ_ _ _ h=>h) (Nt ⟨by rfl,rfl⟩) (by assumption) ?_
      try simp only [Act.put,JV,JY,J1]
      refine wpAnyH_take (i:=18) (v:=undef) (by simp only [KC,Kq,Kv];rfl) (by kernel_rfl) (by kernel_rfl) (by kernel_rfl) (by exact λ_ _ _ h=>h) (Nt ⟨by rfl,rfl⟩) (by assumption) ?_
      try simp only [Act.put,JV,JY,J1]
      refine wpAnyH_take (i:=19) (v:=undef) (by simp only [KC,Kq,Kv];rfl) (by kernel_rfl) (by kernel_rfl) (by kernel_rfl) (by exact λ_ _ _ h=>h) (Nt ⟨by rfl,rfl⟩) (by assumption) ?_
      try simp only [Act.put,JV,JY,J1]
      refine wpAnyH_take (i:=20) (v:=undef) (by simp only [KC,Kq,Kv];rfl) (by kernel_rfl) (by kernel_rfl) (by kernel_rfl) (by exact λ_ _ _ h=>h) (Nt ⟨by rfl,rfl⟩) (by assumption) ?_
      try simp only [Act.put,JV,JY,J1]
      refine wpAnyH_take (i:=21) (v:=undef) (by simp only [KC,Kq,Kv];rfl) (by kernel_rfl) (by kernel_rfl) (by kernel_rfl) (by exact λ_ _ _ h=>h) (Nt ⟨by rfl,rfl⟩) (by assumption) ?_
      try simp only [Act.put,JV,JY,J1]
      refine wpAnyH_take (i:=22) (v:=undef) (by simp only [KC,Kq,Kv];rfl) (by kernel_rfl) (by kernel_rfl) (by kernel_rfl) (by exact λ_ _ _ h=>h) (Nt ⟨by rfl,rfl⟩) (by assumption) ?_
      try simp only [Act.put,JV,JY,J1]
      refine wpAnyH_take (i:=23) (v:=undef) (by simp only [KC,Kq,Kv];rfl) (by kernel_rfl) (by kernel_rfl) (by kernel_rfl) (by exact λ_ _ _ h=>h) (Nt ⟨by rfl,rfl⟩) (by assumption) ?_
      try simp only [Act.put,JV,JY,J1]
      refine wpAnyH_take (i:=24) (v:=undef) (by simp only [KC,Kq,Kv];rfl) (by kernel_rfl) (by kernel_rfl) (by kernel_rfl) (by exact λ_ _ _ h=>h) (Nt ⟨by rfl,rfl⟩) (by assumption) ?_
      try simp only [Act.put,JV,JY,J1]
      refine wpAnyH_take (i:=25) (v:=undef) (by simp only [KC,Kq,Kv];rfl) (by kernel_rfl) (by kernel_rfl) (by kernel_rfl) (by exact λ_ _ _ h=>h) (Nt ⟨by rfl,rfl⟩) (by assumption) ?_
      try simp only [Act.put,JV,JY,J1]
      refine wpAnyH_take (i:=26) (v:=undef) (by simp only [KC,Kq,Kv];rfl) (by kernel_rfl) (by kernel_rfl) (by kernel_rfl) (by exact λ_ _ _ h=>h) (Nt ⟨by rfl,rfl⟩) (by assumption) ?_
      try simp only [Act.put,JV,JY,J1]
      refine wpAnyH_take (i:=27) (v:=?_) (by simp only [KC,Kq,Kv];rfl) (by kernel_rfl) (by kernel_rfl) (by kernel_rfl) (by exact λ_ _ _ h=>h) (KR ⟨by rfl,?_⟩) (by assumption) ?_
      rotate_left
      ·(intro w hSw;(try dsimp only at hSw);obtain ⟨hSa,hSb,hSc⟩:=hSw;go_simp;first | done | with_reducible rfl)
      try simp only [Act.put,JV,JY,J1]
      refine wpAnyH_take (i:=28) (v:=?_) (by simp only [KC,Kq,Kv];rfl) (by kernel_rfl) (by kernel_rfl) (by kernel_rfl) (by exact λ_ _ _ h=>h) (KR ⟨by rfl,?_⟩) (by assumption) ?_
      rotate_left
      ·(intro w hSw;(try dsimp only at hSw);obtain ⟨hSa,hSb,hSc⟩:=hSw;go_simp;first | done | with_reducible rfl)
      try simp only [Act.put,JV,JY,J1]
      refine wpAnyH_done (by kernel_rfl) ?_ _
      go_wp2_with fail
      go_ret
      exact ⟨by rw [HR4.out];rfl,NX hb2 hb4w⟩
    ·have hcf : C.cos=false:=by simpa using hcos
     rw [JR hcos] at HR3
     rw [hcf] at p7
     clear hcos hcf
     by_cases hM : r1=C.M
     ·have HR4 : Hid (RS=true):=by show _=_;rw [HR3.out,Kc hM]
      have hd : ((r1 : Int) == C.M)=true:=by simp;omega
      clear hM
      go_wp2_with fail
      go_ret
      exact ⟨by rw [HR4.out];rfl,hb2⟩
     ·have HR4 : Hid (RS=false):=by show _=_;rw [HR3.out,Kb hM]
      have hd : ((r1 : Int) == C.M)=false:=by simp;omega
      clear hM
      go_wp2_with fail
      go_ret
      exact ⟨by rw [HR4.out];rfl,hb2⟩
   ·have hne : ((r1 : Int) != k)=true:=by simp;omega
    have HR3 : Hid (RS=false):=by show _=_;rw [HR2.out,Kb hrr];rfl
    clear hrr
    go_wp2_with fail
    go_ret
    exact ⟨by rw [HR3.out];rfl,hb2⟩
end Go.Proofs.YthglbncgemdcbaaGreat
