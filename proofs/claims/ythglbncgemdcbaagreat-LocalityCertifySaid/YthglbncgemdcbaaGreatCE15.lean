import Derived.Test.YthglbncgemdcbaaGreatCE13
namespace Go.Proofs.YthglbncgemdcbaaGreat
set_option linter.all false
set_option maxRecDepth 100000
set_option maxHeartbeats 8000000
open Go.RowKit Go.Proofs.Tryz
theorem qi {w w0:World} {b:Nat} {G:cZ} {a:OA} {n:Nat} {L:Ll} {m:Nat} {ay:OA} {ny:Nat} {C:js} (pb:Nat) (P M:Int) (am:OA) (mn cm c cy:Nat) (sv:Value) (kk:Nat)
  (sa:OA) (ns cs:Nat) (s:LI) (at':OA) (nt ct:Nat) (t:LI)
  (E:Ak w0 b G a n L m ay ny C) (hb:PY w0 w) (hB:aQ w pb (mA b P M am mn cm m a n c ay ny cy C sv kk)) (hs:Ints w sa ns s) (ht:Ints w at' nt t) (hns:ns<=1000) :
  Calls prog 233 #[.pointer (some ⟨pb,0,none⟩),.slice sa ns cs,.slice at' nt ct] w λe w'=>e = .returned (.bool (dx G.ops L m C s t))/\PY w w':=by
 have hplt:=ht.pl;have hmaxt:=ht.max;unfold maxLen at hmaxt;have F:=Z5 ht.len;have Hsl:=Z5 hs.len;have p0:=hB.cell 0 rfl;have p4:=hB.cell 4 rfl;have p5:=hB.cell 5 rfl;have HBx:=Z5 hB;have HE:=Z5 E;have hG:=E.g.af hb;have hi:=E.iZ.af hb;have hm6:=E.m6;obtain ⟨RS,hRS⟩:∃RS,dx G.ops L m C s t=RS:=⟨_,rfl⟩
 rw [hRS];have HRS:Hid (RS=dx G.ops L m C s t):=hRS.symm;have D:Hid (∀k,k<nt->(ke m t k=false\/nth t k ∈ s)->RS=false):=λk hk h=>by
  rw [HRS.out,dx,lP];rcases h with h | h
  ·have h1:fP m t=false:=BX (by rw [F.out];exact hk) h;rw [h1];rfl
  ·have h1:t.all (λx=>decide (¬ x ∈ s))=false:=by rw [MD];exact ⟨nth t k,aG (by rw [F.out];exact hk),by simpa using h⟩
   rw [h1,OE];rfl
 clear hB E hRS;go_enter func233,ntmps233;go_wp2_with fail;go_loop [11] (λiv=>∃k:Nat,k<=nt/\iv = cG k/\Hid (ru m t k=true)/\Hid (∀j,j<k->¬ nth t j ∈ s)) (λiv=>nt - (intOf iv).toNat);case atStart=>exact ⟨0,K0 _,rfl,(show _=_ by simp [ru]),λj hj=>by omega⟩
 case round =>
  obtain ⟨k,hk,rfl,hok,hnot⟩:=hrel
  by_cases hlt:k<nt
  ·have ck:=ht.cell k hlt
   have r:=Z5 (dg sa ns cs s (nth t k) w hs)
   have Hgo:Hid (¬ nth t k ∈ s->∀j,j<k+1->¬ nth t j ∈ s):=λh j hj=>by
    by_cases e:j=k
    ·rw [e];exact h
    ·exact hnot j (by omega)
   by_cases h0:0<=nth t k
   ·by_cases h1:nth t k<m
    ·have d1:decide (nth t k<0)=false:=by simp;omega
     have d2:decide ((m:Int)<=nth t k)=false:=by simp;omega
     by_cases hk0:k=0
     ·subst hk0
      have Hgood:Hid (ke m t 0=true):=by show _=_;unfold ke;simp [h0,h1]
      rw [O0] at ck
      by_cases Y:nth t 0 ∈ s
      ·have N:decide (nth t 0 ∈ s)=true:=by simpa using Y
       have Hb:Hid (RS=false):=D.out 0 hlt (.inr Y)
       rw [N] at r
       clear Y N
       go_wp2_with fail
       refine r.mono ?_
       rintro e w6 ⟨rfl,rfl⟩
       go_wp2_with fail
       go_ret
       exact ⟨by rw [Hb.out];rfl,KU _ _⟩
      ·have N:decide (nth t 0 ∈ s)=false:=by simpa using Y
       have Hgo2:Hid (∀j,j<0+1->¬ nth t j ∈ s):=Hgo Y
       rw [N] at r
       clear Y N
       go_wp2_with fail
       refine r.mono ?_
       rintro e w6 ⟨rfl,rfl⟩
       go_wp2_with fail
       go_round
       case rel=>exact ⟨1,by omega,by go_num,mq hok.out Hgood.out,Hgo2⟩
       case measure=>simp [intOf] <;> omega
     ·have cp:=ht.cell (k - 1) (by omega)
      have e1:((k:Int) - 1).toNat=k - 1:=by omega
      have d3:decide (0<(k:Int))=true:=by simp;omega
      have d4:(0:Int)<=(k:Int) - 1:=by omega
      have d5:(1:Int)<=(k:Int):=by omega
      have d6:(k:Int) - 1<nt:=by omega
      by_cases h2:nth t (k - 1)<nth t k
      ·have Hgood:Hid (ke m t k=true):=by show _=_;unfold ke;simp [h0,h1,h2]
       have h2':decide (nth t k<=nth t (k - 1))=false:=by simp;omega
       by_cases Y:nth t k ∈ s
       ·have N:decide (nth t k ∈ s)=true:=by simpa using Y
        have Hb:Hid (RS=false):=D k hlt (.inr Y)
        rw [N] at r
        clear Y N hk0 e1
        go_wp2_with fail
        refine r.mono ?_
        rintro e w6 ⟨rfl,rfl⟩
        go_wp2_with fail
        go_ret
        exact ⟨by rw [Hb.out];rfl,KU _ _⟩
       ·have N:decide (nth t k ∈ s)=false:=by simpa using Y
        have Hgo2:=Z5 (Hgo Y)
        rw [N] at r
        clear Y N hk0 e1
        go_wp2_with fail
        refine r.mono ?_
        rintro e w6 ⟨rfl,rfl⟩
        go_wp2_with fail
        go_round
        case rel=>exact ⟨k+1,by omega,by go_num,mq hok.out Hgood.out,Hgo2⟩
        case measure=>simp [intOf] <;> omega
      ·have Hb:Hid (RS=false):=D k hlt (.inl (by unfold ke;simp [h2,hk0]))
       have h2':decide (nth t k<=nth t (k - 1))=true:=by simp;omega
       clear hk0 e1
       go_wp2_with fail
       go_ret
       exact ⟨by rw [Hb.out];rfl,KU _ _⟩
    ·have Hb:Hid (RS=false):=D k hlt (.inl (by unfold ke;simp [h1]))
     have d1:decide (nth t k<0)=false:=by simp;omega
     have d2:decide ((m:Int)<=nth t k)=true:=by simp;omega
     go_wp2_with fail
     go_ret
     exact ⟨by rw [Hb.out];rfl,KU _ _⟩
   ·have Hb:Hid (RS=false):=D k hlt (.inl (by unfold ke;simp [h0]))
    have d1:decide (nth t k<0)=true:=by simp;omega
    go_wp2_with fail
    go_ret
    exact ⟨by rw [Hb.out];rfl,KU _ _⟩
  ·have hkn:k=nt:=by omega
   subst hkn
   have hoks:fP m t=true:=by rw [fP,F.out];exact hok
   have hset:lP m s t=true:=by rw [lP,hoks,Mw,LR];intro x hx;obtain ⟨j,hj,rfl⟩:=List.mem_iff_getElem.1 hx;have h1:=hnot j (by rw [<- F.out];exact hj);rw [aj hj] at h1;simpa using h1
   have hrng:∀j,j<k->0<=nth t j/\nth t j<m:=λj hj=>pL hoks j (by rw [F.out];exact hj)
   have hklen:k<=m:=by have h1:=mx hoks (by omega);rw [F.out] at h1;omega
   have HR2:Hid (RS=(decide ((mE G.ops L t).length=k) && if C.cos=true then decide ((mE G.ops L (frTo false s m)).length=k) && decide (C.W<s.length+gk G.ops L C.y s t) else decide (k=C.M))):=by show _=_;rw [HRS.out,dx,hset,Mw,F.out]
   have hgm:tD G.ops L t k=mE G.ops L t:=zg (by rw [F.out];exact KT _)
   have HGr0:=Z5 (kY pb a n c L m at' k ct t k p0 p5 hG hi HE.rws ht hrng HE.n6 (by omega))
   rw [hgm] at HGr0
   have Hrng:=Z5 hrng
   have hr1:(mE G.ops L t).length<=k:=by have:=Bl G.ops L t;rw [F.out] at this;exact this
   obtain ⟨r1,hr1e⟩:∃r1,(mE G.ops L t).length=r1:=⟨_,rfl⟩
   unfold cQ at HGr0
   rw [hr1e] at hr1 HGr0 HR2
   clear hoks hset hrng hgm hr1e D
   go_wp2_with fail
   refine HGr0.mono ?_
   rintro e w2 ⟨a2,c2,rfl,hown2,B⟩
   have hB2:=HBx.af B
   have p7:=hB2.cell 7 rfl
   have p8:=hB2.cell 8 rfl
   by_cases hrr:r1=k
   ·subst hrr
    have H:Hid (RS=if C.cos=true then decide ((mE G.ops L (frTo false s m)).length=r1) && decide (C.W<s.length+gk G.ops L C.y s t) else decide (r1=C.M)):=by show _=_;rw [HR2.out,Lj rfl,Mw]
    have hne:((r1:Int) != r1)=false:=by simp
    by_cases Q:C.cos=true
    ·rw [KX Q] at H
     rw [Q] at p7
     have hb02:=hb.trans (B.mono hb.size)
     have hyl:=HE.yl Q
     have hy:=(HE.y Q).af hb02
     have hye:=HE.ye Q
     have HS:Hid (∀V:World,PY w2 V->V.cell? ⟨pb,4,none⟩=some (cG m)/\V.cell? ⟨pb,9,none⟩=some (cG C.W)/\PY w2 V) :=
      λV hV=>⟨(hB2.af hV).cell 4 rfl,(hB2.af hV).cell 9 rfl,hV⟩
     have hs2:=hs.af B
     have ht2:=ht.af B
     have HO:Hid (∀V:World,PY w2 V->Calls prog 232 #[.pointer (some ⟨pb,0,none⟩),.slice sa ns cs,ds] V λe w'=>∃a3 c3,e = .returned (.slice a3 (frTo false s m).length c3) /\
       w'.ownsRow V.heap.size 3 1 (.slice a3 (frTo false s m).length c3) (frTo false s m).length ((frTo false s m).map (Value.int .i64))/\PY V w'):=λV hV=>by have h1:=mN pb m sa ns cs s none 0 0 [] V ((hB2.af hV).cell 4 rfl) (hs2.af hV) (Pu _ _) (by omega) (by omega);rw [Gh] at h1;exact h1
     obtain ⟨r2,hr2e⟩:∃r2,(mE G.ops L (frTo false s m)).length=r2:=⟨_,rfl⟩
     have hfl:=jn false s m
     have HGr:Hid (∀(V:World) a3 c3,PY w2 V->Ints V a3 (frTo false s m).length (frTo false s m)->Calls prog 231 #[.pointer (some ⟨pb,0,none⟩),.slice a3 (frTo false s m).length c3,cG m] V
       λe w'=>∃a4 c4,e = .returned (.slice a4 r2 c4)/\PY V w'):=λV a3 c3 hV h3=>by
      have hbV:=hb02.trans (hV.mono hb02.size);refine (kY pb a n c L m a3 _ c3 (frTo false s m) m ((hB2.af hV).cell 0 rfl) ((hB2.af hV).cell 5 rfl) (HE.g.af hbV) (HE.iZ.af hbV) HE.rws h3 (λj hj=>?_) HE.n6 (by omega)).mono ?_
      ·obtain ⟨x,hx,e,_⟩:=(ef m).1 (aG hj);omega
      ·rintro e w' ⟨a4,c4,rfl,_,hb4⟩;rw [zg hfl];exact ⟨a4,c4,by rw [hr2e],hb4⟩
     have HLi:Hid (∀V:World,PY w2 V->Calls prog 261 #[.pointer (some ⟨pb,0,none⟩),.slice sa ns cs,.slice at' r1 ct] V λe w'=>e = .returned (cG (gk G.ops L C.y s t))/\PY V w'):=λV hV=>by have hbV:=hb02.trans (hV.mono hb02.size);have hBV:=hB2.af hV;have p6:=hBV.cell 6 rfl;rw [hyl] at p6;exact xZ pb a n c L m ay cy C.y sa ns cs s at' r1 ct t (hBV.cell 0 rfl) (hBV.cell 5 rfl) p6 (HE.g.af hbV) (HE.iZ.af hbV) HE.rws (hy.af hV) hye (hs2.af hV) (ht2.af hV) Hrng.out HE.n6 (by omega) (by omega)
     have hll:gk G.ops L C.y s t<=1000000:=K9 (th _ _ _) (by rw [(F7 (PL hG) HE.rws ⟨hy.len,hye⟩ (λj hj=>by have:=Hrng j (by rw [<- F.out];exact hj);omega) _ (KT _)).2.1.1];omega)
     rw [hr2e,Hsl.out] at H
     obtain ⟨li,hli⟩:∃li,gk G.ops L C.y s t=li:=⟨_,rfl⟩
     rw [hli] at hll HLi H
     generalize (frTo false s m).length=fl at *
     have hw6:=HE.w6
     clear hr2e hli hyl hy hye p8 Q
     by_cases hr2:r2=r1
     ·subst hr2
      have HR4:Hid (RS=decide (C.W<ns+li)):=by show _=_;rw [H.out,Lj rfl,Mw]
      have heq:((r2:Int) == r2)=true:=by simp
      go_upto_region 11 with fail
      have hwr:IntKind.i64.wrap ((ns:Int)+(li:Int))=(ns:Int)+(li:Int):=La _ (by omega)
      have hWd:∃z,decide ((C.W:Int)<(ns:Int)+(li:Int))=z/\Hid (RS=z):=⟨_,rfl,by show _=_;rw [HR4.out];exact decide_eq_decide.2 (by omega)⟩
      obtain ⟨z,hz,Hz⟩:=hWd
      go_cut [6] (λv wx=>v = .bool z/\PY w2 wx)
      case first =>
       go_region_held3 (λW=>W.cell? ⟨pb,4,none⟩=some (cG m)/\W.cell? ⟨pb,9,none⟩=some (cG C.W)/\PY w2 W)
        ((refine HS _ ?_;first | exact hb5w | exact hb4w | exact A | exact (KU _ _).drew | assumption | (go_split_ands;assumption)))
        (first
        | (go_at_call 232;((with_reducible refine (HO.out _ (by go_split_ands;assumption)).mono ?_);rintro e w3 ⟨a3,c3,rfl,hown3,hb3⟩;have A:PY w2 w3:=(by go_split_ands;exact Pm (by assumption) hb3)))
        | (go_at_call 231;((with_reducible refine (HGr.out _ _ _ (by go_split_ands;assumption) ((Pn hown3).1.af (by first | exact KU _ _ | exact (KU _ _).drew))).mono ?_);rintro e w4 ⟨a4,c4,rfl,hb4⟩;have hb4w:PY w2 w4:=(by go_split_ands;exact Pm (by assumption) hb4)))
        | (go_at_call 261;((with_reducible refine (HLi.out _ (by go_split_ands;assumption)).mono ?_);rintro e w5 ⟨rfl,hb5⟩;have hb5w:PY w2 w5:=(by go_split_ands;exact Pm (by assumption) hb5))))
       all_goals (go_wp2_with fail;go_meet;exact ⟨rfl,hb5w⟩)
      obtain ⟨rfl,hb5w⟩:=hcut
      generalize wc=w5 at *
      go_wp2_with fail
      go_ret
      exact ⟨by rw [Hz.out];rfl,Pm B hb5w⟩
     ·have HR4:Hid (RS=false):=by show _=_;rw [H.out,Lp hr2];rfl
      have heq:((r2:Int) == r1)=false:=by simp;omega
      clear hr2
      go_upto_region 11 with fail
      refine wp_region_held_drew (S:=(λW:World=>W.cell? ⟨pb,4,none⟩=some (cG m)/\W.cell? ⟨pb,9,none⟩=some (cG C.W)/\PY w2 W)) (by kernel_rfl) ?_ (λhHeld=>?_)
      ·exact HS _ (KU _ _).drew
      refine wpAnyH_take (i:=0) (v:=?_) (by simp only [Ld,K7,K8];rfl) (by kernel_rfl) (by kernel_rfl) (by kernel_rfl) (by exact λ_ _ _ h=>h) (LX ⟨by rfl,?_⟩) (by assumption) ?_
      rotate_left
      ·(intro w Z;(try dsimp only at Z);obtain ⟨O,X,U⟩:=Z;go_simp;first | done | with_reducible rfl)
      try simp only [Act.put,KW,K1,K2]
      refine wpAnyH_take (i:=1) (v:=?_) (by simp only [Ld,K7,K8];rfl) (by kernel_rfl) (by kernel_rfl) (by kernel_rfl) (by exact λ_ _ _ h=>h) (LX ⟨by rfl,?_⟩) (by assumption) ?_
      rotate_left
      ·(intro w Z;(try dsimp only at Z);obtain ⟨O,X,U⟩:=Z;go_simp;first | done | with_reducible rfl)
      try simp only [Act.put,KW,K1,K2]
      refine wpAnyH_take (i:=2) (v:=?_) (by simp only [Ld,K7,K8];rfl) (by kernel_rfl) (by kernel_rfl) (by kernel_rfl) (by exact λ_ _ _ h=>h) (LX ⟨by rfl,?_⟩) (by assumption) ?_
      rotate_left
      ·(intro w Z;(try dsimp only at Z);obtain ⟨O,X,U⟩:=Z;go_simp;first | done | with_reducible rfl)
      try simp only [Act.put,KW,K1,K2]
      refine wpAnyH_take (i:=4) (v:=?_) (by simp only [Ld,K7,K8];rfl) (by kernel_rfl) (by kernel_rfl) (by kernel_rfl) (by exact λ_ _ _ h=>h) (LX ⟨by rfl,?_⟩) (by assumption) ?_
      rotate_left
      ·(intro w Z;(try dsimp only at Z);obtain ⟨O,X,U⟩:=Z;go_simp;first | done | with_reducible rfl)
      try simp only [Act.put,KW,K1,K2]
      refine wpAnyH_take (i:=5) (v:=?_) (by simp only [Ld,K7,K8];rfl) (by kernel_rfl) (by kernel_rfl) (by kernel_rfl) (by exact λ_ _ _ h=>h) (LX ⟨by rfl,?_⟩) (by assumption) ?_
      rotate_left
      ·(intro w Z;(try dsimp only at Z);obtain ⟨O,X,U⟩:=Z;go_simp;first | done | with_reducible rfl)
      try simp only [Act.put,KW,K1,K2]
      refine wpAnyH_take (i:=6) (v:=?_) (by simp only [Ld,K7,K8];rfl) (by kernel_rfl) (by kernel_rfl) (by kernel_rfl) (by exact λ_ _ _ h=>h) (LX ⟨by rfl,?_⟩) (by assumption) ?_
      rotate_left
      ·(intro w Z;(try dsimp only at Z);obtain ⟨O,X,U⟩:=Z;go_simp;first | done | with_reducible rfl)
      try simp only [Act.put,KW,K1,K2]
      refine wpAnyH_take (i:=7) (v:=?_) (by simp only [Ld,K7,K8];rfl) (by kernel_rfl) (by kernel_rfl) (by kernel_rfl) (by exact λ_ _ _ h=>h) (LX ⟨by rfl,?_⟩) (by assumption) ?_
      rotate_left
      ·(intro w Z;(try dsimp only at Z);obtain ⟨O,X,U⟩:=Z;go_simp;first | done | with_reducible rfl)
      try simp only [Act.put,KW,K1,K2]
      refine wpAnyH_take (i:=8) (v:=?_) (by simp only [Ld,K7,K8];rfl) (by kernel_rfl) (by kernel_rfl) (by kernel_rfl) (by exact λ_ _ _ h=>h) (LX ⟨by rfl,?_⟩) (by assumption) ?_
      rotate_left
      ·(intro w Z;(try dsimp only at Z);obtain ⟨O,X,U⟩:=Z;go_simp;first | done | with_reducible rfl)
      try simp only [Act.put,KW,K1,K2]
      refine wpAnyH_take (i:=11) (v:=?_) (by simp only [Ld,K7,K8];rfl) (by kernel_rfl) (by kernel_rfl) (by kernel_rfl) (by exact λ_ _ _ h=>h) (LX ⟨by rfl,?_⟩) (by assumption) ?_
      rotate_left
      ·(intro w Z;(try dsimp only at Z);obtain ⟨O,X,U⟩:=Z;go_simp;first | done | with_reducible rfl)
      try simp only [Act.put,KW,K1,K2]
      refine wpAnyH_take (i:=12) (v:=?_) (by simp only [Ld,K7,K8];rfl) (by kernel_rfl) (by kernel_rfl) (by kernel_rfl) (by exact λ_ _ _ h=>h) (LX ⟨by rfl,?_⟩) (by assumption) ?_
      rotate_left
      ·(intro w Z;(try dsimp only at Z);obtain ⟨O,X,U⟩:=Z;go_simp;first | done | with_reducible rfl)
      try simp only [Act.put,KW,K1,K2]
      refine wpAnyH_ready (rs:=[3]) (by kernel_rfl) (by simp) ?_
      refine AllReadyH.cons rfl (λK hK=>?_) AllReadyH.nil
      go_simp
      refine (HO _ (by exact (KU _ _).drew)).mono ?_;rintro e w3 ⟨a3,c3,rfl,hown3,hb3⟩;have A:PY w2 w3:=Pm (KU _ _).drew hb3
      go_wp2_with fail
      refine hK _ _ ?_ (λhHeld=>?_)
      ·exact HS _ A
      clear hK K
      try simp only [Act.put,KW,K1,K2]
      refine wpAnyH_ready (rs:=[9]) (by kernel_rfl) (by simp) ?_
      refine AllReadyH.cons rfl (λK hK=>?_) AllReadyH.nil
      go_simp
      refine (HGr w3 a3 c3 A (Pn hown3).1).mono ?_;rintro e w4 ⟨a4,c4,rfl,hb4⟩;have hb4w:PY w2 w4:=Pm A hb4
      go_wp2_with fail
      refine hK _ _ ?_ (λhHeld=>?_)
      ·exact HS _ hb4w
      clear hK K
      try simp only [Act.put,KW,K1,K2]
      refine wpAnyH_take (i:=10) (v:=?_) (by simp only [Ld,K7,K8];rfl) (by kernel_rfl) (by kernel_rfl) (by kernel_rfl) (by exact λ_ _ _ h=>h) (LX ⟨by rfl,?_⟩) (by assumption) ?_
      rotate_left
      ·(intro w Z;(try dsimp only at Z);obtain ⟨O,X,U⟩:=Z;go_simp;first | done | with_reducible rfl)
      try simp only [Act.put,KW,K1,K2]
      refine wpAnyH_take (i:=13) (v:=?_) (by simp only [Ld,K7,K8];rfl) (by kernel_rfl) (by kernel_rfl) (by kernel_rfl) (by exact λ_ _ _ h=>h) (LX ⟨by rfl,?_⟩) (by assumption) ?_
      rotate_left
      ·(intro w Z;(try dsimp only at Z);obtain ⟨O,X,U⟩:=Z;go_simp;first | done | with_reducible rfl)
      try simp only [Act.put,KW,K1,K2]
      refine wpAnyH_take (i:=14) (v:=?_) (by simp only [Ld,K7,K8];rfl) (by kernel_rfl) (by kernel_rfl) (by kernel_rfl) (by exact λ_ _ _ h=>h) (LX ⟨by rfl,?_⟩) (by assumption) ?_
      rotate_left
      ·(intro w Z;(try dsimp only at Z);obtain ⟨O,X,U⟩:=Z;go_simp;first | done | with_reducible rfl)
      try simp only [Act.put,KW,K1,K2]
      refine wpAnyH_take (i:=15) (v:=undef) (by simp only [Ld,K7,K8];rfl) (by kernel_rfl) (by kernel_rfl) (by kernel_rfl) (by exact λ_ _ _ h=>h) (M6 ⟨by rfl,rfl⟩) (by assumption) ?_
      try simp only [Act.put,KW,K1,K2]
      refine wpAnyH_take (i:=16) (v:=undef) (by simp only [Ld,K7,K8];rfl) (by kernel_rfl) (by kernel_rfl) (by kernel_rfl) (by exact λ_ _ _ h=>h) (M6 ⟨by rfl,rfl⟩) (by assumption) ?_
      try simp only [Act.put,KW,K1,K2]
      refine wpAnyH_take (i:=17) (v:=undef) (by simp only [Ld,K7,K8];rfl) (by kernel_rfl) (by kernel_rfl) (by kernel_rfl) (by exact λ_ _ _ h=>h) (M6 ⟨by rfl,rfl⟩) (by assumption) ?_
      try simp only [Act.put,KW,K1,K2]
      refine wpAnyH_take (i:=18) (v:=undef) (by simp only [Ld,K7,K8];rfl) (by kernel_rfl) (by kernel_rfl) (by kernel_rfl) (by exact λ_ _ _ h=>h) (M6 ⟨by rfl,rfl⟩) (by assumption) ?_
      try simp only [Act.put,KW,K1,K2]
      refine wpAnyH_take (i:=19) (v:=undef) (by simp only [Ld,K7,K8];rfl) (by kernel_rfl) (by kernel_rfl) (by kernel_rfl) (by exact λ_ _ _ h=>h) (M6 ⟨by rfl,rfl⟩) (by assumption) ?_
      try simp only [Act.put,KW,K1,K2]
      refine wpAnyH_take (i:=20) (v:=undef) (by simp only [Ld,K7,K8];rfl) (by kernel_rfl) (by kernel_rfl) (by kernel_rfl) (by exact λ_ _ _ h=>h) (M6 ⟨by rfl,rfl⟩) (by assumption) ?_
      try simp only [Act.put,KW,K1,K2]
      refine wpAnyH_take (i:=21) (v:=undef) (by simp only [Ld,K7,K8];rfl) (by kernel_rfl) (by kernel_rfl) (by kernel_rfl) (by exact λ_ _ _ h=>h) (M6 ⟨by rfl,rfl⟩) (by assumption) ?_
      try simp only [Act.put,KW,K1,K2]
      refine wpAnyH_take (i:=22) (v:=undef) (by simp only [Ld,K7,K8];rfl) (by kernel_rfl) (by kernel_rfl) (by kernel_rfl) (by exact λ_ _ _ h=>h) (M6 ⟨by rfl,rfl⟩) (by assumption) ?_
      try simp only [Act.put,KW,K1,K2]
      refine wpAnyH_take (i:=23) (v:=undef) (by simp only [Ld,K7,K8];rfl) (by kernel_rfl) (by kernel_rfl) (by kernel_rfl) (by exact λ_ _ _ h=>h) (M6 ⟨by rfl,rfl⟩) (by assumption) ?_
      try simp only [Act.put,KW,K1,K2]
      refine wpAnyH_take (i:=24) (v:=undef) (by simp only [Ld,K7,K8];rfl) (by kernel_rfl) (by kernel_rfl) (by kernel_rfl) (by exact λ_ _ _ h=>h) (M6 ⟨by rfl,rfl⟩) (by assumption) ?_
      try simp only [Act.put,KW,K1,K2]
      refine wpAnyH_take (i:=25) (v:=undef) (by simp only [Ld,K7,K8];rfl) (by kernel_rfl) (by kernel_rfl) (by kernel_rfl) (by exact λ_ _ _ h=>h) (M6 ⟨by rfl,rfl⟩) (by assumption) ?_
      try simp only [Act.put,KW,K1,K2]
      refine wpAnyH_take (i:=26) (v:=undef) (by simp only [Ld,K7,K8];rfl) (by kernel_rfl) (by kernel_rfl) (by kernel_rfl) (by exact λ_ _ _ h=>h) (M6 ⟨by rfl,rfl⟩) (by assumption) ?_
      try simp only [Act.put,KW,K1,K2]
      refine wpAnyH_take (i:=27) (v:=?_) (by simp only [Ld,K7,K8];rfl) (by kernel_rfl) (by kernel_rfl) (by kernel_rfl) (by exact λ_ _ _ h=>h) (LX ⟨by rfl,?_⟩) (by assumption) ?_
      rotate_left
      ·(intro w Z;(try dsimp only at Z);obtain ⟨O,X,U⟩:=Z;go_simp;first | done | with_reducible rfl)
      try simp only [Act.put,KW,K1,K2]
      refine wpAnyH_take (i:=28) (v:=?_) (by simp only [Ld,K7,K8];rfl) (by kernel_rfl) (by kernel_rfl) (by kernel_rfl) (by exact λ_ _ _ h=>h) (LX ⟨by rfl,?_⟩) (by assumption) ?_
      rotate_left
      ·(intro w Z;(try dsimp only at Z);obtain ⟨O,X,U⟩:=Z;go_simp;first | done | with_reducible rfl)
      try simp only [Act.put,KW,K1,K2]
      refine wpAnyH_done (by kernel_rfl) ?_ _
      go_wp2_with fail
      go_ret
      exact ⟨by rw [HR4.out];rfl,Pm B hb4w⟩
    ·have hcf:C.cos=false:=by simpa using Q
     rw [KY Q] at H
     rw [hcf] at p7
     clear Q hcf
     by_cases hM:r1=C.M
     ·have HR4:Hid (RS=true):=by show _=_;rw [H.out,Lj hM]
      have hd:((r1:Int) == C.M)=true:=by simp;omega
      clear hM
      go_wp2_with fail
      go_ret
      exact ⟨by rw [HR4.out];rfl,B⟩
     ·have HR4:Hid (RS=false):=by show _=_;rw [H.out,Lp hM]
      have hd:((r1:Int) == C.M)=false:=by simp;omega
      clear hM
      go_wp2_with fail
      go_ret
      exact ⟨by rw [HR4.out];rfl,B⟩
   ·have hne:((r1:Int) != k)=true:=by simp;omega
    have H:Hid (RS=false):=by show _=_;rw [HR2.out,Lp hrr];rfl
    clear hrr
    go_wp2_with fail
    go_ret
    exact ⟨by rw [H.out];rfl,B⟩
end Go.Proofs.YthglbncgemdcbaaGreat
