import Derived.Test.YthglbncgemdcbaaGreatBO15
namespace Go.Proofs.YthglbncgemdcbaaGreat
set_option linter.all false
set_option maxRecDepth 100000
set_option maxHeartbeats 8000000
open Go.RowKit Go.Proofs.Tryz
theorem qk {w w0:ej} {b:Nat} {G:bX} {a:OA} {n:Nat} {L:ZZ} {m:Nat} {ay:OA} {ny:Nat} {C:kW} (pb:Nat) (P M:Int) (am:OA) (mn cm c cy:Nat) (sv:Value) (kk:Nat)
  (sa:OA) (ns cs:Nat) (s:Lz) (at':OA) (nt ct:Nat) (t:Lz)
  (E:Ce w0 b G a n L m ay ny C) (hb:SJ w0 w) (hB:aQ w pb (mT b P M am mn cm m a n c ay ny cy C sv kk)) (hs:Ints w sa ns s) (ht:Ints w at' nt t) (hns:ns<=1000) :
  Calls prog 233 #[ea pb 0,.slice sa ns cs,.slice at' nt ct] w λe w'=>e = .returned (.bool (eB G.ops L m C s t))/\SJ w w':=by
 have hplt:=ht.pl;have hmaxt:=ht.max;unfold maxLen at hmaxt;have I:=Z5 ht.len;have Hsl:=Z5 hs.len;have p0:=hB.cell 0 rfl;have p4:=hB.cell 4 rfl;have p5:=hB.cell 5 rfl;have HBx:=Z5 hB;have HE:=Z5 E;have hG:=E.g.ai hb;have hi:=E.lL.ai hb;have hm6:=E.m6;obtain ⟨RS,hRS⟩:∃RS,eB G.ops L m C s t=RS:=⟨_,rfl⟩
 rw [hRS];have HRS:Hid (RS=eB G.ops L m C s t):=hRS.symm;have F:Hid (∀k,k<nt->(jE m t k=false\/nth t k ∈ s)->RS=false):=λk hk h=>by
  rw [HRS.out,eB,vi];rcases h with h | h
  ·have h1:dZ m t=false:=Ed (by rw [I.out];exact hk) h;rw [h1];rfl
  ·have h1:t.all (λx=>decide (¬ x ∈ s))=false:=by rw [O7];exact ⟨nth t k,aG (by rw [I.out];exact hk),by simpa using h⟩
   rw [h1,Q9];rfl
 clear hB E hRS;go_enter func233,ntmps233;go_wp2_with fail;go_loop [11] (λiv=>∃k:Nat,k<=nt/\iv = cG k/\Hid (qZ m t k=true)/\Hid (∀j,j<k->¬ nth t j ∈ s)) (λiv=>nt - (intOf iv).toNat);case atStart=>exact ⟨0,Nb _,rfl,(show _=_ by simp [qZ]),λj hj=>by omega⟩
 case round =>
  obtain ⟨k,hk,rfl,hok,hnot⟩:=hrel
  by_cases hlt:k<nt
  ·have ck:=ht.cell k hlt
   have HcA:=Z5 (bS sa ns cs s (nth t k) w hs)
   have Hgo:Hid (¬ nth t k ∈ s->∀j,j<k+1->¬ nth t j ∈ s):=λh j hj=>by
    by_cases e:j=k
    ·rw [e];exact h
    ·exact hnot j (by omega)
   by_cases h0:0<=nth t k
   ·by_cases h1:nth t k<m
    ·have d1:decide (nth t k<0)=false:=by simp;omega
     have d2:decide ((m:Int)<=nth t k)=false:=by simp;omega
     by_cases hk0:k=0
     ·subst hk0
      have Hgood:Hid (jE m t 0=true):=by show _=_;unfold jE;simp [h0,h1]
      rw [QK] at ck
      by_cases Y:nth t 0 ∈ s
      ·have N:decide (nth t 0 ∈ s)=true:=by simpa using Y
       have Hb:Hid (RS=false):=F.out 0 hlt (.inr Y)
       rw [N] at HcA
       clear Y N
       go_wp2_with fail
       refine HcA.mono ?_
       rintro e w6 ⟨rfl,rfl⟩
       go_wp2_with fail
       go_ret
       exact ⟨by rw [Hb.out];rfl,M5 _ _⟩
      ·have N:decide (nth t 0 ∈ s)=false:=by simpa using Y
       have Hgo2:Hid (∀j,j<0+1->¬ nth t j ∈ s):=Hgo Y
       rw [N] at HcA
       clear Y N
       go_wp2_with fail
       refine HcA.mono ?_
       rintro e w6 ⟨rfl,rfl⟩
       go_wp2_with fail
       go_round
       case rel=>exact ⟨1,by omega,by go_num,ke hok.out Hgood.out,Hgo2⟩
       case measure=>simp [intOf]<;>omega
     ·have cp:=ht.cell (k - 1) (by omega)
      have e1:((k:Int) - 1).toNat=k - 1:=by omega
      have d3:decide (0<(k:Int))=true:=by simp;omega
      have d4:(0:Int)<=(k:Int) - 1:=by omega
      have d5:(1:Int)<=(k:Int):=by omega
      have d6:(k:Int) - 1<nt:=by omega
      by_cases h2:nth t (k - 1)<nth t k
      ·have Hgood:Hid (jE m t k=true):=by show _=_;unfold jE;simp [h0,h1,h2]
       have h2':decide (nth t k<=nth t (k - 1))=false:=by simp;omega
       by_cases Y:nth t k ∈ s
       ·have N:decide (nth t k ∈ s)=true:=by simpa using Y
        have Hb:Hid (RS=false):=F k hlt (.inr Y)
        rw [N] at HcA
        clear Y N hk0 e1
        go_wp2_with fail
        refine HcA.mono ?_
        rintro e w6 ⟨rfl,rfl⟩
        go_wp2_with fail
        go_ret
        exact ⟨by rw [Hb.out];rfl,M5 _ _⟩
       ·have N:decide (nth t k ∈ s)=false:=by simpa using Y
        have Hgo2:=Z5 (Hgo Y)
        rw [N] at HcA
        clear Y N hk0 e1
        go_wp2_with fail
        refine HcA.mono ?_
        rintro e w6 ⟨rfl,rfl⟩
        go_wp2_with fail
        go_round
        case rel=>exact ⟨k+1,by omega,by go_num,ke hok.out Hgood.out,Hgo2⟩
        case measure=>simp [intOf]<;>omega
      ·have Hb:Hid (RS=false):=F k hlt (.inl (by unfold jE;simp [h2,hk0]))
       have h2':decide (nth t k<=nth t (k - 1))=true:=by simp;omega
       clear hk0 e1
       go_wp2_with fail
       go_ret
       exact ⟨by rw [Hb.out];rfl,M5 _ _⟩
    ·have Hb:Hid (RS=false):=F k hlt (.inl (by unfold jE;simp [h1]))
     have d1:decide (nth t k<0)=false:=by simp;omega
     have d2:decide ((m:Int)<=nth t k)=true:=by simp;omega
     go_wp2_with fail
     go_ret
     exact ⟨by rw [Hb.out];rfl,M5 _ _⟩
   ·have Hb:Hid (RS=false):=F k hlt (.inl (by unfold jE;simp [h0]))
    have d1:decide (nth t k<0)=true:=by simp;omega
    go_wp2_with fail
    go_ret
    exact ⟨by rw [Hb.out];rfl,M5 _ _⟩
  ·have hkn:k=nt:=by omega
   subst hkn
   have hoks:dZ m t=true:=by rw [dZ,I.out];exact hok
   have hset:vi m s t=true:=by rw [vi,hoks,Ps,NZ];intro x hx;obtain ⟨j,hj,rfl⟩:=List.mem_iff_getElem.1 hx;have h1:=hnot j (by rw [<- I.out];exact hj);rw [an hj] at h1;simpa using h1
   have hrng:∀j,j<k->0<=nth t j/\nth t j<m:=λj hj=>pL hoks j (by rw [I.out];exact hj)
   have hklen:k<=m:=by have h1:=mM hoks (by omega);rw [I.out] at h1;omega
   have HR2:Hid (RS=(decide ((jm G.ops L t).length=k) && if C.cos=true then decide ((jm G.ops L (frTo false s m)).length=k) && decide (C.W<s.length+lr G.ops L C.y s t) else decide (k=C.M))):=by show _=_;rw [HRS.out,eB,hset,Ps,I.out]
   have hgm:yH G.ops L t k=jm G.ops L t:=AQ (by rw [I.out];exact M4 _)
   have HGr0:=Z5 (kX pb a n c L m at' k ct t k p0 p5 hG hi HE.rws ht hrng HE.n6 (by omega))
   rw [hgm] at HGr0
   have Hrng:=Z5 hrng
   have hr1:(jm G.ops L t).length<=k:=by have:=H4 G.ops L t;rw [I.out] at this;exact this
   obtain ⟨r1,hr1e⟩:∃r1,(jm G.ops L t).length=r1:=⟨_,rfl⟩
   unfold cR at HGr0
   rw [hr1e] at hr1 HGr0 HR2
   clear hoks hset hrng hgm hr1e F
   go_wp2_with fail
   refine HGr0.mono ?_
   rintro e w2 ⟨a2,c2,rfl,hown2,D⟩
   have A:=HBx.ai D
   have p7:=A.cell 7 rfl
   have p8:=A.cell 8 rfl
   by_cases hrr:r1=k
   ·subst hrr
    have H:Hid (RS=if C.cos=true then decide ((jm G.ops L (frTo false s m)).length=r1) && decide (C.W<s.length+lr G.ops L C.y s t) else decide (r1=C.M)):=by show _=_;rw [HR2.out,Nv rfl,Ps]
    have hne:((r1:Int) != r1)=false:=by simp
    by_cases U:C.cos=true
    ·rw [M7 U] at H
     rw [U] at p7
     have r:=hb.trans (D.mono hb.size)
     have hyl:=HE.yl U
     have hy:=(HE.y U).ai r
     have hye:=HE.ye U
     have HS:Hid (∀V:ej,SJ w2 V->V.cell? ⟨pb,4,none⟩=some (cG m)/\V.cell? ⟨pb,9,none⟩=some (cG C.W)/\SJ w2 V) :=
      λV hV=>⟨(A.ai hV).cell 4 rfl,(A.ai hV).cell 9 rfl,hV⟩
     have hs2:=hs.ai D
     have ht2:=ht.ai D
     have HO:Hid (∀V:ej,SJ w2 V->Calls prog 232 #[ea pb 0,.slice sa ns cs,ds] V λe w'=>∃a3 c3,e = .returned (.slice a3 (frTo false s m).length c3) /\
       w'.ownsRow V.heap.size 3 1 (.slice a3 (frTo false s m).length c3) (frTo false s m).length ((frTo false s m).map (Value.int .i64))/\SJ V w'):=λV hV=>by have h1:=nj pb m sa ns cs s none 0 0 [] V ((A.ai hV).cell 4 rfl) (hs2.ai hV) (R9 _ _) (by omega) (by omega);rw [IV] at h1;exact h1
     obtain ⟨r2,hr2e⟩:∃r2,(jm G.ops L (frTo false s m)).length=r2:=⟨_,rfl⟩
     have hfl:=iG false s m
     have HGr:Hid (∀(V:ej) a3 c3,SJ w2 V->Ints V a3 (frTo false s m).length (frTo false s m)->Calls prog 231 #[ea pb 0,.slice a3 (frTo false s m).length c3,cG m] V
       λe w'=>∃a4 c4,e = .returned (.slice a4 r2 c4)/\SJ V w'):=λV a3 c3 hV h3=>by
      have hbV:=r.trans (hV.mono r.size);refine (kX pb a n c L m a3 _ c3 (frTo false s m) m ((A.ai hV).cell 0 rfl) ((A.ai hV).cell 5 rfl) (HE.g.ai hbV) (HE.lL.ai hbV) HE.rws h3 (λj hj=>?_) HE.n6 (by omega)).mono ?_
      ·obtain ⟨x,hx,e,_⟩:=(eE m).1 (aG hj);omega
      ·rintro e w' ⟨a4,c4,rfl,_,hb4⟩;rw [AQ hfl];exact ⟨a4,c4,by rw [hr2e],hb4⟩
     have HLi:Hid (∀V:ej,SJ w2 V->Calls prog 261 #[ea pb 0,.slice sa ns cs,.slice at' r1 ct] V λe w'=>e = .returned (cG (lr G.ops L C.y s t))/\SJ V w'):=λV hV=>by have hbV:=r.trans (hV.mono r.size);have hBV:=A.ai hV;have p6:=hBV.cell 6 rfl;rw [hyl] at p6;exact yU pb a n c L m ay cy C.y sa ns cs s at' r1 ct t (hBV.cell 0 rfl) (hBV.cell 5 rfl) p6 (HE.g.ai hbV) (HE.lL.ai hbV) HE.rws (hy.ai hV) hye (hs2.ai hV) (ht2.ai hV) Hrng.out HE.n6 (by omega) (by omega)
     have hll:lr G.ops L C.y s t<=1000000:=Np (tf _ _ _) (by rw [(Jm (Sk hG) HE.rws ⟨hy.len,hye⟩ (λj hj=>by have:=Hrng j (by rw [<- I.out];exact hj);omega) _ (M4 _)).2.1.1];omega)
     rw [hr2e,Hsl.out] at H
     obtain ⟨li,hli⟩:∃li,lr G.ops L C.y s t=li:=⟨_,rfl⟩
     rw [hli] at hll HLi H
     generalize (frTo false s m).length=fl at *
     have hw6:=HE.w6
     clear hr2e hli hyl hy hye p8 U
     by_cases hr2:r2=r1
     ·subst hr2
      have HR4:Hid (RS=decide (C.W<ns+li)):=by show _=_;rw [H.out,Nv rfl,Ps]
      have heq:((r2:Int) == r2)=true:=by simp
      go_upto_region 11 with fail
      have hwr:IntKind.i64.wrap ((ns:Int)+(li:Int))=(ns:Int)+(li:Int):=Nn _ (by omega)
      have hWd:∃z,decide ((C.W:Int)<(ns:Int)+(li:Int))=z/\Hid (RS=z):=⟨_,rfl,by show _=_;rw [HR4.out];exact decide_eq_decide.2 (by omega)⟩
      obtain ⟨z,hz,Hz⟩:=hWd
      go_cut [6] (λv wx=>v = .bool z/\SJ w2 wx)
      case first =>
       go_region_held3 (λW=>W.cell? ⟨pb,4,none⟩=some (cG m)/\W.cell? ⟨pb,9,none⟩=some (cG C.W)/\SJ w2 W)
        ((refine HS _ ?_;first|exact hb5w|exact hb4w|exact B|exact (M5 _ _).drew|assumption|(go_split_ands;assumption)))
        (first
        | (go_at_call 232;((with_reducible refine (HO.out _ (by go_split_ands;assumption)).mono ?_);rintro e w3 ⟨a3,c3,rfl,hown3,hb3⟩;have B:SJ w2 w3:=(by go_split_ands;exact RU (by assumption) hb3)))
        | (go_at_call 231;((with_reducible refine (HGr.out _ _ _ (by go_split_ands;assumption) ((RW hown3).1.ai (by first|exact M5 _ _|exact (M5 _ _).drew))).mono ?_);rintro e w4 ⟨a4,c4,rfl,hb4⟩;have hb4w:SJ w2 w4:=(by go_split_ands;exact RU (by assumption) hb4)))
        | (go_at_call 261;((with_reducible refine (HLi.out _ (by go_split_ands;assumption)).mono ?_);rintro e w5 ⟨rfl,hb5⟩;have hb5w:SJ w2 w5:=(by go_split_ands;exact RU (by assumption) hb5))))
       all_goals (go_wp2_with fail;go_meet;exact ⟨rfl,hb5w⟩)
      obtain ⟨rfl,hb5w⟩:=hcut
      generalize wc=w5 at *
      go_wp2_with fail
      go_ret
      exact ⟨by rw [Hz.out];rfl,RU D hb5w⟩
     ·have HR4:Hid (RS=false):=by show _=_;rw [H.out,Nu hr2];rfl
      have heq:((r2:Int) == r1)=false:=by simp;omega
      clear hr2
      go_upto_region 11 with fail
      refine wp_region_held_drew (S:=(λW:ej=>W.cell? ⟨pb,4,none⟩=some (cG m)/\W.cell? ⟨pb,9,none⟩=some (cG C.W)/\SJ w2 W)) (by kernel_rfl) ?_ (λhHeld=>?_)
      ·exact HS _ (M5 _ _).drew
      refine wpAnyH_take (i:=0) (v:=?_) (by simp only [Nq,Nk,Nl];rfl) (by kernel_rfl) (by kernel_rfl) (by kernel_rfl) (by exact λ_ _ _ h=>h) (N0 ⟨by rfl,?_⟩) (by assumption) ?_
      rotate_left
      ·(intro w Z;(try dsimp only at Z);obtain ⟨X,O,Q⟩:=Z;go_simp;first|done|with_reducible rfl)
      try simp only [Act.put,M6,Nc,Nd]
      refine wpAnyH_take (i:=1) (v:=?_) (by simp only [Nq,Nk,Nl];rfl) (by kernel_rfl) (by kernel_rfl) (by kernel_rfl) (by exact λ_ _ _ h=>h) (N0 ⟨by rfl,?_⟩) (by assumption) ?_
      rotate_left
      ·(intro w Z;(try dsimp only at Z);obtain ⟨X,O,Q⟩:=Z;go_simp;first|done|with_reducible rfl)
      try simp only [Act.put,M6,Nc,Nd]
      refine wpAnyH_take (i:=2) (v:=?_) (by simp only [Nq,Nk,Nl];rfl) (by kernel_rfl) (by kernel_rfl) (by kernel_rfl) (by exact λ_ _ _ h=>h) (N0 ⟨by rfl,?_⟩) (by assumption) ?_
      rotate_left
      ·(intro w Z;(try dsimp only at Z);obtain ⟨X,O,Q⟩:=Z;go_simp;first|done|with_reducible rfl)
      try simp only [Act.put,M6,Nc,Nd]
      refine wpAnyH_take (i:=4) (v:=?_) (by simp only [Nq,Nk,Nl];rfl) (by kernel_rfl) (by kernel_rfl) (by kernel_rfl) (by exact λ_ _ _ h=>h) (N0 ⟨by rfl,?_⟩) (by assumption) ?_
      rotate_left
      ·(intro w Z;(try dsimp only at Z);obtain ⟨X,O,Q⟩:=Z;go_simp;first|done|with_reducible rfl)
      try simp only [Act.put,M6,Nc,Nd]
      refine wpAnyH_take (i:=5) (v:=?_) (by simp only [Nq,Nk,Nl];rfl) (by kernel_rfl) (by kernel_rfl) (by kernel_rfl) (by exact λ_ _ _ h=>h) (N0 ⟨by rfl,?_⟩) (by assumption) ?_
      rotate_left
      ·(intro w Z;(try dsimp only at Z);obtain ⟨X,O,Q⟩:=Z;go_simp;first|done|with_reducible rfl)
      try simp only [Act.put,M6,Nc,Nd]
      refine wpAnyH_take (i:=6) (v:=?_) (by simp only [Nq,Nk,Nl];rfl) (by kernel_rfl) (by kernel_rfl) (by kernel_rfl) (by exact λ_ _ _ h=>h) (N0 ⟨by rfl,?_⟩) (by assumption) ?_
      rotate_left
      ·(intro w Z;(try dsimp only at Z);obtain ⟨X,O,Q⟩:=Z;go_simp;first|done|with_reducible rfl)
      try simp only [Act.put,M6,Nc,Nd]
      refine wpAnyH_take (i:=7) (v:=?_) (by simp only [Nq,Nk,Nl];rfl) (by kernel_rfl) (by kernel_rfl) (by kernel_rfl) (by exact λ_ _ _ h=>h) (N0 ⟨by rfl,?_⟩) (by assumption) ?_
      rotate_left
      ·(intro w Z;(try dsimp only at Z);obtain ⟨X,O,Q⟩:=Z;go_simp;first|done|with_reducible rfl)
      try simp only [Act.put,M6,Nc,Nd]
      refine wpAnyH_take (i:=8) (v:=?_) (by simp only [Nq,Nk,Nl];rfl) (by kernel_rfl) (by kernel_rfl) (by kernel_rfl) (by exact λ_ _ _ h=>h) (N0 ⟨by rfl,?_⟩) (by assumption) ?_
      rotate_left
      ·(intro w Z;(try dsimp only at Z);obtain ⟨X,O,Q⟩:=Z;go_simp;first|done|with_reducible rfl)
      try simp only [Act.put,M6,Nc,Nd]
      refine wpAnyH_take (i:=11) (v:=?_) (by simp only [Nq,Nk,Nl];rfl) (by kernel_rfl) (by kernel_rfl) (by kernel_rfl) (by exact λ_ _ _ h=>h) (N0 ⟨by rfl,?_⟩) (by assumption) ?_
      rotate_left
      ·(intro w Z;(try dsimp only at Z);obtain ⟨X,O,Q⟩:=Z;go_simp;first|done|with_reducible rfl)
      try simp only [Act.put,M6,Nc,Nd]
      refine wpAnyH_take (i:=12) (v:=?_) (by simp only [Nq,Nk,Nl];rfl) (by kernel_rfl) (by kernel_rfl) (by kernel_rfl) (by exact λ_ _ _ h=>h) (N0 ⟨by rfl,?_⟩) (by assumption) ?_
      rotate_left
      ·(intro w Z;(try dsimp only at Z);obtain ⟨X,O,Q⟩:=Z;go_simp;first|done|with_reducible rfl)
      try simp only [Act.put,M6,Nc,Nd]
      refine wpAnyH_ready (rs:=[3]) (by kernel_rfl) (by simp) ?_
      refine AllReadyH.cons rfl (λK hK=>?_) AllReadyH.nil
      go_simp
      refine (HO _ (by exact (M5 _ _).drew)).mono ?_;rintro e w3 ⟨a3,c3,rfl,hown3,hb3⟩;have B:SJ w2 w3:=RU (M5 _ _).drew hb3
      go_wp2_with fail
      refine hK _ _ ?_ (λhHeld=>?_)
      ·exact HS _ B
      clear hK K
      try simp only [Act.put,M6,Nc,Nd]
      refine wpAnyH_ready (rs:=[9]) (by kernel_rfl) (by simp) ?_
      refine AllReadyH.cons rfl (λK hK=>?_) AllReadyH.nil
      go_simp
      refine (HGr w3 a3 c3 B (RW hown3).1).mono ?_;rintro e w4 ⟨a4,c4,rfl,hb4⟩;have hb4w:SJ w2 w4:=RU B hb4
      go_wp2_with fail
      refine hK _ _ ?_ (λhHeld=>?_)
      ·exact HS _ hb4w
      clear hK K
      try simp only [Act.put,M6,Nc,Nd]
      refine wpAnyH_take (i:=10) (v:=?_) (by simp only [Nq,Nk,Nl];rfl) (by kernel_rfl) (by kernel_rfl) (by kernel_rfl) (by exact λ_ _ _ h=>h) (N0 ⟨by rfl,?_⟩) (by assumption) ?_
      rotate_left
      ·(intro w Z;(try dsimp only at Z);obtain ⟨X,O,Q⟩:=Z;go_simp;first|done|with_reducible rfl)
      try simp only [Act.put,M6,Nc,Nd]
      refine wpAnyH_take (i:=13) (v:=?_) (by simp only [Nq,Nk,Nl];rfl) (by kernel_rfl) (by kernel_rfl) (by kernel_rfl) (by exact λ_ _ _ h=>h) (N0 ⟨by rfl,?_⟩) (by assumption) ?_
      rotate_left
      ·(intro w Z;(try dsimp only at Z);obtain ⟨X,O,Q⟩:=Z;go_simp;first|done|with_reducible rfl)
      try simp only [Act.put,M6,Nc,Nd]
      refine wpAnyH_take (i:=14) (v:=?_) (by simp only [Nq,Nk,Nl];rfl) (by kernel_rfl) (by kernel_rfl) (by kernel_rfl) (by exact λ_ _ _ h=>h) (N0 ⟨by rfl,?_⟩) (by assumption) ?_
      rotate_left
      ·(intro w Z;(try dsimp only at Z);obtain ⟨X,O,Q⟩:=Z;go_simp;first|done|with_reducible rfl)
      try simp only [Act.put,M6,Nc,Nd]
      refine wpAnyH_take (i:=15) (v:=undef) (by simp only [Nq,Nk,Nl];rfl) (by kernel_rfl) (by kernel_rfl) (by kernel_rfl) (by exact λ_ _ _ h=>h) (Pm ⟨by rfl,rfl⟩) (by assumption) ?_
      try simp only [Act.put,M6,Nc,Nd]
      refine wpAnyH_take (i:=16) (v:=undef) (by simp only [Nq,Nk,Nl];rfl) (by kernel_rfl) (by kernel_rfl) (by kernel_rfl) (by exact λ_ _ _ h=>h) (Pm ⟨by rfl,rfl⟩) (by assumption) ?_
      try simp only [Act.put,M6,Nc,Nd]
      refine wpAnyH_take (i:=17) (v:=undef) (by simp only [Nq,Nk,Nl];rfl) (by kernel_rfl) (by kernel_rfl) (by kernel_rfl) (by exact λ_ _ _ h=>h) (Pm ⟨by rfl,rfl⟩) (by assumption) ?_
      try simp only [Act.put,M6,Nc,Nd]
      refine wpAnyH_take (i:=18) (v:=undef) (by simp only [Nq,Nk,Nl];rfl) (by kernel_rfl) (by kernel_rfl) (by kernel_rfl) (by exact λ_ _ _ h=>h) (Pm ⟨by rfl,rfl⟩) (by assumption) ?_
      try simp only [Act.put,M6,Nc,Nd]
      refine wpAnyH_take (i:=19) (v:=undef) (by simp only [Nq,Nk,Nl];rfl) (by kernel_rfl) (by kernel_rfl) (by kernel_rfl) (by exact λ_ _ _ h=>h) (Pm ⟨by rfl,rfl⟩) (by assumption) ?_
      try simp only [Act.put,M6,Nc,Nd]
      refine wpAnyH_take (i:=20) (v:=undef) (by simp only [Nq,Nk,Nl];rfl) (by kernel_rfl) (by kernel_rfl) (by kernel_rfl) (by exact λ_ _ _ h=>h) (Pm ⟨by rfl,rfl⟩) (by assumption) ?_
      try simp only [Act.put,M6,Nc,Nd]
      refine wpAnyH_take (i:=21) (v:=undef) (by simp only [Nq,Nk,Nl];rfl) (by kernel_rfl) (by kernel_rfl) (by kernel_rfl) (by exact λ_ _ _ h=>h) (Pm ⟨by rfl,rfl⟩) (by assumption) ?_
      try simp only [Act.put,M6,Nc,Nd]
      refine wpAnyH_take (i:=22) (v:=undef) (by simp only [Nq,Nk,Nl];rfl) (by kernel_rfl) (by kernel_rfl) (by kernel_rfl) (by exact λ_ _ _ h=>h) (Pm ⟨by rfl,rfl⟩) (by assumption) ?_
      try simp only [Act.put,M6,Nc,Nd]
      refine wpAnyH_take (i:=23) (v:=undef) (by simp only [Nq,Nk,Nl];rfl) (by kernel_rfl) (by kernel_rfl) (by kernel_rfl) (by exact λ_ _ _ h=>h) (Pm ⟨by rfl,rfl⟩) (by assumption) ?_
      try simp only [Act.put,M6,Nc,Nd]
      refine wpAnyH_take (i:=24) (v:=undef) (by simp only [Nq,Nk,Nl];rfl) (by kernel_rfl) (by kernel_rfl) (by kernel_rfl) (by exact λ_ _ _ h=>h) (Pm ⟨by rfl,rfl⟩) (by assumption) ?_
      try simp only [Act.put,M6,Nc,Nd]
      refine wpAnyH_take (i:=25) (v:=undef) (by simp only [Nq,Nk,Nl];rfl) (by kernel_rfl) (by kernel_rfl) (by kernel_rfl) (by exact λ_ _ _ h=>h) (Pm ⟨by rfl,rfl⟩) (by assumption) ?_
      try simp only [Act.put,M6,Nc,Nd]
      refine wpAnyH_take (i:=26) (v:=undef) (by simp only [Nq,Nk,Nl];rfl) (by kernel_rfl) (by kernel_rfl) (by kernel_rfl) (by exact λ_ _ _ h=>h) (Pm ⟨by rfl,rfl⟩) (by assumption) ?_
      try simp only [Act.put,M6,Nc,Nd]
      refine wpAnyH_take (i:=27) (v:=?_) (by simp only [Nq,Nk,Nl];rfl) (by kernel_rfl) (by kernel_rfl) (by kernel_rfl) (by exact λ_ _ _ h=>h) (N0 ⟨by rfl,?_⟩) (by assumption) ?_
      rotate_left
      ·(intro w Z;(try dsimp only at Z);obtain ⟨X,O,Q⟩:=Z;go_simp;first|done|with_reducible rfl)
      try simp only [Act.put,M6,Nc,Nd]
      refine wpAnyH_take (i:=28) (v:=?_) (by simp only [Nq,Nk,Nl];rfl) (by kernel_rfl) (by kernel_rfl) (by kernel_rfl) (by exact λ_ _ _ h=>h) (N0 ⟨by rfl,?_⟩) (by assumption) ?_
      rotate_left
      ·(intro w Z;(try dsimp only at Z);obtain ⟨X,O,Q⟩:=Z;go_simp;first|done|with_reducible rfl)
      try simp only [Act.put,M6,Nc,Nd]
      refine wpAnyH_done (by kernel_rfl) ?_ _
      go_wp2_with fail
      go_ret
      exact ⟨by rw [HR4.out];rfl,RU D hb4w⟩
    ·have hcf:C.cos=false:=by simpa using U
     rw [M8 U] at H
     rw [hcf] at p7
     clear U hcf
     by_cases hM:r1=C.M
     ·have HR4:Hid (RS=true):=by show _=_;rw [H.out,Nv hM]
      have hd:((r1:Int) == C.M)=true:=by simp;omega
      clear hM
      go_wp2_with fail
      go_ret
      exact ⟨by rw [HR4.out];rfl,D⟩
     ·have HR4:Hid (RS=false):=by show _=_;rw [H.out,Nu hM]
      have hd:((r1:Int) == C.M)=false:=by simp;omega
      clear hM
      go_wp2_with fail
      go_ret
      exact ⟨by rw [HR4.out];rfl,D⟩
   ·have hne:((r1:Int) != k)=true:=by simp;omega
    have H:Hid (RS=false):=by show _=_;rw [HR2.out,Nu hrr];rfl
    clear hrr
    go_wp2_with fail
    go_ret
    exact ⟨by rw [H.out];rfl,D⟩
end Go.Proofs.YthglbncgemdcbaaGreat
