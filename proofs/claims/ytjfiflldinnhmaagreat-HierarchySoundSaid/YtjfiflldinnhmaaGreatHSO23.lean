import Derived.Test.YtjfiflldinnhmaaGreatHSO20
import Derived.Test.YtjfiflldinnhmaaGreatHSO21
namespace Go.Proofs.YtjfiflldinnhmaaGreat
set_option linter.all false
set_option maxRecDepth 100000
set_option maxHeartbeats 8000000
open Go.RowKit Go.Proofs.Tryz
theorem mR {w w0 : World} {b : Nat} {G : cC} {a : OA} {n : Nat} {L : LL} {m : Nat} {ay : OA} {ny : Nat} {C : iV} (pb : Nat) (P M : Int) (am : OA) (mn cm c cy : Nat) (sv : Value) (kk : Nat)
  (sa : OA) (ns cs : Nat) (s : LI) (at' : OA) (nt ct : Nat) (t : LI)
  (E : vj w0 b G a n L m ay ny C) (hb : JA w0 w) (hB : ba w pb (kG b P M am mn cm m a n c ay ny cy C sv kk)) (hs : Ints w sa ns s) (ht : Ints w at' nt t) (hns : ns<=1000) :
  Calls prog 242 #[.pointer (some ⟨pb,0,none⟩),.slice sa ns cs,.slice at' nt ct] w λe w'=>e = .returned (.bool (cG G.ops L m C s t))/\JA w w':=by
 have hplt:=ht.pl;have hmaxt:=ht.max;unfold maxLen at hmaxt;have Htl:=Z5 ht.len;have Hsl:=Z5 hs.len;have p0:=hB.cell 0 rfl;have p4:=hB.cell 4 rfl;have p5:=hB.cell 5 rfl;have HBx:=Z5 hB;have HE:=Z5 E;have hG:=E.g.aa hb;have hi:=E.pA.aa hb;have hm6:=E.m6;obtain ⟨RS,hRS⟩ : ∃RS,cG G.ops L m C s t=RS:=⟨_,rfl⟩
 rw [hRS];have HRS : Hid (RS=cG G.ops L m C s t):=hRS.symm;have Hbad : Hid (∀k,k<nt->(fo m t k=false\/nth t k ∈ s)->RS=false):=λk hk h=>by
  rw [HRS.out,cG,qR];rcases h with h | h
  ·have h1 : bI m t=false:=qW (by rw [Htl.out];exact hk) h;rw [h1];rfl
  ·have h1 : t.all (λx=>decide (¬ x ∈ s))=false:=by rw [F6];exact ⟨nth t k,aO (by rw [Htl.out];exact hk),by simpa using h⟩
   rw [h1,GB];rfl
 clear hB E hRS;go_enter func242,ntmps242;go_wp2_with fail;go_loop [11] (λiv=>∃k : Nat,k<=nt/\iv = .int .i64 k/\Hid (lM m t k=true)/\Hid (∀j,j<k->¬ nth t j ∈ s)) (λiv=>nt - (intOf iv).toNat);case atStart=>exact ⟨0,EL _,rfl,(show _=_ by simp [lM]),λj hj=>by omega⟩
 case round =>
  obtain ⟨k,hk,rfl,hok,hnot⟩:=hrel
  by_cases hlt : k<nt
  ·have ck:=ht.cell k hlt
   have HcA:=Z5 (bJ sa ns cs s (nth t k) w hs)
   have Hgo : Hid (¬ nth t k ∈ s->∀j,j<k+1->¬ nth t j ∈ s):=λh j hj=>by
    by_cases e : j=k
    ·rw [e];exact h
    ·exact hnot.out j (by omega)
   by_cases h0 : 0<=nth t k
   ·by_cases h1 : nth t k<m
    ·have d1 : decide (nth t k<0)=false:=by simp;omega
     have d2 : decide ((m : Int)<=nth t k)=false:=by simp;omega
     by_cases hk0 : k=0
     ·subst hk0
      have Hgood : Hid (fo m t 0=true):=by show _=_;unfold fo;simp [h0,h1]
      rw [GY] at ck
      by_cases hmem : nth t 0 ∈ s
      ·have hmd : decide (nth t 0 ∈ s)=true:=by simpa using hmem
       have Hb : Hid (RS=false):=Hbad.out 0 hlt (.inr hmem)
       rw [hmd] at HcA
       clear hmem hmd
       go_wp2_with fail
       refine HcA.out.mono ?_
       rintro e w6 ⟨rfl,rfl⟩
       go_wp2_with fail
       go_ret
       exact ⟨by rw [Hb.out];rfl,EI _ _⟩
      ·have hmd : decide (nth t 0 ∈ s)=false:=by simpa using hmem
       have Hgo2 : Hid (∀j,j<0+1->¬ nth t j ∈ s):=Hgo.out hmem
       rw [hmd] at HcA
       clear hmem hmd
       go_wp2_with fail
       refine HcA.out.mono ?_
       rintro e w6 ⟨rfl,rfl⟩
       go_wp2_with fail
       go_round
       case rel=>exact ⟨1,by omega,by go_num,fK hok.out Hgood.out,Hgo2.out⟩
       case measure=>simp [intOf] <;> omega
     ·have cp:=ht.cell (k - 1) (by omega)
      have e1 : ((k : Int) - 1).toNat=k - 1:=by omega
      have d3 : decide (0<(k : Int))=true:=by simp;omega
      have d4 : (0 : Int)<=(k : Int) - 1:=by omega
      have d5 : (1 : Int)<=(k : Int):=by omega
      have d6 : (k : Int) - 1<nt:=by omega
      by_cases h2 : nth t (k - 1)<nth t k
      ·have Hgood : Hid (fo m t k=true):=by show _=_;unfold fo;simp [h0,h1,h2]
       have h2' : decide (nth t k<=nth t (k - 1))=false:=by simp;omega
       by_cases hmem : nth t k ∈ s
       ·have hmd : decide (nth t k ∈ s)=true:=by simpa using hmem
        have Hb : Hid (RS=false):=Hbad.out k hlt (.inr hmem)
        rw [hmd] at HcA
        clear hmem hmd hk0 e1
        go_wp2_with fail
        refine HcA.out.mono ?_
        rintro e w6 ⟨rfl,rfl⟩
        go_wp2_with fail
        go_ret
        exact ⟨by rw [Hb.out];rfl,EI _ _⟩
       ·have hmd : decide (nth t k ∈ s)=false:=by simpa using hmem
        have Hgo2:=Z5 (Hgo.out hmem)
        rw [hmd] at HcA
        clear hmem hmd hk0 e1
        go_wp2_with fail
        refine HcA.out.mono ?_
        rintro e w6 ⟨rfl,rfl⟩
        go_wp2_with fail
        go_round
        case rel=>exact ⟨k+1,by omega,by go_num,fK hok.out Hgood.out,Hgo2.out⟩
        case measure=>simp [intOf] <;> omega
      ·have Hb : Hid (RS=false):=Hbad.out k hlt (.inl (by unfold fo;simp [h2,hk0]))
       have h2' : decide (nth t k<=nth t (k - 1))=true:=by simp;omega
       clear hk0 e1
       go_wp2_with fail
       go_ret
       exact ⟨by rw [Hb.out];rfl,EI _ _⟩
    ·have Hb : Hid (RS=false):=Hbad.out k hlt (.inl (by unfold fo;simp [h1]))
     have d1 : decide (nth t k<0)=false:=by simp;omega
     have d2 : decide ((m : Int)<=nth t k)=true:=by simp;omega
     go_wp2_with fail
     go_ret
     exact ⟨by rw [Hb.out];rfl,EI _ _⟩
   ·have Hb : Hid (RS=false):=Hbad.out k hlt (.inl (by unfold fo;simp [h0]))
    have d1 : decide (nth t k<0)=true:=by simp;omega
    go_wp2_with fail
    go_ret
    exact ⟨by rw [Hb.out];rfl,EI _ _⟩
  ·have hkn : k=nt:=by omega
   subst hkn
   have hoks : bI m t=true:=by rw [bI,Htl.out];exact hok.out
   have hset : qR m s t=true:=by rw [qR,hoks,GK,Fs];intro x hx;obtain ⟨j,hj,rfl⟩:=List.mem_iff_getElem.1 hx;have h1:=hnot.out j (by rw [<- Htl.out];exact hj);rw [ai hj] at h1;simpa using h1
   have hrng : ∀j,j<k->0<=nth t j/\nth t j<m:=λj hj=>lZ hoks j (by rw [Htl.out];exact hj)
   have hklen : k<=m:=by have h1:=l7 hoks (by omega);rw [Htl.out] at h1;omega
   have HR2 : Hid (RS=(decide ((mz G.ops L t).length=k) && if C.cos=true then decide ((mz G.ops L (aP false s m)).length=k) && decide (C.W<s.length+vz G.ops L C.y s t) else decide (k=C.M))):=by show _=_;rw [HRS.out,cG,hset,GK,Htl.out]
   have hgm : tm G.ops L t k=mz G.ops L t:=zR (by rw [Htl.out];exact EF _)
   have HGr0:=Z5 (lD pb a n c L m at' k ct t k p0 p5 hG hi HE.out.rws ht hrng HE.out.n6 (by omega))
   rw [hgm] at HGr0
   have Hrng:=Z5 hrng
   have hr1 : (mz G.ops L t).length<=k:=by have:=vI G.ops L t;rw [Htl.out] at this;exact this
   obtain ⟨r1,hr1e⟩ : ∃r1,(mz G.ops L t).length=r1:=⟨_,rfl⟩
   unfold cB at HGr0
   rw [hr1e] at hr1 HGr0 HR2
   clear hoks hset hrng hgm hr1e Hbad
   go_wp2_with fail
   refine HGr0.out.mono ?_
   rintro e w2 ⟨a2,c2,rfl,hown2,hb2⟩
   have hB2:=HBx.out.aa hb2
   have p7:=hB2.cell 7 rfl
   have p8:=hB2.cell 8 rfl
   by_cases hrr : r1=k
   ·subst hrr
    have HR3 : Hid (RS=if C.cos=true then decide ((mz G.ops L (aP false s m)).length=r1) && decide (C.W<s.length+vz G.ops L C.y s t) else decide (r1=C.M)):=by show _=_;rw [HR2.out,Fz rfl,GK]
    have hne : ((r1 : Int) != r1)=false:=by simp
    by_cases hcos : C.cos=true
    ·rw [HE.out.c0] at hcos;cases hcos
    ·have hcf : C.cos=false:=by simpa using hcos
     rw [EG hcos] at HR3
     rw [hcf] at p7
     clear hcos hcf
     by_cases hM : r1=C.M
     ·have HR4 : Hid (RS=true):=by show _=_;rw [HR3.out,Fz hM]
      have hd : ((r1 : Int) == C.M)=true:=by simp;omega
      clear hM
      go_wp2_with fail
      go_ret
      exact ⟨by rw [HR4.out];rfl,hb2⟩
     ·have HR4 : Hid (RS=false):=by show _=_;rw [HR3.out,FJ hM]
      have hd : ((r1 : Int) == C.M)=false:=by simp;omega
      clear hM
      go_wp2_with fail
      go_ret
      exact ⟨by rw [HR4.out];rfl,hb2⟩
   ·have hne : ((r1 : Int) != k)=true:=by simp;omega
    have HR3 : Hid (RS=false):=by show _=_;rw [HR2.out,FJ hrr];rfl
    clear hrr
    go_wp2_with fail
    go_ret
    exact ⟨by rw [HR3.out];rfl,hb2⟩
end Go.Proofs.YtjfiflldinnhmaaGreat
