import Derived.Test.YthglbncgemdcbaaGreatS18
import Derived.ArgAppend
import Derived.RangeFuncNested
namespace Go.Proofs.YthglbncgemdcbaaGreat
set_option linter.all false
set_option maxRecDepth 100000
set_option maxHeartbeats 8000000
open Go.RowKit Go.Proofs.Tryz
theorem Dr {w : World} {b : Nat} {G : dn} (h : ew w b G) :
  Calls prog 63 #[.pointer (some ⟨b,0,none⟩)] w λe w'=>e = .returned (.int .i64 (G.q : Nat))/\w=w':=by have hc:=h.cq;go_enter func63,ntmps63;go_wp2;go_ret;exact ⟨rfl,rfl⟩
theorem xL (L : ZZ) {r : Nat} (h : r<L.length) : L.drop r=ai L r :: L.drop (r+1):=by rw [aC h];exact NV h
def DU (J : List WX->World->Prop) (I : Nat->Prop) (W0 : World) (G : dn) (Bc Bat By Bg Bf n N : Nat) (R : ZZ) (r : Int) (d : Nat) : Prop :=
 ∀(au : OA) (cu : Nat) (u : Lz) (pre : List WX) (W : World),aE W0 W I I->J pre W->(∀x ∈ pre,ablk x.a ≠ Bat) ->
  Ca W Bat pre.length->Ints W au n u->(∀j,I j->j ≠ ablk au)->(∀x ∈ u,G.El x)->pre.length+G.q ^ d<=N ->
  Calls prog 251 #[.int .i64 r,.slice au n cu,.pointer (some ⟨Bc,0,none⟩),.pointer (some ⟨Bat,0,none⟩),.pointer (some ⟨By,0,none⟩),.pointer (some ⟨Bg,0,none⟩),.pointer (some ⟨Bf,0,none⟩)] W
   λe V=>e = .returned (.bool true)/\∃xs : List WX,xs.map WX.l=wlkS G.ops G.q R u/\J (pre ++ xs) V/\(∀x ∈ pre ++ xs,ablk x.a ≠ Bat)/\Ca V Bat (pre ++ xs).length/\aE W V I I
theorem AD {W0 : World} {b : Nat} {G : dn} {Bc Bat By Bg Bf l : Nat} {ag : OA} {k cg n : Nat} {L : ZZ} {I : Nat->Prop}
  (J : List WX->World->Prop) (hIB : I Bat) (hIl : ∀x,I x->x<W0.heap.size)
  (HE : ∀V,aE W0 V I I->L3 V b G Bc Bat By Bg Bf l ag k cg L)
  (hJa : ∀pre V V',J pre V->SW V V'->J pre V')
  (N : Nat) (hn : n<=1000000) (hn1 : 1<=n) (hL : bp G.El n L) (hk6 : k<=1000000) (hops : uT G.ops G.El) (d r : Nat) (hrd : r+(d+1)=k)
  (hI : DU J I W0 G Bc Bat By Bg Bf n N (L.drop (r+1)) ((r : Int)+1) d) : DU J I W0 G Bc Bat By Bg Bf n N (L.drop r) r (d+1):=by
 intro au cu u pre W hW hJ hp hat hu hau hue hcnt;obtain rfl : u.length=n:=hu.len;have hrk : r<k:=by omega
 have E:=HE W hW;have hLl : L.length=k:=E.jt.len;have hq2 : 2<=G.q:=E.gf.q2;have hq256 : G.q<=256:=E.gf.q256;have Hdrop : Hid (L.drop r=ai L r :: L.drop (r+1)):=xL L (by omega);have Hcnt:=Z5 hcnt;have HI:=Z5 hI;have HJa:=Z5 hJa;have HHE:=Z5 HE;have HIl:=Z5 hIl;have Hau:=Z5 hau;have Hue:=Z5 hue;have HL:=Z5 hL;have Hp:=Z5 hp;have HLl:=Z5 hLl;have Hhat:=Z5 hat;obtain ⟨cgen,hmat,cyl,cgp,hgf,cfr,hltB⟩:=E;have hne : (decide ((r : Int)=(k : Int)))=false:=by simp;omega
 clear hmat cyl cfr hltB hcnt hI hJa HE hIl hau hue hL hp hat hLl;go_enter func251,ntmps251;go_wp2_with (go_at_call 63;refine (Dr hgf).mono ?_;rintro e w' ⟨rfl,rfl⟩);go_loopw [29] (λiv wr=>∃(t : Nat) (xs : List WX),t<=G.q/\iv = .int .i64 t/\xs.map WX.l=sr G.ops G.q (ai L r) (L.drop (r+1)) u t/\J (pre ++ xs) wr/\Hid (∀x ∈ pre ++ xs,ablk x.a ≠ Bat) /\
   Hid (Ca wr Bat (pre ++ xs).length)/\aE W wr I I) (λiv _=>G.q - (intOf iv).toNat)
 case atStart=>exact ⟨0,[],Ni _,rfl,by simp [sr],by rw [Oj];exact hJ,by rw [Oj];exact Hp.out,by rw [Oj];exact Hhat.out,Sp _ _⟩
 case round =>
  obtain ⟨t,xs,ht,rfl,hxs,hJx,hpx,hatx,hmx⟩:=hrel
  by_cases hlt : t<G.q
  ·generalize wr=X1 at *
   have hMX:=hW.trans hmx
   have hux : Ints X1 au u.length u:=hu.dD hmx (λ_ h=>Hau.out _ h rfl)
   have EX:=HHE.out X1 hMX
   obtain ⟨ar,mr,cr,hrow,hrI⟩:=EX.jt.cell r (by omega)
   have Hxs:=Z5 hxs
   clear hxs
   have hrl : (ai L r).length=u.length:=(HL.out _ (dN (by rw [HLl.out];exact hrk))).1
   obtain rfl : mr=u.length:=by rw [<- hrl];exact hrI.len.symm
   have HrI:=Z5 hrI
   have hplG:=EX.jt.pl
   go_wp2_with (go_at_call 115;refine (dP au u.length cu u hux hn).mono ?_;rintro e w4 ⟨a4,c4,rfl,ho4,hb4⟩;have E4:=HHE.out w4 (hMX.trans (Se hb4 I));have g4:=E4.gen;have r4:=(hb4.cell (p:=⟨ablk ag,aK ag+r,none⟩) (Nt _ _ hrow)).trans hrow)
   have hNl:=pF G.ops u t (ai L r) hrl
   have hrE : ∀x ∈ ai L r,G.El x:=(HL.out _ (dN (by rw [HLl.out];exact hrk))).2
   have hte : G.El (t : Int):=⟨by omega,by omega⟩
   have hNe:=KH hops Hue.out hrE hte hrl
   have hNth : ∀j,j<u.length->nth (pO G.ops u t (ai L r)) j=if (t : Int) ≠ 0/\nth (ai L r) j ≠ 0 then G.add (nth u j) (G.mul t (nth (ai L r) j)) else nth u j:=by
    intro j hj;by_cases h0 : (t : Int)=0
    ·rw [Nf (λh=>h.1 h0)];unfold pO;rw [Nd h0]
    ·rw [CS G.ops u t _ j hrl hj h0];by_cases h1 : nth (ai L r) j=0
     ·rw [Nd h1,Nf (λh=>h.2 h1)]
     ·rw [Nf h1,Nd ⟨h0,h1⟩];rfl
   have HNl:=Z5 hNl
   have HNe:=Z5 hNe
   have HNth:=Z5 hNth
   have HrE:=Z5 hrE
   have Hrl:=Z5 hrl
   have Hsuc : Hid (sr G.ops G.q (ai L r) (L.drop (r+1)) u (t+1)=sr G.ops G.q (ai L r) (L.drop (r+1)) u t ++ wlkS G.ops G.q (L.drop (r+1)) (pO G.ops u t (ai L r))):=D3 _ _ _ _ _ _
   have hlX : Hid (X1.heap.size ≥ W0.heap.size):=hMX.size
   have Hr : Hid (Ints X1 ar u.length (ai L r)):=hrI
   clear hNl hNe hNth hrE hrl hux EX E4 g4 r4 hrI HrI hplG
   generalize pO G.ops u t (ai L r)=Nw at *
   generalize hRo : ai L r=Ro at *
   have HRo:=Z5 hRo
   clear hRo
   go_loopw [40] (λiv wr=>∃kk : Nat,kk<=u.length/\iv = .int .i64 kk/\wr.ownsRow X1.heap.size 3 1 (.slice a4 u.length c4) u.length ((jk Nw u kk).map (Value.int .i64))/\SW X1 wr) (λiv _=>u.length - (intOf iv).toNat)
   case atStart=>exact ⟨0,Ni _,rfl,by rw [gR];exact ho4,hb4⟩
   case round =>
    obtain ⟨kk,hkk,rfl,hown,hbr⟩:=hrel
    have Er:=HHE.out wr (hMX.trans (Se hbr I))
    by_cases hlk : kk<u.length
    ·have hir:=Hr.out.ah hbr
     have hpr:=hir.pl
     have cir:=hir.cell kk hlk
     have hkN : Nw.length=u.length:=HNl.out
     have hval:=HNth.out kk hlk
     have hmix:=fI Nw u kk kk hkN (by omega)
     rw [Nf (by omega)] at hmix
     by_cases hz : (t : Int) ≠ 0/\nth Ro kk ≠ 0
     ·rw [Nd hz] at hval
      have hset:=gD Nw u kk hkN hlk
      rw [hval] at hset
      have Hset:=Z5 hset
      obtain ⟨hiv,hmv⟩:=R6 hown
      have hpv:=hiv.pl
      have cv1:=hiv.cell kk hlk
      have fv1:=(hmv (by omega)).2 kk hlk
      rw [hmix] at cv1
      have elu : G.El (nth u kk):=Hue.out _ (aH hlk)
      have elr : G.El (nth Ro kk):=HrE.out _ (aH (by rw [Hrl.out];exact hlk))
      have cgr:=Er.gp
      have hGr:=Er.gf
      have elm : ∀x y,G.El (G.mul x y):=λx y=>SE hGr x y
      have HG : Hid (ew wr.drew b G/\∀n,ew (wr.drewN n) b G):=⟨hGr.ah (Nc _ _).drew,λn=>hGr.drewN n⟩
      have hz1 : ((t : Int) != 0)=true:=by simpa using hz.1
      have hz2 : (nth Ro kk != 0)=true:=by simpa using hz.2
      have Hiv:=Z5 hiv
      clear hval hmix hset hkN hz Er hGr hir hiv hmv
      go_wp2_with fail
      go_region_law ((first
       | (go_simp;go_at_call 57;((with_reducible refine (qF t (nth Ro kk) HG.out.1 hte elr).mono ?_);rintro e w4 ⟨m4,rfl,rfl⟩))
       | (go_simp;go_at_call 57;((with_reducible refine (qF t (nth Ro kk) (HG.out.2 _) hte elr).mono ?_);rintro e w4 ⟨m4,rfl,rfl⟩))
       | (go_simp;go_at_call 56;((with_reducible refine (LJ (nth u kk) (G.mul t (nth Ro kk)) (HG.out.2 _) elu (elm _ _)).mono ?_);rintro e w4 ⟨m5,rfl,rfl⟩))))
      all_goals (
       go_wp2_with fail
       go_roundw
       case rel =>
        have hdr : bf wr (wr.drewN (1+m4+m5)):=⟨_,rfl⟩
        have h1:=bK (w:=wr.drewN (1+m4+m5)) hown kk hlk (.int .i64 (G.add (nth u kk) (G.mul t (nth Ro kk))))
        rw [<- NF,Hset.out] at h1
        have hlo:=(aY hown (λe=>by have:=hpv (by omega);rw [e] at this;cases this)).1
        exact ⟨kk+1,by omega,by go_num,h1,(hbr.trans (hdr.below.mono hbr.size)).trans ((Nc _ _).setCell (p:=⟨ablk a4,aK a4+kk,none⟩) hlo _)⟩
       case measure=>simp [intOf] <;> omega)
     ·rw [Nf hz] at hval
      have hsame:=rH Nw u kk hkN hlk hval
      have Hsame:=Z5 hsame
      by_cases h0 : (t : Int)=0
      ·have hz1 : ((t : Int) != 0)=false:=by simpa using h0
       clear hval hmix hsame hkN hz h0 Er
       go_wp2_with fail
       go_roundw
       case rel=>exact ⟨kk+1,by omega,by go_num,by rw [Hsame.out];exact hown,hbr⟩
       case measure=>simp [intOf] <;> omega
      ·have hz1 : ((t : Int) != 0)=true:=by simpa using h0
       have hz2 : (nth Ro kk != 0)=false:=by
        have : nth Ro kk=0:=by
         by_cases h1 : nth Ro kk=0
         ·exact h1
         ·exact absurd ⟨h0,h1⟩ hz
        simpa using this
       clear hval hmix hsame hkN hz h0 Er
       go_wp2_with fail
       go_roundw
       case rel=>exact ⟨kk+1,by omega,by go_num,by rw [Hsame.out];exact hown,hbr⟩
       case measure=>simp [intOf] <;> omega
    ·obtain rfl : kk=u.length:=by omega
     rw [iW Nw u _ HNl.out rfl] at hown
     have hMr : aE X1 wr I I:=Se hbr I
     have hfr:=Er.fr
     have hJr:=HJa.out _ _ _ hJx hbr
     have hatr : Ca wr Bat (pre ++ xs).length:=Ca.ah hatx.out hbr
     obtain ⟨hiv,_⟩:=R6 hown
     have hblk : ∀j,I j->j ≠ ablk a4:=λj hj=>by have h1:=HIl.out j hj;have h2:=(aY hown (λe=>by have:=hiv.pl (by omega);rw [e] at this;cases this)).1;have h3 : X1.heap.size ≥ W0.heap.size:=hlX;omega
     have hxl : xs.length=t * G.q ^ d:=by have h1:=congrArg List.length Hxs.out;rw [Nq,AP,QK,HLl.out,show k - (r+1)=d by omega] at h1;exact h1
     have hcnt2 : (pre ++ xs).length+G.q ^ d<=N:=by have h1:=Hcnt.out;have h2 : (t+1) * G.q ^ d<=G.q * G.q ^ d:=Qk _ (by omega);rw [OO,Oe] at h1;rw [Nat.add_mul,Nat.one_mul] at h2;rw [Nl,hxl];omega
     have Hc:=Z5 (HI.out a4 c4 Nw (pre ++ xs) wr (hMX.trans hMr) hJr hpx.out hatr hiv hblk HNe.out hcnt2)
     clear hiv hblk hxl hcnt2 hatr hJr Er
     go_wp2_with (go_at_call 251;refine Hc.out.mono ?_;rintro e V ⟨rfl,xs2,hx2,hJ2,hp2,hat2,hm2⟩)
     have Hx2:=Z5 hx2
     have Hp2:=Z5 hp2
     have Hat2:=Z5 hat2
     clear hx2 hp2 hat2
     go_wp2_with fail
     go_roundw
     case rel=>exact ⟨t+1,xs ++ xs2,by omega,by go_num,by rw [NM,Hxs.out,Hx2.out,<- Hsuc.out,HRo.out],by rw [<- NX];exact hJ2,by rw [<- NX];exact Hp2.out,by rw [<- NX];exact Hat2.out,hmx.trans (hMr.trans hm2)⟩
     case measure=>simp [intOf] <;> omega
  ·obtain rfl : t=G.q:=by omega
   go_wp2_with fail
   go_ret
   refine ⟨rfl,xs,?_,hJx,hpx.out,hatx.out,hmx⟩
   rw [hxs,Hdrop.out];rfl
theorem CQ {W0 : World} {b : Nat} {G : dn} {Bc Bat By Bg Bf l : Nat} {ag : OA} {k cg n : Nat} {L : ZZ} {I : Nat->Prop}
  (J : List WX->World->Prop) (M : Nat->Prop) (hMI : ∀x,M x->I x) (hIB : I Bat) (hMB : ¬ M Bat) (hIl : ∀x,I x->x<W0.heap.size)
  (HE : ∀V,aE W0 V I I->L3 V b G Bc Bat By Bg Bf l ag k cg L)
  (hJa : ∀pre V V',J pre V->SW V V'->J pre V')
  (hJb : ∀pre V v,(∀x ∈ pre,ablk x.a ≠ Bat)->J pre V->J pre (V.setCell ⟨Bat,0,none⟩ v))
  (N : Nat)
  (hY : ∀m pre x V,aE W0 V I I->J pre V->pre.length<N->Ints V x.a n x.l->(∀j,I j->j ≠ ablk x.a)->Mm l n J M m pre x V)
  (hN : N<=1000000) (hn : n<=1000000) (hn1 : 1<=n) (hL : bp G.El n L) (hk6 : k<=1000000) (hops : uT G.ops G.El) : ∀(d r : Nat),r+d=k ->
   DU J I W0 G Bc Bat By Bg Bf n N (L.drop r) r d
 | 0,r,hr=>by obtain rfl : r=k:=hr;intro au cu u pre W hW hJ hp hat hu hau hue hcnt;refine (zm J M hMI hIB hMB hIl HE hJa hJb N hY hN hn hn1 au cu u pre W hW hJ hp hat hu hau (by rw [Nat.pow_zero] at hcnt;omega)).mono ?_;rintro e V ⟨he,xs,h1,h2⟩;refine ⟨he,xs,?_,h2⟩;rw [h1,Ob (by rw [(HE W hW).jt.len];exact Na _)];rfl
 | d+1,r,hr=>AD J hIB hIl HE hJa N hn hn1 hL hk6 hops d r hr (CQ J M hMI hIB hMB hIl HE hJa hJb N hY hN hn hn1 hL hk6 hops d (r+1) (by omega))
theorem uQ {σ : Type} (I : World->σ->Prop) (J : σ->Nat->Prop) (val : σ->ZZ) (F : Lz->Lz->ZZ->Int × ZZ) (pb W : Nat)
  (sa : OA) (ns cs : Nat) (s : Lz) (az : OA) (nz cz : Nat) (z : Lz) (at' : OA) (nt ct : Nat) (t : Lz) (w : World) (σ0 : σ)
  (hI0 : I w σ0) (hIb : ∀V V' σ,I V σ->aE V V' (λb=>w.heap.size<=b/\¬ J σ b) (λb=>w.heap.size<=b/\¬ J σ b)->I V' σ) (hp : w.cell? ⟨pb,9,none⟩=some (.int .i64 W)) (hS : ∀V σ,I V σ->Ints V sa ns s/\Ints V at' nt t)
  (hJ : ∀V σ x,I V σ->J σ x->x<V.heap.size) (hz : Ints w az nz z) (htn : t.Nodup) (hns : ns<=1000) (hnz : nz<=1000) (hnt : nt<=1000) (hWs : ns<=W)
  (hF : ns<W->∀(V : World) (σ : σ) (a1 : OA) (c1 : Nat) (a2 : OA) (c2 k : Nat) (zc : Lz),k<nt->zc=z ++ (t.take k).filter (λx=>decide (¬ x ∈ z))->¬ nth t k ∈ z->I V σ->aE w V (J σ0) (J σ) ->
   Ints V a1 (ns+1) (s ++ [nth t k])->Ints V a2 zc.length zc->¬ J σ (ablk a1)->(a2 ≠ none->¬ J σ (ablk a2)) ->
   Calls prog 193 #[.pointer (some ⟨pb,0,none⟩),.slice a1 (ns+1) c1,.slice a2 zc.length c2] V
    λe V'=>∃σ',I V' σ'/\aE V V' (J σ) (J σ')/\e = .returned (.int .i64 (F (s ++ [nth t k]) zc (val σ)).1)/\((F (s ++ [nth t k]) zc (val σ)).1=0->val σ'=(F (s ++ [nth t k]) zc (val σ)).2)) :
  Calls prog 234 #[.pointer (some ⟨pb,0,none⟩),.slice sa ns cs,.slice az nz cz,.slice at' nt ct,.func (.func 193) #[.pointer (some ⟨pb,0,none⟩)] #[]] w
   λe w'=>∃σ',I w' σ'/\aE w w' (J σ0) (J σ')/\e = .returned (.int .i64 (gW F s z (if ns<W then t.filter (λx=>decide (¬ x ∈ z)) else []) (val σ0)).1) /\
    ((gW F s z (if ns<W then t.filter (λx=>decide (¬ x ∈ z)) else []) (val σ0)).1=0->val σ'=(gW F s z (if ns<W then t.filter (λx=>decide (¬ x ∈ z)) else []) (val σ0)).2):=by
 obtain ⟨KB,hKB⟩ : ∃KB,gW F s z (if ns<W then t.filter (λx=>decide (¬ x ∈ z)) else []) (val σ0)=KB:=⟨_,rfl⟩
 rw [hKB];have HKB:=Z5 hKB;clear hKB;have Hzl:=Z5 hz.len;have Htl:=Z5 (hS w σ0 hI0).2.len;have Hsl:=Z5 (hS w σ0 hI0).1.len;have hplt:=(hS w σ0 hI0).2.pl;have HS:=Z5 hS;have HI0:=Z5 hI0;have HIb:=Z5 hIb;have HJ:=Z5 hJ;have Htn:=Z5 htn;have HF:=Z5 hF;clear hS hI0 hIb hJ htn hF;by_cases hW : ns=W
 ·have hd : ((ns : Int) == (W : Int))=true:=by simp;omega
  have Hk : Hid (KB=(0,val σ0)):=by show _=_;rw [<- HKB.out,Nf (by omega)];rfl
  go_enter func234,ntmps234;clear hW;go_wp2_with fail;go_ret;exact ⟨σ0,HI0.out,Sp _ _,by rw [Hk.out];rfl,λ_=>by rw [Hk.out]⟩
 have hd : ((ns : Int) == (W : Int))=false:=by simp;omega
 have hlW : ns<W:=by omega
 have HKB : Hid (KB=gW F s z (t.filter (λx=>decide (¬ x ∈ z))) (val σ0)):=by show _=_;rw [<- HKB.out,Nd hlW]
 have HF:=Z5 (HF.out hlW);clear hlW hW;go_enter func234,ntmps234;go_wp2_with fail;refine (dP az nz cz z hz (by omega)).mono ?_;rintro e w1 ⟨a0,c0,rfl,hown0,hb1⟩;have hI1:=HIb.out w w1 σ0 HI0.out (Se hb1 _);go_wp2_with fail;go_loopw [2,25] (λzv iv wr=>∃(k : Nat) (aq : OA) (cq : Nat) (zc : Lz) (σ : σ),k<=nt/\iv = .int .i64 k/\zv = .slice aq zc.length cq/\Hid (zc=z ++ (t.take k).filter (λx=>decide (¬ x ∈ z))) /\
   wr.ownsRow w.heap.size 3 1 (.slice aq zc.length cq) zc.length (zc.map (Value.int .i64))/\Hid (I wr σ)/\Hid (aE w wr (J σ0) (J σ))/\Hid (aq ≠ none->¬ J σ (ablk aq)) /\
   Hid (KB=gW F s zc ((t.drop k).filter (λx=>decide (¬ x ∈ z))) (val σ))/\zc.length<=nz+k)
  (λ_ iv _=>nt - (intOf iv).toNat)
 case atStart =>
  refine ⟨0,a0,c0,z,σ0,Ni _,rfl,rfl,?_,hown0,hI1,Se hb1 _,?_,?_,by rw [Hzl.out];omega⟩
  ·show _=_;simp
  ·show a0 ≠ none->_
   intro ha hj
   have h1:=HJ.out w σ0 _ HI0.out hj
   have h2:=(aY hown0 ha).1
   omega
  ·show _=_;rw [OS];exact HKB.out
 case round =>
  obtain ⟨k,aq,cq,zc,σ,hk,rfl,rfl,hzc,hop,hI,hM,hap,hkb,hzn⟩:=hrel
  generalize wr=U at *
  by_cases hlt : k<nt
  ·have htU:=(HS.out U σ hI.out).2
   have hsU:=(HS.out U σ hI.out).1
   have ck:=htU.cell k hlt
   obtain ⟨hzi,_⟩:=R6 hop
   have hktl : k<t.length:=by rw [Htl.out];exact hlt
   have Htk:=Z5 (show t.take (k+1)=t.take k ++ [nth t k] from pM t hktl)
   have Hdk:=Z5 (show t.drop k=nth t k :: t.drop (k+1) by rw [aj hktl];exact NV hktl)
   have Hzm : Hid (nth t k ∈ zc ↔ nth t k ∈ z):=by
    show _ ↔ _;rw [hzc.out,Ol,OG];constructor
    ·rintro (h | h)
     ·exact h
     ·exfalso;have hn : (t.take k ++ t.drop k).Nodup:=by rw [Pg];exact Htn.out
      rw [OM] at hn;exact hn.2.2 _ h.1 (nth t k) (by rw [Hdk.out];simp) rfl
    ·exact .inl
   by_cases hmz : nth t k ∈ z
   ·have hmd : decide (nth t k ∈ zc)=true:=by simpa using Hzm.out.2 hmz
    have HcA:=Z5 (dJ aq zc.length cq zc (nth t k) U hzi)
    rw [hmd] at HcA
    have Hzc2 : Hid (zc=z ++ (t.take (k+1)).filter (λx=>decide (¬ x ∈ z))):=by show _=_;rw [Htk.out,Pe,OP (by simpa using hmz),PH,Oj];exact hzc.out
    have Hkb2 : Hid (KB=gW F s zc ((t.drop (k+1)).filter (λx=>decide (¬ x ∈ z))) (val σ)):=by show _=_;rw [hkb.out,Hdk.out,OP (by simpa using hmz)]
    clear hmz hmd
    go_wp2_with fail
    refine HcA.out.mono ?_
    rintro e w6 ⟨rfl,rfl⟩
    go_wp2_with fail
    go_roundw
    case rel=>exact ⟨k+1,aq,cq,zc,σ,by omega,by go_num,rfl,Hzc2.out,hop,hI.out,hM.out,hap.out,Hkb2.out,by omega⟩
    case measure=>simp [intOf] <;> omega
   ·have hmd : decide (nth t k ∈ zc)=false:=by simpa using λh=>hmz (Hzm.out.1 h)
    have HcA:=Z5 (dJ aq zc.length cq zc (nth t k) U hzi)
    rw [hmd] at HcA
    have Hzc2 : Hid (zc ++ [nth t k]=z ++ (t.take (k+1)).filter (λx=>decide (¬ x ∈ z))):=by show _=_;rw [Htk.out,Pe,OQ (by simpa using hmz),PH,<- NX,<- hzc.out]
    have Hkb2 : Hid (KB=if (F (s ++ [nth t k]) zc (val σ)).1=0 then gW F s (zc ++ [nth t k]) ((t.drop (k+1)).filter (λx=>decide (¬ x ∈ z))) (F (s ++ [nth t k]) zc (val σ)).2 else ((F (s ++ [nth t k]) zc (val σ)).1,[])):=by show _=_;rw [hkb.out,Hdk.out,OQ (by simpa using hmz),gW]
    have HFk:=Z5 (λV σ a1 c1 a2 c2=>HF.out V σ a1 c1 a2 c2 k zc hlt hzc.out hmz)
    have hszU:=hM.out.size
    clear hmz hmd
    go_wp2_with fail
    refine HcA.out.mono ?_
    rintro e w6 ⟨rfl,rfl⟩
    go_wp2_with fail
    refine (dP sa ns cs s hsU (by omega)).mono ?_
    rintro e w7 ⟨a7,c7,rfl,hown7,hb7⟩
    rw [Hsl.out] at hown7
    rw [Hsl.out]
    obtain ⟨x,hx⟩ : ∃x,nth t k=x:=⟨_,rfl⟩
    rw [hx] at ck Hzc2 Hkb2 HFk Htk Hdk Hzm HcA ⊢
    have hcn:=ba w7 (.int .i64 x) 3
    have hbn:=an w7 (.cells #[.int .i64 x] 3)
    go_wp2_with (at_builtin;refine aO rfl _ _ 22 3 rfl (.int .i64 0) 8 underlying22 aU rfl w6.heap.size a7 ns c7 _ rfl (hown7.alloc _) ⟨w7.heap.size,0,none⟩ 1 (.int .i64 x) rfl hcn rfl (by omega) (by unfold maxLen;omega) (Nr hb7.size hbn.size) ?_;intro a8 c8 w8 hown8 hgr8 hap8)
    have hb68 : SW w6 w8:=Sa (RZ hb7 hbn) (hown7.alloc _) hgr8 (Na _) (Nr hb7.size hbn.size)
    have own8 : w8.ownsRow w6.heap.size 3 1 (.slice a8 (ns+1) c8) (ns+1) ((s ++ [x]).map (Value.int .i64)):=by simpa using hown8
    have hz8:=hzi.ah hb68
    clear hown7 hown8 hgr8 hap8 hcn hbn
    go_wp2_with fail
    refine (dP aq zc.length cq zc hz8 (by omega)).mono ?_
    rintro e w9 ⟨a9,c9,rfl,hown9,hb9⟩
    have hb69:=RZ hb68 hb9
    have hI9:=HIb.out w6 w9 σ hI.out (Se hb69 _)
    have hM9 : aE w w9 (J σ0) (J σ):=hM.out.sB (hb69.mono hszU)
    have hs9:=(R6 own8).1.ah hb9
    have hz9:=(R6 hown9).1
    have hn8 : ¬ J σ (ablk a8):=λhj=>by have h1:=HJ.out w6 σ _ hI.out hj;have h2:=(eA own8 (by omega)).1;omega
    have hn9 : a9 ≠ none->¬ J σ (ablk a9):=λha hj=>by have h1:=HJ.out w6 σ _ hI.out hj;have h2:=(aY hown9 ha).1;have h3:=hb68.size;omega
    have hopz:=bd hop hb69
    have HCall:=Z5 (HFk.out w9 σ a8 c8 a9 c9 hI9 hM9 hs9 hz9 hn8 hn9)
    clear HFk hI9 hs9 hz9 hn8 hn9 hz8 own8 hown9
    generalize F (s ++ [x]) zc (val σ)=FR at *
    obtain ⟨fe,fv⟩:=FR
    dsimp only at HCall Hkb2
    go_wp2_with fail
    refine HCall.out.mono ?_
    rintro e w10 ⟨σ',hI',hM',rfl,hval⟩
    have hM10:=Z5 (hM9.trans hM')
    have hapz : aq ≠ none->¬ J σ' (ablk aq):=λha=>hM'.not (aY hopz ha).2 (hap.out ha)
    have hopq:=hM'.own hopz hap.out
    have Hapz:=Z5 hapz
    have HI':=Z5 hI'
    clear HCall hM9 hM' hapz hI' hopz
    by_cases hfe : fe=0
    ·have Hval : Hid (val σ'=fv):=hval hfe
     subst hfe
     rw [Nd rfl] at Hkb2
     have hcn:=ba w10 (.int .i64 x) 3
     have hbn:=an w10 (.cells #[.int .i64 x] 3)
     have hsz10:=hM10.out.size
     clear hval
     go_wp2_with (at_builtin;refine aO rfl _ _ 22 3 rfl (.int .i64 0) 8 underlying22 aU rfl w.heap.size aq zc.length cq _ rfl (hopq.alloc _) ⟨w10.heap.size,0,none⟩ 1 (.int .i64 x) rfl hcn rfl (by omega) (by unfold maxLen;omega) (Nr hsz10 hbn.size) ?_;intro a11 c11 w11 hown11 hgr11 hap11)
     go_roundw
     case rel =>
      have hb11 : Below w.heap.size w10 w11:=Sa (hbn.mono hsz10) (hopq.alloc _) hgr11 (Na _) (Nr hsz10 hbn.size)
      have hK : aE w10 w11 (λb=>w.heap.size<=b/\¬ J σ' b) (λb=>w.heap.size<=b/\¬ J σ' b):=(Se hbn _).trans (Ss hgr11 λha=>⟨(aY hopq ha).1,Hapz.out ha⟩)
      refine ⟨k+1,a11,c11,zc ++ [x],σ',by omega,by go_num,by simp,Hzc2.out,by simpa using hown11,HIb.out w10 w11 σ' HI'.out hK,hM10.out.sB hb11,?_,?_,by simp;omega⟩
      ·show a11 ≠ none->_
       intro ha hj
       have h1:=HJ.out w10 σ' _ HI'.out hj
       have h2 : gE aq (ablk a11):=by
        by_cases h0 : aq=none
        ·exact .inl h0
        ·exact .inr λe=>Hapz.out h0 (by rw [e];exact hj)
       rcases hap11 _ (NR h1 hbn.size) h2 with h3 | h3
       ·exact ha h3
       ·exact h3 rfl
      ·show _=_
       rw [Hkb2.out,Hval.out]
     case measure=>simp [intOf] <;> omega
    ·have hfe' : (fe != 0)=true:=by simpa using hfe
     have Hk2 : Hid (KB=(fe,[])):=by show _=_;rw [Hkb2.out,Nf hfe]
     have Hfe:=Z5 hfe
     clear hfe hval
     go_wp2_with fail
     go_ret
     exact ⟨σ',HI'.out,hM10.out,by rw [Hk2.out];rfl,λh0=>absurd (by rw [Hk2.out] at h0;exact h0) Hfe.out⟩
  ·obtain rfl : k=nt:=by omega
   have Hf : Hid (KB=(0,val σ)):=by show _=_;rw [hkb.out,Ob (by rw [Htl.out];exact Na _),PH,gW]
   go_wp2_with fail
   go_ret
   exact ⟨σ,hI.out,hM.out,by rw [Hf.out];rfl,λ_=>by rw [Hf.out]⟩
theorem Gu {w : World} {b : Nat} {G : dn} (q : Nat) (x : Int) (hc : w.cell? ⟨q,0,none⟩=some (.pointer (some ⟨b,0,none⟩))) (h : ew w b G) :
  Calls prog 144 #[.int .i64 x,.pointer (some ⟨q,0,none⟩)] w λe w'=>e = .returned (.bool (!(decide (0<=x) && decide (x<G.q))))/\w=w':=by
 go_enter func144,ntmps144;go_wp2_with fail;refine (Mn x h).mono ?_;rintro e w' ⟨rfl,rfl⟩;obtain ⟨z,hz⟩ : ∃z,(decide (0<=x) && decide (x<G.q))=z:=⟨_,rfl⟩
 have Hz:=Z5 hz;rw [hz];clear hz;cases z
 ·go_wp2_with fail;go_ret;exact ⟨aZ (by rw [Hz.out];rfl),rfl⟩
 ·go_wp2_with fail;go_ret;exact ⟨aZ (by rw [Hz.out];rfl),rfl⟩
theorem Bn (p : Int->Bool) (q : Nat) (a : OA) (n c : Nat) (l : Lz) (w : World) (hi : Ints w a n l) (hf : ∀k,k<n->Calls prog 144 #[.int .i64 (nth l k),.pointer (some ⟨q,0,none⟩)] w λe w'=>e = .returned (.bool (p (nth l k)))/\w=w') :
  Calls prog 111 #[.slice a n c,.func (.func 144) #[] #[.pointer (some ⟨q,0,none⟩)]] w λe w'=>∃z : Int,e = .returned (.int .i64 z)/\(0<=z ↔ l.any p=true)/\w=w':=by
 have hpl:=hi.pl;have hmax:=hi.max;have HF:=Z5 hf;have Hl:=Z5 hi.len;unfold maxLen at hmax;clear hf;go_enter func111,ntmps111;go_wp2_with fail;go_loop [8] (λiv=>∃k : Nat,k<=n/\iv = .int .i64 k/\Hid (∀j,j<k->p (nth l j)=false)) (λiv=>n - (intOf iv).toNat);case atStart=>exact ⟨0,Ni _,rfl,λj hj=>by omega⟩
 case round =>
  obtain ⟨k,hk,rfl,hno⟩:=hrel
  by_cases hlt : k<n
  ·have ck:=hi.cell k hlt
   have hfk:=HF.out k hlt
   obtain ⟨z,hz⟩ : ∃z,p (nth l k)=z:=⟨_,rfl⟩
   rw [hz] at hfk
   have Hk:=Z5 hfk
   cases z
   ·have Hn : Hid (∀j,j<k+1->p (nth l j)=false):=λj hj=>by
     by_cases e : j=k
     ·subst e;exact hz
     ·exact hno.out j (by omega)
    clear hz hfk hno
    go_wp2_with fail
    refine Hk.out.mono ?_
    rintro e w' ⟨rfl,rfl⟩
    go_wp2_with fail
    go_round
    case rel=>exact ⟨k+1,by omega,by go_num,Hn.out⟩
    case measure=>simp [intOf] <;> omega
   ·have Hy : Hid (l.any p=true):=by show _=_;rw [P0];exact ⟨nth l k,aH (by rw [Hl.out];exact hlt),hz⟩
    clear hz hfk hno
    go_wp2_with fail
    refine Hk.out.mono ?_
    rintro e w' ⟨rfl,rfl⟩
    go_wp2_with fail
    go_ret
    exact ⟨k,rfl,⟨λ_=>by first | exact Hy.out | exact List.any_eq_true.1 Hy.out,λ_=>PD _⟩,rfl⟩
  ·obtain rfl : k=n:=by omega
   have Hy : Hid (l.any p=false):=by show _=_;rw [Qe];intro x hx;obtain ⟨j,hj,rfl⟩:=List.mem_iff_getElem.1 hx;have:=hno.out j (by rw [<- Hl.out];exact hj);rw [aj hj] at this;rw [this];decide
   go_wp2_with fail
   go_ret
   exact ⟨-1,rfl,⟨λh=>absurd h (by omega),λh=>by have h2 : l.any p=true:=(by first | exact h | exact List.any_eq_true.2 h);rw [Hy.out] at h2;exact absurd h2 (by decide)⟩,rfl⟩
theorem vO (p : Int->Bool) (q : Nat) (a : OA) (n c : Nat) (l : Lz) (w : World) (hi : Ints w a n l) (hf : ∀k,k<n->Calls prog 144 #[.int .i64 (nth l k),.pointer (some ⟨q,0,none⟩)] w λe w'=>e = .returned (.bool (p (nth l k)))/\w=w') :
  Calls prog 53 #[.slice a n c,.func (.func 144) #[] #[.pointer (some ⟨q,0,none⟩)]] w λe w'=>e = .returned (.bool (l.any p))/\w=w':=by
 have Hc:=Z5 (Bn p q a n c l w hi hf);clear hf;go_enter func53,ntmps53;go_wp2_with fail;refine Hc.out.mono ?_;rintro e w' ⟨z,rfl,hz,rfl⟩;by_cases h0 : 0<=z
 ·have Hz : Hid (l.any p=true):=hz.1 h0;have h0' : decide (0<=z)=true:=by simpa using h0
  clear hz h0;go_wp2_with fail;go_ret;exact ⟨aZ Hz.out.symm,rfl⟩
 ·have Hz : Hid (l.any p=false):=by
   show _=_;cases h : l.any p
   ·rfl
   ·exact absurd (hz.2 h) h0
  have h0' : decide (0<=z)=false:=by simpa using h0
  clear hz h0;go_wp2_with fail;go_ret;exact ⟨aZ Hz.out.symm,rfl⟩
theorem zl (q : Int) (l : Lz) : l.any (λx=>!(decide (0<=x) && decide (x<q))) = !(dY q l):=by
 unfold dY;induction l with
 | nil=>rfl
 | cons x l ih =>
  rw [List.any_cons,Rj,ih]
  unfold jR
  cases (decide (0<=x) && decide (x<q)) <;> simp
theorem qQ (P M : Int) (am : OA) (mn cm : Nat) (mod : Lz) (ax : OA) (nx cx : Nat) (x : Lz) (n : Nat) (w : World) (hmod : Ints w am mn mod) (hx : Ints w ax nx x) (hB : bA P M mod=true) :
  Calls prog 89 #[.agg #[.int .i64 P,.int .i64 M,.slice am mn cm],.slice ax nx cx,.int .i64 n] w λe w'=>e = .returned (.int .i64 (fD (af P M.toNat mod).q x n))/\SW w w':=by
 have hxl:=hx.len;go_enter func89,ntmps89;go_upto_region 1 with fail;obtain ⟨W,hW⟩ : ∃W : World,W=w.alloc (.cells #[.int .i64 P,.int .i64 M,.slice am mn cm] 24):=⟨_,rfl⟩
 rw [<- hW];have hbW : SW w W:=by rw [hW];exact an _ _
 have x0 : aN W w.heap.size [.int .i64 P,.int .i64 M,.slice am mn cm]:=by rw [hW];exact R9 _ _ _ rfl
 have c0:=x0.cell 0 rfl;have c1:=x0.cell 1 rfl;have c2:=x0.cell 2 rfl;clear hW x0;by_cases hnx : nx=n;rotate_left
 ·have hnn : ((nx : Int) != n)=true:=by simp;omega
  have HL : Hid (fD (af P M.toNat mod).q x n=4):=by show _=_;rw [fD,Nf (by omega)]
  clear hnx hxl;go_wp2_with fail;go_ret;exact ⟨aP HL.out.symm,hbW⟩
 obtain rfl : nx=n:=hnx;have hnn : ((nx : Int) != nx)=false:=by simp
 have HL : Hid (fD (af P M.toNat mod).q x nx=if dY (af P M.toNat mod).q x=true then 0 else 2):=by show _=_;rw [fD,Nd hxl];rfl
 clear hxl;go_wp2_with fail;refine (ef P M am mn cm mod W (hmod.ah hbW)).mono ?_;rintro e w4 (⟨hB2,_,_⟩ | ⟨_,b,rfl,hG,hbl,hb4⟩)
 ·rw [hB] at hB2;cases hB2
 have hbw4:=RZ hbW hb4;have hb5:=an w4 (.cells #[.pointer (some ⟨b,0,none⟩)] 79);have hc5:=ba w4 (.pointer (some ⟨b,0,none⟩)) 79;have hcc:=vO (λy=>!(decide (0<=y) && decide (y<(af P M.toNat mod).q))) w4.heap.size ax nx cx x _ (hx.ah (RZ hbw4 hb5)) λk hk=>Gu w4.heap.size (nth x k) hc5 (hG.gf.ah hb5);rw [zl] at hcc;obtain ⟨z,hz⟩ : ∃z,dY (af P M.toNat mod).q x=z:=⟨_,rfl⟩
 rw [hz] at hcc HL;have Hc:=Z5 hcc;have hF:=RZ hbw4 hb5;have HF:=Z5 hF;clear c0 c1 c2 hG hbl hB hF hcc hz;cases z
 ·have HL2 : Hid (fD (af P M.toNat mod).q x nx=2):=by show _=_;rw [HL.out];rfl
  go_wp2_with fail;refine Hc.out.mono ?_;rintro e w' ⟨rfl,rfl⟩;go_wp2_with fail;go_ret;exact ⟨aP HL2.out.symm,HF.out⟩
 ·have HL2 : Hid (fD (af P M.toNat mod).q x nx=0):=by show _=_;rw [HL.out];rfl
  go_wp2_with fail;refine Hc.out.mono ?_;rintro e w' ⟨rfl,rfl⟩;go_wp2_with fail;go_ret;exact ⟨aP HL2.out.symm,HF.out⟩
section
variable {O : aL} {El : Int->Prop} {m : Nat}
theorem mg.Ls (F : bF O El) {L : ZZ} {P : Lz} {c : Nat} (h : mg L P c) (hL : bp El m L) {v : Lz} (hv : Vc El L.length v) {φ : Lz->Int} (hφ : nZ O El L.length φ)
  {t : Nat} (ht : t<=P.length) (h0 : ∀j,j<t->φ (aR L (nth P j).toNat)=0) : ∀k,k<=t->Vc El L.length (kO O L P v k)/\φ (kO O L P v k)=φ v/\∀i,i<L.length->nth (kO O L P v k) i=if i<k then 0 else nth v i
 | 0,_=>⟨hv,rfl,λi _=>by rw [Nf (by omega)];rfl⟩
 | k+1,hk=>by
  obtain ⟨h1,h2,h3⟩:=h.Ls F hL hv hφ ht h0 k (by omega);have hle:=h.le;have hcol:=cH hL F.zero (nth P k).toNat;have hx:=h1.at (i:=k) (by omega);refine ⟨h1.sub F hcol hx,?_,λi hi=>?_⟩
  ·rw [kO,hφ.sub _ _ _ h1 hcol hx,h0 k (by omega),F.cQ hx,F.dR,F.add_zero _ (hφ.el _ h1),h2]
  ·rw [kO,ga O _ _ _ i (by rw [hcol.1,h1.1]) (by rw [h1.1];exact hi),cI L _ i hi,h.one k i (by omega) hi];by_cases e : i=k
   ·subst e;rw [Nd rfl,F.ie hx,F.add_neg _ hx,Nd (by omega)]
   ·rw [Nf e,F.cQ hx,F.dR,F.add_zero _ (h1.at hi),h3 i hi];by_cases e2 : i<k
    ·rw [Nd e2,Nd (by omega)]
    ·rw [Nf e2,Nf (by omega)]
theorem Fs {P : Lz} (ha : ∀i j,i<j->j<P.length->nth P i<nth P j) {x : Int} (hx : ¬ x ∈ P) : ∀k,k<=P.length->∃t,t<=k/\(∀j,j<t->nth P j<x)/\∀j,t<=j->j<k->x<nth P j
 | 0,_=>⟨0,Na _,λj hj=>by omega,λj _ hj=>by omega⟩
 | k+1,hk=>by
  obtain ⟨t,h1,h2,h3⟩:=Fs ha hx k (by omega);have hne : nth P k ≠ x:=λe=>hx (e ▸ aH (by omega));by_cases ht : t=k
  ·subst ht;by_cases hlt : nth P t<x
   ·exact ⟨t+1,by omega,λj hj=>by
     by_cases e : j=t
     ·subst e;exact hlt
     ·exact h2 j (by omega),λj h4 h5=>by omega⟩
   ·exact ⟨t,by omega,h2,λj h4 h5=>by
     obtain rfl : j=t:=by omega
     omega⟩
  ·refine ⟨t,by omega,h2,λj h4 h5=>?_⟩;by_cases e : j=k
   ·subst e;have:=ha t j (by omega) (by omega);have:=h3 t (Na _) (by omega);omega
   ·exact h3 j h4 (by omega)
theorem Kp (F : bF O El) {R : ZZ} {P : Lz} (hR : bp El m R) (hP : mg R P m) (hl : nQ R P) {f : Nat->Int} (hf : RS O El m R f) {x : Nat} (hx : x<m) (h0 : ∀y,y<x->f y=0) (hne : f x ≠ 0) : (x : Int) ∈ P:=by
 refine NH λhn=>hne ?_;obtain ⟨t,h1,h2,h3⟩:=Fs hl.asc hn P.length (Na _);obtain ⟨e,he,h⟩:=hf;have hlt:=hP.lt;obtain ⟨q1,q2,q3⟩:=hP.Ls F hR (cH hR F.zero x) he h1 (λj hj=>by have:=h2 j hj;have:=hlt j (by omega);rw [<- h _ (by omega)];exact h0 _ (by omega)) t (Na _);rw [h x hx,<- q2];refine he.zero F q1 λi hi=>?_;rw [q3 i hi];split
 ·rfl
 ·rw [cI R x i hi];by_cases hi2 : i<P.length
  ·have:=h3 i (by omega) hi2;exact hl.lead i x hi2 (by omega)
  ·exact hP.zero i x (by omega) hi hx
theorem wb (F : bF O El) {R : ZZ} {P : Lz} (hR : bp El m R) (hP : mg R P m) {f : Nat->Int} (hf : RS O El m R f) (h0 : ∀j,j<P.length->f (nth P j).toNat=0) : ∀x,x<m->f x=0:=λx hx=>by obtain ⟨e,he,h⟩:=hf;rw [h x hx];refine hP.all F hR hx e he λy hy=>?_;obtain ⟨j,hj,rfl⟩:=(ey P _ _).1 hy;rw [<- h _ (by have:=hP.lt j hj;omega)];exact h0 j hj
theorem Cy {P : Lz} (ha : ∀i j,i<j->j<P.length->nth P i<nth P j) : P.Pairwise λx y=>x<y:=by rw [OY];intro i j hi hj hij;have:=ha i j hij hj;rwa [aj hi,aj hj] at this
theorem JL {P P' : Lz} (ha : ∀i j,i<j->j<P.length->nth P i<nth P j) (ha' : ∀i j,i<j->j<P'.length->nth P' i<nth P' j) (h : ∀x,x ∈ P ↔ x ∈ P') : P=P':=by have h1:=Cy ha;have h2:=Cy ha';exact qd (h1.imp λh=>by omega) (h2.imp λh=>by omega) ((QA (h1.imp λh=>by omega) (h2.imp λh=>by omega)).2 h)
theorem wP (F : bF O El) {R R' : ZZ} {P P' : Lz} (hR : bp El m R) (hR' : bp El m R') (hP : mg R P m) (hP' : mg R' P' m) (hl : nQ R P) (hl' : nQ R' P') (hlen : R.length=P.length) (hlen' : R'.length=P'.length)
  (h1 : fE O El m R R') (h2 : fE O El m R' R) : R=R':=by
 have key : ∀ {R R' : ZZ} {P P' : Lz},bp El m R->mg R P m->nQ R P->mg R' P' m->nQ R' P'->R'.length=P'.length->fE O El m R' R->∀x ∈ P',x ∈ P:=λ{R R' P P'} hR hP hl hP' hl' hlen' h2 x hx=>by obtain ⟨i,hi,rfl⟩:=List.mem_iff_getElem.1 hx;have hb:=hP'.lt i hi;have h3:=Kp F hR hP hl (h2 i (by omega)) (x:=(nth P' i).toNat) (by omega) (λy hy=>hl'.lead i y hi hy) (by show nth (ai R' i) (nth P' i).toNat ≠ 0;rw [hP'.one i i hi (by omega),Nd rfl];decide);rw [show (((nth P' i).toNat : Nat) : Int)=nth P' i by omega,aj hi] at h3;exact h3
 have hPP : P=P':=JL hl.asc hl'.asc λx=>⟨key hR' hP' hl' hP hl hlen h1 x,key hR hP hl hP' hl' hlen' h2 x⟩
 subst hPP;refine Ov (by omega) λi hi hi'=>?_;have hr:=hR _ (NO hi);have hr':=hR' _ (NO hi');refine jn (by rw [hr.1,hr'.1]) λx hx=>?_;rw [hr.1] at hx;have hz:=wb F hR hP ((h2 i hi').comb F (Sg F (m:=m) hi) F.one) (λj hj=>by
  show O.add (nth (ai R' i) (nth P j).toNat) (O.neg (O.mul (nth (ai R i) (nth P j).toNat) 1))=0;rw [hP'.one j i hj hi',hP.one j i hj hi];split
  ·rw [F.ie F.one,F.add_neg _ F.one]
  ·rw [F.ie F.zero,F.add_neg _ F.zero]) x hx
 have hz' : O.add (nth (ai R' i) x) (O.neg (O.mul (nth (ai R i) x) 1))=0:=hz;have e1 : El (nth R[i] x):=hr.2 _ (aH (by rw [hr.1];exact hx));have e2 : El (nth R'[i] x):=hr'.2 _ (aH (by rw [hr'.1];exact hx));rw [aC hi,aC hi',F.ie e1] at hz';have h4:=F.iH e2 (F.cl.neg _ e1) hz';have h5:=congrArg O.neg h4;rwa [F.neg_neg e1,F.neg_neg e2] at h5
theorem gz (F : bF O El) (n k : Nat) : Vc El n (eU n k):=by
 refine ⟨tC n k,λx hx=>?_⟩;unfold eU at hx;rcases Oz hx with hx | rfl
 ·rw [On hx];exact F.zero
 ·exact F.one
theorem tU {n k i : Nat} (hk : k<n) : nth (eU n k) i=if i=k then 1 else 0:=by
 unfold eU;rw [eh _ _ _ _ (by simpa using hk)];split
 ·rfl
 ·unfold nth;simp only [Ng,NI];split <;> rfl
def cutTo (O : aL) (n : Nat) (v : Lz) : Nat->Lz
 | 0=>v
 | k+1=>ez O (cutTo O n v k) (nth v k) (eU n k)
theorem Bw (F : bF O El) {n : Nat} {φ : Lz->Int} (hφ : nZ O El n φ) {v : Lz} (hv : Vc El n v) : ∀k,k<=n->Vc El n (cutTo O n v k)/\(∀i,i<n->nth (cutTo O n v k) i=if i<k then 0 else nth v i) /\
  O.add (φ (cutTo O n v k)) (dotN O (λt=>φ (eU n t)) (λt=>nth v t) k)=φ v
 | 0,_=>⟨hv,λi _=>by rw [Nf (by omega)];rfl,by rw [dotN];exact F.add_zero _ (hφ.el _ hv)⟩
 | k+1,hk=>by
  obtain ⟨h1,h2,h3⟩:=Bw F hφ hv k (by omega);have hu:=gz F n k;have hx:=hv.at (i:=k) (by omega);refine ⟨h1.sub F hu hx,λi hi=>?_,?_⟩
  ·rw [cutTo,ga O _ _ _ i (by rw [hu.1,h1.1]) (by rw [h1.1];exact hi),tU (by omega),h2 i hi];by_cases e : i=k
   ·subst e;rw [Nd rfl,Nf (by omega),F.ie hx,F.add_neg _ hx,Nd (by omega)]
   ·rw [Nf e,F.cQ hx,F.dR];by_cases e2 : i<k
    ·rw [Nd e2,Nd (by omega),F.add_zero _ F.zero]
    ·rw [Nf e2,Nf (by omega),F.add_zero _ (hv.at hi)]
  ·have hm:=F.cl.mul _ _ hx (hφ.el _ hu);have hd:=fQ F (a:=λt=>φ (eU n t)) (b:=λt=>nth v t) k (λp _=>hφ.el _ (gz F n p)) (λp hp=>hv.at (by omega));rw [cutTo,hφ.sub _ _ _ h1 hu hx,dotN,F.mul_comm _ _ (hφ.el _ hu) hx,F.zT (hφ.el _ h1) (F.cl.neg _ hm) hd hm,F.lB hm,F.add_zero _ (F.cl.add _ _ (hφ.el _ h1) hd),h3]
theorem fG (F : bF O El) {n : Nat} {φ : Lz->Int} (hφ : nZ O El n φ) {v : Lz} (hv : Vc El n v) : φ v=dotN O (λt=>φ (eU n t)) (λt=>nth v t) n:=by obtain ⟨h1,h2,h3⟩:=Bw F hφ hv n (Na _);rw [<- h3,hφ.zero F h1 λi hi=>by rw [h2 i hi,Nd hi],F.tI (fQ F n (λp _=>hφ.el _ (gz F n p)) (λp hp=>hv.at hp))]
theorem qx (F : bF O El) {L : ZZ} (hL : bp El m L) {x : Lz} (hx : ∀k,k<L.length->El (nth x k)) {y : Nat} (hy : y<m) : ∀k,k<=L.length->nth (cmbTo O m x L k) y=dotN O (λt=>nth x t) (λt=>nth (ai L t) y) k
 | 0,_=>by rw [cmbTo,dotN];unfold nth;simp only [Ng,NI];split <;> rfl
 | k+1,hk=>by
  have ih:=qx F hL hx hy k (by omega);obtain ⟨h1,_⟩:=fF F hL hx k (by omega);have hr:=hL.row (i:=k) (by omega);have hd:=fQ F (a:=λt=>nth x t) (b:=λt=>nth (ai L t) y) k (λp hp=>hx p (by omega)) (λp hp=>Sc (hL.row (i:=p) (by omega)) hy);rw [cmbTo,dotN];split
  ·rename_i e0;rw [ih,e0,F.iS (Sc hr hy),F.add_zero _ hd]
  ·rw [gP O _ _ _ y (by rw [hr.1,h1.1]) (by rw [h1.1];exact hy),ih];split
   ·rename_i e1;show _=O.add _ (O.mul (nth x k) (nth (ai L k) y));rw [e1,F.cQ (hx k (by omega)),F.add_zero _ hd]
   ·rfl
end
section
variable {P M : Int} {mod : Lz} {m : Nat} {L : ZZ}
end
theorem Gy (P M : Int) (am : OA) (mn cm : Nat) (mod : Lz) (n : Nat) (a : OA) (k c : Nat) (L : ZZ) (W : World) (Bc l : Nat) (hE : aF P M mod n L=0)
  (x0 : aN W Bc [.int .i64 P,.int .i64 M,.slice am mn cm,.int .i64 n,.slice a k c]) (hmod : Ints W am mn mod) (hi : br W a k L)
  (J : List WX->World->Prop) (MM : Nat->Prop) (hML : ∀x,MM x->x<W.heap.size)
  (hmat : ∀V,(∀x,x<W.heap.size->¬ MM x->V.heap[x]? = W.heap[x]?)->br V a k L/\V.cell? ⟨Bc,4,none⟩=some (.slice a k c))
  (hJa : ∀pre V V',J pre V->SW V V'->J pre V')
  (hJb : ∀B pre V v,W.heap.size<=B->(∀x ∈ pre,ablk x.a ≠ B)->J pre V->J pre (V.setCell ⟨B,0,none⟩ v))
  (hY : ∀m pre x V,J pre V->pre.length<(af P M.toNat mod).q ^ k->Ints V x.a n x.l->(∀j,MM j->j ≠ ablk x.a)->Mm l n J MM m pre x V)
  (hN : (af P M.toNat mod).q ^ k<=1000000) (h0 : J [] W) :
  Calls prog 250 #[.func (.yield l) #[] #[],.pointer (some ⟨Bc,0,none⟩)] W λe V=>e = .returned (.tuple #[]) /\
   ∃xs : List WX,xs.map WX.l=wlkS (af P M.toNat mod).ops (af P M.toNat mod).q L (List.replicate n 0)/\J xs V/\aE W V MM MM:=by
 obtain ⟨N',em,hm1,hm64,F,hR⟩:=aM hE;obtain rfl : n=N':=by omega
 have hk256 : k<=256:=by rw [<- hi.len];exact (bJ hE).choose_spec.2.2.2.1
 have hfB:=(aG hE).1;have hLk : L.length=k:=hi.len;have HCk : Hid (∀V,SW W V->Calls prog 88 #[.agg #[.int .i64 P,.int .i64 M,.slice am mn cm,.int .i64 n,.slice a k c]] V λe w'=>e = .returned (.int .i64 0)/\SW V w'):=λV hV=>by have h:=dr P M am mn cm mod n a k c L V (hmod.ah hV) (hi.ah hV);rw [hE] at h;exact h
 have HNw : Hid (∀V,SW W V->Calls prog 52 #[.agg #[.int .i64 P,.int .i64 M,.slice am mn cm]] V λe w'=>∃b,e = .returned (.tuple #[.pointer (some ⟨b,0,none⟩),.int .i64 0])/\BT V.heap.size w' b (af P M.toNat mod)/\V.heap.size<=b/\SW V w'):=λV hV=>by
  refine (ef P M am mn cm mod V (hmod.ah hV)).mono ?_;rintro e w' (⟨h1,_⟩ | ⟨_,h2⟩)
  ·rw [hfB] at h1;cases h1
  ·exact h2
 obtain ⟨G,hG⟩ : ∃G,af P M.toNat mod=G:=⟨_,rfl⟩
 rw [hG] at HNw F hR hY hN ⊢;have HX:=Z5 x0;have HJa:=Z5 hJa;have HJb:=Z5 hJb;have HY:=Z5 hY;have Hmat:=Z5 hmat;have HML:=Z5 hML;have H0:=Z5 h0;have HR:=Z5 hR;have HN:=Z5 hN;have HLk:=Z5 hLk;clear hG hfB hE em hmod hi hJa hJb hY hmat hML h0 hR hN hLk;clear x0;go_enter func250,ntmps250;go_upto_region 1 with fail;obtain ⟨W1,hW1⟩ : ∃W1 : World,W1=W.alloc (.cells #[.func (.yield l) #[] #[]] 251):=⟨_,rfl⟩
 rw [<- hW1];have hb1 : SW W W1:=by rw [hW1];exact an _ _
 have y1 : aN W1 W.heap.size [.func (.yield l) #[] #[]]:=by rw [hW1];exact R9 _ _ _ rfl
 have Y1:=Z5 y1;have x1:=HX.out.ah hb1;have c0:=x1.cell 0 rfl;have c1:=x1.cell 1 rfl;have c2:=x1.cell 2 rfl;have c3:=x1.cell 3 rfl;have c4:=x1.cell 4 rfl;clear hW1 y1 x1;go_wp2_with (go_at_call 88;refine (HCk.out _ hb1).mono ?_;rintro e w2 ⟨rfl,hb2⟩;have x2:=(HX.out.ah hb1).ah hb2;have d0:=x2.cell 0 rfl;have d1:=x2.cell 1 rfl;have d2:=x2.cell 2 rfl;have d3:=x2.cell 3 rfl;have d4:=x2.cell 4 rfl;clear x2);refine (HNw.out w2 (RZ hb1 hb2)).mono ?_;rintro e w3 ⟨b,rfl,hG3,hbb,hb3⟩;have HG3:=Z5 hG3;have Hbb:=Z5 hbb;clear hG3 hbb d0 d1 d2 d3 d4 c0 c1 c2 c3 c4;go_upto_region 5 with fail;obtain ⟨W4,hW4⟩ : ∃W4 : World,W4=(((w3.alloc (.cells #[.pointer (some ⟨b,0,none⟩)] 79)).alloc (.cells #[.int .i64 0] 3)).alloc (.cells #[.nilFunc] 251)):=⟨_,rfl⟩
 rw [<- hW4];have hb4 : SW w3 W4:=by rw [hW4];exact mF _ _ _ _
 have hs4 : W4.heap.size=w3.heap.size+3:=by rw [hW4];simp
 have g4 : aN W4 w3.heap.size [.pointer (some ⟨b,0,none⟩)]:=by rw [hW4];exact ((R9 _ _ _ rfl).alloc _).alloc _
 have a4 : aN W4 (w3.heap.size+1) [.int .i64 0]:=by rw [hW4];exact (R9 _ _ _ (by simp)).alloc _
 have f4 : aN W4 (w3.heap.size+1+1) [.nilFunc]:=by rw [hW4];exact R9 _ _ _ (by simp)
 clear hW4;have fc:=f4.cell 0 rfl;have ff:=f4.frozen 0;have G4:=Z5 g4;have A4:=Z5 a4;have F4:=Z5 f4;clear g4 a4 f4;have hst : ∀(fn : Fn) (x y : Array Value),(store (⟨w3.heap.size+1+1,0,none⟩ : Addr) (.func fn x y)).run prog W4 = .ok () (W4.setCell ⟨w3.heap.size+1+1,0,none⟩ (.func fn x y)):=λfn x y=>by rw [run_store _ _ _ _ _ rfl,fc];simp [ff]
 go_upto_region 6 with fail;have F5e : ∃FV : Value,FV = .func (.func 251) #[] #[.pointer (some ⟨Bc,0,none⟩),.pointer (some ⟨w3.heap.size+1,0,none⟩),.pointer (some ⟨W.heap.size,0,none⟩),.pointer (some ⟨w3.heap.size,0,none⟩),.pointer (some ⟨w3.heap.size+1+1,0,none⟩)]:=⟨_,rfl⟩
 obtain ⟨W5,hW5⟩ : ∃W5 : World,W5=W4.setCell ⟨w3.heap.size+1+1,0,none⟩ (.func (.func 251) #[] #[.pointer (some ⟨Bc,0,none⟩),.pointer (some ⟨w3.heap.size+1,0,none⟩),.pointer (some ⟨W.heap.size,0,none⟩),.pointer (some ⟨w3.heap.size,0,none⟩),.pointer (some ⟨w3.heap.size+1+1,0,none⟩)]):=⟨_,rfl⟩
 rw [<- hW5];clear F5e;have hb45 : Below (w3.heap.size+2) W4 W5:=by rw [hW5];exact (Nc _ _).setCell (p:=⟨w3.heap.size+1+1,0,none⟩) (Na _) _
 have fc5 : W5.cell? ⟨w3.heap.size+1+1,0,none⟩=some (.func (.func 251) #[] #[.pointer (some ⟨Bc,0,none⟩),.pointer (some ⟨w3.heap.size+1,0,none⟩),.pointer (some ⟨W.heap.size,0,none⟩),.pointer (some ⟨w3.heap.size,0,none⟩),.pointer (some ⟨w3.heap.size+1+1,0,none⟩)]):=by rw [hW5];exact P1 _ _ _ (by rw [fc];rfl)
 have hs5 : W5.heap.size=w3.heap.size+3:=by rw [hW5,<- hs4];simp
 clear hW5 hst fc ff;have hb12:=RZ hb1 hb2;have hb13:=RZ hb12 hb3;have hb35 : SW w3 W5:=hb4.trans (hb45.mono (by omega));have hbW5 : SW W W5:=RZ hb13 hb35;have cN:=(HX.out.ah hbW5).cell 3 rfl;have gc5 : W5.cell? ⟨w3.heap.size,0,none⟩=some (.pointer (some ⟨b,0,none⟩)):=(hb45.cell (p:=⟨w3.heap.size,0,none⟩) (by show w3.heap.size<_;omega)).trans (G4.out.cell 0 rfl);have ac5 : Ca W5 (w3.heap.size+1) 0:=Ca.of_block (V:=W4) ⟨A4.out.cell 0 rfl,A4.out.frozen 0⟩ (hb45.block _ (by omega));have yc5 : W5.cell? ⟨W.heap.size,0,none⟩=some (.func (.yield l) #[] #[]):=((Y1.out.ah hb2).ah hb3 |>.ah hb35).cell 0 rfl;have hsz1 : W.heap.size<W1.heap.size:=Y1.out.1;have hsz2:=hb2.size;have hsz3:=hb3.size;have Hc : Hid (∀V a1 c1,V.ownsRow W5.heap.size 3 1 (.slice a1 n c1) n ((List.replicate n (0 : Int)).map (Value.int .i64))->SW W5 V ->
   Calls prog 251 #[.int .i64 0,.slice a1 n c1,.pointer (some ⟨Bc,0,none⟩),.pointer (some ⟨w3.heap.size+1,0,none⟩),.pointer (some ⟨W.heap.size,0,none⟩),.pointer (some ⟨w3.heap.size,0,none⟩),.pointer (some ⟨w3.heap.size+1+1,0,none⟩)] V
    λe V'=>e = .returned (.bool true)/\∃xs : List WX,xs.map WX.l=wlkS G.ops G.q L (List.replicate n 0)/\J xs V'/\aE W V' MM MM):=by
  intro V a1 c1 hown hbV;have hWV : SW W V:=RZ hbW5 hbV;have h35V : SW w3 V:=hb35.trans (hbV.mono (by omega));have hMo : ∀V',aE V V' (λx=>MM x\/x=w3.heap.size+1) (λx=>MM x\/x=w3.heap.size+1)->∀x,x<W.heap.size->¬ MM x->V'.heap[x]? = W.heap[x]?:=λV' hm x hx hn =>
   (hm.block x (by have:=hWV.size;omega) (λh=>h.elim hn (by omega))).trans (hWV.block x hx)
  obtain ⟨hia,_⟩:=R6 hown;have hres:=CQ (W0:=V) (b:=b) (G:=G) (Bc:=Bc) (Bat:=w3.heap.size+1) (By:=W.heap.size) (Bg:=w3.heap.size) (Bf:=w3.heap.size+1+1) (l:=l) (ag:=a) (k:=k) (cg:=c) (n:=n) (L:=L)
   (I:=λx=>MM x\/x=w3.heap.size+1) J MM (λx h=>.inl h) (.inr rfl) (λh=>by have:=HML.out _ h;omega)
   (λx h=>by have:=hWV.size;have:=h35V.size;have:=hbV.size;exact h.elim (λh=>by have:=HML.out _ h;omega) (λh=>by omega))
   (λV' hm=>by
    obtain ⟨hma,hgc⟩:=Hmat.out V' (hMo V' hm);have hnI : ∀x,W.heap.size<=x->x ≠ w3.heap.size+1->¬ (MM x\/x=w3.heap.size+1):=λx h1 h2 h3=>h3.elim (λh=>by have:=HML.out _ h;omega) h2;refine ⟨hgc,hma,?_,?_,?_,?_,?_⟩
    ·exact hm.cell ((hbV.cell (p:=⟨W.heap.size,0,none⟩) (Nt _ _ yc5)).trans yc5) (hnI _ (Na _) (by show W.heap.size ≠ _;omega))
    ·exact hm.cell ((hbV.cell (p:=⟨w3.heap.size,0,none⟩) (Nt _ _ gc5)).trans gc5) (hnI _ (by show W.heap.size<=w3.heap.size;omega) (by show w3.heap.size ≠ _;omega))
    ·refine HG3.out V' λx h1 h2=>(hm.block x (by have:=h35V.size;omega) (hnI x (by omega) (by omega))).trans (h35V.block x h2)
    ·exact hm.cell ((hbV.cell (p:=⟨w3.heap.size+1+1,0,none⟩) (Nt _ _ fc5)).trans fc5) (hnI _ (by show W.heap.size<=w3.heap.size+1+1;omega) (by show w3.heap.size+1+1 ≠ _;omega))
    ·have:=hm.size;have:=h35V.size;have:=hbV.size;omega)
   HJa.out (λpre V' v hp hj=>HJb.out _ pre V' v (by omega) hp hj) (G.q ^ k)
   (λm pre x V' _ hj hlt hix hI=>HY.out m pre x V' hj hlt hix λj hj'=>hI j (.inl hj'))
   HN.out (by omega) hm1 HR.out (by omega) F.cl k 0 (by omega)
   a1 c1 (List.replicate n 0) [] V (Sp _ _) (HJa.out _ _ _ H0.out hWV) (λx hx=>by simp at hx) (ac5.ah hbV) hia
   (λj hj=>by
    have h2:=(aY hown (λe=>by have:=hia.pl (by omega);rw [e] at this;cases this)).1;rcases hj with h | h
    ·have:=HML.out _ h;have:=hbW5.size;omega
    ·omega)
   (λx hx=>by rw [(List.mem_replicate.1 hx).2];exact F.zero) (by simp)
  refine hres.mono ?_;rintro e V' ⟨he,xs,h1,h2,_,_,h5⟩;refine ⟨he,xs,by rw [h1,OS],by simpa using h2,?_⟩;have hm0 : aE W V' (λx=>MM x\/x=w3.heap.size+1) (λx=>MM x\/x=w3.heap.size+1):=(Se hWV _).trans h5;exact ⟨hm0.os,hm0.tape,hm0.output,hm0.size,λx hx hn=>hm0.block x hx λh=>h.elim hn (by omega),λx h=>.inl h⟩
 have hmk:=run_mk (P:=prog) 22 3 (.int .i64 0) 8 underlying22 aU rfl n (by omega) (by omega);have hoD : (W5.alloc (.cells (Array.replicate n (Value.int .i64 0)) 3)).drew.ownsRow W5.heap.size 3 1 (.slice (some ⟨W5.heap.size,0,none⟩) n n) n (List.replicate n (Value.int .i64 0)):=qA W5.drew 3 (.int .i64 0) n rfl (Na _) (by unfold maxLen;omega);rw [<- OF (f:=Value.int .i64)] at hoD;have HC:=Z5 (Hc.out _ _ _ hoD ((Nc _ _).alloc (Na _) _).drew);have fc6:=(((Nc W5.heap.size W5).alloc (Na _) (.cells (Array.replicate n (Value.int .i64 0)) 3)).cell (p:=⟨w3.heap.size+1+1,0,none⟩) (Nt _ _ fc5)).trans fc5;clear hoD gc5 yc5 ac5 hs5 hs4;go_region_law ((first
  | (go_simp;go_at_call 251;((with_reducible refine HC.out.mono ?_);rintro e V ⟨rfl,xs,hx,hJx,hmx⟩))))
 all_goals go_wp2_with fail
 all_goals go_end0
 all_goals exact ⟨rfl,xs,hx,hJx,hmx⟩
section
variable {O : aL} {El : Int->Prop} {m : Nat} {L : ZZ}
theorem ei {R : ZZ} {r : Lz} (h : r ∈ R) : ∃j,j<R.length/\ai R j=r:=by obtain ⟨j,hj,e⟩:=List.mem_iff_getElem.1 h;exact ⟨j,hj,by rw [aC hj];exact e⟩
theorem RS.el (F : bF O El) (hL : bp El m L) {f : Nat->Int} (h : RS O El m L f) {x : Nat} (hx : x<m) : El (f x):=by obtain ⟨e,he,h2⟩:=h;rw [h2 x hx];exact he.el _ (cH hL F.zero x)
structure M4 (O : aL) (El : Int->Prop) (m : Nat) (L R : ZZ) (Z : Lz) : Prop where
 rws : bp El m R
 sub : fE O El m R L
 zero : ∀r ∈ R,∀z ∈ Z,nth r z.toNat=0
 all : ∀f,RS O El m L f->(∀z ∈ Z,f z.toNat=0)->RS O El m R f
 cnt : R.length+gk O L Z=L.length
end
section
structure RX where
 a : OA
 c : Nat
 l : Lz
structure jz (A : Nat->Prop) (w : World) (a : OA) (n : Nat) (L : ZZ) : Prop where
 len : L.length=n
 pl : Pl a n
 max : n<=maxLen
 no : 0<n->¬ A (ablk a)
 cell : ∀i,i<n->∃b m c,w.cell? ⟨ablk a,aK a+i,none⟩=some (.slice b m c)/\Ints w b m (ai L i)/\(0<m->¬ A (ablk b))
theorem jz.jt {A : Nat->Prop} {w : World} {a : OA} {n : Nat} {L : ZZ} (h : jz A w a n L) : br w a n L :=
 ⟨h.len,h.pl,h.max,λi hi=>by obtain ⟨b,m,c,h1,h2,_⟩:=h.cell i hi;exact ⟨b,m,c,h1,h2⟩⟩
theorem jz.dD {A A' : Nat->Prop} {w w' : World} {a : OA} {n : Nat} {L : ZZ} (h : jz A w a n L) (hM : aE w w' A A') : jz A w' a n L :=
 ⟨h.len,h.pl,h.max,h.no,λi hi=>by obtain ⟨b,m,c,h1,h2,h3⟩:=h.cell i hi;exact ⟨b,m,c,hM.cell h1 (h.no (by omega)),h2.dD hM h3,h3⟩⟩
theorem jz.ah {A : Nat->Prop} {w w' : World} {a : OA} {n : Nat} {L : ZZ} (h : jz A w a n L) (hb : SW w w') : jz A w' a n L:=h.dD (Se hb A)
theorem jz.IG {A : Nat->Prop} {w : World} {a : OA} {n : Nat} {L : ZZ} (h : br w a n L) (hA : ∀b,A b->w.heap.size<=b) : jz A w a n L :=
 ⟨h.len,h.pl,h.max,λhn hc=>by have:=hA _ hc;have:=h.lt hn;omega,λi hi=>by obtain ⟨b,m,c,h1,h2⟩:=h.cell i hi;exact ⟨b,m,c,h1,h2,λhm hc=>by have:=hA _ hc;have:=h2.lt hm;omega⟩⟩
variable {w : World} {b : Nat} {G : dn}
end
theorem jz.cells {I : Nat->Prop} {w : World} {a : OA} {n : Nat} {L : ZZ} (h : jz I w a n L) : ∃l : List Value,l.length=n/\(∀j,j<n->w.cell? ⟨ablk a,aK a+j,none⟩=l[j]?)/\(∀u ∈ l,u.oneCell'=true) /\
  ∀j,j<n->∃b m c,l[j]? = some (.slice b m c)/\Ints w b m (ai L j)/\(0<m->¬ I (ablk b)):=by
 have key : ∀k,k<=n->∃l : List Value,l.length=k/\(∀j,j<k->w.cell? ⟨ablk a,aK a+j,none⟩=l[j]?)/\(∀u ∈ l,u.oneCell'=true)/\∀j,j<k->∃b m c,l[j]? = some (.slice b m c)/\Ints w b m (ai L j)/\(0<m->¬ I (ablk b)):=λk hk=>by
  induction k with
  | zero=>exact ⟨[],rfl,λj hj=>by omega,λu hu=>by simp at hu,λj hj=>by omega⟩
  | succ k ih =>
   obtain ⟨l,h1,h2,h3,h4⟩:=ih (by omega)
   obtain ⟨b,m,c,hc,hi⟩:=h.cell k (by omega)
   refine ⟨l ++ [.slice b m c],by simp [h1],λj hj=>?_,λu hu=>?_,λj hj=>?_⟩
   ·by_cases e : j=k
    ·subst e;rw [hc,<- h1,PL]
    ·rw [Ny (by omega)];exact h2 j (by omega)
   ·rcases List.mem_append.1 hu with hu | hu
    ·exact h3 u hu
    ·rw [List.mem_singleton.1 hu];rfl
   ·by_cases e : j=k
    ·subst e;exact ⟨b,m,c,by rw [<- h1,PL],hi⟩
    ·rw [Ny (by omega)];exact h4 j (by omega)
 exact key n (Na _)
theorem xX {P : Program} {w : World} {ops : Array Oper} {rest : List Oper} {o : Oper} {ac : Act} {Q : Exit->Act->World->Prop}
  (hg : o.guard=none) (s x : Operand) (t e : TypeId) (hop : o.op = .call { callee:=.builtin .append,args:=#[s,x],argTypes:=#[t,t] }) (bytes : Nat)
  (h1 : P.underlying t=some (.slice e)) (h2 : (P.info? e).map (λi=>(i.zero,i.size,i.bytes))=some (some (.slice none 0 0),1,bytes))
  (I : Nat->Prop) (hI : ∀b,I b->b<w.heap.size) (a : OA) (k : Nat) (A : ZZ) (hs : ac.eval s = .slice a k k) (hA : jz I w a k A)
  (a2 : OA) (n c : Nat) (L : ZZ) (hx : ac.eval x = .slice a2 n c) (hL : jz I w a2 n L) (b2 : (k+n) * bytes<=140737488355328) (b3 : k+n<=maxLen)
  (hK : ∀a' c' w',jz I w' a' (k+n) (A ++ L)->SW w w'->wpList P ops Q rest (ac.put o.dst (.slice a' (k+n) c')) w') :
  wpList P ops Q (o :: rest) ac w:=by
 obtain ⟨i,hi,hz0,hz1,hz2⟩:=info_parts h2;by_cases hn : n=0
 ·subst hn;obtain rfl : L=[]:=NL hL.len;refine wpList_plain hg λK hK'=>?_;unfold Oper.wp execOp;simp only [hop,resolve,invoke,builtin,Rw,Rx,QE,QL,Qj,Ry,hs,hx,oP (P:=P) w t o.type e i h1 hi a a2 k k c (Na _)];exact hK' _ _ (hK a k w (by rw [Oj];exact hA) (Nc _ _))
 ·obtain ⟨olds,o1,o2,o3,o4⟩:=hA.cells;obtain ⟨news,n1,n2,n3,n4⟩:=hL.cells;have hp2:=hL.pl (by omega);have hlt : ∀ {l : List Value} {j : Nat} {u : Value},l[j]? = some u->j<l.length:=λh=>(List.getElem?_eq_some_iff.1 h).1;refine wpList_append_grows (P:=P) w hg s x t hop e i (.slice none 0 0) 1 bytes h1 hi hz0 hz1 hz2 rfl (by decide) a k k olds hs (λh0=>?_) (by omega) (λb hb j u hj=>?_) ⟨ablk a2,aK a2,none⟩ n c news (by rw [hx,<- hp2]) (by omega) (λj u hj=>?_) n3 (by omega) b3 b2 λv' w' hown hgr=>?_
  ·rcases Pf k with h | h
   ·exact ⟨h,h⟩
   ·have:=hA.pl h;rw [h0] at this;cases this
  ·have hj1:=hlt hj;have hp:=hA.pl (by omega);subst hb;injection hp with hp2
   rw [hp2,Rv,o2 j (by omega)];exact hj
  ·have hj1:=hlt hj;rw [Rv,n2 j (by omega)];exact hj
  ·obtain ⟨a',c',rfl,hpl⟩:=Sv hown;have hb : SW w w':=⟨hgr.os,hgr.tape,hgr.output,hgr.size,λj hj=>hgr.block j hj (by simp)⟩
   refine hK a' c' w' ⟨by rw [Nl,hA.len,hL.len],hpl,b3,λh0 hc=>?_,λj hj=>?_⟩ hb
   ·have h3:=hI _ hc;have h4:=(eA hown h0).1;omega
   have hc:=(cJ hown j hj).1;by_cases h : j<k
   ·obtain ⟨b,m,c2,e1,e2,e3⟩:=o4 j h;refine ⟨b,m,c2,?_,?_,e3⟩
    ·rw [hc,Ny (by omega),e1]
    ·rw [show ai (A ++ L) j=ai A j by simp only [ai,Ng];rw [Ny (by rw [hA.len];exact h)]];exact e2.ah hb
   ·obtain ⟨b,m,c2,e1,e2,e3⟩:=n4 (j - k) (by omega);refine ⟨b,m,c2,?_,?_,e3⟩
    ·rw [hc,NY (by omega),o1,e1]
    ·rw [show ai (A ++ L) j=ai L (j - k) by simp only [ai,Ng];rw [NY (by rw [hA.len];omega),hA.len]];exact e2.ah hb
theorem aE.wL (w : World) {I : Nat->Prop} {p : Addr} (hB : I p.block) (v : Value) : aE w (w.setCell p v) I I:=by have hb0 : Below 0 w (w.setCell p v):=(Nc 0 w).setCell (Ni _) v;exact ⟨hb0.os,hb0.tape,hb0.output,hb0.size,λb hb hI=>Nz _ _ _ _ λe=>hI (e ▸ hB),λb hb=>.inl hb⟩
theorem dq.Jr {A : Nat->Prop} {B : Nat} {w : World} {a : OA} {n : Nat} {L : ZZ} (h : dq B w a n L) (hA : ∀b,A b->b<B) : jz A w a n L :=
 ⟨h.len,h.pl,h.max,λhn hc=>QI _ (NR (hA _ hc) (h.lo hn)),λi hi=>by obtain ⟨b,m,c,h1,h2⟩:=h.cell i hi;exact ⟨b,m,c,h1,h2.ints,λhm hc=>QI _ (NR (hA _ hc) (h2.lo hm))⟩⟩
theorem dq.M1 {B g : Nat} {w : World} {a : OA} {n : Nat} {L : ZZ} (h : dq B w a n L) (hg : g<B) (x y : Value) : jz (λb=>b=g) ((w.setCell ⟨g,0,none⟩ x).setCell ⟨g,1,none⟩ y) a n L :=
 ((h.Jr (A:=λb=>b=g) (λb hb=>by rw [show b=g from hb];exact hg)).dD (aE.wL w (I:=λb=>b=g) (p:=⟨g,0,none⟩) rfl x)).dD (aE.wL _ (I:=λb=>b=g) (p:=⟨g,1,none⟩) rfl y)
theorem Ints.mN {w : World} {a : OA} {n : Nat} {l : Lz} (h : Ints w a n l) {p : Addr} {b : OA} {m c : Nat} (hp : w.cell? p=some (.slice b m c)) (v : Value) : Ints (w.setCell p v) a n l :=
 ⟨h.len,h.pl,h.max,λi hi=>by have hc:=h.cell i hi;rw [NC _ _ _ _ (λe=>by rw [e,hc] at hp;cases hp)];exact hc⟩
theorem br.mN {w : World} {a : OA} {n : Nat} {L : ZZ} (h : br w a n L) {p : Addr} {b : OA} {m c : Nat} (hp : w.cell? p=some (.slice b m c)) (hne : 0<n->p.block ≠ ablk a) (v : Value) : br (w.setCell p v) a n L :=
 ⟨h.len,h.pl,h.max,λi hi=>by obtain ⟨b',m',c',h1,h2⟩:=h.cell i hi;exact ⟨b',m',c',by rw [NC _ _ _ _ (λe=>hne (by omega) (by rw [e]))];exact h1,h2.mN hp v⟩⟩
theorem aN.MI {w : World} {b : Nat} {cs : List Value} (h : aN w b cs) {g : Nat} (hb : g ≠ b) (i : Nat) (v : Value) : aN (w.setCell ⟨g,i,none⟩ v) b cs:=by
 refine ⟨by rw [Rn];exact h.1,λj x hx=>?_,λj=>?_⟩
 ·rw [NC _ _ _ _ (by intro e;injection e with e1 _ _;exact hb e1)];exact h.2.1 j x hx
 ·rw [Oq];exact h.2.2 j
theorem BH (P M : Int) (am : OA) (mn cm : Nat) (mod : Lz) (n : Nat) (a : OA) (k c : Nat) (L : ZZ) (w : World) (hE : aF P M mod n L=0) (hmod : Ints w am mn mod) (hi : br w a k L) :
  Calls prog 210 #[.agg #[.int .i64 P,.int .i64 M,.slice am mn cm,.int .i64 n,.slice a k c]] w λe w' =>
   e = .returned (.tuple #[.int .i64 (kI (af P M.toNat mod).q k),.int .i64 (iA (af P M.toNat mod).q k)])/\SW w w':=by
 have hk256 : k<=256:=by rw [<- hi.len];exact (bJ hE).choose_spec.2.2.2.1
 have hfB:=(aG hE).1;have HCk : Hid (∀V,SW w V->Calls prog 88 #[.agg #[.int .i64 P,.int .i64 M,.slice am mn cm,.int .i64 n,.slice a k c]] V λe w'=>e = .returned (.int .i64 0)/\SW V w'):=λV hV=>by have h:=dr P M am mn cm mod n a k c L V (hmod.ah hV) (hi.ah hV);rw [hE] at h;exact h
 have HNw : Hid (∀V,SW w V->Calls prog 52 #[.agg #[.int .i64 P,.int .i64 M,.slice am mn cm]] V λe w'=>∃b,e = .returned (.tuple #[.pointer (some ⟨b,0,none⟩),.int .i64 0])/\ew w' b (af P M.toNat mod)/\SW V w'):=λV hV=>by
  refine (ef P M am mn cm mod V (hmod.ah hV)).mono ?_;rintro e w' (⟨h1,_⟩ | ⟨_,b,h2,h3,_,h4⟩)
  ·rw [hfB] at h1;cases h1
  ·exact ⟨b,h2,h3.gf,h4⟩
 obtain ⟨G,hG⟩ : ∃G,af P M.toNat mod=G:=⟨_,rfl⟩
 rw [hG] at HNw ⊢;clear hG hfB hE hmod hi;go_enter func210,ntmps210;go_upto_region 1 with fail;obtain ⟨W,hW⟩ : ∃W : World,W=w.alloc (.cells #[.int .i64 P,.int .i64 M,.slice am mn cm,.int .i64 n,.slice a k c] 27):=⟨_,rfl⟩
 rw [<- hW];have hbW : SW w W:=by rw [hW];exact an _ _
 have x0 : aN W w.heap.size [.int .i64 P,.int .i64 M,.slice am mn cm,.int .i64 n,.slice a k c]:=by rw [hW];exact R9 _ _ _ rfl
 have HX:=Z5 x0;have c0:=x0.cell 0 rfl;have c1:=x0.cell 1 rfl;have c2:=x0.cell 2 rfl;clear hW x0;go_wp2_with (go_at_call 52;refine (HNw.out _ hbW).mono ?_;rintro e w2 ⟨b,rfl,hG2,hb2⟩;have x2:=HX.out.ah hb2;have d0:=x2.cell 0 rfl;have d1:=x2.cell 1 rfl;have d2:=x2.cell 2 rfl;have d3:=x2.cell 3 rfl;have d4:=x2.cell 4 rfl;clear x2);refine (HCk.out _ (RZ hbW hb2)).mono ?_;rintro e w3 ⟨rfl,hb3⟩;have hG3:=hG2.ah hb3;have hq2 : (2 : Int)<=G.q:=by have:=hG3.q2;omega
 have hq256 : (G.q : Int)<=256:=by have:=hG3.q256;omega
 have e4:=((HX.out.ah hb2).ah hb3).cell 4 rfl;have hGd : ∀m,ew (w3.drewN m) b G:=λm=>hG3.drewN m;clear d0 d1 d2 d3 d4 c0 c1 c2;go_wp2_with fail;have HS : Hid (∀V,SW w3 V->V.cell? ⟨w.heap.size,4,none⟩=some (.slice a k c)/\ew V b G/\SW w3 V):=λV hV =>
  ⟨(((HX.out.ah hb2).ah hb3).ah hV).cell 4 rfl,hG3.ah hV,hV⟩
 clear e4 hGd;go_region_held3 (λV=>V.cell? ⟨w.heap.size,4,none⟩=some (.slice a k c)/\ew V b G/\SW w3 V)
  ((refine HS.out _ ?_;first | exact (Nc _ _).drew | (go_split_ands;assumption) | (go_split_ands;exact RZ (by assumption) (by assumption))))
  (first
   | (go_at_call 63;((with_reducible refine (Dr (b:=b) (G:=G) (by go_split_ands;assumption)).mono ?_);rintro e w4 ⟨rfl,rfl⟩))
   | (go_at_call 207;((with_reducible refine (Kf (G.q : Int) k _ hq2 hq256 (by omega)).mono ?_);rintro e w5 ⟨rfl,rfl⟩)))
 all_goals go_wp2_with fail
 all_goals go_ret2
 all_goals exact ⟨rfl,RZ (RZ (RZ hbW hb2) hb3) (by go_split_ands;assumption)⟩
section
open Go.RowKit Go.Shelf
theorem aE.putAt (w : World) {I : Nat->Prop} {B : Nat} (hB : I B) (o : Obj) : aE w (w.putObj B o) I I:=by have hg:=grownBy_putObj' w B o;exact ⟨hg.os,hg.tape,hg.output,hg.size,λb hb hI=>hg.block b hb (λe=>by cases e;exact hI hB),λb hb=>.inl hb⟩
theorem Ints.put {w : World} {a : OA} {n : Nat} {l : Lz} (h : Ints w a n l) (B : Nat) (o : Obj) (hB : 0<n->ablk a ≠ B) : Ints (w.putObj B o) a n l :=
 h.of_block λhn=>World.putObj_heap_other (λe=>hB hn e)
theorem x8 {g : Operand} {ps : Array Tmp} {assign body : Code} {Q : Exit->Act->World->Prop} {a : Act} {w : World} {m n N : Nat} {lb : Array Value} {R : ZZ}
  (hg : a.eval g = .func (.func 250) #[] lb) (eg : ∀args w,(callFunc 250 args).run prog w = .ok (.enter 250 args) w) (hps : ps.size=2) (hm : 1<=m) (hn1 : 1<=n)
  (MB : Nat->Prop) (hMB : ∀x,MB x->x<w.heap.size)
  (hseq : ∀(l : Nat) (J : List WX->World->Prop) (MM : Nat->Prop) (W : World),SW w W->W.heap.size=w.heap.size+2->(∀x,MM x->MB x\/x=w.heap.size+1) ->
   (∀pre V V',J pre V->SW V V'->J pre V')->(∀B pre V v,W.heap.size<=B->(∀x ∈ pre,ablk x.a ≠ B)->J pre V->J pre (V.setCell ⟨B,0,none⟩ v)) ->
   (∀m pre x V,J pre V->pre.length<N->Ints V x.a n x.l->(∀j,MM j->j ≠ ablk x.a)->Mm l n J MM m pre x V)->J [] W ->
   Calls prog 250 (#[.func (.yield l) #[] #[]] ++ lb) W λe V=>e = .returned (.tuple #[])/\∃xs : List WX,xs.map WX.l=R/\J xs V/\aE W V MM MM)
  (I : List WX->World->Prop) (hIa : ∀pre V V',I pre V->SW V V'->I pre V')
  (hIb : ∀B pre V v,w.heap.size<=B->(∀x ∈ pre,ablk x.a ≠ B)->I pre V->I pre (V.setCell ⟨B,0,none⟩ v))
  (hIp : ∀B pre V o,w.heap.size<=B->(∀x ∈ pre,ablk x.a ≠ B)->I pre V->I pre (V.putObj B o)) (h0 : I [] w)
  (a₁ : List WX->WX->Act)
  (hassign : ∀(l m : Nat) (pre : List WX) (x : WX) (W : World) (K : Act->World->Prop),K (a₁ pre x) W ->
   assign.wpIn (Fence.wide.inRound l) m prog (Exit.then K (λ_ _ _=>False)) { tmps:=(ps.zip #[.int .i64 (pre.length : Nat),.slice x.a n x.c]).foldl (λt (p,v)=>t.setIfInBounds p v) a.tmps,defers:=[] } W)
  (hbody : ∀(l m : Nat) (pre : List WX) (x : WX) (W : World),I pre W->pre.length<N->Ints W x.a n x.l->(∀j,MB j->j ≠ ablk x.a) ->
   body.wpIn (Fence.wide.inRound l) m prog (λe _ W'=>e = .normal/\I (pre ++ [x]) W'/\aE W W' MB MB) (a₁ pre x) W)
  (hdone : ∀(xs : List WX) (W : World),xs.map WX.l=R->I xs W->aE w W (λx=>MB x\/w.heap.size<=x) (λx=>MB x\/w.heap.size<=x)->W.heap[w.heap.size]? = some (.deferred (some []))->Q .normal { a with defers:={ target:=.collected w.heap.size,args:=#[] } :: a.defers } W) :
  (Code.rangeFunc g ps assign body).wpIn Fence.wide m prog Q a w:=by
 refine wpIn_rangeFunc ?_;intro fn hfn;obtain ⟨rec,hrec⟩ : ∃rec : LoopState->Option Code->Loop,rec=λst pe=>{ state:=st,pending:=pe,fn,tmps:=a.tmps,params:=ps,assign,body,defers:=w.heap.size }:=⟨_,rfl⟩
 obtain ⟨W1,hW1⟩ : ∃W1,(w.alloc (.deferred (some []))).alloc (.loop (rec .ready none))=W1:=⟨_,rfl⟩
 have hL1 : W1.heap[w.heap.size+1]? = some (.loop (rec .ready none)):=by rw [<- hW1];have:=World.alloc_heap_new (w.alloc (.deferred (some []))) (.loop (rec .ready none));rwa [Pb] at this
 have hK1 : W1.heap[w.heap.size]? = some (.deferred (some [])):=by rw [<- hW1];exact (QN _ _ _ (by simp)).trans (World.alloc_heap_new w _)
 have hb1 : SW w W1:=by rw [<- hW1];exact bN _ _ _
 have hs1 : W1.heap.size=w.heap.size+2:=by rw [<- hW1];simp
 refine ⟨w.heap.size+1,[{ target:=.collected w.heap.size,args:=#[] }],W1,{ target:=.fn (.func 250) lb,args:=#[.func (.yield (w.heap.size+1)) #[] #[]] },W1,250,
  #[.func (.yield (w.heap.size+1)) #[] #[]] ++ lb,W1,?_,?_,?_,?_,λ_=>hm,?_⟩
 ·rw [<- hW1,hrec];exact run_enterLoop_outer _ _ _ _ _
 ·simp only [resolve,hg];simp [go_sem]
 ·intro f' hf';trivial
 ·simp [invoke,go_sem,eg]
 ·refine callsIn_wide.2 ((hseq (w.heap.size+1)
   (λpre W=>I pre W/\W.heap[w.heap.size+1]? = some (.loop (rec .ready none))/\W.heap[w.heap.size]? = some (.deferred (some []))/\∀x ∈ pre,ablk x.a ≠ w.heap.size+1)
   (λx=>MB x\/x=w.heap.size+1) W1 hb1 hs1 (λx h=>h) ?_ ?_ ?_ ⟨hIa _ _ _ h0 hb1,hL1,hK1,λx hx=>by simp at hx⟩).mono ?_)
  ·rintro pre V V' ⟨h1,h2,h3,h4⟩ hb;exact ⟨hIa _ _ _ h1 hb,(hb.block _ (Array.getElem?_eq_some_iff.1 h2).1).trans h2,(hb.block _ (Array.getElem?_eq_some_iff.1 h3).1).trans h3,h4⟩
  ·rintro B pre V v hB hx ⟨h1,h2,h3,h4⟩;exact ⟨hIb B _ _ _ (by omega) hx h1,(Nz _ _ _ _ (by show w.heap.size+1 ≠ B;omega)).trans h2,(Nz _ _ _ _ (by show w.heap.size ≠ B;omega)).trans h3,h4⟩
  ·rintro k pre x V ⟨hi,hl,hd,hpx⟩ hlen hix hxM;have hlt : w.heap.size+1<V.heap.size:=(Array.getElem?_eq_some_iff.1 hl).1;have hxl : ablk x.a ≠ w.heap.size+1:=λe=>hxM _ (.inr rfl) e.symm;have hy:=run_yield (P:=prog) (args:=#[.int .i64 (pre.length : Nat),.slice x.a n x.c]) hl (by rw [hrec];exact hps.symm ▸ rfl);rw [hrec] at hy;refine ⟨fn,_,assign,body,hy,roundIn_of_wpIn hfn (hassign _ _ pre x V _ ⟨_,run_beginRound hl (by rw [hrec]),?_⟩)⟩;have hl2 : (V.putObj (w.heap.size+1) (.loop { rec .ready none with state:=.busy })).heap[w.heap.size+1]? = some (.loop { rec .ready none with state:=.busy }):=World.putObj_heap_same hlt;have hd2 : (V.putObj (w.heap.size+1) (.loop { rec .ready none with state:=.busy })).heap[w.heap.size]? = some (.deferred (some [])):=(World.putObj_heap_other (by omega)).trans hd;have hm2 : aE V (V.putObj (w.heap.size+1) (.loop { rec .ready none with state:=.busy })) (λx=>MB x\/x=w.heap.size+1) (λx=>MB x\/x=w.heap.size+1):=aE.putAt _ (.inr rfl) _;refine wpIn_mono (hbody _ _ pre x _ (hIp _ _ _ _ (by omega) hpx hi) hlen (hix.put _ _ (λ_=>hxl)) (λj hj=>hxM j (.inl hj))) ?_;rintro e a3 W3 ⟨rfl,hi3,hm3⟩;have hnl : ¬ MB (w.heap.size+1):=λh=>by have:=hMB _ h;omega
   have hnd : ¬ MB w.heap.size:=λh=>by have:=hMB _ h;omega
   have hl3:=(hm3.block _ (Array.getElem?_eq_some_iff.1 hl2).1 hnl).trans hl2;have hd3:=(hm3.block _ (Array.getElem?_eq_some_iff.1 hd2).1 hnd).trans hd2;have hr:=run_endRound (P:=prog) none hl3;rw [hrec] at hr;refine ⟨_,_,hr,rfl,⟨hIp _ _ _ _ (by omega) ?_ hi3,?_,?_,?_⟩,?_⟩
   ·intro y hy;rcases List.mem_append.1 hy with hy | hy
    ·exact hpx y hy
    ·rw [List.mem_singleton.1 hy];exact hxl
   ·rw [hrec];exact World.putObj_heap_same (Array.getElem?_eq_some_iff.1 hl3).1
   ·exact (World.putObj_heap_other (by omega)).trans hd3
   ·intro y hy;rcases List.mem_append.1 hy with hy | hy
    ·exact hpx y hy
    ·rw [List.mem_singleton.1 hy];exact hxl
   ·exact (hm2.trans (hm3.wide (λx h=>.inl h))).trans (aE.putAt _ (.inr rfl) _)
  ·rintro e W2 ⟨rfl,xs,hx,⟨hi,hl,hd,hpx⟩,hmv⟩;refine ⟨none,_,by have:=run_endLoop (P:=prog) hl (by rw [hrec];simp);rw [hrec] at this;exact this,hdone xs _ hx (hIp _ _ _ _ (by omega) hpx hi) ?_ ((World.putObj_heap_other (by omega)).trans hd)⟩;have hw : aE w W2 (λx=>MB x\/w.heap.size<=x) (λx=>MB x\/w.heap.size<=x):=(Se hb1 _).trans (hmv.wide (λx h=>h.elim .inl (λe=>.inr (by omega))));exact hw.trans (aE.putAt _ (.inr (by omega)) _)
end
def cmpL : Lz->Lz->Int
 | [],[]=>0
 | [],_ :: _=>-1
 | _ :: _,[]=>1
 | x :: a,y :: b=>if x<y then -1 else if y<x then 1 else cmpL a b
def dL (a b : Lz) : Bool:=decide (a.length<b.length) || (decide (a.length=b.length) && decide (cmpL a b<0))
theorem ib {a b : Lz} : dL a b=true ↔ a.length<b.length\/a.length=b.length/\cmpL a b<0:=by unfold dL;rw [Qp,NK,N8,N8,N8]
section
variable {O : aL} {El : Int->Prop} {m : Nat} {A B L : ZZ}
theorem RS.dot (F : bF O El) (hA : bp El m A) (hB : bp El m B) (ho : lF O m A B) {f : Nat->Int} (hf : RS O El m A f) {i : Nat} (hi : i<B.length) : dotN O f (λp=>nth (ai B i) p) m=0:=by obtain ⟨e,he,h2⟩:=hf;have hb : ∀p,p<m->El (nth (ai B i) p):=λp hp=>Sc (hB.row hi) hp;rw [dW (a':=λp=>e (aR A p)) (b':=λp=>nth (ai B i) p) m λp hp=>⟨h2 p hp,rfl⟩];rw [eY F m (λp _=>he.el _ (cH hA F.zero p)) hb];refine lM F hA he hb λj hj=>?_;rw [eY F m hb λp hp=>Sc (hA.row hj) hp];exact ho j i hj hi
def dx (O : aL) (m : Nat) (L : ZZ) : ZZ:=bZ O m (cZ O m (bZ O m L) (aD O L m).2 m)
theorem fV (F : bF O El) (hL : bp El m L) : bp El m (dx O m L):=bL F (dz F (bL F hL) (bG F hL).1 (bQ F hL))
theorem fC (F : bF O El) (hA : bp El m A) {f : Nat->Int} (hf : ∀x,x<m->El (f x)) (h : ∀i,i<A.length->dotN O f (λp=>nth (ai A i) p) m=0) {g : Nat->Int} (hg : RS O El m A g) : dotN O f g m=0:=by obtain ⟨e,he,h2⟩:=hg;rw [dW (a':=f) (b':=λp=>e (aR A p)) m λp hp=>⟨rfl,h2 p hp⟩];exact lM F hA he hf h
def bs (m : Nat) (z : Int) : Lz:=(List.replicate m 0).set z.toNat 1
theorem fN (F : bF O El) (m : Nat) (z : Int) : Vc El m (bs m z):=⟨by simp [bs],λy hy=>by
 rcases Oz hy with h | rfl
 ·rw [On h];exact F.zero
 ·exact F.one⟩
theorem RS.MT (F : bF O El) (hL : bp El m L) {f : Nat->Int} (h : RS O El m L f) : ∃v,Vc El L.length v/\∀x,x<m->f x=nth (cmbTo O m v L L.length) x:=by
 obtain ⟨e,he,h2⟩:=h;obtain ⟨c,hc⟩ : ∃c,((List.range L.length).map λt=>e (eU L.length t))=c:=⟨_,rfl⟩
 have hcl : c.length=L.length:=by rw [<- hc];simp
 have hcn : ∀t,t<L.length->nth c t=e (eU L.length t):=λt ht=>by rw [<- hc,eO _ _ _ ht]
 have hcv : Vc El L.length c:=⟨hcl,λy hy=>by obtain ⟨t,ht,rfl⟩:=List.mem_iff_getElem.1 hy;rw [<- aj ht,hcn t (by omega)];exact he.el _ (gz F _ _)⟩
 refine ⟨c,hcv,λx hx=>?_⟩;rw [h2 x hx,fG F he (cH hL F.zero x),qx F hL (λk hk=>hcv.at hk) hx _ (Na _)];exact dW _ λp hp=>⟨(hcn p hp).symm,cI _ _ _ hp⟩
theorem FK {l : Z6} {x : Nat} (hl : ∀y ∈ l,y<m) (hx : x<m) : jE O El A.length (aR A) l x ↔ ∀f,RS O El m A f->(∀y ∈ l,f y=0)->f x=0:=by
 constructor
 ·rintro h f ⟨e,he,h2⟩ h0;rw [h2 x hx];exact h e he λy hy=>by rw [<- h2 y (hl y hy)];exact h0 y hy
 ·intro h φ hφ h0;exact h (λx=>φ (aR A x)) ⟨φ,hφ,λ_ _=>rfl⟩ h0
end
section
variable {O : aL} {El : Int->Prop} {m : Nat} {L : ZZ}
end
theorem lh (P M : Int) (am : OA) (mn cm : Nat) (mod : Lz) (N : Int) (a : OA) (n c : Nat) (L : ZZ) (w : World) (hmod : Ints w am mn mod) (hi : br w a n L) :
  Calls prog 35 #[.agg #[.int .i64 P,.int .i64 M,.slice am mn cm,.int .i64 N,.slice a n c]] w λe w'=>e = .returned (.int .i64 (aF P M mod N L))/\SW w w':=by rw [<- mZ];exact iL P M am mn cm mod N a n c L w hmod hi iQ
section
open Go.RowKit
end
def SB:=@RS.dot
def SH:=@RS.el
end Go.Proofs.YthglbncgemdcbaaGreat
