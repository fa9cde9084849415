import Derived.Test.YtcfmiocdlcapoaaGreatHBS19
import Derived.Test.YtcfmiocdlcapoaaGreatHBS20
namespace Go.Proofs.YtcfmiocdlcapoaaGreat
set_option linter.all false
set_option maxRecDepth 100000
set_option maxHeartbeats 16000000
open Go.RowKit Go.Proofs.Tryz
theorem qL {σ : Type} (I : World->σ->Prop) (J : σ->Nat->Prop) (val : σ->ZZ) (F : Lz->Lz->ZZ->Int × ZZ) (pb W : Nat)
  (sa : OA) (ns cs : Nat) (s : Lz) (az : OA) (nz cz : Nat) (z : Lz) (at' : OA) (nt ct : Nat) (t : Lz) (w : World) (σ0 : σ)
  (hI0 : I w σ0) (hIb : ∀V V' σ,I V σ->aw V V' (λb=>w.heap.size<=b/\¬ J σ b) (λb=>w.heap.size<=b/\¬ J σ b)->I V' σ) (hp : w.cell? ⟨pb,9,none⟩=some (.int .i64 W)) (hS : ∀V σ,I V σ->Ints V sa ns s/\Ints V at' nt t)
  (hJ : ∀V σ x,I V σ->J σ x->x<V.heap.size) (hz : Ints w az nz z) (htn : t.Nodup) (hns : ns<=1000) (hnz : nz<=1000) (hnt : nt<=1000) (hWs : ns<=W)
  (hF : ns<W->∀(V : World) (σ : σ) (a1 : OA) (c1 : Nat) (a2 : OA) (c2 k : Nat) (zc : Lz),k<nt->zc=z ++ (t.take k).filter (λx=>decide (¬ x ∈ z))->¬ nth t k ∈ z->I V σ->aw w V (J σ0) (J σ) ->
   Ints V a1 (ns+1) (s ++ [nth t k])->Ints V a2 zc.length zc->¬ J σ (an a1)->(a2 ≠ none->¬ J σ (an a2)) ->
   Calls prog 235 #[.pointer (some ⟨pb,0,none⟩),.slice a1 (ns+1) c1,.slice a2 zc.length c2] V
    λe V'=>∃σ',I V' σ'/\aw V V' (J σ) (J σ')/\e = .returned (.int .i64 (F (s ++ [nth t k]) zc (val σ)).1)/\((F (s ++ [nth t k]) zc (val σ)).1=0->val σ'=(F (s ++ [nth t k]) zc (val σ)).2)) :
  Calls prog 264 #[.pointer (some ⟨pb,0,none⟩),.slice sa ns cs,.slice az nz cz,.slice at' nt ct,.func (.func 235) #[.pointer (some ⟨pb,0,none⟩)] #[]] w
   λe w'=>∃σ',I w' σ'/\aw w w' (J σ0) (J σ')/\e = .returned (.int .i64 (iA F s z (if ns<W then t.filter (λx=>decide (¬ x ∈ z)) else []) (val σ0)).1) /\
    ((iA F s z (if ns<W then t.filter (λx=>decide (¬ x ∈ z)) else []) (val σ0)).1=0->val σ'=(iA F s z (if ns<W then t.filter (λx=>decide (¬ x ∈ z)) else []) (val σ0)).2):=by
 obtain ⟨KB,hKB⟩ : ∃KB,iA F s z (if ns<W then t.filter (λx=>decide (¬ x ∈ z)) else []) (val σ0)=KB:=⟨_,rfl⟩
 rw [hKB];have HKB:=Z5 hKB;clear hKB;have Hzl:=Z5 hz.len;have Htl:=Z5 (hS w σ0 hI0).2.len;have Hsl:=Z5 (hS w σ0 hI0).1.len;have hplt:=(hS w σ0 hI0).2.pl;have HS:=Z5 hS;have HI0:=Z5 hI0;have HIb:=Z5 hIb;have HJ:=Z5 hJ;have Htn:=Z5 htn;have HF:=Z5 hF;clear hS hI0 hIb hJ htn hF;by_cases hW : ns=W
 ·have hd : ((ns : Int) == (W : Int))=true:=by simp;omega
  have Hk : Hid (KB=(0,val σ0)):=by show _=_;rw [<- HKB.out,Mh (by omega)];rfl
  go_enter func264,ntmps264;clear hW;go_wp2_with fail;go_ret;exact ⟨σ0,HI0.out,QY _ _,by rw [Hk.out];rfl,λ_=>by rw [Hk.out]⟩
 have hd : ((ns : Int) == (W : Int))=false:=by simp;omega
 have hlW : ns<W:=by omega
 have HKB : Hid (KB=iA F s z (t.filter (λx=>decide (¬ x ∈ z))) (val σ0)):=by show _=_;rw [<- HKB.out,Mg hlW]
 have HF:=Z5 (HF.out hlW);clear hlW hW;go_enter func264,ntmps264;go_wp2_with fail;refine (eo az nz cz z hz (by omega)).mono ?_;rintro e w1 ⟨a0,c0,rfl,hown0,hb1⟩;have hI1:=HIb.out w w1 σ0 HI0.out (QU hb1 _);go_wp2_with fail;go_loopw [2,25] (λzv iv wr=>∃(k : Nat) (aq : OA) (cq : Nat) (zc : Lz) (σ : σ),k<=nt/\iv = .int .i64 k/\zv = .slice aq zc.length cq/\Hid (zc=z ++ (t.take k).filter (λx=>decide (¬ x ∈ z))) /\
   wr.ownsRow w.heap.size 3 1 (.slice aq zc.length cq) zc.length (zc.map (Value.int .i64))/\Hid (I wr σ)/\Hid (aw w wr (J σ0) (J σ))/\Hid (aq ≠ none->¬ J σ (an aq)) /\
   Hid (KB=iA F s zc ((t.drop k).filter (λx=>decide (¬ x ∈ z))) (val σ))/\zc.length<=nz+k)
  (λ_ iv _=>nt - (intOf iv).toNat)
 case atStart =>
  refine ⟨0,a0,c0,z,σ0,Mj _,rfl,rfl,?_,hown0,hI1,QU hb1 _,?_,?_,by rw [Hzl.out];omega⟩
  ·show _=_;simp
  ·show a0 ≠ none->_
   intro ha hj
   have h1:=HJ.out w σ0 _ HI0.out hj
   have h2:=(aZ hown0 ha).1
   omega
  ·show _=_;rw [Ps];exact HKB.out
 case round =>
  obtain ⟨k,aq,cq,zc,σ,hk,rfl,rfl,hzc,hop,hI,hM,hap,hkb,hzn⟩:=hrel
  generalize wr=U at *
  by_cases hlt : k<nt
  ·have htU:=(HS.out U σ hI.out).2
   have hsU:=(HS.out U σ hI.out).1
   have ck:=htU.cell k hlt
   obtain ⟨hzi,_⟩:=QR hop
   have hktl : k<t.length:=by rw [Htl.out];exact hlt
   have Htk:=Z5 (show t.take (k+1)=t.take k ++ [nth t k] from sI t hktl)
   have Hdk:=Z5 (show t.drop k=nth t k :: t.drop (k+1) by rw [aj hktl];exact M4 hktl)
   have Hzm : Hid (nth t k ∈ zc ↔ nth t k ∈ z):=by
    show _ ↔ _;rw [hzc.out,M0,Og];constructor
    ·rintro (h | h)
     ·exact h
     ·exfalso;have hn : (t.take k ++ t.drop k).Nodup:=by rw [P4];exact Htn.out
      rw [Nq] at hn;exact hn.2.2 _ h.1 (nth t k) (by rw [Hdk.out];simp) rfl
    ·exact .inl
   by_cases hmz : nth t k ∈ z
   ·have hmd : decide (nth t k ∈ zc)=true:=by simpa using Hzm.out.2 hmz
    have HcA:=Z5 (bI aq zc.length cq zc (nth t k) U hzi)
    rw [hmd] at HcA
    have Hzc2 : Hid (zc=z ++ (t.take (k+1)).filter (λx=>decide (¬ x ∈ z))):=by show _=_;rw [Htk.out,OJ,N8 (by simpa using hmz),Oh,PW];exact hzc.out
    have Hkb2 : Hid (KB=iA F s zc ((t.drop (k+1)).filter (λx=>decide (¬ x ∈ z))) (val σ)):=by show _=_;rw [hkb.out,Hdk.out,N8 (by simpa using hmz)]
    clear hmz hmd
    go_wp2_with fail
    refine HcA.out.mono ?_
    rintro e w6 ⟨rfl,rfl⟩
    go_wp2_with fail
    go_roundw
    case rel=>exact ⟨k+1,aq,cq,zc,σ,by omega,by go_num,rfl,Hzc2.out,hop,hI.out,hM.out,hap.out,Hkb2.out,by omega⟩
    case measure=>simp [intOf] <;> omega
   ·have hmd : decide (nth t k ∈ zc)=false:=by simpa using λh=>hmz (Hzm.out.1 h)
    have HcA:=Z5 (bI aq zc.length cq zc (nth t k) U hzi)
    rw [hmd] at HcA
    have Hzc2 : Hid (zc ++ [nth t k]=z ++ (t.take (k+1)).filter (λx=>decide (¬ x ∈ z))):=by show _=_;rw [Htk.out,OJ,N9 (by simpa using hmz),Oh,<- NK,<- hzc.out]
    have Hkb2 : Hid (KB=if (F (s ++ [nth t k]) zc (val σ)).1=0 then iA F s (zc ++ [nth t k]) ((t.drop (k+1)).filter (λx=>decide (¬ x ∈ z))) (F (s ++ [nth t k]) zc (val σ)).2 else ((F (s ++ [nth t k]) zc (val σ)).1,[])):=by show _=_;rw [hkb.out,Hdk.out,N9 (by simpa using hmz),iA]
    have HFk:=Z5 (λV σ a1 c1 a2 c2=>HF.out V σ a1 c1 a2 c2 k zc hlt hzc.out hmz)
    have hszU:=hM.out.size
    clear hmz hmd
    go_wp2_with fail
    refine HcA.out.mono ?_
    rintro e w6 ⟨rfl,rfl⟩
    go_wp2_with fail
    refine (eo sa ns cs s hsU (by omega)).mono ?_
    rintro e w7 ⟨a7,c7,rfl,hown7,hb7⟩
    rw [Hsl.out] at hown7
    rw [Hsl.out]
    obtain ⟨x,hx⟩ : ∃x,nth t k=x:=⟨_,rfl⟩
    rw [hx] at ck Hzc2 Hkb2 HFk Htk Hdk Hzm HcA ⊢
    have hcn:=bm w7 (.int .i64 x) 3
    have hbn:=aB w7 (.cells #[.int .i64 x] 3)
    go_wp2_with (at_builtin;refine bj rfl _ _ 22 3 rfl (.int .i64 0) 8 underlying22 bt rfl w6.heap.size a7 ns c7 _ rfl (hown7.alloc _) ⟨w7.heap.size,0,none⟩ 1 (.int .i64 x) rfl hcn rfl (by omega) (by unfold maxLen;omega) (Mt hb7.size hbn.size) ?_;intro a8 c8 w8 hown8 hgr8 hap8)
    have hb68 : Rs w6 w8:=QT (QQ hb7 hbn) (hown7.alloc _) hgr8 (Mf _) (Mt hb7.size hbn.size)
    have own8 : w8.ownsRow w6.heap.size 3 1 (.slice a8 (ns+1) c8) (ns+1) ((s ++ [x]).map (Value.int .i64)):=by simpa using hown8
    have hz8:=hzi.ah hb68
    clear hown7 hown8 hgr8 hap8 hcn hbn
    go_wp2_with fail
    refine (eo aq zc.length cq zc hz8 (by omega)).mono ?_
    rintro e w9 ⟨a9,c9,rfl,hown9,hb9⟩
    have hb69:=QQ hb68 hb9
    have hI9:=HIb.out w6 w9 σ hI.out (QU hb69 _)
    have hM9 : aw w w9 (J σ0) (J σ):=hM.out.ow (hb69.mono hszU)
    have hs9:=(QR own8).1.ah hb9
    have hz9:=(QR hown9).1
    have hn8 : ¬ J σ (an a8):=λhj=>by have h1:=HJ.out w6 σ _ hI.out hj;have h2:=(fG own8 (by omega)).1;omega
    have hn9 : a9 ≠ none->¬ J σ (an a9):=λha hj=>by have h1:=HJ.out w6 σ _ hI.out hj;have h2:=(aZ hown9 ha).1;have h3:=hb68.size;omega
    have hopz:=ba hop hb69
    have HCall:=Z5 (HFk.out w9 σ a8 c8 a9 c9 hI9 hM9 hs9 hz9 hn8 hn9)
    clear HFk hI9 hs9 hz9 hn8 hn9 hz8 own8 hown9
    generalize F (s ++ [x]) zc (val σ)=FR at *
    obtain ⟨fe,fv⟩:=FR
    dsimp only at HCall Hkb2
    go_wp2_with fail
    refine HCall.out.mono ?_
    rintro e w10 ⟨σ',hI',hM',rfl,hval⟩
    have hM10:=Z5 (hM9.trans hM')
    have hapz : aq ≠ none->¬ J σ' (an aq):=λha=>hM'.not (aZ hopz ha).2 (hap.out ha)
    have hopq:=hM'.own hopz hap.out
    have Hapz:=Z5 hapz
    have HI':=Z5 hI'
    clear HCall hM9 hM' hapz hI' hopz
    by_cases hfe : fe=0
    ·have Hval : Hid (val σ'=fv):=hval hfe
     subst hfe
     rw [Mg rfl] at Hkb2
     have hcn:=bm w10 (.int .i64 x) 3
     have hbn:=aB w10 (.cells #[.int .i64 x] 3)
     have hsz10:=hM10.out.size
     clear hval
     go_wp2_with (at_builtin;refine bj rfl _ _ 22 3 rfl (.int .i64 0) 8 underlying22 bt rfl w.heap.size aq zc.length cq _ rfl (hopq.alloc _) ⟨w10.heap.size,0,none⟩ 1 (.int .i64 x) rfl hcn rfl (by omega) (by unfold maxLen;omega) (Mt hsz10 hbn.size) ?_;intro a11 c11 w11 hown11 hgr11 hap11)
     go_roundw
     case rel =>
      have hb11 : Below w.heap.size w10 w11:=QT (hbn.mono hsz10) (hopq.alloc _) hgr11 (Mf _) (Mt hsz10 hbn.size)
      have hK : aw w10 w11 (λb=>w.heap.size<=b/\¬ J σ' b) (λb=>w.heap.size<=b/\¬ J σ' b):=(QU hbn _).trans (QZ hgr11 λha=>⟨(aZ hopq ha).1,Hapz.out ha⟩)
      refine ⟨k+1,a11,c11,zc ++ [x],σ',by omega,by go_num,by simp,Hzc2.out,by simpa using hown11,HIb.out w10 w11 σ' HI'.out hK,hM10.out.ow hb11,?_,?_,by simp;omega⟩
      ·show a11 ≠ none->_
       intro ha hj
       have h1:=HJ.out w10 σ' _ HI'.out hj
       have h2 : cF aq (an a11):=by
        by_cases h0 : aq=none
        ·exact .inl h0
        ·exact .inr λe=>Hapz.out h0 (by rw [e];exact hj)
       rcases hap11 _ (ME h1 hbn.size) h2 with h3 | h3
       ·exact ha h3
       ·exact h3 rfl
      ·show _=_
       rw [Hkb2.out,Hval.out]
     case measure=>simp [intOf] <;> omega
    ·have hfe' : (fe != 0)=true:=by simpa using hfe
     have Hk2 : Hid (KB=(fe,[])):=by show _=_;rw [Hkb2.out,Mh hfe]
     have Hfe:=Z5 hfe
     clear hfe hval
     go_wp2_with fail
     go_ret
     exact ⟨σ',HI'.out,hM10.out,by rw [Hk2.out];rfl,λh0=>absurd (by rw [Hk2.out] at h0;exact h0) Hfe.out⟩
  ·obtain rfl : k=nt:=by omega
   have Hf : Hid (KB=(0,val σ)):=by show _=_;rw [hkb.out,Nn (by rw [Htl.out];exact Mf _),Oh,iA]
   go_wp2_with fail
   go_ret
   exact ⟨σ,hI.out,hM.out,by rw [Hf.out];rfl,λ_=>by rw [Hf.out]⟩
theorem qN {σ : Type} (I : World->σ->Prop) (J : σ->Nat->Prop) (val : σ->ZZ) (F : Lz->Lz->ZZ->Int × ZZ) (pb W : Nat)
  (sa : OA) (ns cs : Nat) (s : Lz) (az : OA) (nz cz : Nat) (z : Lz) (at' : OA) (nt ct : Nat) (t : Lz) (w : World) (σ0 : σ)
  (hI0 : I w σ0) (hIb : ∀V V' σ,I V σ->aw V V' (λb=>w.heap.size<=b/\¬ J σ b) (λb=>w.heap.size<=b/\¬ J σ b)->I V' σ) (hp : w.cell? ⟨pb,9,none⟩=some (.int .i64 W)) (hS : ∀V σ,I V σ->Ints V sa ns s/\Ints V at' nt t)
  (hJ : ∀V σ x,I V σ->J σ x->x<V.heap.size) (hz : Ints w az nz z) (htn : t.Nodup) (hns : ns<=1000) (hnz : nz<=1000) (hnt : nt<=1000) (hWs : ns<=W)
  (hF : ns<W->∀(V : World) (σ : σ) (a1 : OA) (c1 : Nat) (a2 : OA) (c2 k : Nat) (zc : Lz),k<nt->zc=z ++ (t.take k).filter (λx=>decide (¬ x ∈ z))->¬ nth t k ∈ z->I V σ->aw w V (J σ0) (J σ) ->
   Ints V a1 (ns+1) (s ++ [nth t k])->Ints V a2 zc.length zc->¬ J σ (an a1)->(a2 ≠ none->¬ J σ (an a2)) ->
   Calls prog 239 #[.pointer (some ⟨pb,0,none⟩),.slice a1 (ns+1) c1,.slice a2 zc.length c2] V
    λe V'=>∃σ',I V' σ'/\aw V V' (J σ) (J σ')/\e = .returned (.int .i64 (F (s ++ [nth t k]) zc (val σ)).1)/\((F (s ++ [nth t k]) zc (val σ)).1=0->val σ'=(F (s ++ [nth t k]) zc (val σ)).2)) :
  Calls prog 264 #[.pointer (some ⟨pb,0,none⟩),.slice sa ns cs,.slice az nz cz,.slice at' nt ct,.func (.func 239) #[.pointer (some ⟨pb,0,none⟩)] #[]] w
   λe w'=>∃σ',I w' σ'/\aw w w' (J σ0) (J σ')/\e = .returned (.int .i64 (iA F s z (if ns<W then t.filter (λx=>decide (¬ x ∈ z)) else []) (val σ0)).1) /\
    ((iA F s z (if ns<W then t.filter (λx=>decide (¬ x ∈ z)) else []) (val σ0)).1=0->val σ'=(iA F s z (if ns<W then t.filter (λx=>decide (¬ x ∈ z)) else []) (val σ0)).2):=by
 obtain ⟨KB,hKB⟩ : ∃KB,iA F s z (if ns<W then t.filter (λx=>decide (¬ x ∈ z)) else []) (val σ0)=KB:=⟨_,rfl⟩
 rw [hKB];have HKB:=Z5 hKB;clear hKB;have Hzl:=Z5 hz.len;have Htl:=Z5 (hS w σ0 hI0).2.len;have Hsl:=Z5 (hS w σ0 hI0).1.len;have hplt:=(hS w σ0 hI0).2.pl;have HS:=Z5 hS;have HI0:=Z5 hI0;have HIb:=Z5 hIb;have HJ:=Z5 hJ;have Htn:=Z5 htn;have HF:=Z5 hF;clear hS hI0 hIb hJ htn hF;by_cases hW : ns=W
 ·have hd : ((ns : Int) == (W : Int))=true:=by simp;omega
  have Hk : Hid (KB=(0,val σ0)):=by show _=_;rw [<- HKB.out,Mh (by omega)];rfl
  go_enter func264,ntmps264;clear hW;go_wp2_with fail;go_ret;exact ⟨σ0,HI0.out,QY _ _,by rw [Hk.out];rfl,λ_=>by rw [Hk.out]⟩
 have hd : ((ns : Int) == (W : Int))=false:=by simp;omega
 have hlW : ns<W:=by omega
 have HKB : Hid (KB=iA F s z (t.filter (λx=>decide (¬ x ∈ z))) (val σ0)):=by show _=_;rw [<- HKB.out,Mg hlW]
 have HF:=Z5 (HF.out hlW);clear hlW hW;go_enter func264,ntmps264;go_wp2_with fail;refine (eo az nz cz z hz (by omega)).mono ?_;rintro e w1 ⟨a0,c0,rfl,hown0,hb1⟩;have hI1:=HIb.out w w1 σ0 HI0.out (QU hb1 _);go_wp2_with fail;go_loopw [2,25] (λzv iv wr=>∃(k : Nat) (aq : OA) (cq : Nat) (zc : Lz) (σ : σ),k<=nt/\iv = .int .i64 k/\zv = .slice aq zc.length cq/\Hid (zc=z ++ (t.take k).filter (λx=>decide (¬ x ∈ z))) /\
   wr.ownsRow w.heap.size 3 1 (.slice aq zc.length cq) zc.length (zc.map (Value.int .i64))/\Hid (I wr σ)/\Hid (aw w wr (J σ0) (J σ))/\Hid (aq ≠ none->¬ J σ (an aq)) /\
   Hid (KB=iA F s zc ((t.drop k).filter (λx=>decide (¬ x ∈ z))) (val σ))/\zc.length<=nz+k)
  (λ_ iv _=>nt - (intOf iv).toNat)
 case atStart =>
  refine ⟨0,a0,c0,z,σ0,Mj _,rfl,rfl,?_,hown0,hI1,QU hb1 _,?_,?_,by rw [Hzl.out];omega⟩
  ·show _=_;simp
  ·show a0 ≠ none->_
   intro ha hj
   have h1:=HJ.out w σ0 _ HI0.out hj
   have h2:=(aZ hown0 ha).1
   omega
  ·show _=_;rw [Ps];exact HKB.out
 case round =>
  obtain ⟨k,aq,cq,zc,σ,hk,rfl,rfl,hzc,hop,hI,hM,hap,hkb,hzn⟩:=hrel
  generalize wr=U at *
  by_cases hlt : k<nt
  ·have htU:=(HS.out U σ hI.out).2
   have hsU:=(HS.out U σ hI.out).1
   have ck:=htU.cell k hlt
   obtain ⟨hzi,_⟩:=QR hop
   have hktl : k<t.length:=by rw [Htl.out];exact hlt
   have Htk:=Z5 (show t.take (k+1)=t.take k ++ [nth t k] from sI t hktl)
   have Hdk:=Z5 (show t.drop k=nth t k :: t.drop (k+1) by rw [aj hktl];exact M4 hktl)
   have Hzm : Hid (nth t k ∈ zc ↔ nth t k ∈ z):=by
    show _ ↔ _;rw [hzc.out,M0,Og];constructor
    ·rintro (h | h)
     ·exact h
     ·exfalso;have hn : (t.take k ++ t.drop k).Nodup:=by rw [P4];exact Htn.out
      rw [Nq] at hn;exact hn.2.2 _ h.1 (nth t k) (by rw [Hdk.out];simp) rfl
    ·exact .inl
   by_cases hmz : nth t k ∈ z
   ·have hmd : decide (nth t k ∈ zc)=true:=by simpa using Hzm.out.2 hmz
    have HcA:=Z5 (bI aq zc.length cq zc (nth t k) U hzi)
    rw [hmd] at HcA
    have Hzc2 : Hid (zc=z ++ (t.take (k+1)).filter (λx=>decide (¬ x ∈ z))):=by show _=_;rw [Htk.out,OJ,N8 (by simpa using hmz),Oh,PW];exact hzc.out
    have Hkb2 : Hid (KB=iA F s zc ((t.drop (k+1)).filter (λx=>decide (¬ x ∈ z))) (val σ)):=by show _=_;rw [hkb.out,Hdk.out,N8 (by simpa using hmz)]
    clear hmz hmd
    go_wp2_with fail
    refine HcA.out.mono ?_
    rintro e w6 ⟨rfl,rfl⟩
    go_wp2_with fail
    go_roundw
    case rel=>exact ⟨k+1,aq,cq,zc,σ,by omega,by go_num,rfl,Hzc2.out,hop,hI.out,hM.out,hap.out,Hkb2.out,by omega⟩
    case measure=>simp [intOf] <;> omega
   ·have hmd : decide (nth t k ∈ zc)=false:=by simpa using λh=>hmz (Hzm.out.1 h)
    have HcA:=Z5 (bI aq zc.length cq zc (nth t k) U hzi)
    rw [hmd] at HcA
    have Hzc2 : Hid (zc ++ [nth t k]=z ++ (t.take (k+1)).filter (λx=>decide (¬ x ∈ z))):=by show _=_;rw [Htk.out,OJ,N9 (by simpa using hmz),Oh,<- NK,<- hzc.out]
    have Hkb2 : Hid (KB=if (F (s ++ [nth t k]) zc (val σ)).1=0 then iA F s (zc ++ [nth t k]) ((t.drop (k+1)).filter (λx=>decide (¬ x ∈ z))) (F (s ++ [nth t k]) zc (val σ)).2 else ((F (s ++ [nth t k]) zc (val σ)).1,[])):=by show _=_;rw [hkb.out,Hdk.out,N9 (by simpa using hmz),iA]
    have HFk:=Z5 (λV σ a1 c1 a2 c2=>HF.out V σ a1 c1 a2 c2 k zc hlt hzc.out hmz)
    have hszU:=hM.out.size
    clear hmz hmd
    go_wp2_with fail
    refine HcA.out.mono ?_
    rintro e w6 ⟨rfl,rfl⟩
    go_wp2_with fail
    refine (eo sa ns cs s hsU (by omega)).mono ?_
    rintro e w7 ⟨a7,c7,rfl,hown7,hb7⟩
    rw [Hsl.out] at hown7
    rw [Hsl.out]
    obtain ⟨x,hx⟩ : ∃x,nth t k=x:=⟨_,rfl⟩
    rw [hx] at ck Hzc2 Hkb2 HFk Htk Hdk Hzm HcA ⊢
    have hcn:=bm w7 (.int .i64 x) 3
    have hbn:=aB w7 (.cells #[.int .i64 x] 3)
    go_wp2_with (at_builtin;refine bj rfl _ _ 22 3 rfl (.int .i64 0) 8 underlying22 bt rfl w6.heap.size a7 ns c7 _ rfl (hown7.alloc _) ⟨w7.heap.size,0,none⟩ 1 (.int .i64 x) rfl hcn rfl (by omega) (by unfold maxLen;omega) (Mt hb7.size hbn.size) ?_;intro a8 c8 w8 hown8 hgr8 hap8)
    have hb68 : Rs w6 w8:=QT (QQ hb7 hbn) (hown7.alloc _) hgr8 (Mf _) (Mt hb7.size hbn.size)
    have own8 : w8.ownsRow w6.heap.size 3 1 (.slice a8 (ns+1) c8) (ns+1) ((s ++ [x]).map (Value.int .i64)):=by simpa using hown8
    have hz8:=hzi.ah hb68
    clear hown7 hown8 hgr8 hap8 hcn hbn
    go_wp2_with fail
    refine (eo aq zc.length cq zc hz8 (by omega)).mono ?_
    rintro e w9 ⟨a9,c9,rfl,hown9,hb9⟩
    have hb69:=QQ hb68 hb9
    have hI9:=HIb.out w6 w9 σ hI.out (QU hb69 _)
    have hM9 : aw w w9 (J σ0) (J σ):=hM.out.ow (hb69.mono hszU)
    have hs9:=(QR own8).1.ah hb9
    have hz9:=(QR hown9).1
    have hn8 : ¬ J σ (an a8):=λhj=>by have h1:=HJ.out w6 σ _ hI.out hj;have h2:=(fG own8 (by omega)).1;omega
    have hn9 : a9 ≠ none->¬ J σ (an a9):=λha hj=>by have h1:=HJ.out w6 σ _ hI.out hj;have h2:=(aZ hown9 ha).1;have h3:=hb68.size;omega
    have hopz:=ba hop hb69
    have HCall:=Z5 (HFk.out w9 σ a8 c8 a9 c9 hI9 hM9 hs9 hz9 hn8 hn9)
    clear HFk hI9 hs9 hz9 hn8 hn9 hz8 own8 hown9
    generalize F (s ++ [x]) zc (val σ)=FR at *
    obtain ⟨fe,fv⟩:=FR
    dsimp only at HCall Hkb2
    go_wp2_with fail
    refine HCall.out.mono ?_
    rintro e w10 ⟨σ',hI',hM',rfl,hval⟩
    have hM10:=Z5 (hM9.trans hM')
    have hapz : aq ≠ none->¬ J σ' (an aq):=λha=>hM'.not (aZ hopz ha).2 (hap.out ha)
    have hopq:=hM'.own hopz hap.out
    have Hapz:=Z5 hapz
    have HI':=Z5 hI'
    clear HCall hM9 hM' hapz hI' hopz
    by_cases hfe : fe=0
    ·have Hval : Hid (val σ'=fv):=hval hfe
     subst hfe
     rw [Mg rfl] at Hkb2
     have hcn:=bm w10 (.int .i64 x) 3
     have hbn:=aB w10 (.cells #[.int .i64 x] 3)
     have hsz10:=hM10.out.size
     clear hval
     go_wp2_with (at_builtin;refine bj rfl _ _ 22 3 rfl (.int .i64 0) 8 underlying22 bt rfl w.heap.size aq zc.length cq _ rfl (hopq.alloc _) ⟨w10.heap.size,0,none⟩ 1 (.int .i64 x) rfl hcn rfl (by omega) (by unfold maxLen;omega) (Mt hsz10 hbn.size) ?_;intro a11 c11 w11 hown11 hgr11 hap11)
     go_roundw
     case rel =>
      have hb11 : Below w.heap.size w10 w11:=QT (hbn.mono hsz10) (hopq.alloc _) hgr11 (Mf _) (Mt hsz10 hbn.size)
      have hK : aw w10 w11 (λb=>w.heap.size<=b/\¬ J σ' b) (λb=>w.heap.size<=b/\¬ J σ' b):=(QU hbn _).trans (QZ hgr11 λha=>⟨(aZ hopq ha).1,Hapz.out ha⟩)
      refine ⟨k+1,a11,c11,zc ++ [x],σ',by omega,by go_num,by simp,Hzc2.out,by simpa using hown11,HIb.out w10 w11 σ' HI'.out hK,hM10.out.ow hb11,?_,?_,by simp;omega⟩
      ·show a11 ≠ none->_
       intro ha hj
       have h1:=HJ.out w10 σ' _ HI'.out hj
       have h2 : cF aq (an a11):=by
        by_cases h0 : aq=none
        ·exact .inl h0
        ·exact .inr λe=>Hapz.out h0 (by rw [e];exact hj)
       rcases hap11 _ (ME h1 hbn.size) h2 with h3 | h3
       ·exact ha h3
       ·exact h3 rfl
      ·show _=_
       rw [Hkb2.out,Hval.out]
     case measure=>simp [intOf] <;> omega
    ·have hfe' : (fe != 0)=true:=by simpa using hfe
     have Hk2 : Hid (KB=(fe,[])):=by show _=_;rw [Hkb2.out,Mh hfe]
     have Hfe:=Z5 hfe
     clear hfe hval
     go_wp2_with fail
     go_ret
     exact ⟨σ',HI'.out,hM10.out,by rw [Hk2.out];rfl,λh0=>absurd (by rw [Hk2.out] at h0;exact h0) Hfe.out⟩
  ·obtain rfl : k=nt:=by omega
   have Hf : Hid (KB=(0,val σ)):=by show _=_;rw [hkb.out,Nn (by rw [Htl.out];exact Mf _),Oh,iA]
   go_wp2_with fail
   go_ret
   exact ⟨σ,hI.out,hM.out,by rw [Hf.out];rfl,λ_=>by rw [Hf.out]⟩
def KY (m : Nat) (L : ZZ) : ZZ:=(List.range m).map (aK L)
theorem Dh (m : Nat) (L : ZZ) : (KY m L).length=m:=by simp [KY]
theorem Gc {m k : Nat} (L : ZZ) (h : k<m) : ai (KY m L) k=aK L k:=by rw [aF (by rw [Dh];exact h)];simp [KY]
theorem aY.I8 {B : Nat} {w : World} {a : OA} {n c : Nat} {R : Z4} {L : ZZ} (h : aY w B a n c R L) : bX B w a n L :=
 ⟨h.ll,h.pl,h.max,λhn=>(aZ h.own (h.ne hn)).1,λi hi=>⟨_,_,_,h.cell hi,h.ints hi,λhm=>by refine (aZ (h.row i hi) λe=>?_).1;have:=(h.ints hi).pl hm;rw [e] at this;cases this⟩⟩
def iS (l : Lz) (i : Nat) : Lz:=(List.range l.length).map λj=>if j<i then nth l j else 0
theorem jE (l : Lz) (i : Nat) : (iS l i).length=l.length:=by simp [iS]
theorem H6 {l : Lz} {i : Nat} (h : i<l.length) : (iS l i).set i (nth l i)=iS l (i+1):=by
 refine NP (by simp [iS]) λj h1 h2=>?_;simp only [iS,List.getElem_set,NH,Od];by_cases e : i=j
 ·subst e;rw [Mg rfl,Mg (by omega)]
 ·rw [Mh e];by_cases h : j<i
  ·rw [Mg h,Mg (by omega)]
  ·rw [Mh h,Mh (by omega)]
theorem Ek (l : Lz) : iS l 0=List.replicate l.length 0:=by refine NP (by simp [iS]) λj h1 h2=>?_;simp [iS]
theorem Gi (l : Lz) : iS l l.length=l:=by refine NP (by simp [iS]) λj h1 h2=>?_;simp only [iS,NH,Od];rw [Mg h2,aj h2]
def LN (w1 : World) (n m g gs : Nat) (wx : World) : Prop :=
 bf wx g [.int .i64 n,.slice (some ⟨gs,0,none⟩) m m]/\wx.ownsRow w1.heap.size 22 1 (.slice (some ⟨gs,0,none⟩) m m) m (List.replicate m (.slice none 0 0))/\g ≠ gs/\w1.heap.size<=g/\Rs w1 wx
theorem LJ (w1 : World) (n m : Nat) (hm : m<=1000) : LN w1 n m (w1.heap.size+1) w1.heap.size (((w1.alloc (.cells (Array.replicate m (Value.slice none 0 0)) 22)).alloc (.cells #[.int .i64 n,.slice (some ⟨w1.heap.size,0,none⟩) m m] 82)).drew):=by have ho:=xK w1 22 (.slice none 0 0) m (Mf w1.heap.size) (by unfold maxLen;omega);rw [show (List.replicate m (Value.slice none 0 0)).toArray=Array.replicate m (Value.slice none 0 0) by simp] at ho;have hb:=aB (w1.alloc (.cells (Array.replicate m (Value.slice none 0 0)) 22)) (.cells #[.int .i64 n,.slice (some ⟨w1.heap.size,0,none⟩) m m] 82);refine ⟨bf.ah (QS _ _ _ (by simp)) (Mi _ _).drew,ba ho hb.drew,by omega,by omega,(QQ (aB _ _) hb).drew⟩
theorem LX (w1 : World) (n m : Nat) (hm : m<=1000) : LN w1 n m w1.heap.size (w1.heap.size+1) (((w1.alloc (.cells #[.int .i64 n,.slice (some ⟨w1.heap.size+1,0,none⟩) m m] 82)).alloc (.cells (Array.replicate m (Value.slice none 0 0)) 22)).drew):=by have ho:=xK (w1.alloc (.cells #[.int .i64 n,.slice (some ⟨w1.heap.size+1,0,none⟩) m m] 82)) 22 (.slice none 0 0) m (B:=w1.heap.size) (by simp) (by unfold maxLen;omega);rw [show (List.replicate m (Value.slice none 0 0)).toArray=Array.replicate m (Value.slice none 0 0) by simp,O3] at ho;have hb:=aB (w1.alloc (.cells #[.int .i64 n,.slice (some ⟨w1.heap.size+1,0,none⟩) m m] 82)) (.cells (Array.replicate m (Value.slice none 0 0)) 22);refine ⟨((QS _ _ _ rfl).alloc _).ah (Mi _ _).drew,ba ho (Mi _ _).drew,by omega,by omega,(QQ (aB _ _) hb).drew⟩
def Ka (w1 : World) (gs g n m k bn : Nat) (L : ZZ) (R2 : Z4) (wx : World) : Prop :=
 aY wx w1.heap.size (some ⟨gs,0,none⟩) m m R2 L/\¬ bS (some ⟨gs,0,none⟩) R2 g/\aV R2 k=(some ⟨bn,0,none⟩,n)/\Rs w1 wx/\bf wx g [.int .i64 n,.slice (some ⟨gs,0,none⟩) m m]
theorem Ka.drew {w1 : World} {gs g n m k bn : Nat} {L : ZZ} {R2 : Z4} {wx : World} (h : Ka w1 gs g n m k bn L R2 wx) : Ka w1 gs g n m k bn L R2 wx.drew :=
 ⟨h.1.ah (Mi _ _).drew,h.2.1,h.2.2.1,h.2.2.2.1.drew,h.2.2.2.2.ah (Mi _ _).drew⟩
theorem KI {w1 V : World} {gs g n m k : Nat} {L C : ZZ} {R : Z4} {l : Lz} (hl : l.length=n) (hk : k<m) (hn : n<=1000) (hO : aY V w1.heap.size (some ⟨gs,0,none⟩) m m R L) (hgR : ¬ bS (some ⟨gs,0,none⟩) R g)
  (hBx : bf V g [.int .i64 n,.slice (some ⟨gs,0,none⟩) m m]) (hgg : g ≠ gs) (hbr : Rs w1 V) :
  ∃R2,Ka w1 gs g n m k V.heap.size (L.set k (iS l 0)) R2 ((V.alloc (.cells (Array.replicate n (Value.int .i64 0)) 3)).setCell ⟨gs,k,none⟩ (.slice (some ⟨V.heap.size,0,none⟩) n n)):=by
 have e0' : (⟨an (some ⟨gs,0,none⟩),aP (some ⟨gs,0,none⟩)+k,none⟩ : Addr)=⟨gs,k,none⟩:=by simp [an,aP]
 have hgsV:=(aY.lt hO gs (.inl ⟨by simp,rfl⟩))
 have hown3:=xK V 3 (.int .i64 0) n (B:=w1.heap.size) hbr.size (by unfold maxLen;omega);rw [show (List.replicate n (Value.int .i64 0)).toArray=Array.replicate n (Value.int .i64 0) by simp] at hown3;have hO3:=hO.ah (aB V (.cells (Array.replicate n (Value.int .i64 0)) 3));have hmk0 : (iS l 0).map (Value.int .i64)=List.replicate n (Value.int .i64 0):=by rw [Ek,NR,hl]
 have hnew:=aY.setRow hO3 hk (r:=some ⟨V.heap.size,0,none⟩) (rc:=n) (l:=iS l 0) (by rw [jE,hl,hmk0];exact hown3) (.inr (by show V.heap.size ≠ gs;omega)) (λj hj hne=>by
  by_cases hn : (aV R j).1=none
  ·exact .inl hn
  ·refine .inr (.inr λe=>?_)
   have h9:=(aY.lt hO _ (aY.l6 (by rw [hO.rl];exact hj) hn)).2
   have h8 : V.heap.size=an (aV R j).1:=e
   omega)
 rw [jE,hl,e0'] at hnew;have hgV : g<V.heap.size:=hBx.1;refine ⟨_,hnew,λh=>?_,by rw [gw _ _ _ _ (by rw [hO.rl];exact hk),Mg rfl],(QQ hbr (aB _ _)).setCell hgsV.1 _,?_⟩
 ·rcases h with h | ⟨i,hi',h1,h2⟩
  ·exact hgR (.inl h)
  ·rw [M9] at hi';rw [gw _ _ _ _ (by rw [hO.rl];exact hk)] at h1 h2;split at h1
   ·rename_i e;rw [Mg e] at h2;have h3 : g=V.heap.size:=h2;omega
   ·rename_i e;rw [Mh e] at h2;exact hgR (.inr ⟨i,hi',h1,h2⟩)
 ·have hb2 : ((V.alloc (.cells (Array.replicate n (Value.int .i64 0)) 3)).setCell ⟨gs,k,none⟩ (.slice (some ⟨V.heap.size,0,none⟩) n n)).heap[g]? = (V.alloc (.cells (Array.replicate n (Value.int .i64 0)) 3)).heap[g]?:=MB _ _ _ _ (by show g ≠ gs;exact hgg);have hx:=hBx.alloc (.cells (Array.replicate n (Value.int .i64 0)) 3);exact ⟨by have:=hx.1;simpa using this,λi v hv=>(MI (w:=V.alloc (.cells (Array.replicate n (Value.int .i64 0)) 3)) (a:=⟨g,i,none⟩) hb2).trans (hx.2.1 i v hv),λi=>(MD (w:=V.alloc (.cells (Array.replicate n (Value.int .i64 0)) 3)) (a:=⟨g,i,none⟩) hb2).trans (hx.2.2 i)⟩
theorem uo (P M : Int) (am : OA) (mn cm : Nat) (mod : Lz) (m : Nat) (a : OA) (n c : Nat) (L : ZZ) (w : World) (hmod : Ints w am mn mod) (hi : cU w a n L) (h5 : ef P M mod m L=0) :
  Calls prog 156 #[.agg #[.int .i64 P,.int .i64 M,.slice am mn cm],.agg #[.int .i64 m,.slice a n c]] w
   λe w'=>∃a1 c1,e = .returned (.tuple #[.agg #[.int .i64 n,.slice a1 m c1],.int .i64 0])/\bX w.heap.size w' a1 m (KY m L)/\Rs w w':=by
 have Hlen:=Z5 hi.len;have hpla:=hi.pl;obtain ⟨hfB,h8⟩:=fF h5;obtain ⟨m0,em0,hm256,hL256,hR0⟩:=jr h8;obtain rfl : m=m0:=by omega
 have hn : n<=256:=by rw [<- hi.len];exact hL256
 have HLl : Hid (∀k,k<n->(ai L k).length=m):=λk hk=>(hR0.row (i:=k) (by rw [hi.len];exact hk)).1;obtain ⟨T,hT⟩ : ∃T,KY m L=T:=⟨_,rfl⟩
 have HTl : Hid (T.length=m):=by show _=_;rw [<- hT];exact Dh _ _
 have HTk : Hid (∀k,k<m->ai T k=aK L k):=λk hk=>by rw [<- hT];exact Gc L hk
 rw [hT];clear h5 em0 hL256 hR0 hT;go_enter func156,ntmps156;go_wp2_with fail;obtain ⟨W,hW⟩ : ∃W : World,W=((((w.alloc (.cells #[.int .i64 P,.int .i64 M,.slice am mn cm] 24)).alloc (.cells #[.int .i64 m,.slice a n c] 82)).alloc (.cells #[.int .i64 0,.slice none 0 0] 82)).alloc (.cells #[.int .i64 m,.slice a n c] 82)):=⟨_,rfl⟩
 rw [<- hW];have hbW : Rs w W:=by rw [hW];exact ((((Mi _ _).alloc (Mf _) _).alloc (by simp) _).alloc (by simp;omega) _).alloc (by simp;omega) _
 have hsW : W.heap.size=w.heap.size+4:=by rw [hW];simp
 have x1 : bf W (w.heap.size+1) [.int .i64 m,.slice a n c]:=by rw [hW];exact ((QS _ _ _ (by simp)).alloc _).alloc _
 have x2 : bf W (w.heap.size+1+1) [.int .i64 0,.slice none 0 0]:=by rw [hW];exact (QS _ _ _ (by simp)).alloc _
 have q3 : W.cell? ⟨w.heap.size+1+1+1,0,none⟩=some (.int .i64 m)/\W.cell? ⟨w.heap.size+1+1+1,1,none⟩=some (.slice a n c):=by rw [hW];exact ⟨aE _ _ _ (by simp) 0,aE _ _ _ (by simp) 1⟩
 have hMs : uE W (some ⟨w.heap.size+1+1+1,0,none⟩) 1 [((m : Int),L)]:=⟨rfl,λ_=>rfl,by unfold maxLen;omega,λi hi'=>by
  have : i=0:=by simp at hi';omega
  subst this;exact ⟨a,n,c,by simpa using q3.1,by simpa using q3.2,hi.ah hbW⟩⟩
 have HX:=Z5 (My x1 x2);have HsW:=Z5 hsW;have HbW:=Z5 hbW;clear hW hsW x1 x2 q3;refine (kH P M am mn cm mod _ 1 1 _ W (hmod.ah hbW) hMs).mono ?_;rintro e w1 ⟨hb1,hcase⟩;rw [jq] at hcase;rcases hcase with ⟨hB,_⟩ | ⟨_,er,h0,h1,_⟩ | ⟨_,_,b,rfl,hG,hbl⟩
 ·rw [hfB] at hB;exact absurd hB (by decide)
 ·rw [h8] at h1;exact absurd h1.symm h0
 have hbw1:=QQ hbW hb1;have r1:=HX.out.1.ah hb1;have m0:=r1.cell 0 rfl;have m1:=r1.cell 1 rfl;clear hMs hfB h8 hbW r1 hG hbl;have hmk:=run_mk (P:=prog) 25 22 (.slice none 0 0) 24 underlying25 fg rfl m (by omega) (by omega);go_upto_region 4 with fail;go_cut [8] (λv wx=>∃g gs,v = .pointer (some ⟨g,0,none⟩)/\LN w1 n m g gs wx);case first =>
  have u1:=aM m0 (.cells #[.int .i64 0,.slice none 0 0] 82)
  have u2:=aM m1 (.cells #[.int .i64 0,.slice none 0 0] 82)
  have u3:=aM m0 (.cells (Array.replicate m (Value.slice none 0 0)) 22)
  have u4:=aM m1 (.cells (Array.replicate m (Value.slice none 0 0)) 22)
  have u5:=aM u1 (.cells (Array.replicate m (Value.slice none 0 0)) 22)
  have u6:=aM u2 (.cells (Array.replicate m (Value.slice none 0 0)) 22)
  have u7:=aM u3 (.cells #[.int .i64 0,.slice none 0 0] 82)
  have u8:=aM u4 (.cells #[.int .i64 0,.slice none 0 0] 82)
  go_region_law (fail)
  all_goals (go_wp2_with fail;go_meet)
  all_goals (first | exact ⟨_,_,rfl,LJ w1 n m (by omega)⟩ | exact ⟨_,_,rfl,LX w1 n m (by omega)⟩)
 obtain ⟨g,gs,rfl,hBx,hsp,hgg,hgl,hbc⟩:=hcut;generalize wc=V0 at *;have hO:=pX hsp;have hO1 : ∃R,aY V0 w1.heap.size (some ⟨gs,0,none⟩) m m R (dB m 0 T)/\¬ bS (some ⟨gs,0,none⟩) R g:=⟨_,by simpa [dB] using hO,λh=>by
  rcases h with ⟨_,e⟩ | ⟨i,hi,h1,_⟩
  ·exact hgg e
  ·rw [gZ] at h1;exact h1 rfl⟩
 have d1:=hBx.cell 1 rfl;have HX1 : Hid (∀V,Rs w1 V->V.cell? ⟨w.heap.size+1,0,none⟩=some (.int .i64 m)/\V.cell? ⟨w.heap.size+1,1,none⟩=some (.slice a n c)):=λV hV=>by have r1:=(HX.out.1.ah hb1).ah hV;exact ⟨r1.cell 0 rfl,r1.cell 1 rfl⟩
 clear hO hsp m0 m1;go_wp2_with fail;go_loopw [33] (λjv wr=>∃k : Nat,k<=m/\jv = .int .i64 k/\(∃R,aY wr w1.heap.size (some ⟨gs,0,none⟩) m m R (dB m k T)/\¬ bS (some ⟨gs,0,none⟩) R g)/\bf wr g [.int .i64 n,.slice (some ⟨gs,0,none⟩) m m]/\Rs w1 wr) (λjv _=>m - (intOf jv).toNat);case atStart=>exact ⟨0,Mj _,rfl,hO1,hBx,hbc⟩
 case round =>
  clear hO1 hBx hbc d1
  obtain ⟨k,hk,rfl,⟨R,hO,hgR⟩,hBx,hbr⟩:=hrel
  by_cases hlt : k<m
  ·generalize wr=V at *
   have d1:=hBx.cell 1 rfl
   obtain ⟨e0,e1⟩:=HX1.out V hbr
   have hgc : V.cell? ⟨gs,k,none⟩=some (.slice (aV R k).1 (ai (dB m k T) k).length (aV R k).2):=by simpa [an,aP] using hO.cell hlt
   have hgf : V.frozen? ⟨gs,k,none⟩=false:=by simpa [an,aP] using hO.frozen hlt
   have u1:=aM d1 (.cells (Array.replicate n (Value.int .i64 0)) 3)
   have u2:=aM e1 (.cells (Array.replicate n (Value.int .i64 0)) 3)
   have u3:=aM hgc (.cells (Array.replicate n (Value.int .i64 0)) 3)
   have u4:=cR (Mn _ _ hgc) hgf (.cells (Array.replicate n (Value.int .i64 0)) 3)
   have hmk2:=run_mk (P:=prog) 22 3 (.int .i64 0) 8 underlying22 bt rfl n (by omega) (by omega)
   obtain ⟨C,hC⟩ : ∃C,aK L k=C:=⟨_,rfl⟩
   have hCl : C.length=n:=by rw [<- hC,cC];exact Hlen.out
   have HCn : Hid (∀i,i<n->nth C i=nth (ai L i) k):=λi hi'=>by rw [<- hC];exact bM _ _ _ (by rw [Hlen.out];exact hi')
   have HCl:=Z5 hCl
   have Hst : Hid ((dB m k T).set k C=dB m (k+1) T):=by show _=_;rw [<- hC,<- HTk.out k hlt];exact nM hlt HTl.out
   obtain ⟨R2,hR2⟩:=KI (L:=dB m k T) (C:=L) hCl hlt (by omega) hO hgR hBx hgg hbr
   obtain ⟨bn,hbn⟩ : ∃bn,V.heap.size=bn:=⟨_,rfl⟩
   have HR2 : Hid (Ka w1 gs g n m k bn ((dB m k T).set k (iS C 0)) R2 ((V.alloc (.cells (Array.replicate n (Value.int .i64 0)) 3)).setCell ⟨gs,k,none⟩ (.slice (some ⟨V.heap.size,0,none⟩) n n))):=by have h:=hR2;rw [hbn] at h;first | exact h | (show Ka _ _ _ _ _ _ _ _ _ _;rw [hbn];exact h)
   have HbnV : Hid (V.heap.size=bn):=hbn
   clear hR2 hCl hC hbn
   go_upto_region 8 with fail
   go_cut [9] (λv wx=>v = .int .i64 k/\Ka w1 gs g n m k bn ((dB m k T).set k (iS C 0)) R2 wx)
   case first =>
    go_region_law (fail)
    all_goals (go_wp2_with fail;go_meet;first | exact ⟨rfl,HR2.out⟩ | exact ⟨rfl,HR2.out.drew⟩)
   clear u1 u2 u3 u4 hmk2 d1 e0 e1 hgc hgf hBx HR2
   obtain ⟨rfl,hR2⟩:=hcut
   obtain ⟨hO2,hg2,hk2,hb2,hBx2⟩:=hR2
   generalize wc=Y at *
   have d1:=hBx2.cell 1 rfl
   obtain ⟨e0,e1⟩:=HX1.out Y hb2
   have HK2:=Z5 hk2
   have HbV:=Z5 hbr
   clear hk2 hO hbr hgR
   go_wp2_with fail
   go_loopw [47] (λiv wx=>∃i : Nat,i<=n/\iv = .int .i64 i/\aY wx w1.heap.size (some ⟨gs,0,none⟩) m m R2 ((dB m k T).set k (iS C i))/\bf wx g [.int .i64 n,.slice (some ⟨gs,0,none⟩) m m]/\Rs w1 wx) (λiv _=>n - (intOf iv).toNat)
   case atStart=>exact ⟨0,Mj _,rfl,hO2,hBx2,hb2⟩
   case round =>
    clear hO2 hBx2 hb2 d1 e0 e1
    obtain ⟨i,hi',rfl,hO2,hBx2,hb2⟩:=hrel
    by_cases hli : i<n
    ·have d1:=hBx2.cell 1 rfl
     obtain ⟨e0,e1⟩:=HX1.out wr hb2
     have hLk : ai ((dB m k T).set k (iS C i)) k=iS C i:=by rw [e8 _ _ _ _ (by have h:=hO2.ll;rw [M9] at h;omega),Mg rfl]
     have hgc : wr.cell? ⟨gs,k,none⟩=some (.slice (some ⟨bn,0,none⟩) n n):=by have h:=hO2.cell hlt;rw [HK2.out,hLk,jE,HCl.out] at h;simpa [an,aP] using h
     have hrow:=hO2.row k hlt
     rw [HK2.out,hLk,jE,HCl.out] at hrow
     obtain ⟨hi6,hm6⟩:=QR hrow
     have cx : wr.cell? ⟨bn,i,none⟩=some (.int .i64 (nth (iS C i) i)):=by have h:=hi6.cell i hli;simpa [an,aP] using h
     have fx : wr.frozen? ⟨bn,i,none⟩=false:=by have h:=(hm6 (by omega)).2 i hli;simpa [an,aP] using h
     have HB6 : Hid (w1.heap.size<=bn):=(hm6 (by omega)).1
     have hbw:=QQ hbw1 hb2
     obtain ⟨ra,rn,rc,hcell,hrw⟩:=(hi.ah hbw).cell i hli
     have hrn : rn=m:=by rw [<- hrw.len];exact HLl.out i hli
     subst hrn
     have cr:=hrw.cell k hlt
     have hpr:=hrw.pl
     have hCi:=HCn.out i hli
     obtain ⟨x,hx⟩ : ∃x,nth (ai L i) k=x:=⟨_,rfl⟩
     rw [hx] at cr hCi
     have hown2:=bN hrow i hli (.int .i64 x)
     rw [<- MH,<- hCi,H6 (by rw [HCl.out];exact hli),hCi] at hown2
     have e7 : (⟨an (some ⟨bn,0,none⟩),aP (some ⟨bn,0,none⟩)+i,none⟩ : Addr)=⟨bn,i,none⟩:=by simp [an,aP]
     rw [e7] at hown2
     have hfin : aY (wr.setCell ⟨bn,i,none⟩ (.int .i64 x)) w1.heap.size (some ⟨gs,0,none⟩) rn rn R2 ((dB rn k T).set k (iS C (i+1))):=by
      have h:=aY.F1 hO2 hlt (l:=iS C (i+1)) (by rw [hLk,jE,jE]) (by rw [HK2.out,hLk,jE,HCl.out];exact hown2) (λb hb hne=>MB _ _ _ _ λe=>by
       rw [HK2.out] at hne;rcases hne with h1 | h1
       ·cases h1
       ·exact h1 e)
      rw [List.set_set] at h;exact h
     have hgbn : g ≠ bn:=λe=>by
      refine hg2 (.inr ⟨k,by have:=hO2.rl;omega,?_,?_⟩)
      ·rw [HK2.out];simp
      ·rw [HK2.out];exact e
     have hBx3 : bf (wr.setCell ⟨bn,i,none⟩ (.int .i64 x)) g [.int .i64 n,.slice (some ⟨gs,0,none⟩) rn rn]:=by have hb9 : (wr.setCell ⟨bn,i,none⟩ (.int .i64 x)).heap[g]? = wr.heap[g]?:=MB _ _ _ _ (by show g ≠ bn;exact hgbn);exact ⟨by have:=hBx2.1;simpa using this,λj v hv=>(MI (w:=wr) (a:=⟨g,j,none⟩) hb9).trans (hBx2.2.1 j v hv),λj=>(MD (w:=wr) (a:=⟨g,j,none⟩) hb9).trans (hBx2.2.2 j)⟩
     have HF:=Z5 (My hfin (My hBx3 (hb2.setCell (p:=⟨bn,i,none⟩) HB6.out (.int .i64 x))))
     have HD : Hid (∀W : World,aY W w1.heap.size (some ⟨gs,0,none⟩) rn rn R2 ((dB rn k T).set k (iS C (i+1)))/\bf W g [.int .i64 n,.slice (some ⟨gs,0,none⟩) rn rn]/\Rs w1 W->aY W.drew w1.heap.size (some ⟨gs,0,none⟩) rn rn R2 ((dB rn k T).set k (iS C (i+1)))/\bf W.drew g [.int .i64 n,.slice (some ⟨gs,0,none⟩) rn rn]/\Rs w1 W.drew):=λW h =>
      ⟨h.1.ah (Mi _ _).drew,h.2.1.ah (Mi _ _).drew,h.2.2.drew⟩
     clear hfin hBx3 hown2 hrow hi6 hm6 hO2 hBx2 hb2 hbw hrw hCi hx hLk
     go_wp2_with fail
     go_region_law (fail)
     all_goals (
      go_wp2_with fail
      go_roundw
      case rel=>exact ⟨i+1,by omega,by go_num,by first | exact HF.out | exact HD.out _ HF.out⟩
      case measure=>simp [intOf] <;> omega)
    ·obtain rfl : i=n:=by omega
     rw [show iS C i=C by have h:=Gi C;rw [HCl.out] at h;exact h,Hst.out] at hO2
     have HO2:=Z5 hO2
     clear hO2
     go_wp2_with fail
     go_roundw
     case rel=>exact ⟨k+1,by omega,by go_num,⟨R2,HO2.out,hg2⟩,hBx2,hb2⟩
     case measure=>simp [intOf] <;> omega
  ·obtain rfl : k=m:=by omega
   rw [nC HTl.out] at hO
   have d0:=hBx.cell 0 rfl
   have d1:=hBx.cell 1 rfl
   have x2:=(HX.out.2.ah hb1).ah hbr
   have z3:=x2.cell 0 rfl
   have z4:=x2.cell 1 rfl
   have f3:=x2.frozen 0
   have f4:=x2.frozen 1
   have hs:=HsW.out
   have hs1:=hb1.size
   have hbw:=QQ hbw1 hbr
   have hM:=hO.I8
   have HF : Hid (bX w.heap.size ((wr.setCell ⟨w.heap.size+1+1,0,none⟩ (.int .i64 n)).setCell ⟨w.heap.size+1+1,1,none⟩ (.slice (some ⟨gs,0,none⟩) k k)) (some ⟨gs,0,none⟩) k T/\Rs w ((wr.setCell ⟨w.heap.size+1+1,0,none⟩ (.int .i64 n)).setCell ⟨w.heap.size+1+1,1,none⟩ (.slice (some ⟨gs,0,none⟩) k k))) :=
    ⟨((hM.setCell (p:=⟨w.heap.size+1+1,0,none⟩) (by simp;omega) _).setCell (p:=⟨w.heap.size+1+1,1,none⟩) (by simp;omega) _).mono (by omega),(hbw.setCell (by simp;omega) _).setCell (by simp;omega) _⟩
   clear hO hM hBx x2
   go_wp2_with fail
   exact bodyPost_ret (v:=.tuple #[.agg #[.int .i64 n,.slice (some ⟨gs,0,none⟩) k k],.int .i64 0]) (by simp [results,results156,go_sem,z3,z4]) rfl ⟨_,_,rfl,HF.out.1,HF.out.2⟩
theorem va (O : aJ) (L : ZZ) (Q : Lz) {k : Nat} : ∀d,∀x ∈ (cO O L Q k).2,x ∈ (cO O L Q (k+d)).2
 | 0,x,hx=>hx
 | d+1,x,hx=>by
  have h:=va O L Q d x hx;rw [<- N5,cO];split
  ·exact List.mem_append.2 (.inl h)
  ·exact h
theorem pR (O : aJ) (L : ZZ) (Q : Lz) : ∀k,k<=Q.length->∀x ∈ (cO O L Q k).2,x ∈ Q.take k
 | 0,_,x,hx=>by simp [cO] at hx
 | k+1,hk,x,hx=>by
  have e : Q.take (k+1)=Q.take k ++ [nth Q k]:=by rw [Mu (by omega),aj (by omega)]
  rw [e,M0];rw [cO] at hx;split at hx
  ·rcases List.mem_append.1 hx with hx | hx
   ·exact .inl (pR O L Q k (by omega) x hx)
   ·exact .inr hx
  ·exact .inl (pR O L Q k (by omega) x hx)
theorem EA {U S : Lz} (h : fO U S S.length=0) : ∀x ∈ S,x ∈ U:=λx hx=>by
 rw [jL _ _ _ (Mf _),Ms (Mf _)] at h;have h0 : S.countP (λx=>decide (¬ x ∈ U))=0:=by omega
 rw [Oz] at h0;have:=h0 x hx;simpa using this
theorem Ep (m : Nat) (U : Lz) : mW m (gO m U):=by
 have h1 : (gO m U).Nodup:=by
  rw [gO,Nq];refine ⟨(eK false U m).imp λh=>by omega,(eK true U m).imp λh=>by omega,λx hx y hy e=>?_⟩;subst e;obtain ⟨j,_,e1,h1⟩:=(bh m).1 hx;obtain ⟨i,_,e2,h2⟩:=(bh m).1 hy;obtain rfl : i=j:=by omega
  rw [h1] at h2;exact absurd h2 (by decide)
 refine (Oo h1 ?_).2 λx=>?_
 ·rw [Pq,Nr];exact List.nodup_range.imp λh e=>h (Int.ofNat.inj e)
 ·rw [tK,Oc];constructor
  ·rintro ⟨j,hj,rfl⟩;exact ⟨j,List.mem_range.2 hj,rfl⟩
  ·rintro ⟨j,hj,rfl⟩;exact ⟨j,List.mem_range.1 hj,rfl⟩
section
variable {O : aJ} {El : Int->Prop} {m : Nat} {L : ZZ}
theorem qo (F : bR O El) {x : Nat} (h : ie O El L.length (aK L) [] x) : ∀i,i<L.length->nth (ai L i) x=0:=λi hi=>by have h1:=h _ (ja.vH F hi) (by simp);rwa [bM _ _ _ hi] at h1
theorem Ja (F : bR O El) (hL : bx El m L) {U : Lz} (h : fO U (fu O L m U) (fu O L m U).length=0) {j : Nat} (hj : j<m) (hjU : ¬ (j : Int) ∈ U) : ∀i,i<L.length->nth (ai L i) j=0:=by
 have h1:=EA h;have hk : (aL false U m).length<=(gO m U).length:=by rw [gO,Mp];omega
 have htk : (gO m U).take (aL false U m).length=aL false U m:=by rw [gO,QI];rfl
 have hnil : (cO O L (gO m U) (aL false U m).length).2=[]:=by rw [List.eq_nil_iff_forall_not_mem];intro x hx;have h2:=pR O L (gO m U) _ hk x hx;rw [htk] at h2;obtain ⟨i,_,rfl,h3⟩:=(bh m).1 h2;have h4:=va O L (gO m U) ((gO m U).length - (aL false U m).length) _ hx;rw [show (aL false U m).length+((gO m U).length - (aL false U m).length)=(gO m U).length by omega] at h4;have h5:=h1 _ h4;simp at h3;exact h3 h5
 have h6:=(Bu F hL (gO m U) (aL false U m).length).2.2 j (by
  rw [gR];have hm : (j : Int) ∈ aL false U m:=(bh m).2 ⟨j,hj,rfl,by simpa using hjU⟩;obtain ⟨i,hi,e⟩:=List.mem_iff_getElem.1 hm;refine ⟨i,hi,?_⟩;have e2 : nth (gO m U) i=nth (aL false U m) i:=by rw [<- htk,oQ hi]
  rw [e2,aj hi,e];simp)
 rw [hnil] at h6;exact qo F h6
def pa (O : aJ) (L : ZZ) (m : Nat) : Lz->List (Lz × Int)->Prop
 | U,[]=>∀j,j<m->¬ (j : Int) ∈ U->∀i,i<L.length->nth (ai L i) j=0
 | U,t :: T=>bG m t.1=true/\yp O L t.1=true/\1<=t.2/\t.2=fO U t.1 t.1.length/\pa O L m (U ++ t.1) T
theorem uI {P M : Int} {mod : Lz} (hE : aH P M mod m L=0) : ∀(f : Nat) (U : Lz) (T0 : List (Lz × Int)),(aL false U m).length<f ->
  ∃T,oF (aa P M.toNat mod).ops L m f U T0=T0 ++ T/\pa (aa P M.toNat mod).ops L m U T/\T.length<=(aL false U m).length
 | 0,_,_,h=>by omega
 | f+1,U,T0,h=>by
  obtain ⟨N',e,hm1,hm64,F,hR⟩:=aS hE;obtain rfl : m=N':=by omega
  rw [oF];by_cases h0 : fO U (fu (aa P M.toNat mod).ops L m U) (fu (aa P M.toNat mod).ops L m U).length=0
  ·rw [Mg h0];exact ⟨[],by simp,λj hj hjU=>Ja F hR h0 hj hjU,by simp⟩
  ·rw [Mh h0];have hless:=Ay h0;obtain ⟨T,h1,h2,h3⟩:=uI hE f (U ++ b8 (fu (aa P M.toNat mod).ops L m U)) (T0 ++ [(b8 (fu (aa P M.toNat mod).ops L m U),fO U (fu (aa P M.toNat mod).ops L m U) (fu (aa P M.toNat mod).ops L m U).length)]) (by omega);obtain ⟨p1,p2⟩:=Fq hE (Ep m U);have hbd:=oo U (fu (aa P M.toNat mod).ops L m U) (fu (aa P M.toNat mod).ops L m U).length;refine ⟨(b8 (fu (aa P M.toNat mod).ops L m U),fO U (fu (aa P M.toNat mod).ops L m U) (fu (aa P M.toNat mod).ops L m U).length) :: T,by rw [h1];simp,⟨p1,p2,by omega,?_,h2⟩,by simp;omega⟩;exact (EK (dE _)).symm
theorem gB {P M : Int} {mod : Lz} (hE : aH P M mod m L=0) : pa (aa P M.toNat mod).ops L m [] (gN (aa P M.toNat mod).ops L m)/\(gN (aa P M.toNat mod).ops L m).length<=m:=by have hl : (aL false [] m).length<=m:=fM _ _ _;obtain ⟨T,h1,h2,h3⟩:=uI hE (m+1) [] [] (by omega);rw [gN,h1,Nv];exact ⟨h2,by omega⟩
end
def cw (x : Lz) : Nat:=x.countP λy=>decide (y ≠ 0)
def JY (x : Lz) (U : Lz) (m : Nat) : Nat:=(List.range m).countP λj=>decide (nth x j ≠ 0/\(j : Int) ∈ U)
theorem oV {p p' : Nat->Bool} {s : Nat} (h : ∀j,j ≠ s->p j=p' j) : ∀m,(List.range m).countP p'+(if s<m/\p s=true then 1 else 0)=(List.range m).countP p+(if s<m/\p' s=true then 1 else 0)
 | 0=>by simp
 | m+1=>by
  have ih:=oV h m;rw [Nx,OH,OH,OZ,OZ];by_cases e : s=m
  ·subst e;simp at ih;by_cases h1 : p s=true <;> by_cases h2 : p' s=true <;> simp [h1,h2] <;> omega
  ·have h3:=h m (λe2=>e e2.symm);rw [h3];by_cases h4 : s<m
   ·simp only [h4,show s<m+1 by omega,true_and] at ih ⊢;omega
   ·simp only [h4,show ¬ s<m+1 by omega,false_and] at ih ⊢;simp at ih ⊢;omega
theorem JO (x U : Lz) (m : Nat) {s : Int} (h0 : 0<=s) (hm : s<m) : JY x (U ++ [s]) m=JY x U m+(if nth x s.toNat ≠ 0/\¬ s ∈ U then 1 else 0):=by
 have h:=oV (p:=λj=>decide (nth x j ≠ 0/\(j : Int) ∈ U)) (p':=λj=>decide (nth x j ≠ 0/\(j : Int) ∈ U ++ [s])) (s:=s.toNat) (λj hj=>by
  have : ((j : Int) ∈ U ++ [s]) ↔ ((j : Int) ∈ U):=by rw [M0,MK];exact ⟨λh=>h.elim id λe=>absurd (by omega) hj,.inl⟩
  simp [this]) m
 have e : ((s.toNat : Nat) : Int)=s:=by omega
 have hlt : s.toNat<m:=by omega
 unfold JY;simp only [e,hlt,true_and,MG,M0,MK,or_true,and_true] at h;have h' : (List.range m).countP (λj=>decide (nth x j ≠ 0/\(j : Int) ∈ U ++ [s]))=(List.range m).countP (λj=>decide (nth x j ≠ 0/\((j : Int) ∈ U\/(j : Int)=s))):=by simp
 rw [h'];by_cases h1 : nth x s.toNat=0
 ·simp [h1] at h ⊢;exact h
 ·by_cases h2 : s ∈ U
  ·simp [h1,h2] at h ⊢;omega
  ·simp [h1,h2] at h ⊢;omega
theorem CP (x : Lz) (m : Nat) : ∀(S U : Lz),S.Nodup->(∀s ∈ S,0<=s/\s<(m : Int))->JY x (U ++ S) m=JY x U m+S.countP λs=>decide (nth x s.toNat ≠ 0/\¬ s ∈ U)
 | [],U,_,_=>by simp
 | s :: S,U,hn,hb=>by
  rw [List.nodup_cons] at hn;have h1:=hb s (Nl ..);have ih:=CP x m S (U ++ [s]) hn.2 λy hy=>hb y (Ni _ hy);rw [NK,List.singleton_append] at ih;rw [ih,JO x U m h1.1 h1.2,Oa];have e : S.countP (λy=>decide (nth x y.toNat ≠ 0/\¬ y ∈ U ++ [s]))=S.countP (λy=>decide (nth x y.toNat ≠ 0/\¬ y ∈ U)):=by refine Qv λy hy=>?_;have : y ≠ s:=λe=>hn.1 (e ▸ hy);simp [this]
  rw [e];simp only [MG];omega
theorem Kf (x U : Lz) (m : Nat) (hx : x.length=m) : JY x U m<=cw x:=by
 have h : cw x=(List.range m).countP λj=>decide (nth x j ≠ 0):=by
  have e : x=(List.range m).map (nth x):=by refine NP (by simp [hx]) λi h1 h2=>?_;rw [NH,Od,aj h1]
  conv=>lhs;rw [cw,e,PX]
  rfl
 rw [h];exact List.countP_mono_left λj _ h=>by simp at h ⊢;exact h.1
theorem qI {O : aJ} {L : ZZ} {m : Nat} {x : Lz} {v : Int} : ∀(T : List (Lz × Int)) (U : Lz),pa O L m U T->(∀t ∈ T,v<(cw (aO t.1 x) : Int)) ->
  fU L.length v (T.map (·.2)) T.length+JY x U m<=(JY x (U ++ (T.map (·.1)).flatten) m : Int)
 | [],U,_,_=>by simp [fU]
 | t :: T,U,h,hw=>by
  obtain ⟨h1,h2,h3,h4,h5⟩:=h;have ih:=qI T (U ++ t.1) h5 λy hy=>hw y (Ni _ hy);have hl : t.1.length=L.length:=(lC.1 h2).1;have hin : ∀s ∈ t.1,0<=s/\s<(m : Int):=λs hs=>by obtain ⟨k,hk,rfl⟩:=List.mem_iff_getElem.1 hs;have:=gr h1 hk;rw [aj hk] at this;exact ⟨this.1,this.2.1⟩
  have ha:=CP x m t.1 U (qj h1) hin;have hwt:=hw t (Nl ..);have hfl : ∀(r : Int) (R : Lz),∀k,fU L.length v (r :: R) (k+1)=max 0 (v+1 - (L.length - r))+fU L.length v R k:=λr R k=>by
   induction k with
   | zero=>simp [fU,nth]
   | succ k ih=>rw [fU,ih,fU];simp [nth];omega
  have hc : (cw (aO t.1 x) : Int)<=(t.1.countP λs=>decide (nth x s.toNat ≠ 0/\¬ s ∈ U) : Nat)+(L.length - t.2):=by
   have e1 : cw (aO t.1 x)=t.1.countP λs=>decide (nth x s.toNat ≠ 0):=by unfold cw aO;rw [PX];rfl
   have e2 : t.2=(t.1.countP (λs=>decide (¬ s ∈ U)) : Nat):=by rw [h4,jL _ _ _ (Mf _),Ms (Mf _)]
   have e3 : ∀S : Lz,(S.countP λs=>decide (nth x s.toNat ≠ 0))+S.countP (λs=>decide (¬ s ∈ U))<=(S.countP λs=>decide (nth x s.toNat ≠ 0/\¬ s ∈ U))+S.length:=λS=>by
    induction S with
    | nil=>simp
    | cons s S ih =>
     rw [Oa,Oa,Oa,MT]
     by_cases p1 : nth x s.toNat=0 <;> by_cases p2 : s ∈ U <;> simp [p1,p2] at ih ⊢ <;> omega
   have:=e3 t.1;omega
  rw [Nc,MT,hfl,Nc,List.flatten_cons,<- NK];omega
theorem EU {P M : Int} {mod : Lz} {m : Nat} {L : ZZ} (hE : aH P M mod m L=0) {x : Lz} (hx : x.length=m) {v : Int} (hv : 0<=v/\v<=(L.length : Int)) (hl : L.length<=64)
  (hw : ∀t ∈ gN (aa P M.toNat mod).ops L m,v<(cw (aO t.1 x) : Int)) :
  ∃f : Int,CG L.length ((gN (aa P M.toNat mod).ops L m).map (·.2)) v=(f,0)/\f<=(cw x : Int):=by
 obtain ⟨h1,h2⟩:=gB hE;obtain ⟨m',e,hm1,hm64,_,_⟩:=aS hE;generalize gN (aa P M.toNat mod).ops L m=T at *;have hb:=qI T [] h1 hw;have hle:=Kf x ([] ++ (T.map (·.1)).flatten) m hx;have hr : ∀(T : List (Lz × Int)) (U : Lz),pa (aa P M.toNat mod).ops L m U T->(T.map (·.2)).all (Di L.length)=true:=λT=>by
  induction T with
  | nil=>intro U _;rfl
  | cons t T ih =>
   rintro U ⟨q1,q2,q3,q4,q5⟩
   have hbd:=oo U t.1 t.1.length
   have hl : t.1.length=L.length:=(lC.1 q2).1
   rw [Nc,List.all_cons,ih _ q5,Bool.and_true]
   unfold Di
   simp;omega
 refine ⟨fU L.length v (T.map (·.2)) T.length,?_,?_⟩
 ·rw [CG,Mg,Mx];refine ⟨?_,hr T [] h1⟩;unfold Kj;simp [Mx];omega
 ·omega
section
open Go.RowKit
end
def K7 : Value->Nat
 | .slice _ n _=>n
 | _=>0
theorem DE : (prog.info? 64).map (λi=>(i.zero,i.size,i.bytes))=some (some (.agg #[.slice none 0 0,.int .i64 0]),2,32):=by kernel_rfl
def E9 (m : Nat) (U : Lz) : Nat->Lz
 | 0=>[]
 | 1=>aL false U m
 | _=>gO m U
theorem Gv (m : Nat) (U : Lz) {r : Nat} (hr : r<2) : E9 m U (r+1)=E9 m U r ++ aL (decide (r=1)) U m:=by
 match r,hr with
 | 0,_=>simp [E9]
 | 1,_=>simp [E9,gO]
theorem bf.LZ {w : World} {g : Nat} {x y : Value} (h : bf w g [x,y]) (v : Value) : bf (w.setCell ⟨g,1,none⟩ v) g [x,v]:=by
 have k0:=h.cell 0 rfl;have k1:=h.cell 1 rfl;refine ⟨by simp;exact h.1,λi u hu=>?_,λi=>by rw [MW];exact h.frozen i⟩;match i,hu with
 | 0,hu =>
  obtain rfl : x=u:=by simpa using hu
  rw [MA _ _ _ _ (by simp)]
  exact k0
 | 1,hu =>
  obtain rfl : v=u:=by simpa using hu
  exact Mw _ _ _ k1
 | i+2,hu=>simp at hu
theorem ua.mono {w : World} {B B' : Nat} {a : OA} {k c : Nat} {R : Z4} {T : List (Lz × Int)} (h : ua w B a k c R T) (hB : B'<=B) : ua w B' a k c R T:=by
 refine ⟨h.rl,h.tl,⟨h.own.1,?_⟩,λp hp=>?_⟩
 ·rcases h.own.2 with h2 | ⟨g,cap,cur,hv,hg,r⟩
  ·exact .inl h2
  ·exact .inr ⟨g,cap,cur,hv,Mt hB hg,r⟩
 ·obtain ⟨h1,h2,h3⟩:=h.row p hp;exact ⟨h1,λhn=>⟨Mt hB (h2 hn).1,(h2 hn).2⟩,h3⟩
def wi (P M : Int) (mod : Lz) (N : Int) (L : ZZ) (w : World) (e : Ending) (w' : World) : Prop :=
 Rs w w'/\((aH P M mod N L ≠ 0/\e = .returned (.tuple #[.slice none 0 0,.int .i64 (aH P M mod N L)])) \/
  (aH P M mod N L=0/\∃m : Nat,N=m/\∃k a c R T,T=gN (aa P M.toNat mod).ops L m/\e = .returned (.tuple #[.slice a k c,.int .i64 0])/\ua w' w.heap.size a k c R T))
theorem B3 (P M : Int) (am : OA) (mn cm : Nat) (mod : Lz) (N : Int) (a : OA) (n c : Nat) (L : ZZ) (w : World) (hmod : Ints w am mn mod) (hi : cU w a n L) :
  Calls prog 31 #[.agg #[.int .i64 P,.int .i64 M,.slice am mn cm,.int .i64 N,.slice a n c]] w (wi P M mod N L w):=by
 have Hil:=Z5 hi.len;go_enter func31,ntmps31;go_wp2_with fail;obtain ⟨W,hW⟩ : ∃W : World,W=w.alloc (.cells #[.int .i64 P,.int .i64 M,.slice am mn cm,.int .i64 N,.slice a n c] 27):=⟨_,rfl⟩
 rw [<- hW];have hbW : Rs w W:=by rw [hW];exact aB _ _
 have x0 : bf W w.heap.size [.int .i64 P,.int .i64 M,.slice am mn cm,.int .i64 N,.slice a n c]:=by rw [hW];exact QS _ _ _ rfl
 have HX:=Z5 x0;have HbW:=Z5 hbW;clear hW x0;refine (qx P M am mn cm mod N a n c L W (hmod.ah hbW) (hi.ah hbW)).mono ?_;rintro e w1 ⟨hb1,⟨hE,rfl⟩ | ⟨hE,b,rfl,hG⟩⟩
 ·have hbw1:=QQ hbW hb1;have HP : Hid (wi P M mod N L w (.returned (.tuple #[.slice none 0 0,.int .i64 (aH P M mod N L)])) w1):=⟨hbw1,.inl ⟨hE,rfl⟩⟩
  have hE2 : (aH P M mod N L != 0)=true:=by simpa using hE
  clear hE;generalize aH P M mod N L=er at *;go_wp2_with fail;go_ret2;exact HP.out
 have hbw1:=QQ hbW hb1;obtain ⟨m,hm,hm1,hm64,hL256,hR⟩:=eJ hE;subst hm;have hn : n<=256:=by rw [<- Hil.out];exact hL256
 have HP : Hid (∀k a' c' R T w',T=gN (aa P M.toNat mod).ops L m->Rs w w'->ua w' w.heap.size a' k c' R T->wi P M mod m L w (.returned (.tuple #[.slice a' k c',.int .i64 0])) w'):=λk a' c' R T w' h1 h2 h3 =>
  ⟨h2,.inr ⟨hE,m,rfl,k,a',c',R,T,h1,rfl,h3⟩⟩
 have Hgr : Hid (∀V aq nq cq U,Rs w1 V->nq=(gO m U).length->Ints V aq nq (gO m U)->Calls prog 69 #[.pointer (some ⟨b,0,none⟩),.agg #[.int .i64 P,.int .i64 M,.slice am mn cm,.int .i64 m,.slice a n c],.slice aq nq cq] V (cX V (fu (aa P M.toNat mod).ops L m U))):=λV aq nq cq U hV hnq hq =>
  sg P M am mn cm m a n c L m aq nq cq (gO m U) (hG.ah hV) (hi.ah (QQ hbw1 hV)) hR hq (λk hk=>I1 m U k (by omega)) (by omega) (by rw [hnq,zP];omega)
 have Hcl : Hid (∀U,(fu (aa P M.toNat mod).ops L m U).length<=m):=λU=>by have:=IW (aa P M.toNat mod).ops L (gO m U);rw [zP] at this;exact this
 obtain ⟨O,hO⟩ : ∃O,(aa P M.toNat mod).ops=O:=⟨_,rfl⟩
 rw [hO] at HP Hgr Hcl;have HC : Hid (∀V,Rs w1 V->V.cell? ⟨w.heap.size,0,none⟩=some (.int .i64 P)/\V.cell? ⟨w.heap.size,1,none⟩=some (.int .i64 M)/\V.cell? ⟨w.heap.size,2,none⟩=some (.slice am mn cm)/\V.cell? ⟨w.heap.size,3,none⟩=some (.int .i64 m)/\V.cell? ⟨w.heap.size,4,none⟩=some (.slice a n c)):=λV hV=>by have x1:=HX.out.ah (QQ hb1 hV);exact ⟨x1.cell 0 rfl,x1.cell 1 rfl,x1.cell 2 rfl,x1.cell 3 rfl,x1.cell 4 rfl⟩
 have Hbw1:=Z5 hbw1;have hO0:=ua.start w1 w1.heap.size;clear hE hG hR hO hL256 hmod hi hbw1 hb1 hbW;go_wp2_with fail;go_loopw [6,7] (λov uv wr=>∃(k : Nat) (T : List (Lz × Int)) (ao : OA) (co : Nat) (R : Z4) (U : Lz) (au : OA) (cu : Nat),k<=m/\ov = .slice ao k co/\uv = .slice au U.length cu/\ua wr w1.heap.size ao k co R T /\
   wr.ownsRow w1.heap.size 3 1 (.slice au U.length cu) U.length (U.map (Value.int .i64))/\Hid ((ao ≠ none->cF au (an ao))/\(∀r ∈ R,r.1 ≠ none->cF au (an r.1)))/\Rs w1 wr/\Hid (gN O L m=oF O L m (m+1 - k) U T) /\
   k+(aL false U m).length<=m/\U.length<=64 * k) (λov _ _=>m+1 - K7 ov)
 case atStart=>exact ⟨0,[],none,0,[],[],none,0,Mj _,rfl,rfl,hO0,bP,⟨λh=>absurd rfl h,λr hr=>by simp at hr⟩,Mi _ _,rfl,by have:=fM false [] m;omega,by simp⟩
 case round =>
  clear hO0
  obtain ⟨k,T,ao,co,R,U,au,cu,hk,rfl,rfl,hOS,hU,hsep,hbr,hfam,hfr,hUl⟩:=hrel
  generalize wr=V0 at *
  obtain ⟨Un,hUn⟩ : ∃Un,U.length=Un:=⟨_,rfl⟩
  have HUn:=Z5 hUn
  rw [hUn] at hU hUl ⊢
  clear hUn
  have hIU:=(QR hU).1
  obtain ⟨V1,hV1⟩ : ∃V1 : World,V1=V0.alloc (.cells #[.bool false,.bool true] 4):=⟨_,rfl⟩
  have hbV1 : Rs V0 V1:=by rw [hV1];exact aB _ _
  have hsV1 : V1.heap.size=V0.heap.size+1:=by rw [hV1];simp
  have xb : bf V1 V0.heap.size [.bool false,.bool true]:=by rw [hV1];exact QS _ _ _ rfl
  have Hbl : Hid (∀V,Rs V1 V->∀r,r<2->V.cell? ⟨V0.heap.size,r,none⟩=some (.bool (decide (r=1)))):=λV hV r hr=>by
   have h:=xb.ah hV;match r,hr with
   | 0,_=>exact h.cell 0 rfl
   | 1,_=>exact h.cell 1 rfl
  have HsV1:=Z5 hsV1
  clear xb hsV1
  go_upto_region 8 with fail
  rw [<- hV1]
  clear hV1
  go_loopw [8,25] (λqv iv wx=>∃(r : Nat) (aq : OA) (cq : Nat),r<=2/\iv = .int .i64 r/\qv = .slice aq (E9 m U r).length cq/\wx.ownsRow V1.heap.size 3 1 (.slice aq (E9 m U r).length cq) (E9 m U r).length ((E9 m U r).map (Value.int .i64))/\Rs V1 wx) (λ_ iv _=>2 - (intOf iv).toNat)
  case atStart=>exact ⟨0,none,0,by omega,rfl,rfl,bP,Mi _ _⟩
  case round =>
   obtain ⟨r,aq,cq,hr,rfl,rfl,hop,hbx⟩:=hrel
   by_cases hlr : r<2
   ·have cb:=Hbl.out wr hbx r hlr
    obtain ⟨_,_,_,c3,_⟩:=HC.out wr (QQ hbr (QQ hbV1 hbx))
    have Hph:=Z5 (Gv m U hlr)
    have hphl : (E9 m U r).length<=m:=by
     match r,hlr with
     | 0,_=>simp [E9]
     | 1,_=>exact fM false U m
    obtain ⟨i5,hold⟩ : ∃i5,decide (r=1)=i5:=⟨_,rfl⟩
    rw [hold] at cb Hph
    obtain ⟨Ph,hPh⟩ : ∃Ph,E9 m U r=Ph:=⟨_,rfl⟩
    rw [hPh] at hop Hph hphl
    rw [hPh]
    clear hold hPh
    have dr2 : decide ((r : Int)<2)=true:=by simp;omega
    generalize wr=X1 at *
    go_wp2_with fail
    clear cb c3
    go_loopw [8,31] (λqv iv wy=>∃(i : Nat) (aq : OA) (cq : Nat),i<=m/\iv = .int .i64 i/\qv = .slice aq (Ph ++ aL i5 U i).length cq/\wy.ownsRow V1.heap.size 3 1 (.slice aq (Ph ++ aL i5 U i).length cq) (Ph ++ aL i5 U i).length ((Ph ++ aL i5 U i).map (Value.int .i64))/\Rs V1 wy) (λ_ iv _=>m - (intOf iv).toNat)
    case atStart=>exact ⟨0,aq,cq,Mj _,rfl,by simp [aL],by simpa [aL] using hop,hbx⟩
    case round =>
     clear hop hbx
     obtain ⟨i,aq,cq,hi,rfl,rfl,hop,hby⟩:=hrel
     by_cases hli : i<m
     ·have hIr:=hIU.ah (QQ hbV1 hby)
      have hca:=bI au Un cu U (i : Int) wr hIr
      have hql : (Ph ++ aL i5 U i).length<=200:=by have:=fM i5 U i;rw [Mp];omega
      have hsy:=hby.size
      by_cases hd : decide ((i : Int) ∈ U)=i5
      ·have Hst : Hid (Ph ++ aL i5 U (i+1)=(Ph ++ aL i5 U i) ++ [(i : Int)]):=by show _=_;rw [aL,Mg hd,NK]
       rw [hd] at hca
       have HcA:=Z5 hca
       have hoo : (i5 == i5)=true:=by simp
       clear hd hca
       generalize Ph ++ aL i5 U i=q at *
       have hcn:=bm wr (.int .i64 i) 3
       have hbn:=aB wr (.cells #[.int .i64 i] 3)
       go_wp2_with fail
       refine HcA.out.mono ?_
       rintro e w5 ⟨rfl,rfl⟩
       go_wp2_with (at_builtin;refine bj rfl _ _ 22 3 rfl (.int .i64 0) 8 underlying22 bt rfl V1.heap.size aq q.length cq _ rfl (hop.alloc _) ⟨w5.heap.size,0,none⟩ 1 (.int .i64 i) rfl hcn rfl (by omega) (by unfold maxLen;omega) (by simp;omega) ?_;intro a5 c5 w6 hown5 hgr5 hap5)
       go_roundw
       case rel =>
        refine ⟨i+1,a5,c5,by omega,by go_num,by rw [Hst.out];simp,?_,QT (MS hby (hbn.mono hsy)) (hop.alloc _) hgr5 (Mf _) (Mt hsy hbn.size)⟩
        rw [Hst.out];simpa using hown5
       case measure=>simp [intOf] <;> omega
      ·have Hst : Hid (Ph ++ aL i5 U (i+1)=Ph ++ aL i5 U i):=by show _=_;rw [aL,Mh hd]
       have HcA:=Z5 hca
       have hoo : (decide ((i : Int) ∈ U) == i5)=false:=by simpa using hd
       clear hd hca
       generalize Ph ++ aL i5 U i=q at *
       go_wp2_with fail
       refine HcA.out.mono ?_
       rintro e w5 ⟨rfl,rfl⟩
       go_wp2_with fail
       go_roundw
       case rel =>
        exact ⟨i+1,aq,cq,by omega,by go_num,by rw [Hst.out],by rw [Hst.out];exact hop,hby⟩
       case measure=>simp [intOf] <;> omega
     ·obtain rfl : i=m:=by omega
      go_wp2_with fail
      go_roundw
      case rel =>
       exact ⟨r+1,aq,cq,by omega,by go_num,by rw [Hph.out],by rw [Hph.out];exact hop,hby⟩
      case measure=>simp [intOf] <;> omega
   ·obtain rfl : r=2:=by omega
    have h2o : E9 m U 2=gO m U:=rfl
    rw [h2o] at hop ⊢
    have dr3 : decide (((2 : Nat) : Int)<2)=false:=by decide
    generalize wr=V2 at *
    have hbV2 : Rs V0 V2:=QQ hbV1 hbx
    have hb12 : Rs w1 V2:=QQ hbr hbV2
    have Hg:=Z5 (Hgr.out V2 aq (gO m U).length cq U hb12 rfl (QR hop).1)
    obtain ⟨c0,c1,c2,c3,c4⟩:=HC.out V2 hb12
    have hSl:=Hcl.out U
    have Hfam : Hid (gN O L m=oF O L m (m - k+1) U T):=by show _=_;rw [hfam.out,show m+1 - k=m - k+1 by omega]
    have Hless : Hid (fO U (fu O L m U) (fu O L m U).length ≠ 0->(aL false (U ++ b8 (fu O L m U)) m).length<(aL false U m).length):=λh=>Ay h
    have Hfam2 : Hid (fO U (fu O L m U) (fu O L m U).length=0->gN O L m=T):=λh=>by rw [Hfam.out,oF,Mg h]
    have Hfam3 : Hid (fO U (fu O L m U) (fu O L m U).length ≠ 0->gN O L m=oF O L m (m - k) (U ++ b8 (fu O L m U)) (T ++ [(b8 (fu O L m U),fO U (fu O L m U) (fu O L m U).length)])):=λh=>by rw [Hfam.out,oF,Mh h]
    obtain ⟨S,hS⟩ : ∃S,fu O L m U=S:=⟨_,rfl⟩
    rw [hS] at Hg hSl Hless Hfam2 Hfam3
    clear hS hop Hgr Hfam hfam h2o
    go_wp2_with fail
    refine Hg.out.mono ?_
    rintro e V3 ⟨a4,c4',rfl,hown4,hb3⟩
    obtain ⟨Sn,hSn⟩ : ∃Sn,S.length=Sn:=⟨_,rfl⟩
    rw [hSn] at hown4 hSl Hless Hfam2 Hfam3 ⊢
    have HSn:=Z5 hSn
    have hbV3 : Rs V0 V3:=QQ hbV2 hb3
    have hIS:=(QR hown4).1
    have hplS:=hIS.pl
    clear c0 c1 c2 c3 c4 Hg hSn
    obtain ⟨V4,hV4⟩ : ∃V4 : World,V4=V3.alloc (.cells #[.slice a4 Sn c4',.int .i64 0] 64):=⟨_,rfl⟩
    have x4 : bf V4 V3.heap.size [.slice a4 Sn c4',.int .i64 0]:=by rw [hV4];exact QS _ _ _ rfl
    have hb4 : Rs V3 V4:=by rw [hV4];exact aB _ _
    go_upto_region 18 with fail
    rw [<- hV4]
    have y0:=x4.cell 0 rfl
    clear hV4
    go_wp2_with fail
    clear y0
    go_loopw [53] (λiv wy=>∃i : Nat,i<=Sn/\iv = .int .i64 i/\bf wy V3.heap.size [.slice a4 Sn c4',.int .i64 (fO U S i)]/\Rs V3 wy) (λiv _=>Sn - (intOf iv).toNat)
    case atStart=>exact ⟨0,Mj _,rfl,x4,hb4⟩
    case round =>
     clear x4 hb4
     obtain ⟨i,hi,rfl,hx,hby⟩:=hrel
     by_cases hli : i<Sn
     ·have cS:=(hIS.ah hby).cell i hli
      have hca:=bI au Un cu U (nth S i) wr (hIU.ah (QQ hbV3 hby))
      by_cases hin : nth S i ∈ U
      ·have Hn : Hid (fO U S (i+1)=fO U S i):=by show _=_;rw [fO,Mg hin]
       have hd : decide (nth S i ∈ U)=true:=by simpa using hin
       rw [hd] at hca
       have HcA:=Z5 hca
       clear hca hd hin
       go_wp2_with fail
       refine HcA.out.mono ?_
       rintro e w5 ⟨rfl,rfl⟩
       go_wp2_with fail
       go_roundw
       case rel=>exact ⟨i+1,by omega,by go_num,by rw [Hn.out];exact hx,hby⟩
       case measure=>simp [intOf] <;> omega
      ·have Hn : Hid (fO U S (i+1)=fO U S i+1):=by show _=_;rw [fO,Mh hin]
       have hd : decide (nth S i ∈ U)=false:=by simpa using hin
       rw [hd] at hca
       have HcA:=Z5 hca
       have hbd:=oo U S i
       have y1:=hx.cell 1 rfl
       have f1:=hx.frozen 1
       obtain ⟨z,hz⟩ : ∃z,fO U S i=z:=⟨_,rfl⟩
       rw [hz] at Hn hbd y1 hx
       have kz : IntKind.i64.wrap (z+1)=z+1:=Mq _ (by omega)
       have Hx:=Z5 (hx.LZ (.int .i64 (z+1)))
       clear hca hd hin hz hx
       go_wp2_with fail
       refine HcA.out.mono ?_
       rintro e w5 ⟨rfl,rfl⟩
       go_wp2_with fail
       go_roundw
       case rel=>exact ⟨i+1,by omega,by go_num,by rw [Hn.out];exact Hx.out,hby.setCell (Mf _) _⟩
       case measure=>simp [intOf] <;> omega
     ·obtain rfl : i=Sn:=by omega
      generalize wr=V5 at *
      have hbV5 : Rs V0 V5:=QQ hbV3 hby
      have y0:=hx.cell 0 rfl
      have y1:=hx.cell 1 rfl
      obtain ⟨rk,hrk⟩ : ∃rk,fO U S i=rk:=⟨_,rfl⟩
      rw [hrk] at y1 hx Hless Hfam2 Hfam3
      by_cases hz : rk=0
      ·have hz' : (rk == 0)=true:=by simpa using hz
       have HF:=Z5 (HP.out k ao co R T V5 (Hfam2.out hz).symm (QQ Hbw1.out (QQ hbr hbV5)) ((hOS.ah hbV5).mono Hbw1.out.size))
       clear hz hrk hOS hU hown4 Hless Hfam2 Hfam3
       go_wp2_with fail
       go_ret2
       exact HF.out
      ·have hz' : (rk == 0)=false:=by simpa using hz
       have hls:=Hless.out hz
       have hfam3:=Hfam3.out hz
       have hipos : 0<i:=by
        rcases Na i with h0 | h0
        ·subst h0;exact absurd hrk.symm hz
        ·exact h0
       have hown5:=ba hown4 hby
       have hsz02:=hbV2.size
       have hsz03:=hbV3.size
       have hsz25 : V2.heap.size<=V5.heap.size:=by have:=hb3.size;have:=hby.size;omega
       have HSo:=Z5 (rU V2.heap.size a4 i c4' S V5 hown5 hsz25 (by omega))
       have hsz12:=hb12.size
       have hsz35:=hby.size
       have ha4 : a4 ≠ none->V2.heap.size<=an a4/\an a4<V3.heap.size:=λh0=>aZ hown4 h0
       have hau : au ≠ none->an au<V0.heap.size:=λh0=>(aZ hU h0).2
       have hap4g : cF a4 V3.heap.size:=by
        by_cases h0 : a4=none
        ·exact .inl h0
        ·exact .inr (by have:=(ha4 h0).2;omega)
       have hapug : cF au V3.heap.size:=by
        by_cases h0 : au=none
        ·exact .inl h0
        ·exact .inr (by have:=hau h0;omega)
       have hapu4 : a4 ≠ none->cF au (an a4):=λh4=>by
        by_cases h0 : au=none
        ·exact .inl h0
        ·exact .inr (by have:=hau h0;have:=(ha4 h4).1;omega)
       have hao : ao ≠ none->an ao<V0.heap.size:=λh0=>(hOS.J5 h0).2
       have hapo4 : a4 ≠ none->cF ao (an a4):=λh4=>by
        by_cases h0 : ao=none
        ·exact .inl h0
        ·exact .inr (by have:=hao h0;have:=(ha4 h4).1;omega)
       clear hrk hz hown4 hown5 Hless Hfam2 Hfam3
       go_wp2_with fail
       refine HSo.out.mono ?_
       rintro e V6 ⟨rfl,hown6,hgr6,hb6⟩
       have z0:=bA hgr6 y0 hap4g
       have z1:=bA hgr6 y1 hap4g
       have hbV6 : Rs V0 V6:=hbV5.trans (hb6.mono hsz02)
       have hU6:=ba hU hbV6
       have hOS6:=hOS.ah hbV6
       have hIS6:=(QR hown6).1
       have hSs : (b8 S).length=i:=by rw [gK];exact HSn.out
       have hsz56:=hb6.size
       have hb16:=QQ hbr hbV6
       have hsz16:=hb16.size
       clear y0 y1 hx hOS hU hown6 HSo
       go_wp2_with ((first
        | (at_builtin;refine iH (by rfl) (.tmp 73) (.tmp 75) 22 3 (by rfl) (.int .i64 0) 8 underlying22 bt (by rfl) w1.heap.size au Un cu (U.map (Value.int .i64)) (by rfl) hU6 a4 i c4' ((b8 S).map (Value.int .i64)) (by rfl) hplS (by simp [hSs]) (Q8 hIS6) (ints_oneCell _ _) (by omega) (by unfold maxLen;omega) hsz16 ?_;intro a7 c7 V7 hown7 hgr7 hap7;have k0:=bA hgr7 z0 hapug;have k1:=bA hgr7 z1 hapug;have hOS8:=(hOS6.grown hgr7 hsep.out.1 hsep.out.2).ah (aB V7 (.cells #[.slice a4 i c4',.int .i64 rk] 64)))
        | (at_builtin;refine wz (by rfl) (.tmp 77) (.tmp 79) 57 64 (by rfl) (.agg #[.slice none 0 0,.int .i64 0]) 32 underlying57 DE (by rfl) w1.heap.size ao k co (GX R T) (by rfl) hOS8.own V7.heap.size 1 (.slice a4 i c4') (.int .i64 rk) (by rfl) (aE _ _ _ rfl 0) (aE _ _ _ rfl 1) (by rfl) (by rfl) (by omega) (by unfold maxLen;omega) (by have:=hgr7.size;simp;omega) ?_;intro a9 c9 V9 hown9 hgr9 hap9)))
       go_roundw
       case rel =>
        have hUl2 : (U ++ b8 S).length=Un+i:=by rw [Mp,HUn.out,hSs]
        have hne7 : a7 ≠ none:=λe=>by
         obtain ⟨a',c',hv,hp⟩:=Q0 hown7;cases hv
         have:=hp (by omega);rw [e] at this;cases this
        have hsz67:=hgr7.size
        have hb8:=aB V7 (.cells #[.slice a4 i c4',.int .i64 rk] 64)
        have hsz78:=hb8.size
        have hapo7 : cF ao (an a7):=by
         by_cases h0 : ao=none
         ·exact .inl h0
         ·have h1:=hap7 (an ao) (by have:=hao h0;omega) (hsep.out.1 h0);rcases h1 with h1 | h1
          ·exact absurd h1 hne7
          ·exact .inr λe=>h1 e.symm
        have hown79:=ji (ba hown7 hb8) hgr9 hapo7
        have hI8 : Ints (V7.alloc (.cells #[.slice a4 i c4',.int .i64 rk] 64)) a4 (b8 S).length (b8 S):=by rw [hSs];exact (hIS6.oN hgr7 λh=>hapu4 λe=>by have:=hplS h;rw [e] at this;cases this).ah hb8
        have hb17 : Rs w1 V7:=QT hb16 hU6 hgr7 (Mf _) hsz16
        have hb18:=QQ hb17 hb8
        have hOS9:=hOS8.push hI8 (λh0=>⟨by have:=(ha4 h0).1;omega,by have:=(ha4 h0).2;omega⟩) hapo4 (by rw [hSs];exact hown9) hgr9 hap9
        have hb19 : Rs w1 V9:=hb18.grown hgr9 (by omega) λj hj=>by
         cases ao with
         | none=>simp [Value.ownBlock] at hj
         | some y=>simp [Value.ownBlock] at hj;rw [<- hj];exact (hOS8.J5 (by simp)).1
        refine ⟨k+1,T ++ [(b8 S,rk)],a9,c9,R ++ [(a4,c4')],U ++ b8 S,a7,c7,by omega,rfl,by rw [hUl2],hOS9,by rw [hUl2,M3];exact hown79,⟨λh0=>?_,λr hr h0=>?_⟩,hb19,by rw [show m+1 - (k+1)=m - k by omega];exact hfam3,by omega,by rw [hUl2];omega⟩
        ·have h1:=hap9 (an a7) (by have:=(aZ hown7 hne7).2;omega) hapo7
         rcases h1 with h1 | h1
         ·exact absurd h1 h0
         ·exact .inr λe=>h1 e.symm
        ·rcases List.mem_append.1 hr with hr | hr
         ·exact hap7 _ (hOS6.Gd hr h0).1.2 (hsep.out.2 r hr h0)
         ·rw [MK] at hr
          subst hr
          have h4 : an a4<V3.heap.size:=(ha4 h0).2
          exact hap7 (an a4) (by omega) (hapu4 h0)
       case measure=>simp [K7] <;> omega
theorem nB {P M : Int} {mod : Lz} {m : Nat} {L : ZZ} (hE : aH P M mod m L=0) :
  bx (aa P M.toNat mod).El m (ei (aa P M.toNat mod) L m)/\nG (aa P M.toNat mod).ops m L (ei (aa P M.toNat mod) L m)/\L.length+(ei (aa P M.toNat mod) L m).length=m /\
  Rk (ie (aa P M.toNat mod).ops (aa P M.toNat mod).El (ei (aa P M.toNat mod) L m).length (aK (ei (aa P M.toNat mod) L m))) (List.range m) (ei (aa P M.toNat mod) L m).length:=by
 obtain ⟨N',e,hm1,hm64,F,hR⟩:=aS hE;obtain rfl : m=N':=by omega
 have h6:=(dK (bL hE).2.2.2).2;rw [Mm] at h6;have hcan : dX (aa P M.toNat mod).ops m L=L:=h6;obtain ⟨hPv,hLd⟩:=db F hR;have hcl:=bY F hR;rw [hcan] at hPv hLd hcl;have hK:=gU F hR hPv hcl;have hdl : ei (aa P M.toNat mod) L m=dX (aa P M.toNat mod).ops m (dO (aa P M.toNat mod).ops m L (aC (aa P M.toNat mod).ops L m).2 m):=by unfold ei ee;rw [h6];rfl
 obtain ⟨k1,k2⟩:=vP F hR hPv hLd hcl;have hKR:=dH F hK;have hrk:=mB F hK;rw [<- hdl] at k1 k2 hKR hrk;exact ⟨hKR,k2,k1,hrk⟩
theorem Cw (Q : Lz) : (gA Q).length=Q.length:=by
 have hgl : ∀k,(kT Q k).length=k:=λk=>by
  induction k with
  | zero=>rfl
  | succ k ih=>rw [kT,MT,ih]
 exact hgl _
end Go.Proofs.YtcfmiocdlcapoaaGreat
